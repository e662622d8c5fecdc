/-
  Ctro: contracts: tries: all that is behind a branch.
-/
import Derived.Test.YtnpgpijkofbknaaGreatDoorCtrn
namespace Go.H
section
variable {α : Type} {f : α → Asn} {h : Heap}
theorem bigA_perm9 {l l' : List α} (hp : l.Perm l') : ∀ {R : List Asn}, sat h (bigA f l :: R) → sat h (bigA f l' :: R) := by
  induction hp with
  | nil => exact fun hs => hs
  | cons x _ ih => exact fun hs => bigA_cons.2 (ih (bigA_cons.1 hs).p1).p1
  | swap x y l =>
    intro R hs
    have h1 := bigA_cons.1 hs
    have h2 := bigA_cons.1 h1.p1
    exact bigA_cons.2 ((bigA_cons.2 (h2.re [2, 1, 0])).p1)
  | trans _ _ ih1 ih2 => exact fun hs => ih2 (ih1 hs)
theorem bigA_app : ∀ {a b : List α} {R : List Asn}, sat h (bigA f (a ++ b) :: R) ↔ sat h (bigA f a :: bigA f b :: R)
  | [], b, R => bigA_nil.symm
  | x :: a, b, R => by
    rw [List.cons_append, bigA_cons]
    constructor
    · intro hs
      exact bigA_cons.2 ((bigA_app.1 hs.p1).re [2, 0, 1])
    · intro hs
      have h1 := bigA_cons.1 hs
      exact (bigA_app.2 (h1.re [1, 2, 0])).p1
end

theorem flatMap_congr9 {α β : Type} {l : List α} {f g : α → List β} (h : ∀ a ∈ l, f a = g a) : l.flatMap f = l.flatMap g := by
  induction l with
  | nil => rfl
  | cons a l ih => rw [List.flatMap_cons, List.flatMap_cons, h a (List.mem_cons_self ..), ih fun b hb => h b (List.mem_cons_of_mem _ hb)]

/-- is a path ahead of another one? -/
def preB : List ByteArray → List ByteArray → Bool
  | [], _ => true
  | _ :: _, [] => false
  | x :: p, y :: q => decide (x = y) && preB p q
theorem preB_iff : ∀ {p q : List ByteArray}, preB p q = true ↔ p <+: q
  | [], q => by simp [preB]
  | x :: p, [] => by simp [preB]
  | x :: p, y :: q => by
    rw [preB, Bool.and_eq_true, preB_iff (p := p) (q := q), List.cons_prefix_cons]
    simp

/-- a list in parts -/
theorem perm_part {α K : Type} [DecidableEq K] (g : α → K) : ∀ (L : List α) (ks : List K), ks.Nodup → (∀ a ∈ L, g a ∈ ks) → L.Perm (ks.flatMap fun k => L.filter fun a => decide (g a = k))
  | [], ks, _, _ => by
    have : (ks.flatMap fun k => ([] : List α).filter fun a => decide (g a = k)) = [] := by simp
    rw [this]
  | a :: L, ks, hn, hg => by
    have ih := perm_part g L ks hn (fun b hb => hg b (List.mem_cons_of_mem _ hb))
    refine (ih.cons a).trans ?_
    have key : ∀ ks : List K, ks.Nodup → g a ∈ ks → (a :: ks.flatMap fun k => L.filter fun a => decide (g a = k)).Perm (ks.flatMap fun k => (a :: L).filter fun a => decide (g a = k)) := by
      intro ks
      induction ks with
      | nil => intro _ h; simp at h
      | cons k ks ih =>
        intro hn hm
        rw [List.nodup_cons] at hn
        rw [List.flatMap_cons, List.flatMap_cons]
        by_cases e : g a = k
        · have h1 : (a :: L).filter (fun a => decide (g a = k)) = a :: L.filter (fun a => decide (g a = k)) := by rw [List.filter_cons, if_pos (by simpa using e)]
          have h2 : (ks.flatMap fun k => (a :: L).filter fun a => decide (g a = k)) = ks.flatMap fun k => L.filter fun a => decide (g a = k) := by
            refine flatMap_congr9 fun k' hk' => ?_
            rw [List.filter_cons, if_neg]
            intro e'
            have e2 : g a = k' := by simpa using e'
            exact hn.1 (by rw [← e, e2]; exact hk')
          rw [h1, h2]
          exact List.Perm.refl _
        · have h1 : (a :: L).filter (fun a => decide (g a = k)) = L.filter (fun a => decide (g a = k)) := by rw [List.filter_cons, if_neg (by simpa using e)]
          rw [h1]
          have hm' : g a ∈ ks := by
            rcases List.mem_cons.1 hm with e' | h
            · exact absurd e' e
            · exact h
          refine List.Perm.trans ?_ ((ih hn.2 hm').append_left _)
          exact List.perm_middle.symm
    exact key ks hn (hg a (List.mem_cons_self ..))
end Go.H
namespace Go.Proofs.YtnpgpijkofbknaaGreatDoor
open Go.H Go.Proofs
set_option linter.unusedSimpArgs false
set_option linter.unusedVariables false
set_option synthInstance.maxSize 100000
set_option synthInstance.maxHeartbeats 400000
set_option maxRecDepth 100000

variable {h h0 : Heap} {R : List Asn}

/-! ### what is behind a branch -/

def below (N : Nds) (p : Path) : Nds := N.filter fun q => preB p q.1
def entsN (N : Nds) : List Ent := N.flatMap fun q => entsOf q.1 q.2.q

theorem below_root (N : Nds) : below N [] = N := by
  unfold below
  rw [List.filter_eq_self]
  intro q _
  rfl

theorem mget_filter {K V : Type} [DecidableEq K] (c : K → Bool) : ∀ (l : List (K × V)) (k : K), mget (l.filter fun q => c q.1) k = if c k = true then mget l k else none
  | [], k => by simp
  | (a, b) :: l, k => by
    rw [List.filter_cons]
    by_cases e : c a = true
    · rw [if_pos e, mget_cons, mget_cons, mget_filter c l k]
      by_cases e' : a = k
      · subst e'; rw [if_pos rfl, if_pos rfl, if_pos e]
      · rw [if_neg e', if_neg e']
    · rw [if_neg e, mget_cons, mget_filter c l k]
      by_cases e' : a = k
      · subst e'; rw [if_neg e, if_neg e]
      · rw [if_neg e']

theorem mget_below (N : Nds) (p p' : Path) : mget (below N p) p' = if preB p p' = true then mget N p' else none := mget_filter (fun q => preB p q) N p'

theorem below_pick {rb : Nat} {N : Nds} (hT : TreeOK rb N) {p : Path} {nd : Nd} {l1 l2 : Nds} (he : below N p = l1 ++ (p, nd) :: l2) (x : ByteArray) : (l1 ++ l2).filter (fun q => preB (p ++ [x]) q.1) = below N (p ++ [x]) := by
  have h1 : (below N p).filter (fun q => preB (p ++ [x]) q.1) = below N (p ++ [x]) := by
    unfold below
    rw [List.filter_filter]
    refine List.filter_congr fun q _ => ?_
    cases hq : preB (p ++ [x]) q.1 with
    | false => simp
    | true =>
      have h2 : (p ++ [x]) <+: q.1 := preB_iff.1 hq
      have h3 : preB p q.1 = true := preB_iff.2 ((List.prefix_append p [x]).trans h2)
      simp [h3]
  rw [← h1, he, List.filter_append, List.filter_append, List.filter_cons, if_neg]
  intro hq
  exact not_pre p x (preB_iff.1 hq)

theorem below_parts {rb : Nat} {N : Nds} (hT : TreeOK rb N) {p : Path} {nd : Nd} (hp : mget N p = some nd) (hk : (nd.nx.map (·.1)).Nodup) {l1 l2 : Nds} (he : below N p = l1 ++ (p, nd) :: l2) :
    (l1 ++ l2).Perm (nd.nx.flatMap fun kv => below N (p ++ [kv.1])) := by
  have hnd : ((below N p).map (·.1)).Nodup := by
    have : ((below N p).map (·.1)).Sublist (N.map (·.1)) := (List.filter_sublist ..).map _
    exact this.nodup hT.keys
  have hmem : ∀ q ∈ l1 ++ l2, q ∈ N ∧ ∃ x r, q.1 = p ++ x :: r := by
    intro q hq
    have hb : q ∈ below N p := by
      rw [he]
      rcases List.mem_append.1 hq with h | h
      · exact List.mem_append_left _ h
      · exact List.mem_append_right _ (List.mem_cons_of_mem _ h)
    obtain ⟨h1, h2⟩ := List.mem_filter.1 hb
    obtain ⟨r, hr⟩ := preB_iff.1 h2
    refine ⟨h1, ?_⟩
    cases r with
    | cons x r => exact ⟨x, r, hr.symm⟩
    | nil =>
      exfalso
      rw [List.append_nil] at hr
      rw [he, List.map_append, List.map_cons, List.nodup_append, List.nodup_cons] at hnd
      rcases List.mem_append.1 hq with h | h
      · exact hnd.2.2 _ (List.mem_map_of_mem h) _ (List.mem_cons_self ..) hr.symm
      · exact hnd.2.1.1 (List.mem_map.2 ⟨q, h, hr.symm⟩)
  have hpp := perm_part (fun q : Path × Nd => (q.1.drop p.length).head?) (l1 ++ l2) ((nd.nx.map (·.1)).map some) (by
    refine List.Pairwise.map _ (fun a b hab e => hab (Option.some.inj e)) hk) (fun q hq => by
      obtain ⟨hN, x, r, hxr⟩ := hmem q hq
      have hmg := mget_of_mem hT.keys hN
      have e : q.1 = (p ++ [x]) ++ r := by rw [hxr]; simp
      rw [e] at hmg
      obtain ⟨c, hc⟩ := hT.pre _ _ _ hmg
      obtain ⟨n0, h1, h2⟩ := hT.up _ _ _ hc
      rw [hp] at h1
      cases h1
      have h3 := mget_mem h2
      rw [hxr]
      simp only [List.drop_left, List.head?_cons]
      exact List.mem_map_of_mem (List.mem_map.2 ⟨_, h3, rfl⟩))
  refine hpp.trans ?_
  rw [List.map_map, List.flatMap_map]
  have : (nd.nx.flatMap fun kv => (l1 ++ l2).filter fun q => decide ((q.1.drop p.length).head? = some kv.1)) = nd.nx.flatMap fun kv => below N (p ++ [kv.1]) := by
    refine flatMap_congr9 fun kv _ => ?_
    rw [← below_pick hT he kv.1]
    refine List.filter_congr fun q hq => ?_
    obtain ⟨hN, x, r, hxr⟩ := hmem q hq
    rw [hxr]
    simp only [List.drop_left, List.head?_cons, Option.some.injEq]
    by_cases e : x = kv.1
    · have : preB (p ++ [kv.1]) (p ++ x :: r) = true := preB_iff.2 ⟨r, by simp [e]⟩
      rw [this]
      simp [e]
    · have : preB (p ++ [kv.1]) (p ++ x :: r) = false := by
        cases hb : preB (p ++ [kv.1]) (p ++ x :: r) with
        | false => rfl
        | true =>
          obtain ⟨s, hs⟩ := preB_iff.1 hb
          rw [List.append_assoc] at hs
          have := List.append_cancel_left hs
          simp at this
          exact absurd this.1.symm e
      rw [this]
      simp [e]
  exact List.Perm.of_eq this

theorem entsN_perm {N N' : Nds} (h : N.Perm N') : (entsN N).Perm (entsN N') := h.flatMap_right _
theorem entsN_app (N N' : Nds) : entsN (N ++ N') = entsN N ++ entsN N' := List.flatMap_append ..
theorem entsN_flat {K : Type} (l : List K) (f : K → Nds) : entsN (l.flatMap f) = l.flatMap fun k => entsN (f k) := by
  unfold entsN
  rw [List.flatMap_assoc]

theorem below_len {N : Nds} {p : Path} {nd : Nd} {l1 l2 : Nds} (he : below N p = l1 ++ (p, nd) :: l2) (x : ByteArray) (hx : (l1 ++ l2).filter (fun q => preB (p ++ [x]) q.1) = below N (p ++ [x])) : (below N (p ++ [x])).length < (below N p).length := by
  rw [← hx, he]
  have := List.length_filter_le (fun q : Path × Nd => preB (p ++ [x]) q.1) (l1 ++ l2)
  simp only [List.length_append, List.length_cons] at this ⊢
  omega

set_option maxHeartbeats 1000000 in
theorem all_spec {rb : Nat} {N : Nds} (hT : TreeOK rb N) (hG : GoodN9 N) {yv : Value} {J : List Ent → Asn}
    (hY : ∀ (l : List Ent) (e : Ent) {h : Heap} {R : List Asn} {Q : Unit → Heap → Prop}, l.length ≤ 100000 → sat h (J l :: R) → (∀ h', sat h' (J (l ++ [e]) :: R) → Q () h') → HM.callVN Tryz.prog [] yv #[.agg #[.int .i64 e.1, .string e.2.1, .int .i64 e.2.2]] h Q) :
    ∀ (n : Nat) (p : Path) (nd : Nd) (_ : (below N p).length = n) (_ : mget N p = some nd) {A : Asn} {s : Slc} {l : List Ent} {h : Heap} {R : List Asn}
    (_ : ∀ {h' : Heap} {R' : List Asn}, sat h' (A :: R') → RowAt eS 1 h' s p) (_ : sat h (ndsA (below N p) :: J l :: A :: R)) (_ : l.length + (entsN (below N p)).length ≤ 100000) {Q : Value → Heap → Prop}
    (_ : ∀ l' h', l'.Perm (entsN (below N p)) → sat h' (ndsA (below N p) :: J (l ++ l') :: A :: R) → Q (.tuple #[]) h'),
    HCalls Tryz.prog 20 #[.pointer (ptrOf nd), .slice s.a s.len s.cap, yv] h Q := by
  intro n
  induction n using Nat.strongRecOn with
  | _ n ih =>
  intro p nd hln hnd A s l h R hrow hs hb Q hq
  have hpl := hT.short p nd hnd
  refine trie_branch_all_calls (ptrOf nd) s yv h Q ?_
  unfold trie_branch_all
  have hr := hrow hs.p2
  have hmb : mget (below N p) p = some nd := by rw [mget_below, if_pos (preB_iff.2 (List.prefix_refl _))]; exact hnd
  refine bind_call1 (Clip_spec hr.2.1 ⟨_, rfl, ?_⟩)
  obtain ⟨l1, l2, he, hn9⟩ := mget_split hmb
  have hlen1 : (entsOf p nd.q).length ≤ (entsN (below N p)).length := by
    have : entsN (l1 ++ (p, nd) :: l2) = entsN l1 ++ (entsOf p nd.q ++ entsN l2) := by unfold entsN; rw [List.flatMap_append, List.flatMap_cons]
    rw [he, this, List.length_append, List.length_append]
    omega
  have hql : nd.q.length = (entsOf p nd.q).length := by simp [entsOf]
  refine bind_call1 (take_spec (A := star (J l) A) (es := []) hmb (hG _ _ hnd) (by omega) (fun hs' => (hrow (sat.star_iff.1 hs').p1).clip) (out := ⟨none, 0, 0⟩) ((sat.star_iff.2 (ownS_nil hs |>.re [2, 3, 0, 1])).re [2, 1, 0]) (by simp only [List.length_nil]; omega) fun o' es h1 hp1 hs1' => ⟨o', rfl, ?_⟩)
  have hs1 : sat h1 (J l :: ndsA (below N p) :: ownS encE 3 o' es :: A :: R) := by
    have h2 := sat.star_iff.1 (hs1'.re [2, 0, 1])
    exact h2.re [0, 2, 3, 1]
  clear hs1' hs
  have hesl : es.length = nd.q.length := by rw [hp1.length_eq, hql]
  have hol := hs1.p2.own_len
  have hpp : (entsN (below N p)).Perm (es ++ nd.nx.flatMap fun kv => entsN (below N (p ++ [kv.1]))) := by
    obtain ⟨h1, h2⟩ := nds_nodup hmb hs1.p1
    have e1 := entsN_perm (below_parts hT hnd h2 he)
    rw [entsN_flat] at e1
    have e2 : entsN (below N p) = entsN l1 ++ (entsOf p nd.q ++ entsN l2) := by rw [he]; unfold entsN; rw [List.flatMap_append, List.flatMap_cons]
    rw [e2]
    refine List.Perm.trans ?_ (hp1.symm.append e1)
    rw [entsN_app, ← List.append_assoc, ← List.append_assoc]
    exact List.perm_append_comm.append_right _
  have hplen := hpp.length_eq
  rw [List.length_append] at hplen
  -- the branch's own
  refine bind_cut (fun _ h' => sat h' (J (l ++ es) :: ndsA (below N p) :: A :: R)) ?_ ?_
  · refine loop_gx (γ := Nat) (hb := fun s => by
        repeat' with_reducible first
          | refine @mono_bind _ _ _ _ ?_ (fun _ => ?_)
          | refine @mono_ite _ _ _ _ ?_ ?_
          | refine @mono_req _ _ _ ?_
        all_goals infer_instance)
      (fun g x h' => g ≤ es.length ∧ x.1 = (g : Int) ∧ sat h' (J (l ++ es.take g) :: ndsA (below N p) :: ownS encE 3 o' es :: A :: R)) (fun g => es.length - g) 0
      ⟨Nat.zero_le _, rfl, by simpa using hs1⟩ ?_
    clear hs1
    rintro i ⟨ci, ⟨⟩⟩ h2 ⟨hi, hci, hs2⟩
    simp only at hi hci hs2
    subst hci
    have next : IntKind.wrap .i64 ((i : Int) + 1) = ((i + 1 : Nat) : Int) := by rw [wrap_id (by omega) (by omega)]; rfl
    simp only [HM.ite_apply, decide_eq_true_eq]
    by_cases hlt : i < es.length
    · rw [if_pos (by omega), HM.bind_apply]
      have hx := List.getElem?_eq_getElem hlt
      generalize es[i] = e at hx
      refine idx_row (hs2.p2.own_row eE_len) hx fun a ha => ?_
      refine loadN_of (ts := [.int .i64, .str, .int .i64]) (e.1, e.2.1, e.2.2, ()) (fun j v hv => ha j v hv) ?_
      refine new_cells hs2 fun x7 h3 hs3 => ?_
      (try dsimp only); rw [HM.bind_apply]
      refine storeN_all' hs3 rfl rfl fun h4 hs4 => ?_
      refine loadN_cells (ts := [.int .i64, .str, .int .i64]) (e.1, e.2.1, e.2.2, ()) hs4 rfl ?_
      (try dsimp only); rw [HM.bind_apply]
      refine hY (l ++ es.take i) e (by simp only [List.length_append, List.length_take]; omega) hs4.p1 fun h5 hs5 => ?_
      simp only [Sum.elim_inl, Sum.elim_inr, HM.pure_apply]
      refine .mk (i + 1) (by omega) ⟨by omega, next, ?_⟩
      have e1 : l ++ es.take (i + 1) = l ++ es.take i ++ [e] := by rw [List.take_add_one, hx]; simp
      rw [e1]
      exact (hs5.re [1, 0, 2, 3, 4]).drop
    · rw [if_neg (by omega)]
      have : i = es.length := by omega
      subst this
      rw [List.take_length] at hs2
      exact (hs2.re [2, 0, 1, 3]).drop
  clear hs1 hol
  rintro ⟨ci, ⟨⟩⟩ h2 hs2
  refine ⟨_, rfl, some nd.nm, by rw [add_own]; exact (nds_cell hmb hs2.p1).2, ?_⟩
  have hnds : ∀ {h' : Heap} {R' : List Asn}, sat h' (ndsA (below N p) :: R') ↔ sat h' (cells nd.b #[.map (some nd.qm), .map (some nd.nm)] :: mapA eKI9 eVI9 nd.qm nd.q :: mapA eKS9 eVP9 nd.nm nd.nx :: bigA (fun p : Path × Nd => ndA p.2) (l1 ++ l2) :: R') := by
    intro h' R'
    rw [he]
    exact ⟨fun hs' => ndA_iff.1 (bigA_pick.1 hs'), fun hs' => bigA_pick.2 (ndA_iff.2 hs')⟩
  have hk := (nds_nodup hmb hs2.p1).2
  have hs3 : sat h2 (mapA eKS9 eVP9 nd.nm nd.nx :: J (l ++ es) :: A :: cells nd.b #[.map (some nd.qm), .map (some nd.nm)] :: mapA eKI9 eVI9 nd.qm nd.q :: bigA (fun p : Path × Nd => ndA p.2) (l1 ++ l2) :: R) := (hnds.1 hs2.p1).re [2, 4, 5, 0, 1, 3]
  clear hs2
  (try dsimp only); rw [HM.bind_apply]
  refine range_map hs3 fun it h3 hs4 => ?_
  clear hs3
  refine loop_gx (γ := List (ByteArray × Option Addr) × List (ByteArray × Option Addr) × List Ent) (hb := fun s => by
      repeat' with_reducible first
        | refine @mono_bind _ _ _ _ ?_ (fun _ => ?_)
        | refine @mono_opt _ _ _ _ _ ?_ (fun _ => ?_)
        | refine @mono_ite _ _ _ _ ?_ ?_
        | refine @mono_req _ _ _ ?_
      all_goals infer_instance)
    (fun g x h' => (g.1 ++ g.2.1).Perm nd.nx ∧ g.2.2.Perm (g.1.flatMap fun kv => entsN (below N (p ++ [kv.1]))) ∧
      sat h' (itA eKS9 eVP9 nd.nm nd.nx it g.1 g.2.1 :: J (l ++ es ++ g.2.2) :: A :: cells nd.b #[.map (some nd.qm), .map (some nd.nm)] :: mapA eKI9 eVI9 nd.qm nd.q :: bigA (fun p : Path × Nd => ndA p.2) (l1 ++ l2) :: R))
    (fun g => g.2.1.length) ([], nd.nx, []) ⟨List.Perm.refl _, List.Perm.refl _, by simpa using hs4⟩ ?_
  clear hs4
  rintro ⟨done, todo, L'⟩ ⟨⟩ h4 ⟨hp, hL, hs4⟩
  simp only at hp hL hs4
  rw [HM.bind_apply]
  refine next_map hs4 (fun h0 => ?_) (fun kv t1 t2 ht h5 hs5 => ?_)
  · subst h0
    (try dsimp only); rw [opt_none, HM.ite_apply, if_neg (by simp)]
    simp only [Sum.elim_inl, Sum.elim_inr, HM.pure_apply]
    rw [List.append_nil] at hp
    refine hq (es ++ L') h4 ?_ ?_
    · refine List.Perm.trans ?_ hpp.symm
      exact (hL.trans (hp.flatMap_right _)).append_left es
    · rw [← List.append_assoc]
      have h5 := itA_map hs4
      exact hnds.2 (h5.re [3, 4, 0, 5, 1, 2])
  · subst ht
    (try dsimp only); rw [opt_some, HM.ite_apply, if_pos rfl]
    rw [HM.bind_apply]
    refine entry_map (kk := .one .str) (kv := .one .ptr) (ek := eKS9) (ev := eVP9) (p := kv) (x := kv.1) (y := kv.2) rfl rfl hs5 ?_
    have hkm : kv ∈ nd.nx := hp.mem_iff.1 (by simp)
    obtain ⟨c, hc, hcp⟩ := hT.down _ _ _ _ hnd (mget_of_mem hk hkm)
    refine new_cells hs5 fun x22 h6 hs6 => ?_
    (try dsimp only); rw [HM.bind_apply]
    refine append_path (A := A) (hrow hs6.p3).clip rfl (by omega) hs6 fun s8 h7 hs7 => ?_
    have hfl := below_pick hT he kv.1
    have hlt := below_len he kv.1 hfl
    have hsum : L'.length + (entsN (below N (p ++ [kv.1]))).length ≤ (nd.nx.flatMap fun kv => entsN (below N (p ++ [kv.1]))).length := by
      have h8 := (hp.flatMap_right (fun kv => entsN (below N (p ++ [kv.1])))).length_eq
      rw [List.flatMap_append, List.flatMap_append, List.flatMap_cons, List.length_append, List.length_append, List.length_append, ← hL.length_eq] at h8
      omega
    have hs8 : sat h7 (ndsA (below N (p ++ [kv.1])) :: J (l ++ es ++ L') :: star (ownS eS 1 s8 (p ++ [kv.1])) A :: bigA (fun p : Path × Nd => ndA p.2) ((l1 ++ l2).filter fun q => !(preB (p ++ [kv.1]) q.1)) :: itA eKS9 eVP9 nd.nm nd.nx it (done ++ [kv]) (t1 ++ t2) :: cells nd.b #[.map (some nd.qm), .map (some nd.nm)] :: mapA eKI9 eVI9 nd.qm nd.q :: cells x22 #[.string kv.1] :: R) := by
      have h9 := hs7.re [7, 0, 1, 2, 3, 4, 5, 6]
      have h10 := bigA_app.1 (bigA_perm9 (List.filter_append_perm (fun q : Path × Nd => preB (p ++ [kv.1]) q.1) (l1 ++ l2)).symm h9)
      rw [hfl] at h10
      have h11 := sat.star_iff.2 (h10.re [2, 6, 0, 1, 3, 4, 5, 7, 8])
      exact h11.re [1, 5, 0, 2, 4, 6, 7, 3]
    rw [hcp]
    refine bind_callN (ih _ (by omega) (p ++ [kv.1]) c rfl hc (fun hs' => (sat.star_iff.1 hs').own_row eS_len) hs8 (by rw [List.length_append, List.length_append]; omega) fun l' h8 hl' hs9 => ⟨(), rfl, ?_⟩)
    simp only [Sum.elim_inl, Sum.elim_inr, HM.pure_apply]
    refine .mk (done ++ [kv], t1 ++ t2, L' ++ l') (by simp) ⟨?_, ?_, ?_⟩
    · refine List.Perm.trans ?_ hp
      simp only [List.append_assoc]
      refine List.Perm.append_left done ?_
      show (kv :: (t1 ++ t2)).Perm _
      exact List.perm_middle.symm
    · show (L' ++ l').Perm ((done ++ [kv]).flatMap _)
      rw [List.flatMap_append, List.flatMap_cons, List.flatMap_nil, List.append_nil]
      exact hL.append hl'
    · show sat h8 (_ :: J (l ++ es ++ (L' ++ l')) :: _)
      rw [← List.append_assoc]
      have h9 := sat.star_iff.1 (hs9.re [2, 0, 1])
      have h10 : sat h8 (bigA (fun p : Path × Nd => ndA p.2) (below N (p ++ [kv.1])) :: bigA (fun p : Path × Nd => ndA p.2) ((l1 ++ l2).filter fun q => !(preB (p ++ [kv.1]) q.1)) :: itA eKS9 eVP9 nd.nm nd.nx it (done ++ [kv]) (t1 ++ t2) :: J (l ++ es ++ L' ++ l') :: A :: cells nd.b #[.map (some nd.qm), .map (some nd.nm)] :: mapA eKI9 eVI9 nd.qm nd.q :: R) :=
        (h9.re [0, 8, 2, 4, 5, 3, 1, 6, 7]).drop.drop
      rw [← hfl] at h10
      have h11 := bigA_perm9 (List.filter_append_perm (fun q : Path × Nd => preB (p ++ [kv.1]) q.1) (l1 ++ l2)) (bigA_app.2 h10)
      exact h11.re [1, 2, 3, 4, 5, 0]

end Go.Proofs.YtnpgpijkofbknaaGreatDoor
