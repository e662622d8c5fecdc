/-
  Ctrk: contracts: all filters of a trie; the document's For and Filters.
-/
import Derived.Test.YtnpgpijkofbknaaGreatDoorCtrg
import Derived.Test.YtnpgpijkofbknaaGreatDoorHlp
import Derived.Test.YtnpgpijkofbknaaGreatDoorKfil
namespace Go.Proofs.YtnpgpijkofbknaaGreatDoor
open Go.H Go.Proofs
set_option linter.unusedSimpArgs false
set_option linter.unusedVariables false
set_option maxRecDepth 100000

variable {h h0 : Heap} {R : List Asn}

/-! ### texts, each once, in order -/

def insF (f : ByteArray) : List ByteArray → List ByteArray
  | [] => [f]
  | x :: l => if x = f then x :: l else if ltS f x then f :: x :: l else x :: insF f l

theorem insF_mem (f x : ByteArray) : ∀ l : List ByteArray, x ∈ insF f l ↔ x = f ∨ x ∈ l
  | [] => by simp [insF]
  | y :: l => by
    unfold insF
    by_cases h1 : y = f
    · rw [if_pos h1]
      subst h1
      simp
    · rw [if_neg h1]
      by_cases h2 : ltS f y
      · rw [if_pos h2]; simp
      · rw [if_neg h2, List.mem_cons, insF_mem f x l, List.mem_cons]
        constructor
        · rintro (h | h | h) <;> simp [h]
        · rintro (h | h | h) <;> simp [h]
theorem insF_len (f : ByteArray) : ∀ l : List ByteArray, (insF f l).length ≤ l.length + 1
  | [] => by simp [insF]
  | y :: l => by
    unfold insF
    split
    · simp
    · split
      · simp
      · have := insF_len f l
        simp only [List.length_cons]; omega
theorem insF_asc (f : ByteArray) : ∀ {l : List ByteArray}, l.Pairwise ltS → (insF f l).Pairwise ltS
  | [], _ => by simp [insF]
  | y :: l, h => by
    obtain ⟨h1, h2⟩ := List.pairwise_cons.1 h
    unfold insF
    by_cases e1 : y = f
    · rw [if_pos e1]; exact h
    · rw [if_neg e1]
      by_cases e2 : ltS f y
      · rw [if_pos e2]
        refine List.pairwise_cons.2 ⟨fun z hz => ?_, h⟩
        rcases List.mem_cons.1 hz with rfl | hz
        · exact e2
        · exact ordS.trans e2 (h1 z hz)
      · rw [if_neg e2]
        refine List.pairwise_cons.2 ⟨fun z hz => ?_, insF_asc f h2⟩
        rcases (insF_mem f z l).1 hz with rfl | hz
        · rcases ordS.tri y z with e | e | e
          · exact absurd e e1
          · exact e
          · exact absurd e e2
        · exact h1 z hz

def filtL (L : List Ent) : List ByteArray := L.foldl (fun out e => insF e.2.1 out) []
theorem filtL_snoc (L : List Ent) (e : Ent) : filtL (L ++ [e]) = insF e.2.1 (filtL L) := by unfold filtL; rw [List.foldl_append]; rfl
theorem filtL_spec : ∀ (n : Nat) (L : List Ent), L.length = n → (filtL L).Pairwise ltS ∧ (filtL L).length ≤ L.length ∧ ∀ f, f ∈ filtL L ↔ f ∈ L.map (·.2.1)
  | 0, L, h => by
    have : L = [] := List.eq_nil_of_length_eq_zero h
    subst this
    simp [filtL]
  | n + 1, L, h => by
    have hne : L ≠ [] := by intro e; subst e; simp at h
    obtain ⟨h1, h2, h3⟩ := filtL_spec n L.dropLast (by simp; omega)
    have e := List.dropLast_concat_getLast hne
    rw [← e, filtL_snoc]
    refine ⟨insF_asc _ h1, ?_, fun f => ?_⟩
    · have := insF_len (L.getLast hne).2.1 (filtL L.dropLast)
      simp only [List.length_append, List.length_cons, List.length_nil]
      omega
    · rw [insF_mem, h3, List.map_append, List.mem_append]
      simp only [List.map_cons, List.map_nil, List.mem_singleton]
      exact Or.comm

theorem mem_mset_keys {K V : Type} [DecidableEq K] (l : List (K × V)) (k a : K) (v : V) : a ∈ (mset l k v).map (·.1) ↔ a = k ∨ a ∈ l.map (·.1) := by
  cases hk : mget l k with
  | none =>
    rw [mset_none l k v hk, List.map_append, List.mem_append]
    simp only [List.map_cons, List.map_nil, List.mem_singleton]
    exact Or.comm
  | some w =>
    rw [keys_mset hk]
    constructor
    · exact .inr
    · rintro (rfl | h)
      · exact List.mem_map_of_mem (f := (·.1)) (mget_mem hk)
      · exact h

theorem sortS_filt {M : List (ByteArray × Bool)} {L : List Ent} (hn : (M.map (·.1)).Nodup) (hm : ∀ f, f ∈ M.map (·.1) ↔ f ∈ L.map (·.2.1)) : sortS (M.map (·.1)) = filtL L ∧ M.length ≤ L.length := by
  obtain ⟨h1, h2, h3⟩ := filtL_spec _ L rfl
  have hnd : (filtL L).Nodup := h1.imp fun hab e => by subst e; exact ordS.irr _ hab
  have hp : (M.map (·.1)).Perm (filtL L) := (List.perm_ext_iff_of_nodup hn hnd).2 fun f => (hm f).trans (h3 f).symm
  refine ⟨sortS_asc hp h1, ?_⟩
  have := hp.length_eq
  rw [List.length_map] at this
  omega

/-! ### Filters -/

abbrev eVBs : Bool → Value := Kind.val (.one .bool)

def filJ (x1 x2 : Nat) (l : List Ent) : Asn := exA fun M : List (ByteArray × Bool) => star (pr (∀ f, f ∈ M.map (·.1) ↔ f ∈ l.map (·.2.1))) (star (cells x2 #[.map (some x1)]) (mapA eKS9 eVBs x1 M))

theorem filJ_iff {x1 x2 : Nat} {l : List Ent} : sat h (filJ x1 x2 l :: R) ↔ ∃ M : List (ByteArray × Bool), (∀ f, f ∈ M.map (·.1) ↔ f ∈ l.map (·.2.1)) ∧ sat h (cells x2 #[.map (some x1)] :: mapA eKS9 eVBs x1 M :: R) := by
  unfold filJ
  rw [sat.ex_iff]
  simp only [sat.star_iff, sat.pr_iff]

theorem Filters1_spec {x1 x2 : Nat} {l : List Ent} {e : Ent} (hs : sat h (filJ x1 x2 l :: R)) {Q : Value → Heap → Prop} (hq : ∀ h', sat h' (filJ x1 x2 (l ++ [e]) :: R) → Q (.tuple #[]) h') :
    HCalls Tryz.prog 24 #[.agg #[.int .i64 e.1, .string e.2.1, .int .i64 e.2.2], .pointer (some ⟨x2, 0, none⟩)] h Q := by
  refine trie_Trie_Filters_f1_calls (e.1, e.2.1, e.2.2, ()) ⟨x2, 0, none⟩ h Q ?_
  unfold trie_Trie_Filters_f1
  obtain ⟨M, hM, hs1⟩ := filJ_iff.1 hs
  refine new_cells hs1 fun x h1 hs2 => ?_
  refine ⟨some x1, hs2.p1.cell 0, e.2.1, by rw [add_own]; exact hs2.cell 1, ?_⟩
  (try dsimp only); rw [HM.bind_apply]
  refine set_map kS9 inj_str (ev := eVBs) (x := true) (hs2.re [2, 1, 0]) fun h2 hs3 => ?_
  refine hq h2 (filJ_iff.2 ⟨mset M e.2.1 true, fun f => ?_, (hs3.re [1, 0, 2]).p2.drop⟩)
  rw [mem_mset_keys, hM, List.map_append, List.mem_append]
  simp only [List.map_cons, List.map_nil, List.mem_singleton]
  exact Or.comm

theorem tFilters_spec {t : Nat} {L : List Ent} (hl : L.length ≤ 10000) (hs : sat h (trieA t L :: R)) {Q : Value → Heap → Prop}
    (hq : ∀ (s : Slc) h', sat h' (ownS eS 1 s (filtL L) :: trieA t L :: R) → Q (.slice s.a s.len s.cap) h') :
    HCalls Tryz.prog 10 #[at9 t] h Q := by
  refine trie_Trie_Filters_calls (some ⟨t, 0, none⟩) h Q ?_
  unfold trie_Trie_Filters
  (try dsimp only); rw [HM.ite_apply, if_neg (by simp)]
  have hgood := trie_good hs
  refine new_map (ek := eKS9) (ev := eVBs) hs fun x1 h1 hs1 => ?_
  refine new_cells hs1 fun x2 h2 hs2 => ?_
  (try dsimp only); rw [HM.bind_apply]
  refine store1_cells hs2 (by simp) rfl fun h2' hs2' => ?_
  obtain ⟨N, C, hA, hC, hs3⟩ := trieA_iff.1 hs2'.p2
  obtain ⟨hcn, hkk⟩ := trM_cnt hs3
  have hk : QOK N := fun p nd hp => (hkk p nd hp).1
  obtain ⟨rb, cm, hT, hs4'⟩ := trM_iff.1 hs3
  have hs4 : sat h2' (cells t (trC rb cm) :: ndsA N :: mapA eKI9 eVI9 cm C :: cells x2 #[.map (some x1)] :: mapA eKS9 eVBs x1 [] :: R) := hs4'
  clear hs4' hs3 hs2 hs2' hs1 hs
  have hp := entsN_perm_L hT hA hk
  obtain ⟨r, hr1, hr2⟩ := hT.root
  refine ⟨_, rfl, some ⟨rb, 0, none⟩, by rw [add_own]; exact hs4.cell 0, ?_⟩
  have ep : (Value.pointer (some ⟨rb, 0, none⟩)) = .pointer (ptrOf r) := by unfold ptrOf; rw [hr2]
  (try dsimp only); rw [ep]
  have hJ : sat h2' (filJ x1 x2 [] :: cells t (trC rb cm) :: ndsA N :: mapA eKI9 eVI9 cm C :: R) := filJ_iff.2 ⟨[], by simp, hs4.re [3, 4, 0, 1, 2]⟩
  refine bind_callN (all_spec hT (hA.goodN hk) (yv := .func (.func 24) #[] #[.pointer (some ⟨x2, 0, none⟩)]) (J := filJ x1 x2)
    (fun l e h R Q hll hs' hq' => ⟨_, _, _, rfl, Tryz.call24, Filters1_spec hs' fun h' hs'' => ⟨(), rfl, hq' h' hs''⟩⟩)
    _ [] r rfl hr1 (A := cells t (trC rb cm)) (s := ⟨none, 0, 0⟩) (l := []) (fun _ => row_nil) (by rw [below_root]; exact hJ.re [2, 0, 1, 3]) (by rw [below_root, hp.length_eq]; simp; omega) fun l' h3 hl' hs5 => ⟨(), rfl, ?_⟩)
  rw [below_root] at hl' hs5
  rw [List.nil_append] at hs5
  obtain ⟨M, hM, hs6⟩ := filJ_iff.1 hs5.p1
  clear hs5 hs4 hJ
  have hM' : ∀ f, f ∈ M.map (·.1) ↔ f ∈ L.map (·.2.1) := fun f => (hM f).trans ((hl'.trans hp).map _).mem_iff
  have hnd := hs6.p1.map_nodup
  obtain ⟨e1, e2⟩ := sortS_filt hnd hM'
  refine ⟨some x1, hs6.cell 0, ?_⟩
  refine bind_call1 ?_
  refine keysS_call (ρk := keysSF_ren) keysSF (some x1) ?_
  refine ⟨_, rfl, ?_⟩
  have hs7 := (hs6.push_cells (T := keysSF_ren.t 23) (cs := #[.map (some x1)]))
  refine bind_call1 ?_
  refine sortedS_call (ρk := keysSF_ren) (ρs := sortedS_ren) (ρt := sortMS_ren) keysSF sortedS sortMS rfl (enters_of Tryz.func44 (by kernel_rfl) rfl) (enters_of Tryz.func45 (by kernel_rfl) rfl) (hs7.re [2, 0, 1])
    (fun p hpm => ?_) (by omega) (hs7.cell 0) fun sl h4 hs8 => ?_
  · obtain ⟨x, hx, e⟩ := List.mem_map.1 ((hM' p.1).1 (List.mem_map_of_mem hpm))
    have := sizedT_le (filterOK_sized (hgood.1 x hx))
    rw [← e]
    exact Nat.le_trans this (by decide)
  rw [e1] at hs8
  refine ⟨sl, rfl, ?_⟩
  refine hq sl h4 ?_
  have hs9 : sat h4 (cells t (trC rb cm) :: ndsA N :: mapA eKI9 eVI9 cm C :: ownS eS 1 sl (filtL L) :: R) := (hs8.re [5, 4, 6, 0, 1, 2, 3]).re [0, 1, 2, 3, 4, 5, 6] |> fun hh => (hh.re [4, 5, 6, 0, 1, 2, 3]).drop.drop.drop
  exact (trieA_iff.2 ⟨N, C, hA, hC, trM_iff.2 ⟨rb, cm, hT, hs9⟩⟩).p1

/-! ### the document's -/

theorem rFor_spec {r : Nat} {L : List Ent} {id : Int} (hl : L.length ≤ 10000) (hs : sat h (refA9 r L :: R)) {Q : Value → Heap → Prop}
    (hq : ∀ (o : Slc) h', sat h' (ownS encE 3 o (ofL9 id L) :: refA9 r L :: R) → Q (.slice o.a o.len o.cap) h') :
    HCalls Tryz.prog 9 #[at9 r, .int .i64 id] h Q := by
  refine ref09_For_calls (some ⟨r, 0, none⟩) id h Q ?_
  unfold ref09_For
  obtain ⟨s, hs1⟩ := refA9_iff.1 hs
  have hlen := hs1.p1.own_len
  rw [HM.bind_apply]
  refine loop_k (γ := Nat) (fun g x h' => g ≤ L.length ∧ x.2.1 = (g : Int) ∧ sat h' (cells r #[.slice s.a s.len s.cap] :: ownS encE 3 s L :: ownS encE 3 x.1 (ofL9 id (L.take g)) :: R)) (fun g => L.length - g) 0
    ⟨Nat.zero_le _, rfl, by simpa using (ownS_nil (enc := encE) (size := 3) hs1).re [1, 2, 0]⟩ ?_
  clear hs1 hs
  rintro i ⟨o, ci, ⟨⟩⟩ h2 ⟨hi, hci, hs2⟩ K hnx hd
  simp only at hi hci hs2
  subst hci
  have cr : ∀ {h' : Heap} {R' : List Asn}, sat h' (cells r #[.slice s.a s.len s.cap] :: R') → cellH h' ⟨r, 0, none⟩ = some (.slice s.a s.len s.cap) := fun hs' => hs'.cell 0
  refine ⟨_, rfl, s, by rw [add_own]; exact cr hs2, ?_⟩
  (try dsimp only); rw [HM.ite_apply]
  by_cases hlt : i < L.length
  · rw [if_pos (by simp only [decide_eq_true_eq]; omega)]
    have hx := List.getElem?_eq_getElem hlt
    generalize L[i] = e at hx
    refine ⟨_, rfl, s, by rw [add_own]; exact cr hs2, ?_⟩
    (try dsimp only); rw [HM.bind_apply]
    refine idx_row (hs2.p1.own_row eE_len) hx fun a ha => ?_
    refine ⟨e.1, ha 0 _ rfl, ?_⟩
    have hsn := take_filter_snoc hx (fun x : Ent => decide (x.1 = id))
    have hbl : (ofL9 id (L.take i)).length ≤ 10000 := Nat.le_trans (List.length_filter_le _ _) (by rw [List.length_take]; omega)
    refine cut (fun z h' => sat h' (cells r #[.slice s.a s.len s.cap] :: ownS encE 3 s L :: ownS encE 3 z.1 (ofL9 id (L.take (i + 1))) :: R)) ?_ ?_
    · intro K2 hK2
      (try dsimp only); rw [HM.ite_apply]
      by_cases hk : e.1 = id
      · rw [if_pos (by simpa using hk)] at hsn ⊢
        refine ⟨_, rfl, s, by rw [add_own]; exact cr hs2, ?_⟩
        (try dsimp only); rw [HM.bind_apply]
        refine idx_row (hs2.p1.own_row eE_len) hx fun a ha => ?_
        refine loadN_of (ts := [.int .i64, .str, .int .i64]) (e.1, e.2.1, e.2.2, ()) (fun j v hv => ha j v hv) ?_
        refine app_new (x := e) eE_len eE_cell rfl hs2.p2 (by decide) (by decide) (by omega) fun s' h5 hs5 => ?_
        exact hK2 _ _ (by unfold ofL9; rw [hsn]; exact hs5.re [1, 2, 0])
      · rw [if_neg (by simpa using hk), List.append_nil] at hsn
        rw [if_neg (by simpa using hk)]
        exact hK2 _ _ (by unfold ofL9; rw [hsn]; exact hs2)
    rintro ⟨o', ⟨⟩⟩ h4 hs4
    exact hnx (i + 1) _ _ (by omega) ⟨hlt, by rw [wrap_id (by omega) (by omega)]; rfl, hs4⟩
  · rw [if_neg (by simp only [decide_eq_true_eq]; omega)]
    have : i = L.length := by omega
    subst this
    rw [List.take_length] at hs2
    refine hd _ _ (hq o h2 ?_)
    have h3 : sat h2 (refA9 r L :: ownS encE 3 o (ofL9 id L) :: R) := refA9_iff.2 ⟨s, hs2⟩
    exact h3.p1

/-- under way through the texts -/
structure FiS (f : ByteArray) (F : List ByteArray) (k : Nat) (put : Bool) (nx : List ByteArray) : Prop where
  eq : nx ++ (if put = true then F.drop k else insF f (F.drop k)) = insF f F
  no : put = false → nx = F.take k
  len : nx.length ≤ k + 1

theorem FiS.nil (f : ByteArray) (F : List ByteArray) : FiS f F 0 false [] := ⟨by simp, by simp, by simp⟩
theorem FiS.step {f : ByteArray} {F nx : List ByteArray} {k : Nat} {put : Bool} {y : ByteArray} (h : FiS f F k put nx) (hy : F[k]? = some y) :
    FiS f F (k + 1) ((put || decide (y = f)) || (!(put || decide (y = f)) && decide (ltS f y))) ((if (!(put || decide (y = f)) && decide (ltS f y)) = true then nx ++ [f] else nx) ++ [y]) := by
  have hlt := (List.getElem?_eq_some_iff.1 hy).1
  have hdr : F.drop k = y :: F.drop (k + 1) := by
    rw [List.drop_eq_getElem_cons hlt]
    rw [List.getElem?_eq_getElem hlt] at hy
    rw [Option.some.inj hy]
  have htk : F.take (k + 1) = F.take k ++ [y] := by rw [List.take_add_one, hy]; rfl
  obtain ⟨he, hn, hl⟩ := h
  rw [hdr] at he
  cases put with
  | true =>
    simp only [if_true] at he
    refine ⟨by simpa using he, by simp, by simp; omega⟩
  | false =>
    have hnx := hn rfl
    have hln : nx.length ≤ k := by rw [hnx]; simp; omega
    simp only [Bool.false_eq_true, if_false] at he
    have hi : insF f (y :: F.drop (k + 1)) = if y = f then y :: F.drop (k + 1) else if ltS f y then f :: y :: F.drop (k + 1) else y :: insF f (F.drop (k + 1)) := rfl
    rw [hi] at he
    by_cases h1 : y = f
    · rw [if_pos h1] at he
      refine ⟨by simpa [h1] using he, by simp [h1], by simp [h1]; omega⟩
    · rw [if_neg h1] at he
      by_cases h2 : ltS f y
      · rw [if_pos h2] at he
        refine ⟨by simpa [h1, h2] using he, by simp [h1, h2], by simp [h1, h2]; omega⟩
      · rw [if_neg h2] at he
        refine ⟨by simpa [h1, h2] using he, by simp [h1, h2, htk, hnx], by simp [h1, h2]; omega⟩
theorem FiS.done {f : ByteArray} {F nx : List ByteArray} {put : Bool} (h : FiS f F F.length put nx) : (if put = true then nx else nx ++ [f]) = insF f F := by
  obtain ⟨he, hn, hl⟩ := h
  rw [List.drop_length] at he
  cases put with
  | true => simpa using he
  | false => simpa [insF] using he

theorem rFilters_spec {r : Nat} {L : List Ent} (hl : L.length ≤ 10000) (hs : sat h (refA9 r L :: R)) {Q : Value → Heap → Prop}
    (hq : ∀ (o : Slc) h', sat h' (ownS eS 1 o (filtL L) :: refA9 r L :: R) → Q (.slice o.a o.len o.cap) h') :
    HCalls Tryz.prog 11 #[at9 r] h Q := by
  refine ref09_Filters_calls (some ⟨r, 0, none⟩) h Q ?_
  unfold ref09_Filters
  obtain ⟨s, hs1⟩ := refA9_iff.1 hs
  have hlen := hs1.p1.own_len
  rw [HM.bind_apply]
  refine loop_k (γ := Nat) (fun g x h' => g ≤ L.length ∧ x.2.1 = (g : Int) ∧ sat h' (cells r #[.slice s.a s.len s.cap] :: ownS encE 3 s L :: ownS eS 1 x.1 (filtL (L.take g)) :: R)) (fun g => L.length - g) 0
    ⟨Nat.zero_le _, rfl, by simpa [filtL] using (ownS_nil (enc := eS) (size := 1) hs1).re [1, 2, 0]⟩ ?_
  clear hs1 hs
  rintro i ⟨o, ci, ⟨⟩⟩ h2 ⟨hi, hci, hs2⟩ K hnx hd
  simp only at hi hci hs2
  subst hci
  refine ⟨_, rfl, s, by rw [add_own]; exact hs2.cell 0, ?_⟩
  (try dsimp only); rw [HM.ite_apply]
  by_cases hlt : i < L.length
  · rw [if_pos (by simp only [decide_eq_true_eq]; omega)]
    have hx := List.getElem?_eq_getElem hlt
    generalize L[i] = e at hx
    refine ⟨_, rfl, s, by rw [add_own]; exact hs2.cell 0, ?_⟩
    (try dsimp only); rw [HM.bind_apply]
    refine idx_row (hs2.p1.own_row eE_len) hx fun a ha => ?_
    refine ⟨e.2.1, ha 1 _ rfl, ?_⟩
    have hsn : filtL (L.take (i + 1)) = insF e.2.1 (filtL (L.take i)) := by rw [List.take_add_one, hx]; exact filtL_snoc _ _
    have hbl : (filtL (L.take i)).length ≤ 10000 := Nat.le_trans (filtL_spec _ _ rfl).2.1 (by rw [List.length_take]; omega)
    generalize filtL (L.take i) = F at hs2 hbl hsn
    have hol := hs2.p2.own_len
    refine cut (fun z h' => ∃ nx : List ByteArray, FiS e.2.1 F F.length z.1 nx ∧ sat h' (cells r #[.slice s.a s.len s.cap] :: ownS encE 3 s L :: ownS eS 1 z.2.1 nx :: ownS eS 1 o F :: R)) ?_ ?_
    · intro K2 hK2
      refine loop_for F.length (fun k z h' => z.2.2.1 = (k : Int) ∧ ∃ nx : List ByteArray, FiS e.2.1 F k z.1 nx ∧
          sat h' (cells r #[.slice s.a s.len s.cap] :: ownS encE 3 s L :: ownS eS 1 z.2.1 nx :: ownS eS 1 o F :: R))
        ⟨rfl, [], FiS.nil _ _, (ownS_nil (enc := eS) (size := 1) hs2).re [1, 2, 0, 3]⟩ (fun k z h' hk hJ => by rw [hJ.1, hol]; exact decide_eq_decide.2 (by omega)) (fun z h' hJ K3 hd3 => ?_) (fun k z h' hlt hJ K3 hnx3 hd3 => ?_)
      · obtain ⟨hz, nx, hF, hs3⟩ := hJ
        exact hd3 _ _ (hK2 _ _ ⟨nx, hF, hs3⟩)
      · obtain ⟨zb, zs, zi, ⟨⟩⟩ := z
        obtain ⟨hz, nx, hF, hs3⟩ := hJ
        simp only at hz hF hs3
        subst hz
        have hy := List.getElem?_eq_getElem hlt
        generalize F[k] = y at hy
        have hnl := hF.len
        have hst := hF.step hy
        have hro := hs3.p3.own_row eS_len
        (try dsimp only); rw [HM.bind_apply]
        refine idx_row hro hy fun a ha => ?_
        refine ⟨y, ha 0 _ rfl, ?_⟩
        refine cut (fun w h'' => w.1 = (zb || decide (y = e.2.1)) ∧ h'' = h') ?_ ?_
        · intro K4 hK4
          (try dsimp only); rw [HM.ite_apply]
          by_cases hye : y = e.2.1
          · rw [if_pos (by simpa using hye)]
            exact hK4 _ _ ⟨by simp [hye], rfl⟩
          · rw [if_neg (by simpa using hye)]
            exact hK4 _ _ ⟨by simp [hye], rfl⟩
        rintro ⟨w, ⟨⟩⟩ h'' ⟨hw, rfl⟩
        simp only at hw
        rw [← hw] at hst
        refine cut (fun v h4 => v.1 = (!w && decide (ltS e.2.1 y)) ∧ h4 = h'') ?_ ?_
        · intro K4 hK4
          (try dsimp only); rw [HM.ite_apply]
          rcases Bool.eq_false_or_eq_true w with hwb | hwb
          · rw [if_neg (by simp [hwb])]
            exact hK4 _ _ ⟨by simp [hwb], rfl⟩
          · rw [if_pos (by simp [hwb])]
            (try dsimp only); rw [HM.bind_apply]
            refine idx_row hro hy fun a2 ha2 => ?_
            refine ⟨y, ha2 0 _ rfl, ?_⟩
            exact hK4 _ _ ⟨by simp only; rw [less_ltS, hwb]; simp, rfl⟩
        rintro ⟨v, ⟨⟩⟩ h4 ⟨hv, rfl⟩
        simp only at hv
        rw [← hv] at hst
        -- what stands next
        refine cut (fun u h5 => ∃ nx' : List ByteArray, nx' = (if v = true then nx ++ [e.2.1] else nx) ∧ u.2.1 = (w || v) ∧ sat h5 (cells r #[.slice s.a s.len s.cap] :: ownS encE 3 s L :: ownS eS 1 u.1 nx' :: ownS eS 1 o F :: R)) ?_ ?_
        · intro K4 hK4
          (try dsimp only); rw [HM.ite_apply]
          rcases Bool.eq_false_or_eq_true v with hvb | hvb
          · rw [if_pos hvb]
            refine app_new (x := e.2.1) eS_len eS_cell rfl hs3.p2 (by decide) (by decide) (by omega) fun s' h5 hs5 => ?_
            exact hK4 _ _ ⟨nx ++ [e.2.1], by rw [if_pos hvb], by rw [hvb]; simp, hs5.re [1, 2, 0]⟩
          · rw [if_neg (by simp [hvb])]
            exact hK4 _ _ ⟨nx, by rw [if_neg (by simp [hvb])], by rw [hvb]; simp, hs3⟩
        rintro ⟨us, ub, ⟨⟩⟩ h5 ⟨nx', hnx', hub, hs5⟩
        simp only at hub hs5
        subst hub
        rw [← hnx'] at hst
        have hlv : nx'.length ≤ k + 2 := by
          rw [hnx']
          split
          · simp; omega
          · omega
        (try dsimp only); rw [HM.bind_apply]
        refine idx_row (hs5.p3.own_row eS_len) hy fun a3 ha3 => ?_
        refine ⟨y, ha3 0 _ rfl, ?_⟩
        refine app_new (x := y) eS_len eS_cell rfl hs5.p2 (by decide) (by decide) (by omega) fun s' h6 hs6 => ?_
        exact hnx3 _ _ ⟨by rw [wrap_id (by omega) (by omega)]; rfl, nx' ++ [y], hst, hs6.re [1, 2, 0]⟩
    rintro ⟨zb, zs, zi, ⟨⟩⟩ h3 ⟨nx, hF, hs3⟩
    simp only at hF hs3
    have hfin := hF.done
    have hnl := hF.len
    refine cut (fun u h4 => sat h4 (cells r #[.slice s.a s.len s.cap] :: ownS encE 3 s L :: ownS eS 1 u.1 (filtL (L.take (i + 1))) :: R)) ?_ ?_
    · intro K4 hK4
      rw [← hfin] at hsn
      (try dsimp only); rw [HM.ite_apply]
      cases zb with
      | true =>
        rw [if_pos rfl] at hsn
        rw [if_neg (by simp)]
        exact hK4 _ _ (by rw [hsn]; exact (hs3.re [3, 0, 1, 2]).drop)
      | false =>
        rw [if_neg (by simp)] at hsn
        rw [if_pos (by simp)]
        refine app_new (x := e.2.1) eS_len eS_cell rfl hs3.p2 (by decide) (by decide) (by omega) fun s' h5 hs5 => ?_
        exact hK4 _ _ (by rw [hsn]; exact (hs5.re [3, 1, 2, 0]).drop)
    rintro ⟨u, ⟨⟩⟩ h4 hs4
    exact hnx (i + 1) _ _ (by omega) ⟨hlt, by rw [wrap_id (by omega) (by omega)]; rfl, hs4⟩
  · rw [if_neg (by simp only [decide_eq_true_eq]; omega)]
    have : i = L.length := by omega
    subst this
    rw [List.take_length] at hs2
    refine hd _ _ (hq o h2 ?_)
    have h3 : sat h2 (refA9 r L :: ownS eS 1 o (filtL L) :: R) := refA9_iff.2 ⟨s, hs2⟩
    exact h3.p1

end Go.Proofs.YtnpgpijkofbknaaGreatDoor
