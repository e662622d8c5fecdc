/-
  L18u: the law SessionUnique over heaps.
-/
import Derived.Test.YtlgddhcbiioefaaDoorC18
import Derived.Test.YtlgddhcbiioefaaDoorCsel
namespace Go.Proofs.YtlgddhcbiioefaaDoor
open Go.H Go.Proofs
set_option linter.unusedSimpArgs false
set_option linter.unusedVariables false
set_option synthInstance.maxSize 100000
set_option synthInstance.maxHeartbeats 400000

abbrev encT18 (x : Int × ByteArray × Bool × Bool × Int) : List Value := [.int .i64 x.1, .string x.2.1, .bool x.2.2.1, .bool x.2.2.2.1, .int .i64 x.2.2.2.2]
abbrev eKS : ByteArray → Value := fun s => .string s
abbrev eVS : ByteArray → Value := Kind.val (.one .str)
abbrev eVB : Bool → Value := Kind.val (.one .bool)

/-- what is so of a table, and of the numbers that were met -/
structure TabOK (i : Nat) (last : Int) (L : List (Nat × SesS)) (E : List (Int × ByteArray)) : Prop where
  last0 : 0 ≤ last
  last1 : last ≤ i
  ids : ∀ p ∈ L, 1 ≤ p.2.id ∧ p.2.id ≤ last
  clients : (L.map (·.2.client)).Nodup
  len : L.length ≤ 32
  ever : ∀ p ∈ L, mget E p.2.id = some p.2.client
  keys : ∀ k v, mget E k = some v → k ≤ last

theorem TabOK.drop {i : Nat} {last : Int} {l1 l2 : List (Nat × SesS)} {p : Nat × SesS} {E : List (Int × ByteArray)} (h : TabOK i last (l1 ++ p :: l2) E) : TabOK i last (l1 ++ l2) E where
  last0 := h.last0
  last1 := h.last1
  ids := fun q hq => h.ids q (by rcases List.mem_append.1 hq with h | h; exact List.mem_append_left _ h; exact List.mem_append_right _ (List.mem_cons_of_mem _ h))
  clients := by
    have := h.clients
    rw [List.map_append, List.map_cons] at this
    rw [List.map_append]
    exact this.sublist (List.Sublist.append_left (List.sublist_cons_self _ _) _)
  len := by have := h.len; simp at this ⊢; omega
  ever := fun q hq => h.ever q (by rcases List.mem_append.1 hq with h | h; exact List.mem_append_left _ h; exact List.mem_append_right _ (List.mem_cons_of_mem _ h))
  keys := h.keys
theorem TabOK.turn {i : Nat} {last : Int} {l1 l2 : List (Nat × SesS)} {p p' : Nat × SesS} {E : List (Int × ByteArray)} (h : TabOK i last (l1 ++ p :: l2) E) (h1 : p'.2.id = p.2.id) (h2 : p'.2.client = p.2.client) : TabOK i last (l1 ++ p' :: l2) E where
  last0 := h.last0
  last1 := h.last1
  ids := fun q hq => by
    rcases List.mem_append.1 hq with hh | hh
    · exact h.ids q (List.mem_append_left _ hh)
    · rcases List.mem_cons.1 hh with rfl | hh
      · rw [h1]; exact h.ids p (List.mem_append_right _ (List.mem_cons_self ..))
      · exact h.ids q (List.mem_append_right _ (List.mem_cons_of_mem _ hh))
  clients := by
    have := h.clients
    rw [List.map_append, List.map_cons] at this ⊢
    rw [h2]; exact this
  len := by have := h.len; simp at this ⊢; omega
  ever := fun q hq => by
    rcases List.mem_append.1 hq with hh | hh
    · exact h.ever q (List.mem_append_left _ hh)
    · rcases List.mem_cons.1 hh with rfl | hh
      · rw [h1, h2]; exact h.ever p (List.mem_append_right _ (List.mem_cons_self ..))
      · exact h.ever q (List.mem_append_right _ (List.mem_cons_of_mem _ hh))
  keys := h.keys
theorem TabOK.step {i : Nat} {last : Int} {L : List (Nat × SesS)} {E : List (Int × ByteArray)} (h : TabOK i last L E) : TabOK (i + 1) last L E := { h with last1 := by have := h.last1; omega }

theorem TabOK.add {i : Nat} {last : Int} {L : List (Nat × SesS)} {E : List (Int × ByteArray)} (h : TabOK i last L E) {nb : Nat} {s : SesS} (hi : s.id = last + 1) (hc : ∀ p ∈ L, p.2.client ≠ s.client) (hl : L.length < 32) :
    TabOK (i + 1) (last + 1) (L ++ [(nb, s)]) (mset E (last + 1) s.client) where
  last0 := by have := h.last0; omega
  last1 := by have := h.last1; omega
  ids := fun q hq => by
    rcases List.mem_append.1 hq with hh | hh
    · have := h.ids q hh; omega
    · rw [List.mem_singleton.1 hh]
      have := h.last0
      show 1 ≤ s.id ∧ s.id ≤ last + 1
      omega
  clients := by
    rw [List.map_append, List.map_cons, List.map_nil, List.nodup_append]
    refine ⟨h.clients, by simp, fun a ha b hb => ?_⟩
    obtain ⟨p, hp, rfl⟩ := List.mem_map.1 ha
    rw [List.mem_singleton.1 hb]
    exact hc p hp
  len := by simp; omega
  ever := fun q hq => by
    rw [mget_set]
    rcases List.mem_append.1 hq with hh | hh
    · have := h.ids q hh
      rw [if_neg (by omega)]
      exact h.ever q hh
    · rw [List.mem_singleton.1 hh, if_pos hi.symm]
  keys := fun k v hk => by
    rw [mget_set] at hk
    by_cases e : last + 1 = k
    · omega
    · rw [if_neg e] at hk
      have := h.keys k v hk
      omega

theorem TabOK.same {i : Nat} {last : Int} {L : List (Nat × SesS)} {E : List (Int × ByteArray)} (h : TabOK i last L E) {k : Int} {c : ByteArray} (hk : mget E k = some c) : TabOK i last L (mset E k c) where
  last0 := h.last0
  last1 := h.last1
  ids := h.ids
  clients := h.clients
  len := h.len
  ever := fun q hq => by
    rw [mget_set]
    by_cases e : k = q.2.id
    · rw [if_pos e]
      have := h.ever q hq
      rw [← e, hk] at this
      exact this
    · rw [if_neg e]; exact h.ever q hq
  keys := fun k' v hk' => by
    rw [mget_set] at hk'
    by_cases e : k = k'
    · subst e; exact h.keys k c hk
    · rw [if_neg e] at hk'; exact h.keys k' v hk'

abbrev kS := key_str

set_option maxRecDepth 100000 in
theorem SessionUnique_spec {h h0 : Heap} (ht : U8 h0) {s : Slc} {xs : List (Int × ByteArray × Bool × Bool × Int)} (hsz : ∀ x ∈ xs, x.2.1.size ≤ 9223372036854775807) (hr : RowAt encT18 5 h0 s xs) (hs : sat h [old h0]) {Q : Value → Heap → Prop}
    (hq : ∀ h' R, sat h' (old h0 :: R) → Q (.bool true) h') : HCalls Tryd.prog 4 #[.slice s.a s.len s.cap] h Q := by
  refine law18_SessionUnique_calls s h Q ?_
  have he : (if 100 < ((s.len : Nat) : Int) then (100 : Int) else ((s.len : Nat) : Int)) = ((min 100 xs.length : Nat) : Int) := by
    rw [hr.1]; split <;> omega
  unfold law18_SessionUnique
  rw [he]
  refine bind_call1 (sesNew_spec hs fun b h1 hs1 => ⟨some ⟨b, 0, none⟩, rfl, ?_⟩)
  refine new_map (ek := eKI) (ev := eVS) hs1 fun em h2 hs2 => ?_
  refine slice_row hr (Nat.min_le_right _ _) fun s' hr' => ?_
  have hsz' : ∀ x ∈ xs.take (min 100 xs.length), x.2.1.size ≤ 9223372036854775807 := fun x hx => hsz x (List.mem_of_mem_take hx)
  have hys1 : (xs.take (min 100 xs.length)).length ≤ 100 := by simp; omega
  generalize xs.take (min 100 xs.length) = ys at hr' hsz' hys1
  refine loop_gx (γ := Nat × Int × List (Nat × SesS) × List (Int × ByteArray)) (hb := fun s => by
    repeat' with_reducible first
      | refine @mono_bind _ _ _ _ ?_ (fun _ => ?_)
      | refine @mono_ite _ _ _ _ ?_ ?_
      | refine @mono_req _ _ _ ?_
      | refine @mono_loop _ _ _ _ (fun _ => ?_)
      | refine @mono_elim _ _ _ _ _ _ (fun _ => ?_) (fun _ => ?_)
    all_goals infer_instance)
    (fun g c h => g.1 ≤ ys.length ∧ c.1 = (g.1 : Int) ∧ TabOK g.1 g.2.1 g.2.2.1 g.2.2.2 ∧ sat h (mapA eKI eVS em g.2.2.2 :: tabA b g.2.1 g.2.2.1 :: [old h0]))
    (fun g => ys.length - g.1) (0, 0, [], []) ⟨Nat.zero_le _, rfl, ⟨by decide, by decide, by simp, by simp, by simp, by simp, by simp⟩, hs2⟩ ?_
  rintro ⟨i, last, L, E⟩ ⟨c, ⟨⟩⟩ h3 ⟨hi, hc, hok, hs3⟩
  simp only at hi hc hok hs3
  subst hc
  have hlen := hr'.1
  have hl0 := hok.last0
  have hl1 := hok.last1
  simp only [HM.ite_apply, decide_eq_true_eq]
  by_cases hlt : i < ys.length
  · rw [if_pos (by omega)]
    have next : IntKind.wrap .i64 ((i : Int) + 1) = ((i + 1 : Nat) : Int) := by rw [wrap_id (by omega) (by omega)]; rfl
    rw [HM.bind_apply, HM.bind_apply]
    have hxsz := hsz' ys[i] (List.getElem_mem hlt)
    refine idx_row hr' (List.getElem?_eq_getElem hlt) fun a ha => ?_
    generalize ys[i] = x at ha hxsz
    obtain ⟨x1, x2, x3, x4, x5⟩ := x
    simp only at hxsz
    refine loadN_of (ts := [.int .i64, .str, .bool, .bool, .int .i64]) (x1, x2, x3, x4, x5, ()) (fun j v hv => hs3.p2.old_cell (ha j v hv)) ?_
    refine new_cells hs3 fun ab h4 hs4 => ?_
    refine storeN_all' hs4 rfl rfl fun h5 hs5 => ?_
    have hs5' : sat h5 [cells ab #[.int .i64 x1, .string x2, .bool x3, .bool x4, .int .i64 x5], mapA eKI eVS em E, tabA b last L, old h0] := hs5
    clear hs5 hs4 hs3
    have hA : ∀ {h' : Heap} {R : List Asn}, sat h' (cells ab #[.int .i64 x1, .string x2, .bool x3, .bool x4, .int .i64 x5] :: R) →
        cellH h' ⟨ab, 0, none⟩ = some (.int .i64 x1) ∧ cellH h' ⟨ab, 1, none⟩ = some (.string x2) ∧ cellH h' ⟨ab, 2, none⟩ = some (.bool x3) ∧ cellH h' ⟨ab, 3, none⟩ = some (.bool x4) ∧ cellH h' ⟨ab, 4, none⟩ = some (.int .i64 x5) :=
      fun hs' => ⟨hs'.cell 0, hs'.cell 1, hs'.cell 2, hs'.cell 3, hs'.cell 4⟩
    refine ⟨x1, by rw [add_own]; exact (hA hs5').1, ⟨by decide, ?_⟩⟩
    rw [HM.ite_apply]
    by_cases g1 : (x1.tmod 4 == 1) = true
    · rw [if_pos g1]
      refine ⟨x5, by rw [add_own]; exact (hA hs5').2.2.2.2, ?_⟩
      refine bind_call1 (End_spec (hs5'.re [2, 0, 1]) (fun _ => ⟨false, rfl, ?_⟩) (fun _ _ _ _ => ⟨false, rfl, ?_⟩) (fun l1 p l2 hL _ _ _ h6 hs6 => ⟨false, rfl, ?_⟩) (fun l1 p l2 hL _ _ _ h6 hs6 => ⟨true, rfl, ?_⟩))
      · simp only [Sum.elim_inl, Sum.elim_inr, HM.pure_apply]; exact .mk (i + 1, last, L, E) (by first | omega | (simp only []; omega)) ⟨by first | omega | (simp only []; omega), next, hok.step, hs5'.drop⟩
      · simp only [Sum.elim_inl, Sum.elim_inr, HM.pure_apply]; exact .mk (i + 1, last, L, E) (by first | omega | (simp only []; omega)) ⟨by first | omega | (simp only []; omega), next, hok.step, hs5'.drop⟩
      · subst hL
        simp only [Sum.elim_inl, Sum.elim_inr, HM.pure_apply]; exact .mk (i + 1, last, _, E) (by first | omega | (simp only []; omega)) ⟨by first | omega | (simp only []; omega), next, (hok.turn (p' := (p.1, { p.2 with on := false, out := { p.2.out with on := false } })) rfl rfl).step, (hs6.re [1, 2, 0]).drop⟩
      · subst hL
        simp only [Sum.elim_inl, Sum.elim_inr, HM.pure_apply]; exact .mk (i + 1, last, _, E) (by first | omega | (simp only []; omega)) ⟨by first | omega | (simp only []; omega), next, hok.drop.step, (hs6.re [1, 2, 0]).drop⟩
    rw [if_neg g1]
    refine ⟨x2, by rw [add_own]; exact (hA hs5').2.1, x3, by rw [add_own]; exact (hA hs5').2.2.1, x4, by rw [add_own]; exact (hA hs5').2.2.2.1, ?_⟩
    -- Begin
    obtain ⟨P, hP1, hP2, hP3⟩ : ∃ P : (Int × Bool × Int × Unit) → Heap → Prop,
        (∀ k c h', c ≠ 0 → sat h' [tabA b last L, old h0, cells ab #[.int .i64 x1, .string x2, .bool x3, .bool x4, .int .i64 x5], mapA eKI eVS em E] → P (k, false, c, ()) h') ∧
        (∀ k pres last' L' h', TabOK (i + 1) last' L' (mset E k x2) → (mget E k = if pres = true then some x2 else none) → (∃ p ∈ L', p.2.client = x2) → sat h' [tabA b last' L', old h0, cells ab #[.int .i64 x1, .string x2, .bool x3, .bool x4, .int .i64 x5], mapA eKI eVS em E] → P (k, pres, 0, ()) h') ∧
        (∀ z h', P z h' → (∃ k c, z = (k, false, c, ()) ∧ c ≠ 0 ∧ sat h' [tabA b last L, old h0, cells ab #[.int .i64 x1, .string x2, .bool x3, .bool x4, .int .i64 x5], mapA eKI eVS em E]) ∨
          (∃ k pres last' L', z = (k, pres, 0, ()) ∧ TabOK (i + 1) last' L' (mset E k x2) ∧ (mget E k = if pres = true then some x2 else none) ∧ (∃ p ∈ L', p.2.client = x2) ∧ sat h' [tabA b last' L', old h0, cells ab #[.int .i64 x1, .string x2, .bool x3, .bool x4, .int .i64 x5], mapA eKI eVS em E])) :=
      ⟨fun z h' => (∃ k c, z = (k, false, c, ()) ∧ c ≠ 0 ∧ sat h' [tabA b last L, old h0, cells ab #[.int .i64 x1, .string x2, .bool x3, .bool x4, .int .i64 x5], mapA eKI eVS em E]) ∨
          (∃ k pres last' L', z = (k, pres, 0, ()) ∧ TabOK (i + 1) last' L' (mset E k x2) ∧ (mget E k = if pres = true then some x2 else none) ∧ (∃ p ∈ L', p.2.client = x2) ∧ sat h' [tabA b last' L', old h0, cells ab #[.int .i64 x1, .string x2, .bool x3, .bool x4, .int .i64 x5], mapA eKI eVS em E]),
        fun k c h' a1 a2 => .inl ⟨k, c, rfl, a1, a2⟩, fun k pres last' L' h' a1 a2 a3 a4 => .inr ⟨k, pres, last', L', rfl, a1, a2, a3, a4⟩, fun z h' hz => hz⟩
    refine bind_cut P ?_ ?_
    · refine Begin_spec (show sat h5 [tabA b last L, old h0, cells ab #[.int .i64 x1, .string x2, .bool x3, .bool x4, .int .i64 x5], mapA eKI eVS em E] from hs5'.re [2, 3, 0, 1]) ht hxsz (by omega) (by omega) (fun p hp => (hok.ids p hp).2) (fun _ h' hs' => ⟨(0, false, 133, ()), rfl, hP1 0 133 h' (by decide) hs'⟩) (fun _ _ _ h' hs' => ⟨(0, false, 151, ()), rfl, hP1 0 151 h' (by decide) hs'⟩)
        (fun _ _ l1 p l2 hL hc h' hs' => ⟨(p.2.id, true, 0, ()), rfl, ?_⟩) (fun _ L0 hL0 nb h' hs' => ⟨(last + 1, false, 0, ()), rfl, ?_⟩)
      · subst hL
        have hev := hok.ever p (List.mem_append_right _ (List.mem_cons_self ..))
        rw [hc] at hev
        refine hP2 p.2.id true last (l1 ++ (p.1, { p.2 with on := true, keep := x4 }) :: l2) h' ?_ (by simpa using hev) ⟨_, List.mem_append_right _ (List.mem_cons_self ..), hc⟩ hs'
        exact ((hok.turn (p' := (p.1, { p.2 with on := true, keep := x4 })) rfl rfl).step).same hev
      · have hnone : mget E (last + 1) = none := by
          cases hg : mget E (last + 1) with
          | none => rfl
          | some v => have := hok.keys _ _ hg; omega
        refine hP2 (last + 1) false (last + 1) _ h' ?_ (by simpa using hnone) ⟨_, List.mem_append_right _ (List.mem_cons_self ..), rfl⟩ hs'
        rcases hL0 with ⟨hnc, hl, rfl⟩ | ⟨_, l1, p, l2, hL, hc, rfl⟩
        · exact hok.add rfl hnc hl
        · subst hL
          refine hok.drop.add rfl (fun q hq' => ?_) ?_
          · have hnd := hok.clients
            rw [List.map_append, List.map_cons, List.nodup_append] at hnd
            intro hqc
            have hqc' : q.2.client = p.2.client := hqc.trans hc.symm
            rcases List.mem_append.1 hq' with hh | hh
            · exact hnd.2.2 _ (List.mem_map_of_mem hh) _ (List.mem_cons_self ..) hqc'
            · exact (List.nodup_cons.1 hnd.2.1).1 (by rw [← hqc']; exact List.mem_map_of_mem hh)
          · have := hok.len
            simp at this ⊢
            omega
    intro z h6 hz
    rcases hP3 z h6 hz with ⟨k, c, rfl, hc, hs6⟩ | ⟨k, pres, last', L', rfl, hok', hev, hcl, hs6⟩
    · have : (!(c == 0)) = true := by simp [hc]
      simp only [HM.ite_apply, this, if_true]
      simp only [Sum.elim_inl, Sum.elim_inr, HM.pure_apply]; exact .mk (i + 1, last, L, E) (by first | omega | (simp only []; omega)) ⟨by first | omega | (simp only []; omega), next, hok.step, (hs6.re [2, 3, 0, 1]).drop⟩
    · have e1 : ¬ ((!((0 : Int) == 0)) = true) := by decide
      rw [HM.ite_apply, if_neg e1, HM.bind_apply]
      refine lookup_map kI (kind := .one .str) (z := ByteArray.mk #[]) rfl (hs6.re [3, 0, 1, 2]) ?_
      have hcl2 : cellH h6 ⟨ab, 1, none⟩ = some (.string x2) := (hA (hs6.re [2, 0, 1])).2.1
      refine bind_cut (fun x h' => h' = h6 ∧ x.1 = false) ?_ ?_
      · cases pres <;> simp [hev, add_own, hcl2]
      rintro ⟨y, ⟨⟩⟩ h7 ⟨rfl, hy⟩
      simp only at hy
      subst hy
      rw [HM.ite_apply, if_neg (by simp)]
      refine ⟨x2, by rw [add_own]; exact hcl2, ?_⟩
      show (HM.bind _ _) _ _
      rw [HM.bind_apply]
      refine set_map kI (inj_int .i64) (ev := eVS) (x := x2) (hs6.re [3, 0, 1, 2]) fun h8 hs8 => ?_
      refine new_map (ek := eKS) (ev := eVB) hs8 fun mm h9 hs9 => ?_
      have hl0' := hok'.last0
      have hl1' := hok'.last1
      refine bind_call1 (List_spec (hs9.re [2, 0, 1, 3, 4]) (by omega) (fun p hp => by have := hok'.ids p hp; omega) hok'.len fun sl infos h10 hk1 hk2 hs10 => ⟨sl, rfl, ?_⟩)
      have hnames : (infos.map (·.2.1)).Perm (L'.map (·.2.client)) := by
        have := hk2.map (·.2.1)
        rw [List.map_map] at this
        exact this
      have hnd : (infos.map (·.2.1)).Nodup := hnames.nodup_iff.2 hok'.clients
      have hil : infos.length = L'.length := by
        have := hk2.length_eq
        simpa using this
      have hsl := hs10.own_len
      have hl32 := hok'.len
      show (HM.bind _ _) _ _
      rw [HM.bind_apply]
      refine loop_gx (γ := Nat) (hb := fun s => by
        repeat' with_reducible first
          | refine @mono_bind _ _ _ _ ?_ (fun _ => ?_)
          | refine @mono_ite _ _ _ _ ?_ ?_
          | refine @mono_elim _ _ _ _ _ _ (fun _ => ?_) (fun _ => ?_)
        all_goals infer_instance)
        (fun j c h' => c.1 = (j : Int) ∧ j ≤ infos.length ∧ sat h' [mapA eKS eVB mm (setM ((infos.take j).map (·.2.1))), ownS encN 4 sl infos, tabA b last' L', mapA eKI eVS em (mset E k x2), old h0, cells ab #[.int .i64 x1, .string x2, .bool x3, .bool x4, .int .i64 x5]])
        (fun j => infos.length - j) 0 ⟨rfl, Nat.zero_le _, hs10.re [2, 0, 1]⟩ ?_
      rintro j ⟨c, ⟨⟩⟩ h11 ⟨hcj, hj, hs11⟩
      simp only at hcj
      subst hcj
      have nextj : IntKind.wrap .i64 ((j : Int) + 1) = ((j + 1 : Nat) : Int) := by rw [wrap_id (by omega) (by omega)]; rfl
      rw [HM.ite_apply]
      by_cases hjl : j < infos.length
      · rw [if_pos (by simp only [decide_eq_true_eq]; omega), HM.bind_apply]
        refine idx_row (hs11.p1.own_row (by intro x; rfl)) (List.getElem?_eq_getElem hjl) fun ad had => ?_
        have htk := List.take_succ_eq_append_getElem hjl
        have hget : infos.map (·.2.1) = (infos.take j).map (·.2.1) ++ infos[j].2.1 :: (infos.drop (j + 1)).map (·.2.1) := by
          have := congrArg (List.map (·.2.1)) (show infos = infos.take j ++ infos[j] :: infos.drop (j + 1) from by rw [← List.drop_eq_getElem_cons hjl, List.take_append_drop])
          exact this.trans (by rw [List.map_append, List.map_cons])
        generalize infos[j] = y at had htk hget
        obtain ⟨y1, y2, y3, y4⟩ := y
        refine loadN_of (ts := [.int .i64, .str, .bool, .bool]) (y1, y2, y3, y4, ()) (fun j v hv => had j v hv) ?_
        refine new_cells hs11 fun nb h12 hs12 => ?_
        refine storeN_all' hs12 rfl rfl fun h13 hs13 => ?_
        have hy2 : cellH h13 ⟨nb, 1, none⟩ = some (.string y2) := hs13.cell 1
        refine ⟨y2, by rw [add_own]; exact hy2, ?_⟩
        show (HM.bind _ _) _ _
        rw [HM.bind_apply]
        refine lookup_map kS (kind := .one .bool) (z := false) rfl (hs13.drop) ?_
        have hni : y2 ∉ (infos.take j).map (·.2.1) := by
          rw [hget, List.nodup_append] at hnd
          intro hm
          exact hnd.2.2 y2 hm y2 (List.mem_cons_self ..) rfl
        rw [mget_setM, if_neg hni, HM.ite_apply, if_neg (by simp)]
        refine ⟨y2, by rw [add_own]; exact hy2, ?_⟩
        show (HM.bind _ _) _ _
        rw [HM.bind_apply]
        refine set_map kS inj_str (ev := eVB) (x := true) (hs13.drop) fun h14 hs14 => ?_
        rw [mset_setM _ _ hni] at hs14
        simp only [Sum.elim_inl, Sum.elim_inr, HM.pure_apply]; refine .mk (j + 1) (by first | omega | (simp only []; omega)) ⟨nextj, by first | omega | (simp only []; omega), ?_⟩
        rw [htk, List.map_append]
        exact hs14
      · rw [if_neg (by simp only [decide_eq_true_eq]; omega)]
        rw [List.take_of_length_le (by omega)] at hs11
        simp only [Sum.elim_inl, Sum.elim_inr, HM.pure_apply]
        refine bind_cut (fun x h' => h' = h11 ∧ x.1 = false) ?_ ?_
        · rw [HM.bind_apply]
          refine len_map hs11 ?_
          have hle : ¬ (32 : Int) < (((setM (infos.map (·.2.1))).length : Nat) : Int) := by
            rw [allM_len, List.length_map]; omega
          simp [hle]
          have hcl3 : cellH h11 ⟨ab, 1, none⟩ = some (.string x2) := (hA (hs11.re [5, 0, 1, 2, 3, 4])).2.1
          simp [add_own, hcl3]
          refine lookup_map kS (kind := .one .bool) (z := false) rfl hs11 ?_
          have hin : x2 ∈ infos.map (·.2.1) := by
            obtain ⟨p, hp, hpc⟩ := hcl
            rw [hnames.mem_iff, ← hpc]
            exact List.mem_map_of_mem hp
          rw [mget_setM, if_pos hin]
          simp
        rintro ⟨y, ⟨⟩⟩ h12 ⟨rfl, hy⟩
        simp only at hy
        subst hy
        rw [HM.ite_apply, if_neg (by simp)]
        simp only [Sum.elim_inl, Sum.elim_inr, HM.pure_apply]; exact .mk (i + 1, last', L', mset E k x2) (by first | omega | (simp only []; omega)) ⟨by first | omega | (simp only []; omega), next, hok', (hs11.re [0, 1, 5, 3, 2, 4]).drop.drop.drop⟩
  · rw [if_neg (by omega)]
    simp
    refine wakes18_spec hs3.p2 ht fun h4 hs4 => ?_
    simp
    exact hq _ _ hs4

end Go.Proofs.YtlgddhcbiioefaaDoor
