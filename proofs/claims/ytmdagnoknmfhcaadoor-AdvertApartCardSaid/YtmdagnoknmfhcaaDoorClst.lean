/-
  Clst: contracts: the list of a base's adverts; the document's base (Of, Learn).
-/
import Derived.Test.YtmdagnoknmfhcaaDoorCbas
namespace Go.Proofs.YtmdagnoknmfhcaaDoor
open Go.H Go.Proofs Go.Lib
set_option linter.unusedSimpArgs false
set_option linter.unusedVariables false
set_option synthInstance.maxSize 100000
set_option synthInstance.maxHeartbeats 400000
set_option maxRecDepth 100000

variable {h h0 : Heap} {R : List Asn}

theorem base_look {b : Nat} {K : List (Int × AdvT)} (o : Int) (hs : sat h (baseA b K :: R)) (hK : ∀ e ∈ K, goodA e.2 = true) :
    ∃ (m : Nat) (x : MAdv) (R1 : List Asn), x.a = getK K o ∧ okN x.a ∧ cellH h ⟨b, 0, none⟩ = some (.map (some m)) ∧
      (∀ Q : kA.ty × Bool → Heap → Prop, Q (x.t, (mget K o).isSome) h → HM.lookup (Instr.sameNow (.int .i64)) (.agg #[.int .i64 0, .int .i64 0, .slice none 0 0, .slice none 0 0]) kA (some m) (.int .i64 o) h Q) ∧
      sat h (ownM x :: R1) ∧ ∀ {h' : Heap} {A : List Asn}, sat h' (A ++ ownM x :: R1) → sat h' (A ++ baseA b K :: R) := by
  obtain ⟨m, L, hL, hs2⟩ := baseA_iff.1 hs
  have hsome : (mget K o).isSome = (mget L o).isSome := by rw [← hL, mget_map MAdv.a, Option.isSome_map]
  have hgk : ((mget L o).getD zMA).a = getK K o := by rw [← hL]; exact (got_a L o).symm
  have hlook : ∀ Q : kA.ty × Bool → Heap → Prop, Q (((mget L o).getD zMA).t, (mget K o).isSome) h → HM.lookup (Instr.sameNow (.int .i64)) (.agg #[.int .i64 0, .int .i64 0, .slice none 0 0, .slice none 0 0]) kA (some m) (.int .i64 o) h Q := by
    intro Q hQ
    refine lookup_map kKA (kind := kA) (z := (0, 0, ⟨none, 0, 0⟩, ⟨none, 0, 0⟩, ())) rfl hs2.p1 ?_
    rw [mget_map MAdv.t, got_t, Option.isSome_map, ← hsome]
    exact hQ
  have hok : okN ((mget L o).getD zMA).a := by
    cases hml : mget L o with
    | none => exact zok
    | some x =>
      have : (o, x.a) ∈ K := by rw [← hL]; exact List.mem_map_of_mem (f := fun e : Int × MAdv => (e.1, e.2.a)) (mget_mem hml)
      exact good_okN (hK _ this)
  refine ⟨m, (mget L o).getD zMA, ?_⟩
  cases hml : mget L o with
  | none =>
    rw [hml] at hlook hok hgk
    refine ⟨baseA b K :: R, hgk, hok, hs2.cell 0, hlook, ownM_z hs, fun {h' A} hh => ?_⟩
    have := (sat.perm (L' := ownM zMA :: (A ++ baseA b K :: R)) (by exact List.perm_middle) hh)
    exact this.drop
  | some x =>
    rw [hml] at hlook hok hgk
    obtain ⟨l1, l2, he⟩ := List.append_of_mem (mget_mem hml)
    have hp := hs2.re [2, 0, 1]
    rw [he] at hp
    have hp2 := bigA_pick.1 hp
    refine ⟨_, hgk, hok, hs2.cell 0, hlook, hp2, fun {h' A} hh => ?_⟩
    have h3 := sat.perm (L' := ownM x :: bigA (fun e => ownM e.2) (l1 ++ l2) :: cells b #[.map (some m)] :: mapA eKA (Kind.val kA) m (L.map fun e => (e.1, e.2.t)) :: (A ++ R)) ?_ hh
    · have h4 := (bigA_pick (f := fun e : Int × MAdv => ownM e.2) (x := (o, x))).2 h3
      rw [← he] at h4
      have h5 := (baseA_iff (R := A ++ R)).2 ⟨m, L, hL, h4.re [1, 2, 0]⟩
      exact sat.perm List.perm_middle.symm h5
    · rw [he]
      refine (List.perm_middle).trans (List.Perm.cons _ ?_)
      refine (List.perm_middle).trans (List.Perm.cons _ ?_)
      refine (List.perm_middle).trans (List.Perm.cons _ ?_)
      exact (List.perm_middle)

theorem bigA_snoc {α : Type} {f : α → Asn} {x : α} {l : List α} (hs : sat h (f x :: bigA f l :: R)) : sat h (bigA f (l ++ [x]) :: R) := by
  have := (bigA_pick (f := f) (x := x) (l1 := l) (l2 := []) (R := R)).2 (by rw [List.append_nil]; exact hs)
  exact this

theorem List_spec {b : Nat} {K : List (Int × AdvT)} {D : List AdvT} (hs : sat h (baseA b K :: R)) (hK : ∀ e ∈ K, goodA e.2 = true ∧ e.1 = e.2.o) (hD : sortI (K.map (·.1)) = D.map (·.o)) (hg : ∀ d ∈ D, mget K d.o = some d) (hl : D.length ≤ 1000) {Q : Value → Heap → Prop}
    (hq : ∀ h' (S : Slc) (ms : List MAdv), ms.map (·.a) = D → sat h' (ownS encM 4 S ms :: bigA ownM ms :: baseA b K :: R) → Q (.slice S.a S.len S.cap) h') :
    HCalls Tryd.prog 31 #[.pointer (some ⟨b, 0, none⟩)] h Q := by
  refine advert_Base_List_calls (some ⟨b, 0, none⟩) h Q ?_
  unfold advert_Base_List
  (try dsimp only); rw [HM.ite_apply, if_neg (by simp)]
  obtain ⟨m, L, hL, hs1⟩ := baseA_iff.1 hs
  have hKL : K.map (·.1) = (L.map fun e => (e.1, e.2.t)).map (·.1) := by rw [← hL, List.map_map, List.map_map]; rfl
  have hlen : K.length = D.length := by
    have := congrArg List.length hD
    simpa [sortI, List.length_mergeSort] using this
  refine ⟨_, rfl, some m, by rw [add_own]; exact hs1.cell 0, ?_⟩
  refine bind_call1 (keysI_call (ρk := keysIA_ren) keysIA (some m) ?_)
  simp only [un_any]
  have hs2 := (hs1.push_cells (T := keysIA_ren.t 23) (cs := #[.map (some m)]))
  refine bind_call1 (sortedI_call (ρk := keysIA_ren) (ρs := sortedI_ren) (ρt := sortMI_ren) keysIA sortedI sortMI rfl (enters_of Tryd.func97 (by kernel_rfl) rfl) (enters_of Tryd.func98 (by kernel_rfl) rfl) hs2.p2
    (fun p hp => ?_) ?_ (hs2.cell 0) fun sl h' hs3 => ?_)
  · have hp1 : p.1 ∈ K.map (·.1) := by rw [hKL]; exact List.mem_map_of_mem hp
    obtain ⟨e, he, hep⟩ := List.mem_map.1 hp1
    obtain ⟨g1, g2⟩ := hK e he
    have G := (good_facts g1).o
    rw [← hep, g2]
    simp [Lit.wf, IntKind.min, IntKind.max, IntKind.bits, IntKind.signed]
    omega
  · rw [List.length_map]
    have : L.length = K.length := by rw [← hL, List.length_map]
    omega
  rw [← hKL, hD] at hs3
  simp only [un_slc]
  have hs4 : sat h' (baseA b K :: ownS encM 4 ⟨none, 0, 0⟩ [] :: bigA ownM [] :: ownS eI 1 sl (D.map (·.o)) :: R) := by
    have h1 : sat h' (cells b #[.map (some m)] :: mapA eKA (Kind.val kA) m (L.map fun e => (e.1, e.2.t)) :: bigA (fun e => ownM e.2) L :: ownS eI 1 sl (D.map (·.o)) :: R) := ((hs3.re [2, 3, 1, 4, 0]).drop)
    exact (ownS_nil ((bigA_nil (f := ownM)).2 (baseA_iff.2 ⟨m, L, hL, h1⟩))).re [2, 0, 1]
  clear hs3 hs2 hs1 hs
  have hsl : sl.len = D.length := by have := hs4.p3.own_len; rwa [List.length_map] at this
  (try dsimp only); rw [HM.bind_apply]
  refine loop_gx (γ := Nat × List MAdv) (hb := fun s => by
      repeat' with_reducible first
        | refine @mono_bind _ _ _ _ ?_ (fun _ => ?_)
        | refine @mono_ite _ _ _ _ ?_ ?_
      all_goals infer_instance)
    (fun g c h' => c.2.1 = (((D.length - g.1 : Nat)) : Int) ∧ g.1 ≤ D.length ∧ g.2.map (·.a) = D.take (D.length - g.1) ∧ sat h' (baseA b K :: ownS encM 4 c.1 g.2 :: bigA ownM g.2 :: ownS eI 1 sl (D.map (·.o)) :: R)) (fun g => g.1) (D.length, [])
    ⟨by simp, Nat.le_refl _, by simp, hs4⟩ ?_
  clear hs4
  rintro ⟨g, ms⟩ ⟨out, c, ⟨⟩⟩ h1 ⟨hc, hgl, hms, hs5⟩
  simp only at hc hgl hms hs5
  subst hc
  (try dsimp only); rw [HM.ite_apply]
  by_cases hi : D.length - g < D.length
  rotate_left
  · rw [if_neg (by simp only [decide_eq_true_eq, hsl]; omega)]
    simp only [Sum.elim_inl, Sum.elim_inr, HM.pure_apply]
    rw [List.take_of_length_le (by omega)] at hms
    exact hq h1 out ms hms ((hs5.re [3, 1, 2, 0]).drop)
  rw [if_pos (by simp only [decide_eq_true_eq, hsl]; omega)]
  obtain ⟨d, hd⟩ : ∃ d, D[D.length - g]? = some d := ⟨_, List.getElem?_eq_getElem hi⟩
  have hdm := List.mem_of_getElem? hd
  (try dsimp only); rw [HM.bind_apply]
  refine idx_row (hs5.p3.own_row (by intro x; rfl)) (x := d.o) (by rw [List.getElem?_map, hd]; rfl) fun p hp => ?_
  refine ⟨d.o, by have := hp 0 _ rfl; rwa [Go.H.add_zero] at this, ?_⟩
  obtain ⟨m2, x, R1, hx, hok, hcell, hlook, hs6, back⟩ := base_look d.o hs5 (fun e he => (hK e he).1)
  have hxd : x.a = d := by rw [hx]; unfold getK; rw [hg d hdm]; rfl
  refine ⟨_, rfl, some m2, by rw [add_own]; exact hcell, ?_⟩
  (try dsimp only); rw [HM.bind_apply]
  refine hlook _ ?_
  refine bind_call1 (clone_spec hs6 hok fun h7 f k hs7 => ⟨(x.a.o, x.a.v, f, k, ()), rfl, ?_⟩)
  have hs8 := back (A := [ownM ⟨x.a, f, k⟩]) hs7
  refine new_cells hs8 fun y h9 hs9 => ?_
  have hml : ms.length = D.length - g := by
    have := congrArg List.length hms
    rw [List.length_map, List.length_take] at this
    omega
  (try dsimp only); rw [HM.bind_apply]
  refine app_one (enc := encM) (x := ⟨x.a, f, k⟩) eM_len eM_cell rfl (hs9.re [0, 3, 1, 2]) (by decide) (by decide) (by rw [hml]; omega) fun out2 h10 hs10 => ?_
  have hs11 := bigA_snoc (f := ownM) (hs10.re [1, 3, 0, 2])
  simp only [Sum.elim_inl, Sum.elim_inr, HM.pure_apply]
  refine .mk (g - 1, ms ++ [(⟨x.a, f, k⟩ : MAdv)]) (by simp only; omega) ⟨by simp only; rw [wrap_id (by omega) (by omega)]; omega, by simp only; omega, ?_, hs11.re [2, 1, 0]⟩
  simp only [List.map_append, List.map_cons, List.map_nil, hms, hxd]
  rw [show D.length - (g - 1) = D.length - g + 1 by omega, List.take_add_one, hd]
  rfl

/-! ### the document's base -/

def docA (r : Nat) (D : List AdvT) : Asn := exA fun x : Slc × List MAdv => star (pr (x.2.map (·.a) = D)) (star (cells r #[.slice x.1.a x.1.len x.1.cap]) (star (ownS encM 4 x.1 x.2) (bigA ownM x.2)))
theorem docA_iff {r : Nat} {D : List AdvT} : sat h (docA r D :: R) ↔ ∃ (S : Slc) (ms : List MAdv), ms.map (·.a) = D ∧ sat h (cells r #[.slice S.a S.len S.cap] :: ownS encM 4 S ms :: bigA ownM ms :: R) := by
  unfold docA
  rw [sat.ex_iff]
  constructor
  · rintro ⟨⟨S, ms⟩, hs⟩
    rw [sat.star_iff, sat.pr_iff, sat.star_iff] at hs
    exact ⟨S, ms, hs.1, (sat.star_iff.1 hs.2.p1).re [2, 0, 1]⟩
  · rintro ⟨S, ms, hL, hs⟩
    refine ⟨(S, ms), ?_⟩
    rw [sat.star_iff, sat.pr_iff, sat.star_iff]
    exact ⟨hL, (sat.star_iff.2 (hs.re [1, 2, 0])).p1⟩

theorem load_M {a : Addr} {x : MAdv} (ha : ∀ j v, (encM x)[j]? = some v → cellH h (a.add j) = some v) {Q : kA.ty → Heap → Prop} (hq : Q x.t h) : HM.loadN [.int .i64, .int .i64, .slc, .slc] a h Q :=
  loadN_of (ts := [.int .i64, .int .i64, .slc, .slc]) x.t (fun i v hv => ha i v hv) hq

theorem rOf_raw {r : Nat} {S : Slc} {ms : List MAdv} {o : Int} (hs : sat h (cells r #[.slice S.a S.len S.cap] :: ownS encM 4 S ms :: R)) (hl : ms.length ≤ 1000) {Q : Value → Heap → Prop}
    (hq : ∀ h', sat h' (cells r #[.slice S.a S.len S.cap] :: ownS encM 4 S ms :: R) → Q (.tuple #[Kind.val kA ((ms.find? fun x => decide (x.a.o = o)).getD zMA).t, .bool (ms.find? fun x => decide (x.a.o = o)).isSome]) h') :
    HCalls Tryd.prog 34 #[.pointer (some ⟨r, 0, none⟩), .int .i64 o] h Q := by
  refine ref21_Of_calls (some ⟨r, 0, none⟩) o h Q ?_
  unfold ref21_Of
  have hsl := hs.p1.own_len
  refine new_cells hs fun x1 h1 hs1 => ?_
  (try dsimp only); rw [HM.bind_apply]
  refine loop_gx (γ := Nat) (hb := fun s => by
      repeat' with_reducible first
        | refine @mono_bind _ _ _ _ ?_ (fun _ => ?_)
        | refine @mono_ite _ _ _ _ ?_ ?_
      all_goals infer_instance)
    (fun g c h' => c.1 = (((ms.length - g : Nat)) : Int) ∧ g ≤ ms.length ∧ (ms.find? fun x => decide (x.a.o = o)) = ((ms.drop (ms.length - g)).find? fun x => decide (x.a.o = o)) ∧ sat h' (cells x1 #[.int .i64 0, .int .i64 0, .slice none 0 0, .slice none 0 0] :: cells r #[.slice S.a S.len S.cap] :: ownS encM 4 S ms :: R)) (fun g => g) ms.length
    ⟨by simp, Nat.le_refl _, by simp, hs1⟩ ?_
  clear hs1
  rintro g ⟨c, ⟨⟩⟩ h2 ⟨hc, hg, hfind, hs2⟩
  simp only at hc
  subst hc
  refine ⟨_, rfl, S, by rw [add_own]; exact hs2.p1.cell 0, ?_⟩
  (try dsimp only); rw [HM.ite_apply]
  by_cases hi : ms.length - g < ms.length
  rotate_left
  · rw [if_neg (by simp only [decide_eq_true_eq, hsl]; omega)]
    simp only [Sum.elim_inl, Sum.elim_inr, HM.pure_apply]
    rw [show ms.drop (ms.length - g) = [] by simp; omega, List.find?_nil] at hfind
    rw [hfind] at hq
    (try dsimp only); rw [HM.bind_apply]
    refine storeN_all' hs2 rfl rfl fun h3 hs3 => ?_
    refine loadN_cells (ts := [.int .i64, .int .i64, .slc, .slc]) (0, 0, ⟨none, 0, 0⟩, ⟨none, 0, 0⟩, ()) hs3 rfl ?_
    exact hq h3 hs3.drop
  rw [if_pos (by simp only [decide_eq_true_eq, hsl]; omega)]
  obtain ⟨x, hx⟩ : ∃ x, ms[ms.length - g]? = some x := ⟨_, List.getElem?_eq_getElem hi⟩
  rw [drop_at hx, List.find?_cons] at hfind
  refine ⟨_, rfl, S, by rw [add_own]; exact hs2.p1.cell 0, ?_⟩
  (try dsimp only); rw [HM.bind_apply]
  refine idx_row (hs2.p2.own_row eM_len) hx fun p hp => ?_
  refine ⟨x.a.o, hp 0 _ rfl, ?_⟩
  (try dsimp only); rw [HM.ite_apply]
  by_cases ho : x.a.o = o
  · rw [if_pos (by simpa using ho)]
    simp only [ho, decide_true] at hfind
    rw [hfind] at hq
    refine ⟨_, rfl, S, by rw [add_own]; exact hs2.p1.cell 0, ?_⟩
    (try dsimp only); rw [HM.bind_apply]
    refine idx_row (hs2.p2.own_row eM_len) hx fun p2 hp2 => ?_
    (try dsimp only); rw [HM.bind_apply]
    refine load_M hp2 ?_
    (try dsimp only); rw [HM.bind_apply]
    refine storeN_all' hs2 rfl rfl fun h3 hs3 => ?_
    refine loadN_cells (ts := [.int .i64, .int .i64, .slc, .slc]) (x.a.o, x.a.v, x.f, x.k, ()) hs3 rfl ?_
    simp only [Sum.elim_inl, Sum.elim_inr, HM.pure_apply]
    exact hq h3 hs3.drop
  · rw [if_neg (by simpa using ho)]
    simp only [ho, decide_false] at hfind
    simp only [Sum.elim_inl, Sum.elim_inr, HM.pure_apply]
    exact .mk (g - 1) (by omega) ⟨by simp only; rw [wrap_id (by omega) (by omega)]; omega, by omega, by rw [hfind, show ms.length - g + 1 = ms.length - (g - 1) by omega], hs2⟩

end Go.Proofs.YtmdagnoknmfhcaaDoor
