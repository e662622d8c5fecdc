/-
  Crba: contracts: the document's base learns an advert.
-/
import Derived.Test.YtmdagnoknmfhcaaDoorClst
namespace Go.Proofs.YtmdagnoknmfhcaaDoor
open Go.H Go.Proofs Go.Lib
set_option linter.unusedSimpArgs false
set_option linter.unusedVariables false
set_option synthInstance.maxSize 100000
set_option synthInstance.maxHeartbeats 400000
set_option maxRecDepth 100000

/-! ### many, side by side: fewer, and in another order -/

section
variable {α : Type} {f : α → Asn} {h : Heap}
theorem bigA_perm {l l' : List α} (hp : l.Perm l') : ∀ {R : List Asn}, sat h (bigA f l :: R) → sat h (bigA f l' :: R) := by
  induction hp with
  | nil => exact fun hs => hs
  | cons x _ ih => exact fun hs => bigA_cons.2 (ih (bigA_cons.1 hs).p1).p1
  | swap x y l =>
    intro R hs
    have h1 := bigA_cons.1 hs
    have h2 := bigA_cons.1 h1.p1
    exact bigA_cons.2 ((bigA_cons.2 (h2.re [2, 1, 0])).p1)
  | trans _ _ ih1 ih2 => exact fun hs => ih2 (ih1 hs)
theorem bigA_filter (p : α → Bool) : ∀ {l : List α} {R : List Asn}, sat h (bigA f l :: R) → sat h (bigA f (l.filter p) :: R)
  | [], R, hs => hs
  | x :: l, R, hs => by
    have h1 := bigA_cons.1 hs
    rw [List.filter_cons]
    split
    · exact bigA_cons.2 (bigA_filter p (l := l) h1.p1).p1
    · exact bigA_filter p (l := l) h1.drop
end

/-! ### into a list in order -/

section
variable {V W K : Type} (lt : K → K → Prop) [DecidableRel lt] (key : V → K) (key' : W → K) (f : V → W)
theorem insS_map (hk : ∀ v, key' (f v) = key v) (x : V) : ∀ l : List V, (insS lt key x l).map f = insS lt key' (f x) (l.map f)
  | [] => rfl
  | y :: l => by
    unfold insS
    rw [List.map_cons]
    simp only [hk]
    split
    · simp [hk, *]
    · rw [List.map_cons, insS_map hk x l]
theorem insS_first {lt : K → K → Prop} [DecidableRel lt] {key : V → K} {x : V} : ∀ {l : List V}, (∀ z ∈ l, lt (key x) (key z)) → insS lt key x l = x :: l
  | [], _ => rfl
  | y :: l, h => by unfold insS; rw [if_pos (h y (List.mem_cons_self ..))]
end

abbrev ltI (a b : Int) : Prop := a < b
theorem ordI : Ord ltI := ⟨fun a => by unfold ltI; omega, fun {a b c} h1 h2 => by unfold ltI at *; omega, fun a b => by unfold ltI; omega⟩

def notM (x : MAdv) (y : MAdv) : Bool := decide (y.a.o ≠ x.a.o)
def stepM (x : MAdv) (c : Bool × List MAdv) (y : MAdv) : Bool × List MAdv :=
  let c1 : Bool × List MAdv := if c.1 = false ∧ x.a.o ≤ y.a.o then (true, c.2 ++ [x]) else c
  if y.a.o = x.a.o then c1 else (c1.1, c1.2 ++ [y])
def stM (x : MAdv) (l : List MAdv) : Bool × List MAdv := l.foldl (stepM x) (false, [])
theorem stM_snoc (x : MAdv) (l : List MAdv) (y : MAdv) : stM x (l ++ [y]) = stepM x (stM x l) y := by
  unfold stM
  rw [List.foldl_append]
  rfl
def finM (c : Bool × List MAdv) (x : MAdv) : List MAdv := if c.1 = true then c.2 else c.2 ++ [x]
theorem stM_true (x : MAdv) : ∀ (l out : List MAdv), l.foldl (stepM x) (true, out) = (true, out ++ l.filter (notM x))
  | [], out => by simp
  | y :: r, out => by
    rw [List.foldl_cons]
    by_cases hy : y.a.o = x.a.o
    · have e : stepM x (true, out) y = (true, out) := by unfold stepM; simp [hy]
      rw [e, stM_true x r, List.filter_cons_of_neg (by simp [notM, hy])]
    · have e : stepM x (true, out) y = (true, out ++ [y]) := by unfold stepM; simp [hy]
      rw [e, stM_true x r, List.filter_cons_of_pos (by simp [notM, hy])]
      simp
theorem stM_fin (x : MAdv) : ∀ (l out : List MAdv), l.Pairwise (fun p q => p.a.o < q.a.o) → finM (l.foldl (stepM x) (false, out)) x = out ++ insS ltI (fun m : MAdv => m.a.o) x (l.filter (notM x))
  | [], out, _ => by simp [finM, insS]
  | y :: r, out, hp => by
    rw [List.pairwise_cons] at hp
    rw [List.foldl_cons]
    by_cases hle : x.a.o ≤ y.a.o
    · by_cases hy : y.a.o = x.a.o
      · have e : stepM x (false, out) y = (true, out ++ [x]) := by unfold stepM; simp [hy]
        rw [e, stM_true, List.filter_cons_of_neg (by simp [notM, hy])]
        rw [insS_first fun z hz => by
          have := hp.1 z (List.mem_filter.1 hz).1
          show x.a.o < z.a.o
          omega]
        simp [finM]
      · have e : stepM x (false, out) y = (true, out ++ [x] ++ [y]) := by unfold stepM; simp [hy, hle]
        rw [e, stM_true, List.filter_cons_of_pos (by simp [notM, hy])]
        rw [insS_first fun z hz => by
          show x.a.o < z.a.o
          rcases List.mem_cons.1 hz with rfl | hz
          · omega
          · have := hp.1 z (List.mem_filter.1 hz).1
            omega]
        simp [finM]
    · have hy : y.a.o ≠ x.a.o := by omega
      have e : stepM x (false, out) y = (false, out ++ [y]) := by unfold stepM; simp [hy, hle]
      rw [e, stM_fin x r _ hp.2, List.filter_cons_of_pos (by simp [notM, hy])]
      have e2 : insS ltI (fun m : MAdv => m.a.o) x (y :: r.filter (notM x)) = y :: insS ltI (fun m : MAdv => m.a.o) x (r.filter (notM x)) := by
        conv => lhs; unfold insS
        rw [if_neg (by show ¬ x.a.o < y.a.o; omega)]
      rw [e2]
      simp
theorem stM_len (x : MAdv) : ∀ (l : List MAdv) (c : Bool × List MAdv), (l.foldl (stepM x) c).2.length ≤ c.2.length + 2 * l.length
  | [], c => by simp
  | y :: r, c => by
    rw [List.foldl_cons]
    refine Nat.le_trans (stM_len x r _) ?_
    have : (stepM x c y).2.length ≤ c.2.length + 2 := by
      unfold stepM
      simp only
      split <;> split <;> simp <;> omega
    rw [List.length_cons]
    omega

def otherA (a : AdvT) (y : AdvT) : Bool := decide (y.o ≠ a.o)
/-- an advert is met, by the document -/
def learnD (D : List AdvT) (a : AdvT) : (Bool × Int) × List AdvT :=
  if goodA a = false then ((false, 129), D)
  else if ((D.find? fun x => decide (x.o = a.o)).any fun y => decide (a.v ≤ y.v)) = true then ((false, 0), D)
  else ((true, 0), insS ltI (fun m : AdvT => m.o) a (D.filter (otherA a)))

variable {h h0 : Heap} {R : List Asn}

set_option maxHeartbeats 4000000 in
theorem rLearn_spec {r : Nat} {D : List AdvT} {a : AdvT} {sf sl : Slc} (hs : sat h (docA r D :: ownS eS 1 sf a.fs :: ownS encK 6 sl a.ls :: R)) (hz : szA a) (hDl : D.length ≤ 100) (hasc : D.Pairwise fun p q => p.o < q.o) {Q : Value → Heap → Prop}
    (hq : ∀ h', sat h' (docA r (learnD D a).2 :: R) → Q (.tuple #[.bool (learnD D a).1.1, .int .i64 (learnD D a).1.2]) h') :
    HCalls Tryd.prog 32 #[.pointer (some ⟨r, 0, none⟩), vA a sf sl] h Q := by
  refine ref21_Learn_calls (some ⟨r, 0, none⟩) (a.o, a.v, sf, sl, ()) h Q ?_
  unfold ref21_Learn
  unfold learnD at hq
  refine new_cells hs fun x1 h1 hs1 => ?_
  refine loadN_cells (ts := [.int .i64, .int .i64, .slc, .slc]) (a.o, a.v, sf, sl, ()) hs1 rfl ?_
  refine bind_call1 (rGood_spec (hs1.re [2, 3, 0, 1]) hz fun h2 hs2' => ⟨_, rfl, ?_⟩)
  have hs2 : sat h2 (cells x1 (cA a sf sl).toArray :: docA r D :: ownS eS 1 sf a.fs :: ownS encK 6 sl a.ls :: R) := hs2'.re [2, 3, 0, 1]
  clear hs2' hs1 hs
  (try dsimp only); rw [HM.ite_apply]
  cases hg : goodA a with
  | false =>
    rw [hg, if_pos rfl] at hq
    rw [if_pos (by rfl)]
    exact hq _ ((hs2.re [0, 2, 3, 1]).drop.drop.drop)
  | true =>
  rw [hg, if_neg (by simp)] at hq
  rw [if_neg (by simp)]
  obtain ⟨S, ms, hms, hs3⟩ := docA_iff.1 hs2.p1
  have hml : ms.length = D.length := by rw [← hms, List.length_map]
  obtain ⟨x, hx⟩ : ∃ x : MAdv, x = ⟨a, sf, sl⟩ := ⟨_, rfl⟩
  have hs4 : sat h2 (cells x1 (encM x).toArray :: cells r #[.slice S.a S.len S.cap] :: ownS encM 4 S ms :: bigA ownM ms :: ownM x :: R) := by
    subst hx
    exact ((ownM_iff (x := ⟨a, sf, sl⟩)).2 (hs3.re [4, 5, 0, 1, 2, 3])).re [4, 1, 2, 3, 0]
  have hxo : x.a = a := by rw [hx]
  have hxf : x.f = sf := by rw [hx]
  have hxk : x.k = sl := by rw [hx]
  clear hs3 hs2
  refine ⟨a.o, by rw [add_own, ← hxo]; exact hs4.cell 0, ?_⟩
  refine bind_callN (rOf_raw (o := a.o) (hs4.re [1, 2, 0]) (by omega) fun h5 hs5' => ⟨(((ms.find? fun x => decide (x.a.o = a.o)).getD zMA).t, (ms.find? fun x => decide (x.a.o = a.o)).isSome, ()), rfl, ?_⟩)
  have hs5 := hs5'.re [2, 0, 1]
  clear hs5' hs4
  have hfd : (D.find? fun x => decide (x.o = a.o)) = (ms.find? fun x => decide (x.a.o = a.o)).map (·.a) := by
    rw [← hms, List.find?_map]
    rfl
  rw [hfd] at hq
  generalize (ms.find? fun x => decide (x.a.o = a.o)) = fo at hq
  refine new_cells hs5 fun x6 h6 hs6 => ?_
  (try dsimp only); rw [HM.bind_apply]
  refine storeN_all' hs6 rfl rfl fun h7 hs7 => ?_
  refine bind_cut (fun z h' => h' = h7 ∧ z.1 = ((fo.map (·.a)).any fun y => decide (a.v ≤ y.v))) ?_ ?_
  · (try dsimp only); rw [HM.ite_apply]
    cases fo with
    | none => rw [if_neg (by simp)]; exact ⟨rfl, rfl⟩
    | some y =>
      rw [if_pos (by rfl)]
      refine ⟨y.a.v, by rw [add_own]; exact hs7.cell 1, a.v, by rw [add_own, ← hxo]; exact hs7.p1.cell 1, rfl, rfl⟩
  rintro ⟨z, ⟨⟩⟩ h8 ⟨rfl, hzz⟩
  simp only at hzz
  subst hzz
  (try dsimp only); rw [HM.ite_apply]
  by_cases hc : ((fo.map (·.a)).any fun y => decide (a.v ≤ y.v)) = true
  · rw [if_pos hc] at hq
    rw [if_pos hc]
    exact hq _ (docA_iff.2 ⟨S, ms, hms, (hs7.re [0, 1, 5, 2, 3, 4]).drop.drop.drop⟩)
  rw [if_neg hc] at hq
  rw [if_neg hc]
  have hs8 := hs7.drop
  clear hs7 hs6 hs5 hfd
  have hsl := hs8.p2.own_len
  (try dsimp only); rw [HM.bind_apply]
  refine loop_gx (γ := Nat) (hb := fun s => by
      repeat' with_reducible first
        | refine @mono_bind _ _ _ _ ?_ (fun _ => ?_)
        | refine @mono_ite _ _ _ _ ?_ ?_
      all_goals infer_instance)
    (fun g c h' => c.2.2.1 = (((ms.length - g : Nat)) : Int) ∧ g ≤ ms.length ∧ c.1 = (stM x (ms.take (ms.length - g))).1 ∧
      sat h' (ownS encM 4 c.2.1 (stM x (ms.take (ms.length - g))).2 :: cells x1 (encM x).toArray :: cells r #[.slice S.a S.len S.cap] :: ownS encM 4 S ms :: bigA ownM ms :: ownM x :: R)) (fun g => g) ms.length
    ⟨by simp, Nat.le_refl _, by simp [stM], by
      rw [Nat.sub_self]
      exact ownS_nil hs8⟩ ?_
  clear hs8
  rintro g ⟨pb, out, c, ⟨⟩⟩ h9 ⟨hc', hg', hpb, hs9⟩
  simp only at hc' hs9 hpb
  subst hc'
  subst hpb
  have hsm : (stM x (ms.take (ms.length - g))).2.length ≤ 400 := by
    have := stM_len x (ms.take (ms.length - g)) (false, [])
    unfold stM
    rw [List.length_take] at this
    simp only [List.length_nil] at this
    omega
  refine ⟨_, rfl, S, by rw [add_own]; exact hs9.p2.cell 0, ?_⟩
  (try dsimp only); rw [HM.ite_apply]
  by_cases hi : ms.length - g < ms.length
  · rw [if_pos (by simp only [decide_eq_true_eq, hsl]; omega)]
    obtain ⟨y, hy⟩ : ∃ y, ms[ms.length - g]? = some y := ⟨_, List.getElem?_eq_getElem hi⟩
    have hw : IntKind.wrap .i64 ((((ms.length - g : Nat)) : Int) + 1) = ((ms.length - (g - 1) : Nat) : Int) := by rw [wrap_id (by omega) (by omega)]; omega
    have htake : ms.take (ms.length - (g - 1)) = ms.take (ms.length - g) ++ [y] := by
      rw [show ms.length - (g - 1) = ms.length - g + 1 by omega, List.take_add_one, hy]
      rfl
    have hstep := stM_snoc x (ms.take (ms.length - g)) y
    rw [← htake] at hstep
    generalize stM x (ms.take (ms.length - g)) = st at hs9 hstep hsm ⊢
    refine ⟨_, rfl, S, by rw [add_own]; exact hs9.p2.cell 0, ?_⟩
    (try dsimp only); rw [HM.bind_apply]
    refine idx_row (hs9.p3.own_row eM_len) hy fun p hp => ?_
    (try dsimp only); rw [HM.bind_apply]
    refine load_M hp ?_
    refine new_cells hs9 fun x18 h10 hs10' => ?_
    (try dsimp only); rw [HM.bind_apply]
    refine storeN_all' hs10' rfl rfl fun h11 hs11' => ?_
    have hs11 : sat h11 (cells x18 (encM y).toArray :: ownS encM 4 out st.2 :: cells x1 (encM x).toArray :: cells r #[.slice S.a S.len S.cap] :: ownS encM 4 S ms :: bigA ownM ms :: ownM x :: R) := hs11'
    clear hs11' hs10' hs9
    refine bind_cut (fun z h' => h' = h11 ∧ z.1 = decide (st.1 = false ∧ x.a.o ≤ y.a.o)) ?_ ?_
    · (try dsimp only); rw [HM.ite_apply]
      cases hst : st.1 with
      | true => rw [if_neg (by simp)]; exact ⟨rfl, by simp⟩
      | false =>
        rw [if_pos (by rfl)]
        refine ⟨x.a.o, by rw [add_own]; exact hs11.p2.cell 0, y.a.o, by rw [add_own]; exact hs11.cell 0, rfl, ?_⟩
        simp
    rintro ⟨z, ⟨⟩⟩ h12 ⟨rfl, hz1⟩
    simp only at hz1
    subst hz1
    refine bind_cut (fun z h' => ∃ c1 : Bool × List MAdv, c1 = (if st.1 = false ∧ x.a.o ≤ y.a.o then (true, st.2 ++ [x]) else st) ∧ z.2.1 = c1.1 ∧ c1.2.length ≤ 500 ∧ sat h' (cells x18 (encM y).toArray :: ownS encM 4 z.1 c1.2 :: cells x1 (encM x).toArray :: cells r #[.slice S.a S.len S.cap] :: ownS encM 4 S ms :: bigA ownM ms :: ownM x :: R)) ?_ ?_
    · (try dsimp only); rw [HM.ite_apply]
      by_cases hcc : st.1 = false ∧ x.a.o ≤ y.a.o
      · rw [if_pos (by simpa using hcc), if_pos hcc]
        refine loadN_cells (ts := [.int .i64, .int .i64, .slc, .slc]) x.t hs11.p2 rfl ?_
        refine new_cells hs11 fun x24 h13 hs13 => ?_
        (try dsimp only); rw [HM.bind_apply]
        refine app_one (enc := encM) (x := x) eM_len eM_cell rfl (hs13.re [0, 2, 1]) (by decide) (by decide) (by omega) fun s' h14 hs14 => ?_
        exact ⟨(true, st.2 ++ [x]), rfl, rfl, by simp; omega, hs14.p1⟩
      · rw [if_neg (by simpa using hcc), if_neg hcc]
        exact ⟨st, rfl, rfl, by omega, hs11⟩
    rintro ⟨z1, z2, ⟨⟩⟩ h13 ⟨c1, hc1, hz2, hc1l, hs13⟩
    simp only at hz2 hs13
    subst hz2
    have hstep' : stM x (ms.take (ms.length - (g - 1))) = (if y.a.o = x.a.o then c1 else (c1.1, c1.2 ++ [y])) := by
      rw [hstep]
      unfold stepM
      rw [hc1]
    refine ⟨y.a.o, by rw [add_own]; exact hs13.cell 0, x.a.o, by rw [add_own]; exact hs13.p2.cell 0, ?_⟩
    refine bind_cut (fun z h' => sat h' (ownS encM 4 z.1 (stM x (ms.take (ms.length - (g - 1)))).2 :: cells x1 (encM x).toArray :: cells r #[.slice S.a S.len S.cap] :: ownS encM 4 S ms :: bigA ownM ms :: ownM x :: R)) ?_ ?_
    · rw [hstep']
      (try dsimp only); rw [HM.ite_apply]
      by_cases hyx : y.a.o = x.a.o
      · rw [if_neg (by simpa using hyx), if_pos hyx]
        exact hs13.drop
      · rw [if_pos (by simpa using hyx), if_neg hyx]
        refine loadN_cells (ts := [.int .i64, .int .i64, .slc, .slc]) y.t hs13 rfl ?_
        refine new_cells hs13 fun x30 h14 hs14 => ?_
        (try dsimp only); rw [HM.bind_apply]
        refine app_one (enc := encM) (x := y) eM_len eM_cell rfl (hs14.re [0, 2, 1]) (by decide) (by decide) (by omega) fun s' h15 hs15 => ?_
        exact hs15.p1.drop
    rintro ⟨z3, ⟨⟩⟩ h14 hs14
    simp only at hs14
    simp only [Sum.elim_inl, Sum.elim_inr, HM.pure_apply]
    refine .mk (g - 1) (by omega) ⟨by simp only [hw], by omega, ?_, hs14⟩
    simp only [hstep']
    split <;> rfl
  · rw [if_neg (by simp only [decide_eq_true_eq, hsl]; omega)]
    rw [List.take_of_length_le (by omega)] at hs9 hsm ⊢
    simp only [Sum.elim_inl, Sum.elim_inr, HM.pure_apply]
    have hasc' : ms.Pairwise fun p q => p.a.o < q.a.o := by
      rw [← hms, List.pairwise_map] at hasc
      exact hasc
    have hfin := stM_fin x ms [] hasc'
    rw [List.nil_append] at hfin
    have hfin' : finM (stM x ms) x = insS ltI (fun m : MAdv => m.a.o) x (ms.filter (notM x)) := hfin
    generalize stM x ms = st at hs9 hsm hfin' ⊢
    refine bind_cut (fun z h' => sat h' (ownS encM 4 z.1 (insS ltI (fun m : MAdv => m.a.o) x (ms.filter (notM x))) :: cells x1 (encM x).toArray :: cells r #[.slice S.a S.len S.cap] :: ownS encM 4 S ms :: bigA ownM ms :: ownM x :: R)) ?_ ?_
    · rw [← hfin']
      unfold finM
      (try dsimp only); rw [HM.ite_apply]
      cases hst : st.1 with
      | true => rw [if_neg (by simp), if_pos rfl]; exact hs9
      | false =>
        rw [if_pos (by rfl), if_neg (by simp)]
        refine loadN_cells (ts := [.int .i64, .int .i64, .slc, .slc]) x.t hs9.p1 rfl ?_
        refine new_cells hs9 fun x34 h14 hs14 => ?_
        (try dsimp only); rw [HM.bind_apply]
        exact app_one (enc := encM) (x := x) eM_len eM_cell rfl hs14 (by decide) (by decide) (by omega) fun s' h15 hs15 => hs15
    rintro ⟨z3, ⟨⟩⟩ h14 hs14
    simp only at hs14
    refine ⟨_, rfl, ?_⟩
    (try dsimp only); rw [HM.bind_apply, add_own]
    refine store1_cells hs14.p2 (by simp) rfl fun h15 hs15 => ?_
    have hb1 := bigA_filter (f := ownM) (notM x) hs15.p4
    have hb2 := (bigA_cons (f := ownM) (x := x) (l := ms.filter (notM x))).2 (hb1.re [5, 0, 1, 2, 3, 4])
    have hb3 := bigA_perm (insS_perm ltI (fun m : MAdv => m.a.o) x (ms.filter (notM x))).symm hb2
    have hb4 := hb3.re [3, 4, 1, 2, 0]
    refine hq h15 (docA_iff.2 ⟨z3, insS ltI (fun m : MAdv => m.a.o) x (ms.filter (notM x)), ?_, hb4.drop.drop⟩)
    rw [insS_map ltI (fun m : MAdv => m.a.o) (fun m : AdvT => m.o) (·.a) (fun _ => rfl), hxo, ← hms, List.filter_map]
    congr 1
    congr 1
    refine List.filter_congr fun y _ => ?_
    simp [notM, otherA, hxo]

end Go.Proofs.YtmdagnoknmfhcaaDoor
