/-
  Cbas: contracts: the program's base of adverts (New, Learn, Of, List, clone).
-/
import Derived.Test.YtmdagnoknmfhcaaDoorCmad
import Derived.Test.YtmdagnoknmfhcaaDoorKia
import Derived.Test.YtmdagnoknmfhcaaDoorLrel
import Derived.Test.YtmdagnoknmfhcaaDoorHv
namespace Go.Proofs.YtmdagnoknmfhcaaDoor
open Go.H Go.Proofs Go.Lib
set_option linter.unusedSimpArgs false
set_option linter.unusedVariables false
set_option synthInstance.maxSize 100000
set_option synthInstance.maxHeartbeats 400000
set_option maxRecDepth 100000

/-! ### maps and their images; many side by side -/

section
variable {K V W : Type} [DecidableEq K]
theorem mget_map (f : V → W) (l : List (K × V)) (k : K) : mget (l.map fun e => (e.1, f e.2)) k = (mget l k).map f := by
  induction l with
  | nil => rfl
  | cons p l ih =>
    obtain ⟨a, b⟩ := p
    rw [List.map_cons, mget_cons, mget_cons, ih]
    split <;> rfl
theorem mset_map (f : V → W) (l : List (K × V)) (k : K) (v : V) : (mset l k v).map (fun e => (e.1, f e.2)) = mset (l.map fun e => (e.1, f e.2)) k (f v) := by
  induction l with
  | nil => rfl
  | cons p l ih =>
    obtain ⟨a, b⟩ := p
    rw [List.map_cons]
    unfold mset
    split
    · rfl
    · rw [List.map_cons, ih]
theorem bigA_mset {f : K × V → Asn} {h : Heap} {k : K} {v : V} : ∀ {l : List (K × V)} {R : List Asn}, sat h (f (k, v) :: bigA f l :: R) → sat h (bigA f (mset l k v) :: R)
  | [], R, hs => bigA_cons.2 hs
  | (a, b) :: l, R, hs => by
    unfold mset
    have h1 := bigA_cons.1 hs.p1
    split
    · rename_i e
      exact bigA_cons.2 ((h1.re [2, 1, 0]).re [0, 1, 2] |> fun z => (z.re [2, 0, 1]).drop)
    · refine bigA_cons.2 ?_
      have h2 := bigA_mset (l := l) (R := f (a, b) :: R) (h1.re [2, 1, 0])
      exact h2.p1
end

/-! ### adverts in memory -/

structure MAdv where
  a : AdvT
  f : Slc
  k : Slc

abbrev kA : Kind := .agg [.int .i64, .int .i64, .slc, .slc]
def MAdv.t (x : MAdv) : kA.ty := (x.a.o, x.a.v, x.f, x.k, ())
def ownM (x : MAdv) : Asn := star (ownS eS 1 x.f x.a.fs) (ownS encK 6 x.k x.a.ls)
abbrev encM (x : MAdv) : List Value := [.int .i64 x.a.o, .int .i64 x.a.v, .slice x.f.a x.f.len x.f.cap, .slice x.k.a x.k.len x.k.cap]
theorem eM_len : ∀ x : MAdv, (encM x).length = 4 := fun _ => rfl
theorem eM_cell : ∀ x : MAdv, ∀ v ∈ encM x, v.oneCell' = true := fun x v hv => by
  simp only [encM, List.mem_cons, List.not_mem_nil, or_false] at hv
  rcases hv with rfl | rfl | rfl | rfl <;> rfl
def zAdv : AdvT := ⟨0, 0, [], []⟩
def zMA : MAdv := ⟨zAdv, ⟨none, 0, 0⟩, ⟨none, 0, 0⟩⟩
abbrev eKA : Int → Value := fun n => .int .i64 n
theorem kKA : KeyLaw (Instr.sameNow (.int .i64)) eKA := key_int .i64
theorem inj_eKA : ∀ a b : Int, eKA a = eKA b → a = b := fun a b h => by cases h; rfl

variable {h h0 : Heap} {R : List Asn}

theorem ownM_iff {x : MAdv} : sat h (ownM x :: R) ↔ sat h (ownS eS 1 x.f x.a.fs :: ownS encK 6 x.k x.a.ls :: R) := sat.star_iff
theorem ownM_z (hs : sat h R) : sat h (ownM zMA :: R) := ownM_iff.2 (ownS_nil (ownS_nil hs))

/-- a base: what is known, by owner -/
def baseA (b : Nat) (K : List (Int × AdvT)) : Asn := exA fun x : Nat × List (Int × MAdv) => star (pr ((x.2.map fun e => (e.1, e.2.a)) = K)) (star (cells b #[.map (some x.1)]) (star (mapA eKA (Kind.val kA) x.1 (x.2.map fun e => (e.1, e.2.t))) (bigA (fun e => ownM e.2) x.2)))
theorem baseA_iff {b : Nat} {K : List (Int × AdvT)} : sat h (baseA b K :: R) ↔ ∃ (m : Nat) (L : List (Int × MAdv)), (L.map fun e => (e.1, e.2.a)) = K ∧ sat h (cells b #[.map (some m)] :: mapA eKA (Kind.val kA) m (L.map fun e => (e.1, e.2.t)) :: bigA (fun e => ownM e.2) L :: R) := by
  unfold baseA
  rw [sat.ex_iff]
  constructor
  · rintro ⟨⟨m, L⟩, hs⟩
    rw [sat.star_iff, sat.pr_iff, sat.star_iff] at hs
    exact ⟨m, L, hs.1, (sat.star_iff.1 hs.2.p1).re [2, 0, 1]⟩
  · rintro ⟨m, L, hL, hs⟩
    refine ⟨(m, L), ?_⟩
    rw [sat.star_iff, sat.pr_iff, sat.star_iff]
    exact ⟨hL, (sat.star_iff.2 (hs.re [1, 2, 0])).p1⟩

theorem baseNew_spec (hs : sat h R) {Q : Value → Heap → Prop} (hq : ∀ b h', sat h' (baseA b [] :: R) → Q (.pointer (some ⟨b, 0, none⟩)) h') : HCalls Tryd.prog 29 #[] h Q := by
  refine advert_New_calls h Q ?_
  unfold advert_New
  (try dsimp only); rw [HM.bind_apply]
  refine new_map (ek := eKA) (ev := Kind.val kA) hs fun m h1 hs1 => ?_
  refine new_cells hs1 fun b h2 hs2 => ?_
  exact hq b h2 (baseA_iff.2 ⟨m, [], rfl, ((bigA_nil (f := fun e : Int × MAdv => ownM e.2)).2 hs2).re [1, 2, 0]⟩)

theorem CloneS_spec {s : Slc} {xs : List ByteArray} (hs : sat h (ownS eS 1 s xs :: R)) (hb : xs.length ≤ 1000) {Q : Value → Heap → Prop}
    (hq : ∀ h' s', sat h' (ownS eS 1 s' xs :: ownS eS 1 s xs :: R) → Q (.slice s'.a s'.len s'.cap) h') : HCalls Tryd.prog 94 #[.slice s.a s.len s.cap] h Q := by
  refine slices_Clone_string_calls s h Q ?_
  unfold slices_Clone_string
  (try dsimp only); rw [HM.ite_apply]
  cases ha : s.a with
  | none =>
    rw [if_pos (by rfl)]
    rcases ownS_cases hs with ⟨-, -, rfl, -⟩ | ⟨b, o, cs, ho, -⟩
    · exact hq h ⟨none, 0, 0⟩ (ownS_nil hs)
    · rw [ho.a] at ha; cases ha
  | some a =>
    rw [if_neg (by simp)]
    have hl := hs.own_len
    refine new_cells hs fun x h1 hs1 => ?_
    (try dsimp only); rw [HM.bind_apply, hl]
    refine append_own (ys := xs) eS_len eS_cell rfl (ownS_none (enc := eS) (size := 1) (a := some ⟨x, 0, none⟩) hs1) rfl ?_ (by decide) (by decide) (by simp only [List.length_nil]; omega) fun s' h2 hs2 => ?_
    · have := row_reads eS_len (hs1.p1.own_row eS_len) (by decide)
      rw [hl] at this
      exact by simpa [srcSlc, hl] using this
    · rw [List.nil_append] at hs2
      exact hq h2 s' (hs2.re [1, 0, 2]).drop
theorem CloneK_spec {s : Slc} {xs : List LinkT} (hs : sat h (ownS encK 6 s xs :: R)) (hb : xs.length ≤ 1000) {Q : Value → Heap → Prop}
    (hq : ∀ h' s', sat h' (ownS encK 6 s' xs :: ownS encK 6 s xs :: R) → Q (.slice s'.a s'.len s'.cap) h') : HCalls Tryd.prog 95 #[.slice s.a s.len s.cap] h Q := by
  refine slices_Clone_Link_calls s h Q ?_
  unfold slices_Clone_Link
  (try dsimp only); rw [HM.ite_apply]
  cases ha : s.a with
  | none =>
    rw [if_pos (by rfl)]
    rcases ownS_cases hs with ⟨-, -, rfl, -⟩ | ⟨b, o, cs, ho, -⟩
    · exact hq h ⟨none, 0, 0⟩ (ownS_nil hs)
    · rw [ho.a] at ha; cases ha
  | some a =>
    rw [if_neg (by simp)]
    have hl := hs.own_len
    refine new_cells hs fun x h1 hs1 => ?_
    (try dsimp only); rw [HM.bind_apply, hl]
    refine append_own (ys := xs) eK_len eK_cell rfl (ownS_none (enc := encK) (size := 6) (a := some ⟨x, 0, none⟩) hs1) rfl ?_ (by decide) (by decide) (by simp only [List.length_nil]; omega) fun s' h2 hs2 => ?_
    · have := row_reads eK_len (hs1.p1.own_row eK_len) (by decide)
      rw [hl] at this
      exact by simpa [srcSlc, hl] using this
    · rw [List.nil_append] at hs2
      exact hq h2 s' (hs2.re [1, 0, 2]).drop

/-- an advert of a size that may be -/
def okN (a : AdvT) : Prop := a.fs.length ≤ 1000 ∧ a.ls.length ≤ 1000
theorem good_okN {a : AdvT} (hg : goodA a = true) : okN a := by
  have G := good_facts hg
  have h1 := G.nf
  have h2 := G.nl
  exact ⟨by omega, by omega⟩
theorem zok : okN zAdv := ⟨Nat.zero_le _, Nat.zero_le _⟩

theorem clone_spec {x : MAdv} (hs : sat h (ownM x :: R)) (hb : okN x.a) {Q : Value → Heap → Prop}
    (hq : ∀ h' f k, sat h' (ownM ⟨x.a, f, k⟩ :: ownM x :: R) → Q (vA x.a f k) h') : HCalls Tryd.prog 63 #[vA x.a x.f x.k] h Q := by
  refine advert_Advert_clone_calls (x.a.o, x.a.v, x.f, x.k, ()) h Q ?_
  unfold advert_Advert_clone
  have hs := ownM_iff.1 hs
  refine new_cells hs fun x1 h1 hs1 => ?_
  refine new_cells hs1 fun x2 h2 hs2 => ?_
  refine ⟨x.f, by rw [add_own]; exact hs2.p1.cell 2, ?_⟩
  refine ⟨x.k, by rw [add_own]; exact hs2.p1.cell 3, ?_⟩
  refine bind_call1 (CloneS_spec (hs2.re [2, 3, 0, 1]) hb.1 fun h3 f hs3 => ⟨f, rfl, ?_⟩)
  have hs4 := hs3.re [4, 0, 1, 2, 3]
  refine ⟨x.k, by rw [add_own]; exact hs4.cell 3, rfl, ?_⟩
  refine bind_call1 (CloneK_spec (hs4.re [3, 0, 1, 2]) hb.2 fun h5 k hs5 => ⟨k, rfl, ?_⟩)
  (try dsimp only); rw [HM.bind_apply]
  refine store1_at (i := 2) (hs5.re [2, 0, 1]) rfl (by simp) rfl fun h6 hs6 => ?_
  (try dsimp only); rw [HM.bind_apply]
  refine store1_at (i := 3) hs6 rfl (by simp) rfl fun h7 hs7' => ?_
  have hs7 := (show sat h7 (cells x1 (cA x.a f k).toArray :: ownS encK 6 k x.a.ls :: ownS encK 6 x.k x.a.ls :: ownS eS 1 f x.a.fs :: ownS eS 1 x.f x.a.fs :: cells x2 #[.int .i64 0, .int .i64 0, .slice none 0 0, .slice none 0 0] :: R) from hs7')
  clear hs7' hs6 hs5 hs4 hs3 hs2 hs1
  refine loadN_cells (ts := [.int .i64, .int .i64, .slc, .slc]) (x.a.o, x.a.v, f, k, ()) hs7 rfl ?_
  (try dsimp only); rw [HM.bind_apply]
  refine storeN_all' hs7.p5 rfl rfl fun h8 hs8 => ?_
  refine loadN_cells (ts := [.int .i64, .int .i64, .slc, .slc]) (x.a.o, x.a.v, f, k, ()) hs8 rfl ?_
  have hs9 := hs8.drop.drop
  refine hq h8 f k (ownM_iff.2 ?_)
  have hs10 := (ownM_iff (x := x)).2 (hs9.re [3, 1, 0, 2])
  exact (hs10.re [2, 1, 0])

def getK (K : List (Int × AdvT)) (o : Int) : AdvT := (mget K o).getD zAdv
/-- an advert is met -/
def learnK (K : List (Int × AdvT)) (a : AdvT) : (Bool × Int) × List (Int × AdvT) :=
  if goodA a = false then ((false, 129), K)
  else if a.v ≤ (getK K a.o).v then ((false, 0), K)
  else ((true, 0), mset K a.o a)

theorem got_t (L : List (Int × MAdv)) (o : Int) : ((mget L o).map MAdv.t).getD (0, 0, ⟨none, 0, 0⟩, ⟨none, 0, 0⟩, ()) = ((mget L o).getD zMA).t := by
  cases mget L o <;> rfl
theorem got_a (L : List (Int × MAdv)) (o : Int) : getK (L.map fun e => (e.1, e.2.a)) o = ((mget L o).getD zMA).a := by
  unfold getK
  rw [mget_map]
  cases mget L o <;> rfl

theorem Learn_spec {b : Nat} {K : List (Int × AdvT)} {a : AdvT} {sf sl : Slc} (hs : sat h (baseA b K :: ownS eS 1 sf a.fs :: ownS encK 6 sl a.ls :: old h0 :: R)) (ht : TP h0) (hz : szA a) {Q : Value → Heap → Prop}
    (hq : ∀ h', sat h' (baseA b (learnK K a).2 :: ownS eS 1 sf a.fs :: ownS encK 6 sl a.ls :: old h0 :: R) → Q (.tuple #[.bool (learnK K a).1.1, .int .u8 (learnK K a).1.2]) h') :
    HCalls Tryd.prog 30 #[.pointer (some ⟨b, 0, none⟩), vA a sf sl] h Q := by
  refine advert_Base_Learn_calls (some ⟨b, 0, none⟩) (a.o, a.v, sf, sl, ()) h Q ?_
  unfold advert_Base_Learn
  unfold learnK at hq
  refine new_cells hs fun x1 h1 hs1 => ?_
  (try dsimp only); rw [HM.ite_apply, if_neg (by simp)]
  refine loadN_cells (ts := [.int .i64, .int .i64, .slc, .slc]) (a.o, a.v, sf, sl, ()) hs1 rfl ?_
  refine bind_call1 (good_spec (hs1.re [2, 3, 4, 0, 1]) ht hz fun h2 hs2' => ⟨_, rfl, ?_⟩)
  have hs2 : sat h2 (cells x1 (cA a sf sl).toArray :: baseA b K :: ownS eS 1 sf a.fs :: ownS encK 6 sl a.ls :: old h0 :: R) := hs2'.re [3, 4, 0, 1, 2]
  clear hs2' hs1 hs
  (try dsimp only); rw [HM.ite_apply]
  cases hg : goodA a with
  | false =>
    rw [hg, if_pos rfl] at hq
    rw [if_pos (by rfl)]
    exact hq _ hs2.drop
  | true =>
  rw [hg, if_neg (by simp)] at hq
  rw [if_neg (by simp)]
  obtain ⟨m, L, hL, hs3⟩ := baseA_iff.1 hs2.p1
  refine ⟨_, rfl, some m, by rw [add_own]; exact hs3.cell 0, ?_⟩
  refine ⟨a.o, by rw [add_own]; exact hs3.p3.cell 0, ?_⟩
  (try dsimp only); rw [HM.bind_apply]
  refine lookup_map kKA (kind := kA) (z := (0, 0, ⟨none, 0, 0⟩, ⟨none, 0, 0⟩, ())) rfl hs3.p1 ?_
  rw [mget_map MAdv.t, got_t]
  refine ⟨a.v, by rw [add_own]; exact hs3.p3.cell 1, ?_⟩
  (try dsimp only); rw [HM.ite_apply]
  have hgk : getK K a.o = ((mget L a.o).getD zMA).a := by rw [← hL]; exact got_a L a.o
  rw [hgk] at hq
  by_cases hv : a.v ≤ ((mget L a.o).getD zMA).a.v
  · rw [if_pos hv] at hq
    rw [if_pos (by exact decide_eq_true hv)]
    exact hq _ (baseA_iff.2 ⟨m, L, hL, (hs3.re [3, 0, 1, 2]).drop⟩)
  rw [if_neg hv] at hq
  rw [if_neg (by intro e; exact hv (of_decide_eq_true e))]
  refine ⟨_, rfl, some m, by rw [add_own]; exact hs3.cell 0, ?_⟩
  refine ⟨a.o, by rw [add_own]; exact hs3.p3.cell 0, ?_⟩
  refine loadN_cells (ts := [.int .i64, .int .i64, .slc, .slc]) (a.o, a.v, sf, sl, ()) hs3.p3 rfl ?_
  have hs4 := (ownM_iff (x := ⟨a, sf, sl⟩)).2 (hs3.re [4, 5, 0, 1, 2, 3])
  refine bind_call1 (clone_spec (x := ⟨a, sf, sl⟩) hs4 (good_okN hg) fun h5 f k hs5 => ⟨(a.o, a.v, f, k, ()), rfl, ?_⟩)
  refine ⟨a.o, by rw [add_own]; exact hs5.p5.cell 0, rfl, ?_⟩
  refine ⟨some m, by rw [add_own]; exact hs5.p2.cell 0, rfl, ?_⟩
  (try dsimp only); rw [HM.bind_apply]
  refine set_map kKA inj_eKA (ev := Kind.val kA) (x := (⟨a, f, k⟩ : MAdv).t) (hs5.re [3, 0, 1, 2]) fun h6 hs6 => ?_
  rw [← mset_map MAdv.t L a.o ⟨a, f, k⟩] at hs6
  have hs7 := bigA_mset (f := fun e : Int × MAdv => ownM e.2) (k := a.o) (v := ⟨a, f, k⟩) (hs6.re [1, 4, 0, 2, 3])
  refine hq h6 (baseA_iff.2 ⟨m, mset L a.o ⟨a, f, k⟩, by rw [mset_map MAdv.a, hL], ?_⟩)
  have hs8 := hs7.re [3, 1, 0, 2, 4]
  have hs9 := ownM_iff.1 (hs8.re [3, 0, 1, 2])
  exact (hs9.re [5, 2, 3, 4, 0, 1]).drop

theorem Of_spec {b : Nat} {K : List (Int × AdvT)} {o : Int} (hs : sat h (baseA b K :: R)) (hK : ∀ e ∈ K, goodA e.2 = true) {Q : Value → Heap → Prop}
    (hq : ∀ h' f k, sat h' (ownM ⟨getK K o, f, k⟩ :: baseA b K :: R) → Q (.tuple #[vA (getK K o) f k, .bool (mget K o).isSome]) h') :
    HCalls Tryd.prog 33 #[.pointer (some ⟨b, 0, none⟩), .int .i64 o] h Q := by
  refine advert_Base_Of_calls (some ⟨b, 0, none⟩) o h Q ?_
  unfold advert_Base_Of
  refine new_cells hs fun x1 h1 hs1 => ?_
  (try dsimp only); rw [HM.ite_apply, if_neg (by simp)]
  obtain ⟨m, L, hL, hs2⟩ := baseA_iff.1 hs1.p1
  refine ⟨_, rfl, some m, by rw [add_own]; exact hs2.cell 0, ?_⟩
  (try dsimp only); rw [HM.bind_apply]
  refine lookup_map kKA (kind := kA) (z := (0, 0, ⟨none, 0, 0⟩, ⟨none, 0, 0⟩, ())) rfl hs2.p1 ?_
  rw [mget_map MAdv.t, got_t]
  have hgk : getK K o = ((mget L o).getD zMA).a := by rw [← hL]; exact got_a L o
  have hsome : (mget K o).isSome = (mget L o).isSome := by rw [← hL, mget_map MAdv.a, Option.isSome_map]
  rw [hgk, hsome] at hq
  rw [Option.isSome_map]
  have hok : okN ((mget L o).getD zMA).a := by
    cases hml : mget L o with
    | none => exact zok
    | some x =>
      have : (o, x.a) ∈ K := by rw [← hL]; exact List.mem_map_of_mem (f := fun e : Int × MAdv => (e.1, e.2.a)) (mget_mem hml)
      exact good_okN (hK _ this)
  -- the entry's slices, or none
  have hex : ∃ R1, sat h1 (ownM ((mget L o).getD zMA) :: R1) ∧ ∀ {h'} {A : List Asn}, sat h' (A ++ ownM ((mget L o).getD zMA) :: R1) → sat h' (A ++ cells x1 #[.int .i64 0, .int .i64 0, .slice none 0 0, .slice none 0 0] :: baseA b K :: R) := by
    cases hml : mget L o with
    | none =>
      refine ⟨cells x1 #[.int .i64 0, .int .i64 0, .slice none 0 0, .slice none 0 0] :: baseA b K :: R, ownM_z ((baseA_iff.2 ⟨m, L, hL, hs2⟩).p1), fun {h' A} hh => ?_⟩
      have := (sat.perm (L' := ownM zMA :: (A ++ cells x1 #[.int .i64 0, .int .i64 0, .slice none 0 0, .slice none 0 0] :: baseA b K :: R)) (by simp only [Option.getD_none]; exact List.perm_middle) hh)
      exact this.drop
    | some x =>
      obtain ⟨l1, l2, he⟩ := List.append_of_mem (mget_mem hml)
      have hp := hs2.re [2, 0, 1]
      rw [he] at hp
      have hp2 := bigA_pick.1 hp
      refine ⟨_, hp2, fun {h' A} hh => ?_⟩
      have h3 := sat.perm (L' := ownM x :: bigA (fun e => ownM e.2) (l1 ++ l2) :: cells b #[.map (some m)] :: mapA eKA (Kind.val kA) m (L.map fun e => (e.1, e.2.t)) :: (A ++ cells x1 #[.int .i64 0, .int .i64 0, .slice none 0 0, .slice none 0 0] :: R)) ?_ hh
      · have h4 := (bigA_pick (f := fun e : Int × MAdv => ownM e.2) (x := (o, x))).2 h3
        rw [← he] at h4
        have h5 := (baseA_iff (R := A ++ cells x1 #[.int .i64 0, .int .i64 0, .slice none 0 0, .slice none 0 0] :: R)).2 ⟨m, L, hL, h4.re [1, 2, 0]⟩
        refine sat.perm ?_ h5
        have hperm := (List.perm_middle (l₁ := A ++ [cells x1 #[.int .i64 0, .int .i64 0, .slice none 0 0, .slice none 0 0]]) (l₂ := R) (a := baseA b K)).symm
        simpa only [List.append_assoc, List.cons_append, List.nil_append] using hperm
      · simp only [Option.getD_some, he]
        refine (List.perm_middle).trans (List.Perm.cons _ ?_)
        refine (List.perm_middle).trans (List.Perm.cons _ ?_)
        refine (List.perm_middle).trans (List.Perm.cons _ ?_)
        exact (List.perm_middle)
  obtain ⟨R1, hs3, back⟩ := hex
  generalize (mget L o).getD zMA = x at hs3 hq hok back
  refine new_cells hs3 fun x6 h4 hs4' => ?_
  (try dsimp only); rw [HM.bind_apply]
  refine storeN_all' hs4' rfl rfl fun h5 hs5 => ?_
  refine loadN_cells (ts := [.int .i64, .int .i64, .slc, .slc]) (x.a.o, x.a.v, x.f, x.k, ()) hs5 rfl ?_
  refine bind_call1 (clone_spec hs5.p1 hok fun h6 f k hs6 => ⟨(x.a.o, x.a.v, f, k, ()), rfl, ?_⟩)
  have hs7 := back (A := [ownM ⟨x.a, f, k⟩, cells x6 (encM x).toArray]) (hs6.re [0, 2, 1])
  (try dsimp only); rw [HM.bind_apply]
  refine storeN_all' (show sat _ (_ :: _) from hs7.re [2, 0, 1]) rfl rfl fun h8 hs8 => ?_
  refine loadN_cells (ts := [.int .i64, .int .i64, .slc, .slc]) (x.a.o, x.a.v, f, k, ()) hs8 rfl ?_
  exact hq h8 f k (hs8.drop.p1.drop)

end Go.Proofs.YtmdagnoknmfhcaaDoor
