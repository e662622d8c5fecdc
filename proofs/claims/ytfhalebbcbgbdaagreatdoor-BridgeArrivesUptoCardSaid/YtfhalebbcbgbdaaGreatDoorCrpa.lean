/-
  Crpa: contracts: the document reads a label from a text.
-/
import Derived.Test.YtfhalebbcbgbdaaGreatDoorCrep
import Derived.Test.YtfhalebbcbgbdaaGreatDoorCpar
namespace Go.Proofs.YtfhalebbcbgbdaaGreatDoor
open Go.H Go.Proofs Go.Lib
set_option linter.unusedSimpArgs false
set_option linter.unusedVariables false
set_option synthInstance.maxSize 100000
set_option synthInstance.maxHeartbeats 400000

abbrev cL (a b c d : Int) : Array Value := #[.int .i64 a, .int .i64 b, .int .i64 c, .int .i64 d]
abbrev vL (a b c d : Int) : Value := .agg (cL a b c d)


def parseT : Option LabT → (Int × Int × Int × Int × Unit) × Bool × Unit
  | some l => ((l.1, l.2.1, l.2.2.1, l.2.2.2, ()), true, ())
  | none => ((0, 0, 0, 0, ()), false, ())

theorem parseV_eq (o : Option LabT) : parseV o = .tuple (KTup.vals [.agg [.int .i64, .int .i64, .int .i64, .int .i64], .one .bool] (parseT o)).toArray := by
  cases o <;> rfl

set_option maxRecDepth 100000 in

section
variable {h : Heap} {R : List Asn}

abbrev arrN (l : List Nat) : Array Value := #[.int .i64 ((l.getD 0 0 : Nat) : Int), .int .i64 ((l.getD 1 0 : Nat) : Int), .int .i64 ((l.getD 2 0 : Nat) : Int), .int .i64 ((l.getD 3 0 : Nat) : Int)]

theorem arrN_set {l : List Nat} {n : Nat} (hl : l.length < 4) : (arrN l).setIfInBounds l.length (.int .i64 n) = arrN (l ++ [n]) := by
  match l, hl with
  | [], _ => rfl
  | [_], _ => rfl
  | [_, _], _ => rfl
  | [_, _, _], _ => rfl

/-- the place ahead of a number, if there may be one -/
def preR (first : Bool) (l : List UInt8) : Option (List UInt8) := if first then some l else match l with
  | c :: r => if c = 46 then some r else none
  | [] => none
theorem refGo_pre (k : Nat) (l : List UInt8) (acc : List Nat) : refGo (k + 1) l acc = match preR (decide (acc = [])) l with
    | none => none
    | some l1 => match numR l1 with
      | none => none
      | some (n, c) => refGo k (l1.drop c) (acc ++ [n]) := by
  by_cases h : acc = []
  · subst h
    simp only [refGo, preR, decide_true, if_true]
    cases hn : numR l with
    | none => simp [hn]
    | some q => simp [hn]
  · cases l with
    | nil => simp [refGo, preR, h]
    | cons c r =>
      by_cases hc : c = 46
      · simp only [refGo, preR, h, hc, decide_false, Bool.false_eq_true, if_false, if_true]
        cases hn : numR r with
        | none => simp [hn]
        | some q => simp [hn]
      · simp [refGo, preR, h, hc]

set_option maxRecDepth 100000 in
theorem rParse_spec (hs : sat h R) {s : ByteArray} (hsz : s.size ≤ 1048576) {Q : Value → Heap → Prop} (hq : ∀ h', sat h' R → Q (parseV (refR s)) h') :
    HCalls Tryz.prog 33 #[.string s] h Q := by
  refine ref16_Parse_calls s h Q ?_
  unfold ref16_Parse
  refine new_cells hs fun lb h1 hs1 => ?_
  refine new_cells hs1 fun nb h2 hs2 => ?_
  have hlen : s.data.toList.length = s.size := by
    rw [Array.length_toList]; rfl
  refine loop_gx (γ := List Nat × List UInt8) (hb := fun s => by
    repeat' with_reducible first
      | refine @mono_bind _ _ _ _ ?_ (fun _ => ?_)
      | refine @mono_ite _ _ _ _ ?_ ?_
      | refine @mono_req _ _ _ ?_
      | refine @mono_elim _ _ _ _ _ _ (fun _ => ?_) (fun _ => ?_)
    all_goals infer_instance)
    (fun g c h' => g.1.length ≤ 4 ∧ c.2.1 = (g.1.length : Int) ∧ g.2.length ≤ s.size ∧ c.1 = ((s.size - g.2.length : Nat) : Int) ∧ g.2 = s.data.toList.drop (s.size - g.2.length) ∧ refGo (4 - g.1.length) g.2 g.1 = refGo 4 s.data.toList [] ∧
      sat h' (cells nb (arrN g.1) :: cells lb (cL 0 0 0 0) :: R))
    (fun g => 4 - g.1.length) ([], s.data.toList) ⟨by simp, rfl, by simp only []; omega, by simp only []; rw [hlen, Nat.sub_self]; rfl, by simp only []; rw [hlen, Nat.sub_self]; rfl, rfl, hs2⟩ ?_
  rintro ⟨acc, rest⟩ ⟨c1, c2, ⟨⟩⟩ h3 ⟨ha, e2, hrl, e1, hrest, hgo, hs3⟩
  simp only at ha e2 hrl e1 hrest hgo hs3
  subst e1 e2
  (try dsimp only); rw [HM.ite_apply]
  by_cases hi : acc.length < 4
  · rw [if_pos (by simp only [decide_eq_true_eq]; omega)]
    rw [show 4 - acc.length = (3 - acc.length) + 1 by omega, refGo_pre] at hgo
    refine bind_cut (fun x h' => (∃ l1 : List UInt8, preR (decide (acc = [])) rest = some l1 ∧ l1.length ≤ s.size ∧ l1 = s.data.toList.drop (s.size - l1.length) ∧ x = .inl (((s.size - l1.length : Nat) : Int), ()) ∧ sat h' (cells nb (arrN acc) :: cells lb (cL 0 0 0 0) :: R)) ∨
      (preR (decide (acc = [])) rest = none ∧ x = .inr (.inr (.inr ((0, 0, 0, 0, ()), false, ()))) ∧ sat h' R)) ?_ ?_
    · (try dsimp only); rw [HM.ite_apply]
      have stop : ∀ {h' : Heap} {Q' : _ → Heap → Prop}, sat h' (cells nb (arrN acc) :: cells lb (cL 0 0 0 0) :: R) → (∀ h'', sat h'' R → Q' (.inr (.inr (.inr ((0, 0, 0, 0, ()), false, ())))) h'') →
          (HM.bind (α := Unit) (HM.storeN ⟨lb, 0, none⟩ [.int .i64 0, .int .i64 0, .int .i64 0, .int .i64 0]) fun (_ : Unit) =>
            HM.bind (α := Int × Int × Int × Int × Unit) (HM.loadN [.int .i64, .int .i64, .int .i64, .int .i64] ⟨lb, 0, none⟩) fun (x8 : Int × Int × Int × Int × Unit) =>
            (HM.pure (Sum.inr (Sum.inr (Sum.inr ((x8.1, x8.2.1, x8.2.2.1, x8.2.2.2.1, ()), false, ())))) : HM ((Int × Unit) ⊕ ((Int × Int × Unit) ⊕ ((Int × Int × Unit) ⊕ ((Int × Int × Int × Int × Unit) × Bool × Unit)))))) h' Q' := fun hs' hq' => by
        refine storeN_all' (hs'.re [1, 0]) rfl rfl fun h4 hs4 => ?_
        refine loadN_cells (ts := [.int .i64, .int .i64, .int .i64, .int .i64]) (0, 0, 0, 0, ()) hs4 rfl ?_
        exact hq' h4 hs4.drop.drop
      by_cases h0 : acc = []
      · rw [if_neg (by simp [h0])]
        exact .inl ⟨rest, by simp [preR, h0], hrl, hrest, rfl, hs3⟩
      · have hpos : 0 < acc.length := List.length_pos_iff.2 h0
        rw [if_pos (by simp only [decide_eq_true_eq]; omega)]
        refine bind_cut (fun x h' => h' = h3 ∧ x.1 = decide (preR false rest = none)) ?_ ?_
        · (try dsimp only); rw [HM.ite_apply]
          cases rest with
          | nil =>
            rw [if_pos (by simp)]
            exact ⟨rfl, rfl⟩
          | cons c r =>
            simp only [List.length_cons] at hrl hrest ⊢
            rw [if_neg (by simp only [decide_eq_true_eq]; omega)]
            have hb : s[(((s.size - (r.length + 1) : Nat) : Int)).toNat]? = some c := by
              rw [Int.toNat_natCast]
              refine byte_atR ?_
              have := congrArg (·[0]?) hrest
              simp only [List.getElem?_drop, List.getElem?_cons_zero, Nat.add_zero] at this
              exact this.symm
            refine ⟨c, by omega, hb, rfl, ?_⟩
            by_cases hc : c = 46
            · subst hc; rfl
            · have hcn : ¬ ((c.toNat : Int) = 46) := fun e => hc (UInt8.toNat_inj.1 (by show c.toNat = 46; omega))
              simp [preR, hc, hcn]
        rintro ⟨x, ⟨⟩⟩ h4 ⟨rfl, hx⟩
        simp only at hx
        subst hx
        (try dsimp only); rw [HM.ite_apply]
        by_cases hp : preR false rest = none
        · rw [if_pos (by simp [hp])]
          exact stop hs3 fun h'' hs'' => .inr ⟨by simpa [h0] using hp, rfl, hs''⟩
        · rw [if_neg (by simp [hp])]
          cases rest with
          | nil => exact absurd rfl hp
          | cons c r =>
            by_cases hc : c = 46
            · subst hc
              simp only [List.length_cons] at hrl hrest ⊢
              refine .inl ⟨r, by simp [preR, h0], by omega, ?_, ?_, hs3⟩
              · have := congrArg List.tail hrest
                simp only [List.tail_cons, List.tail_drop] at this
                rw [show s.size - r.length = s.size - (r.length + 1) + 1 by omega]
                exact this
              · rw [wrap_id (by omega) (by omega)]
                congr 2
                omega
            · exact absurd (by simp [preR, hc]) hp
    rintro x h4 (⟨l1, hpre, hl1, hd1, rfl, hs4⟩ | ⟨hpre, rfl, hs4⟩)
    · rw [hpre] at hgo
      simp only at hgo
      simp only [Sum.elim_inl, Sum.elim_inr]
      refine bind_callN (number_spec hs4 (at' := s.size - l1.length) (by omega) hsz fun h5 hs5 => ?_)
      rw [← hd1]
      cases hn : numR l1 with
      | none =>
        rw [hn] at hgo
        refine ⟨(-1, ((s.size - l1.length : Nat) : Int), ()), rfl, ?_⟩
        (try dsimp only); rw [HM.ite_apply, if_pos (by simp)]
        refine storeN_all' (hs5.re [1, 0]) rfl rfl fun h6 hs6 => ?_
        refine loadN_cells (ts := [.int .i64, .int .i64, .int .i64, .int .i64]) (0, 0, 0, 0, ()) hs6 rfl ?_
        simp only [Sum.elim_inl, Sum.elim_inr, HM.pure_apply]
        have hq' := hq h6 hs6.drop.drop
        have : refR s = none := by unfold refR; rw [← hgo]; rfl
        rw [this] at hq'
        exact hq'
      | some q =>
        obtain ⟨n, k⟩ := q
        rw [hn] at hgo
        simp only at hgo
        have hk := (numR_some hn).2
        refine ⟨((n : Int), ((s.size - l1.length + k : Nat) : Int), ()), rfl, ?_⟩
        (try dsimp only); rw [HM.ite_apply, if_neg (by simp only [decide_eq_true_eq]; omega)]
        rw [HM.bind_apply]
        refine idx_at (by omega) (by omega) ?_
        rw [HM.bind_apply, add_own]
        refine store1_cells hs5 (by simp; omega) rfl fun h6 hs6 => ?_
        simp only [Sum.elim_inl, Sum.elim_inr, HM.pure_apply]
        have e : ((acc.length : Int).toNat * 1) = acc.length := by omega
        rw [e, arrN_set hi] at hs6
        refine .mk (acc ++ [n], l1.drop k) (by simp; omega) ⟨by simp; omega, ?_, by simp; omega, ?_, ?_, ?_, hs6⟩
        · simp only []
          rw [wrap_id (by omega) (by omega)]
          simp
        · simp only [List.length_drop]
          congr 1
          omega
        · simp only [List.length_drop]
          conv => lhs; rw [hd1]
          rw [List.drop_drop]
          congr 1
          omega
        · simp only [List.length_append, List.length_cons, List.length_nil]
          rw [show 4 - (acc.length + (0 + 1)) = 3 - acc.length by omega]
          exact hgo
    · rw [hpre] at hgo
      simp only [Sum.elim_inl, Sum.elim_inr, HM.pure_apply]
      have hq' := hq h4 hs4
      have : refR s = none := by unfold refR; rw [← hgo]; rfl
      rw [this] at hq'
      exact hq'
  · rw [if_neg (by simp only [decide_eq_true_eq]; omega)]
    simp only [Sum.elim_inl, Sum.elim_inr, HM.pure_apply]
    have h4 : acc.length = 4 := by omega
    obtain ⟨a, b, c, d, rfl⟩ : ∃ a b c d, acc = [a, b, c, d] := by
      match acc, h4 with
      | [a, b, c, d], _ => exact ⟨a, b, c, d, rfl⟩
    have hR : refR s = if goodLabel a b c d ∧ rest = [] then some ((a : Int), (b : Int), (c : Int), (d : Int)) else none := by
      unfold refR
      rw [← hgo]
      exact refFin_four a b c d rest
    have c0 : cellH h3 ⟨nb, 0, none⟩ = some (.int .i64 a) := hs3.cell 0
    have c1 : cellH h3 ⟨nb, 1, none⟩ = some (.int .i64 b) := hs3.cell 1
    have c2 : cellH h3 ⟨nb, 2, none⟩ = some (.int .i64 c) := hs3.cell 2
    have c3 : cellH h3 ⟨nb, 3, none⟩ = some (.int .i64 d) := hs3.cell 3
    rw [HM.bind_apply]
    refine idx_at (by decide) (by decide) ⟨a, by rw [add_own]; exact c0, ?_⟩
    (try dsimp only); rw [HM.bind_apply]
    refine idx_at (by decide) (by decide) ⟨b, by rw [add_own]; exact c1, ?_⟩
    (try dsimp only); rw [HM.bind_apply]
    refine idx_at (by decide) (by decide) ⟨c, by rw [add_own]; exact c2, ?_⟩
    (try dsimp only); rw [HM.bind_apply]
    refine idx_at (by decide) (by decide) ⟨d, by rw [add_own]; exact c3, ?_⟩
    (try dsimp only)
    clear c0 c1 c2 c3
    have hs4 : sat h3 (cells lb (cL 0 0 0 0) :: R) := hs3.drop
    refine new_cells hs4 fun mb h5 hs5 => ?_
    refine storeN_all' hs5 rfl rfl fun h6 hs6 => ?_
    refine loadN_cells (ts := [.int .i64, .int .i64, .int .i64, .int .i64]) ((a : Int), (b : Int), (c : Int), (d : Int), ()) hs6 rfl ?_
    refine bind_call1 (rlgood_spec hs6 fun h7 hs7 => ⟨_, rfl, ?_⟩)
    refine bind_cut (fun x h' => h' = h7 ∧ x.1 = !decide (goodLabel a b c d ∧ rest = [])) ?_ ?_
    · (try dsimp only); rw [HM.ite_apply]
      by_cases hg : goodLabel a b c d
      · rw [if_neg (by simp [hg])]
        refine ⟨rfl, ?_⟩
        cases rest with
        | nil => simp [hg]
        | cons x r =>
          simp only [List.length_cons] at hrl ⊢
          simp [hg]
          omega
      · rw [if_pos (by simp [hg])]
        exact ⟨rfl, by simp [hg]⟩
    rintro ⟨x, ⟨⟩⟩ h8 ⟨rfl, hx⟩
    simp only at hx
    subst hx
    (try dsimp only); rw [HM.ite_apply]
    by_cases hg : goodLabel a b c d ∧ rest = []
    · rw [if_neg (by simp [hg])]
      refine loadN_cells (ts := [.int .i64, .int .i64, .int .i64, .int .i64]) ((a : Int), (b : Int), (c : Int), (d : Int), ()) hs7 rfl ?_
      refine storeN_all' (hs7.re [1, 0]) rfl rfl fun h9 hs9 => ?_
      refine loadN_cells (ts := [.int .i64, .int .i64, .int .i64, .int .i64]) ((a : Int), (b : Int), (c : Int), (d : Int), ()) hs9 rfl ?_
      have hq' := hq h9 hs9.drop.drop
      rw [hR, if_pos hg] at hq'
      exact hq'
    · rw [if_pos (by simp only [hg, decide_false, Bool.not_false])]
      refine storeN_all' (hs7.re [1, 0]) rfl rfl fun h9 hs9 => ?_
      refine loadN_cells (ts := [.int .i64, .int .i64, .int .i64, .int .i64]) (0, 0, 0, 0, ()) hs9 rfl ?_
      have hq' := hq h9 hs9.drop.drop
      have : refR s = none := by rw [hR]; exact if_neg hg
      rw [this] at hq'
      exact hq'

end

end Go.Proofs.YtfhalebbcbgbdaaGreatDoor
