/-
  Cpar: contracts: labels are read from texts.
-/
import Derived.Test.YtlgddhcbiioefaaDoorLpar
import Derived.Test.YtlgddhcbiioefaaDoorKpar
import Derived.Test.YtlgddhcbiioefaaDoorHk
import Derived.Shelf.Strings.Split
import Derived.Lib.SplitLaws
import Derived.Shelf.Strconv.ParseIntPublic10
namespace Go.Proofs.YtlgddhcbiioefaaDoor
open Go.H Go.Proofs Go.Lib
open Go.RowKit (Below)
set_option linter.unusedSimpArgs false
set_option linter.unusedVariables false
set_option synthInstance.maxSize 100000
set_option synthInstance.maxHeartbeats 400000

/-- what is laid, in the heap that was there -/
structure TX (h0 : Heap) : Prop where
  pow : ∃ t f, h0[2]? = some (.cells (pow10Tab.map fun z => Value.int .u64 z).toArray t f)
  maxl : ∃ m, cellH h0 ⟨5, 0, none⟩ = some (.int .i64 m)
  syn : ∃ te pe, cellH h0 ⟨0, 0, none⟩ = some (.iface te pe)
  rng : ∃ te pe, cellH h0 ⟨1, 0, none⟩ = some (.iface te pe)

variable {h h0 : Heap} {R : List Asn}

theorem Format_spec (hs : sat h (old h0 :: R)) (ht : TX h0) {n : Nat} (hn : n ≤ 9223372036854775807) {Q : Value → Heap → Prop} (hq : ∀ h', sat h' (old h0 :: R) → Q (.string (decS n)) h') :
    HCalls Tryd.prog 79 #[.int .i64 n, .int .i64 10] h Q :=
  calls_below hs (fun w hw => by
    obtain ⟨t, f, hp⟩ := ht.pow
    have hg := hs.old_get hp
    have htab : TabIs Tryd.prog w "internal/strconv.uint64pow10" .u64 pow10Tab := by
      unfold TabIs World.var?
      rw [show Tryd.prog.globalNamed "internal/strconv.uint64pow10" = some 2 by kernel_rfl]
      simp only [Option.bind_some]
      rw [hw, hg]
    refine (Any.strconv_FormatInt_10 formatM n (by omega) (by omega) w htab).mono ?_
    rintro e w' ⟨rfl, k, os, rfl⟩
    refine ⟨?_, ⟨rfl, rfl, rfl, by show w.heap.size ≤ (w.heap ++ os).size; rw [Array.size_append]; omega, fun j hj => by show (w.heap ++ os)[j]? = _; rw [Array.getElem?_append_left hj]⟩⟩
    rw [itoa_nonneg]) hq

theorem Split_spec (hs : sat h (old h0 :: R)) (ht : TX h0) {s : ByteArray} (hsz : s.size < 4294967281) {Q : Value → Heap → Prop}
    (hq : ∀ b h', sat h' (cells b ((pieces s).map Value.string).toArray :: old h0 :: R) → Q (.slice (some ⟨b, 0, none⟩) (pieces s).length (pieces s).length) h') :
    HCalls Tryd.prog 72 #[.string s, .string (ByteArray.mk #[46])] h Q := fun w hw => by
  subst hw
  obtain ⟨m, hm⟩ := ht.maxl
  refine (Any.strings_Split splitL (by kernel_rfl) s (ByteArray.mk #[46]) m w hsz (hs.old_cell hm) (by decide)).mono ?_
  rintro e w' ⟨rfl, rfl⟩
  refine ⟨_, rfl, ⟨rfl, rfl, rfl⟩, ?_⟩
  have hl : (pieces s).length = countB s dot + 1 := splitB_all dot (by decide) 0 _ s rfl
  have := hq w.heap.size _ (hs.push_cells (T := splitL_ren.t 9))
  rw [hl] at this
  exact this

theorem ParseInt_spec (hs : sat h (old h0 :: R)) (ht : TX h0) {s : ByteArray} (hsz : s.size ≤ 281474976710656) {Q : Value → Heap → Prop}
    (hq : ∀ v' h', sat h' (old h0 :: R) → Q (.tuple #[.int .i64 (pv s), v']) h') :
    HCalls Tryd.prog 73 #[.string s, .int .i64 10, .int .i64 64] h Q := fun w hw => by
  subst hw
  have fin : ∀ v v' w', v = pv s → Below w.heap.size w w' → ∃ x, Ending.returned (.tuple #[.int .i64 v, v']) = .returned x ∧ Same w w' ∧ Q x w'.heap := fun v v' w' hv hb => by
    subst hv
    exact ⟨_, rfl, below_same hb, hq _ _ (hs.grow (below_grow hb))⟩
  unfold pv at fin
  rcases hp : parseIntB 64 s.data.toList with v | _ | _
  · refine (Any.strconv_ParseInt_10_at64_ok parseL s (by omega) v hp w).mono ?_
    rintro e w' ⟨rfl, hw'⟩
    refine fin _ _ _ (by rw [hp]) ?_
    rcases hw' with rfl | ⟨t, rfl⟩
    · exact Below.refl _ _
    · exact bytesWorld_below _ _ _
  · obtain ⟨te, pe, hc⟩ := ht.syn
    refine (Any.strconv_ParseInt_10_at64_syntax parseL s hsz hp _ w (hs.old_cell hc) (.inr ⟨te, pe, rfl⟩)).mono ?_
    rintro e w' ⟨N, rfl, -, -, hb⟩
    exact fin _ _ _ (by rw [hp]) hb
  · obtain ⟨te, pe, hc⟩ := ht.rng
    refine (Any.strconv_ParseInt_10_at64_range parseL s hsz hp _ w (hs.old_cell hc) (.inr ⟨te, pe, rfl⟩)).mono ?_
    rintro e w' ⟨N, rfl, -, -, hb⟩
    exact fin _ _ _ (by rw [hp]) hb

theorem Text_spec (hs : sat h (old h0 :: R)) (ht : TX h0) {a b c d : Int} {Q : Value → Heap → Prop} (hq : ∀ h', sat h' (old h0 :: R) → Q (.string (labelText a b c d)) h') :
    HCalls Tryd.prog 43 #[.agg #[.int .i64 a, .int .i64 b, .int .i64 c, .int .i64 d]] h Q := by
  by_cases hg : goodLabel a b c d
  · obtain ⟨⟨ha0, ha1, hb0, hb1⟩, hc0, hc1, hd0, hd1⟩ := id hg
    simp only at ha0 ha1 hb0 hb1
    obtain ⟨a, rfl⟩ := Int.eq_ofNat_of_zero_le ha0
    obtain ⟨b, rfl⟩ := Int.eq_ofNat_of_zero_le (show 0 ≤ b by omega)
    obtain ⟨c, rfl⟩ := Int.eq_ofNat_of_zero_le hc0
    obtain ⟨d, rfl⟩ := Int.eq_ofNat_of_zero_le hd0
    have hsz := text_size hg
    unfold labelText at hq hsz
    rw [if_pos hg] at hq hsz
    refine Text_of (F := decS b) hs hg (fun X h Q hs' hq' => Format_spec (hs'.re [1, 0]) ht (by omega) fun h' hs'' => hq' h' (hs''.re [1, 0])) ?_ hq
    exact Nat.le_trans hsz (by decide)
  · unfold labelText at hq
    rw [if_neg hg] at hq
    exact Text_bad hs hg hq

def parseV : Option LabT → Value
  | some l => .tuple #[.agg #[.int .i64 l.1, .int .i64 l.2.1, .int .i64 l.2.2.1, .int .i64 l.2.2.2], .bool true]
  | none => .tuple #[.agg #[.int .i64 0, .int .i64 0, .int .i64 0, .int .i64 0], .bool false]

theorem parseR_len {s : ByteArray} (h : (pieces s).length ≠ 4) : parseR s = none := by
  unfold parseR
  generalize pieces s = l at h
  match l, h with
  | [x, y, z, u], h => exact absurd rfl h
  | [], _ => rfl
  | [_], _ => rfl
  | [_, _], _ => rfl
  | [_, _, _], _ => rfl
  | _ :: _ :: _ :: _ :: _ :: _, _ => rfl

theorem piece_le {s x : ByteArray} (hx : x ∈ pieces s) : x.size ≤ s.size := by
  have : ∀ (k : Nat) (s : ByteArray), ∀ x ∈ splitB dot 0 k s, x.size ≤ s.size := by
    intro k
    induction k with
    | zero => intro s x hx; rw [List.mem_singleton.1 hx]; exact Nat.le_refl _
    | succ k ih =>
      intro s x hx
      unfold splitB at hx
      split at hx
      · rw [List.mem_singleton.1 hx]; exact Nat.le_refl _
      · rcases List.mem_cons.1 hx with rfl | hx
        · simp; omega
        · have := ih _ x hx
          simp at this
          omega
  exact this _ s x hx

set_option maxRecDepth 100000 in
theorem Parse_spec (hs : sat h (old h0 :: R)) (ht : TX h0) {s : ByteArray} (hsz : s.size ≤ 1048576) {Q : Value → Heap → Prop} (hq : ∀ h', sat h' (old h0 :: R) → Q (parseV (parseR s)) h') :
    HCalls Tryd.prog 41 #[.string s] h Q := by
  refine tags_Parse_calls s h Q ?_
  unfold tags_Parse
  refine new_cells hs fun lb h1 hs1 => ?_
  refine bind_call1 (Split_spec (hs1.re [1, 0]) ht (by omega) fun pb h2 hs2' => ⟨⟨some ⟨pb, 0, none⟩, (pieces s).length, (pieces s).length⟩, rfl, ?_⟩)
  have hs2 : sat h2 (cells lb #[.int .i64 0, .int .i64 0, .int .i64 0, .int .i64 0] :: cells pb ((pieces s).map Value.string).toArray :: old h0 :: R) := hs2'.re [2, 0, 1]
  clear hs1 hs2'
  dsimp only
  rw [HM.ite_apply]
  by_cases hl : (pieces s).length = 4
  case neg =>
    rw [if_pos (by simp; omega)]
    refine storeN_all' hs2 rfl rfl fun h3 hs3 => ?_
    refine loadN_cells (ts := [.int .i64, .int .i64, .int .i64, .int .i64]) (0, 0, 0, 0, ()) hs3 rfl ?_
    have := hq h3 hs3.drop.drop
    rw [parseR_len hl] at this
    exact this
  rw [if_neg (by simp; omega)]
  obtain ⟨x, y, z, u, hp⟩ : ∃ x y z u, pieces s = [x, y, z, u] := by
    generalize pieces s = l at hl
    match l, hl with
    | [x, y, z, u], _ => exact ⟨x, y, z, u, rfl⟩
  have hpl : ∀ p ∈ [x, y, z, u], p.size ≤ 281474976710656 := fun p hp' => by
    have := piece_le (s := s) (x := p) (by rw [hp]; exact hp')
    omega
  have hR : parseR s = if goodLabel (pv x) (pv y) (pv z) (pv u) ∧ labelText (pv x) (pv y) (pv z) (pv u) = s then some (pv x, pv y, pv z, pv u) else none := by
    unfold parseR; rw [hp]
  rw [hR] at hq
  rw [hp] at hs2 ⊢
  have hs2' : sat h2 (cells lb #[.int .i64 0, .int .i64 0, .int .i64 0, .int .i64 0] :: cells pb #[.string x, .string y, .string z, .string u] :: old h0 :: R) := hs2
  clear hs2 hR hl
  refine new_cells hs2' fun nb h3 hs3 => ?_
  refine loop_gx (γ := Nat) (hb := fun s => by
    repeat' with_reducible first
      | refine @mono_bind _ _ _ _ ?_ (fun _ => ?_)
      | refine @mono_ite _ _ _ _ ?_ ?_
      | refine @mono_req _ _ _ ?_
    all_goals infer_instance)
    (fun i c h' => i ≤ 4 ∧ c.1 = (i : Int) ∧ sat h' (cells nb #[.int .i64 (if 0 < i then pv x else 0), .int .i64 (if 1 < i then pv y else 0), .int .i64 (if 2 < i then pv z else 0), .int .i64 (if 3 < i then pv u else 0)] ::
      cells pb #[.string x, .string y, .string z, .string u] :: cells lb #[.int .i64 0, .int .i64 0, .int .i64 0, .int .i64 0] :: old h0 :: R)) (fun i => 4 - i) 0 ⟨by omega, rfl, hs3.re [0, 2, 1]⟩ ?_
  rintro i ⟨c, ⟨⟩⟩ h4 ⟨hi, hc, hs4⟩
  simp only at hc
  subst hc
  rw [HM.ite_apply]
  by_cases hi4 : i < 4
  · rw [if_pos (by simp; omega)]
    have next : IntKind.wrap .i64 ((i : Int) + 1) = ((i + 1 : Nat) : Int) := by rw [wrap_id (by omega) (by omega)]; rfl
    obtain ⟨p, hpi, hpm, hst⟩ : ∃ p, (#[Value.string x, .string y, .string z, .string u] : Array Value)[i]? = some (.string p) ∧ p ∈ [x, y, z, u] ∧
        (#[Value.int .i64 (if 0 < i then pv x else 0), .int .i64 (if 1 < i then pv y else 0), .int .i64 (if 2 < i then pv z else 0), .int .i64 (if 3 < i then pv u else 0)] : Array Value).setIfInBounds i (.int .i64 (pv p)) =
          #[Value.int .i64 (if 0 < i + 1 then pv x else 0), .int .i64 (if 1 < i + 1 then pv y else 0), .int .i64 (if 2 < i + 1 then pv z else 0), .int .i64 (if 3 < i + 1 then pv u else 0)] := by
      match i, hi4 with
      | 0, _ => exact ⟨x, rfl, by simp, rfl⟩
      | 1, _ => exact ⟨y, rfl, by simp, rfl⟩
      | 2, _ => exact ⟨z, rfl, by simp, rfl⟩
      | 3, _ => exact ⟨u, rfl, by simp, rfl⟩
    rw [HM.bind_apply]
    refine idx_at (by omega) (by simp; omega) ?_
    have hcp : cellH h4 ⟨pb, i, none⟩ = some (.string p) := by rw [hs4.p1.cell]; exact hpi
    refine ⟨p, by rw [add_own]; simpa using hcp, ?_⟩
    refine bind_callN (ParseInt_spec (hs4.re [3, 0, 1, 2]) ht (hpl p hpm) fun v' h5 hs5 => ⟨(pv p, v', ()), rfl, ?_⟩)
    dsimp only
    rw [HM.bind_apply]
    refine idx_at (by omega) (by omega) ?_
    rw [HM.bind_apply, add_own]
    refine store1_cells (hs5.re [1, 2, 3, 0]) (by simp; omega) rfl fun h6 hs6 => ?_
    simp only [HM.pure_apply]
    refine .mk (i + 1) (by omega) ⟨by omega, next, ?_⟩
    have e : ((i : Int).toNat * 1) = i := by omega
    rw [e, hst] at hs6
    exact hs6
  · have : i = 4 := by omega
    subst this
    rw [if_neg (by simp)]
    simp only [HM.pure_apply]
    have hs5 : sat h4 (cells nb #[.int .i64 (pv x), .int .i64 (pv y), .int .i64 (pv z), .int .i64 (pv u)] :: cells pb #[.string x, .string y, .string z, .string u] :: cells lb #[.int .i64 0, .int .i64 0, .int .i64 0, .int .i64 0] :: old h0 :: R) := hs4
    clear hs4
    have c0 : cellH h4 ⟨nb, 0, none⟩ = some (.int .i64 (pv x)) := hs5.cell 0
    have c1 : cellH h4 ⟨nb, 1, none⟩ = some (.int .i64 (pv y)) := hs5.cell 1
    have c2 : cellH h4 ⟨nb, 2, none⟩ = some (.int .i64 (pv z)) := hs5.cell 2
    have c3 : cellH h4 ⟨nb, 3, none⟩ = some (.int .i64 (pv u)) := hs5.cell 3
    rw [HM.bind_apply]
    refine idx_at (by decide) (by decide) ⟨pv x, by rw [add_own]; exact c0, ?_⟩
    dsimp only
    rw [HM.bind_apply]
    refine idx_at (by decide) (by decide) ⟨pv y, by rw [add_own]; exact c1, ?_⟩
    dsimp only
    rw [HM.bind_apply]
    refine idx_at (by decide) (by decide) ⟨pv z, by rw [add_own]; exact c2, ?_⟩
    dsimp only
    rw [HM.bind_apply]
    refine idx_at (by decide) (by decide) ⟨pv u, by rw [add_own]; exact c3, ?_⟩
    dsimp only
    have hs6 := hs5.re [2, 3, 0, 1]
    clear hs5 hs3 hs2' c0 c1 c2 c3
    refine new_cells hs6 fun mb h7 hs7 => ?_
    refine storeN_all' hs7 rfl rfl fun h8 hs8' => ?_
    have hs8 : sat h8 (cells mb #[.int .i64 (pv x), .int .i64 (pv y), .int .i64 (pv z), .int .i64 (pv u)] :: cells lb #[.int .i64 0, .int .i64 0, .int .i64 0, .int .i64 0] :: old h0 :: cells nb #[.int .i64 (pv x), .int .i64 (pv y), .int .i64 (pv z), .int .i64 (pv u)] :: cells pb #[.string x, .string y, .string z, .string u] :: R) := hs8'
    clear hs8' hs7 hs6
    refine bind_cut (fun w h' => w.1 = !decide (goodLabel (pv x) (pv y) (pv z) (pv u) ∧ labelText (pv x) (pv y) (pv z) (pv u) = s) ∧
      sat h' (cells mb #[.int .i64 (pv x), .int .i64 (pv y), .int .i64 (pv z), .int .i64 (pv u)] :: cells lb #[.int .i64 0, .int .i64 0, .int .i64 0, .int .i64 0] :: old h0 :: R)) ?_ ?_
    · have out : ∀ {h' : Heap}, sat h' (cells mb #[.int .i64 (pv x), .int .i64 (pv y), .int .i64 (pv z), .int .i64 (pv u)] :: cells lb #[.int .i64 0, .int .i64 0, .int .i64 0, .int .i64 0] :: old h0 :: cells nb #[.int .i64 (pv x), .int .i64 (pv y), .int .i64 (pv z), .int .i64 (pv u)] :: cells pb #[.string x, .string y, .string z, .string u] :: R) →
          sat h' (cells mb #[.int .i64 (pv x), .int .i64 (pv y), .int .i64 (pv z), .int .i64 (pv u)] :: cells lb #[.int .i64 0, .int .i64 0, .int .i64 0, .int .i64 0] :: old h0 :: R) := fun hh => (hh.re [3, 4, 0, 1, 2]).drop.drop
      refine loadN_cells (ts := [.int .i64, .int .i64, .int .i64, .int .i64]) (pv x, pv y, pv z, pv u, ()) hs8 rfl ?_
      refine bind_call1 (lgood_spec hs8 fun h9 hs9 => ⟨_, rfl, ?_⟩)
      dsimp only
      rw [HM.ite_apply]
      by_cases hg : goodLabel (pv x) (pv y) (pv z) (pv u)
      · rw [if_neg (by simp [hg])]
        refine loadN_cells (ts := [.int .i64, .int .i64, .int .i64, .int .i64]) (pv x, pv y, pv z, pv u, ()) hs9 rfl ?_
        refine bind_call1 (Text_spec (hs9.re [2, 0, 1]) ht fun h10 hs10 => ⟨_, rfl, ?_⟩)
        exact ⟨by simp [hg], out (hs10.re [1, 2, 0])⟩
      · rw [if_pos (by simp [hg])]
        exact ⟨by simp [hg], out hs9⟩
    rintro ⟨w, ⟨⟩⟩ h9 ⟨hw, hs9⟩
    simp only at hw
    subst hw
    dsimp only
    rw [HM.ite_apply]
    by_cases hg : goodLabel (pv x) (pv y) (pv z) (pv u) ∧ labelText (pv x) (pv y) (pv z) (pv u) = s
    · rw [if_pos hg] at hq
      rw [if_neg (by simp [hg])]
      refine loadN_cells (ts := [.int .i64, .int .i64, .int .i64, .int .i64]) (pv x, pv y, pv z, pv u, ()) hs9 rfl ?_
      refine storeN_all' (hs9.re [1, 0]) rfl rfl fun h10 hs10 => ?_
      refine loadN_cells (ts := [.int .i64, .int .i64, .int .i64, .int .i64]) (pv x, pv y, pv z, pv u, ()) hs10 rfl ?_
      exact hq h10 hs10.drop.drop
    · rw [if_neg hg] at hq
      rw [if_pos (by simp only [hg, decide_false, Bool.not_false])]
      refine storeN_all' (hs9.re [1, 0]) rfl rfl fun h10 hs10 => ?_
      refine loadN_cells (ts := [.int .i64, .int .i64, .int .i64, .int .i64]) (0, 0, 0, 0, ()) hs10 rfl ?_
      exact hq h10 hs10.drop.drop

end Go.Proofs.YtlgddhcbiioefaaDoor
