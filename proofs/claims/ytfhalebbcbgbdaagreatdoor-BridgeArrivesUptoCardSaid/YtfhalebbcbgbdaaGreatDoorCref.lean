/-
  Cref: contracts: the document's labels as text, and read from texts.
-/
import Derived.Test.YtfhalebbcbgbdaaGreatDoorCpar
import Derived.Test.YtfhalebbcbgbdaaGreatDoorLref
namespace Go.Proofs.YtfhalebbcbgbdaaGreatDoor
open Go.H Go.Proofs Go.Lib
set_option linter.unusedSimpArgs false
set_option linter.unusedVariables false
set_option synthInstance.maxSize 100000
set_option synthInstance.maxHeartbeats 400000

variable {h : Heap} {R : List Asn}

theorem rgood_spec (hs : sat h R) {a b : Int} {Q : Value → Heap → Prop} (hq : ∀ h', sat h' R → Q (.bool (decide (goodTag (a, b)))) h') :
    HCalls Tryz.prog 106 #[.agg #[.int .i64 a, .int .i64 b]] h Q := by
  refine ref16_Good_calls (a, b, ()) h Q ?_
  unfold ref16_Good
  refine new_cells hs fun tb h1 hs1 => ?_
  have c0 : cellH h1 ⟨tb, 0, none⟩ = some (.int .i64 a) := hs1.cell 0
  have c1 : cellH h1 ⟨tb, 1, none⟩ = some (.int .i64 b) := hs1.cell 1
  have hq' := hq h1 hs1.drop
  refine bind_cut (fun x h' => h' = h1 ∧ x.1 = decide (goodTag (a, b))) ?_ ?_
  · unfold goodTag
    by_cases g1 : 0 ≤ a <;> by_cases g2 : a < 8 <;> by_cases g3 : 1 ≤ b <;> by_cases g4 : b ≤ 9007199254740992 <;> simp [add_own, c0, c1, g1, g2, show (0 < b) ↔ 1 ≤ b from Iff.rfl, g3, g4] <;> omega
  · rintro ⟨x, ⟨⟩⟩ h2 ⟨rfl, hx⟩
    simp only at hx
    subst hx
    exact hq'

theorem rlgood_spec (hs : sat h R) {a b c d : Int} {Q : Value → Heap → Prop} (hq : ∀ h', sat h' R → Q (.bool (decide (goodLabel a b c d))) h') :
    HCalls Tryz.prog 64 #[.agg #[.int .i64 a, .int .i64 b, .int .i64 c, .int .i64 d]] h Q := by
  refine ref16_goodLabel_calls (a, b, c, d, ()) h Q ?_
  unfold ref16_goodLabel
  refine new_cells hs fun tb h1 hs1 => ?_
  refine loadN_of (ts := [.int .i64, .int .i64]) (a, b, ()) (fun j v hv => ?_) ?_
  · rw [add_own, add_own, hs1.cell]
    match j, hv with
    | 0, hv => exact hv
    | 1, hv => exact hv
    | j + 2, hv => cases (show (none : Option Value) = some v from hv)
  refine bind_call1 (rgood_spec hs1 fun h2 hs2 => ⟨decide (goodTag (a, b)), rfl, ?_⟩)
  refine bind_cut (fun x h' => sat h' R ∧ x.1 = decide (goodLabel a b c d)) ?_ ?_
  · have c2 : cellH h2 ⟨tb, 2, none⟩ = some (.int .i64 c) := hs2.cell 2
    have c3 : cellH h2 ⟨tb, 3, none⟩ = some (.int .i64 d) := hs2.cell 3
    have hR := hs2.drop
    unfold goodLabel
    by_cases g0 : goodTag (a, b) <;> by_cases g1 : 0 ≤ c <;> by_cases g2 : c ≤ 32 <;> by_cases g3 : 0 ≤ d <;> by_cases g4 : d ≤ 2 <;> simp [add_own, c2, c3, g0, g1, g2, g3, show (d < 3) ↔ d ≤ 2 by omega, g4] <;> first | exact hR | exact ⟨hR, by omega⟩
  · rintro ⟨x, ⟨⟩⟩ h2 ⟨hs2, hx⟩
    simp only at hx
    subst hx
    exact hq h2 hs2

theorem bytes_one {k : Nat} (hk : k < 10) : bytesOfInts [IntKind.wrap .u8 (IntKind.wrap .i64 (48 + (k : Int)))] = ByteArray.mk #[UInt8.ofNat (48 + k)] := by
  have e1 : IntKind.wrap .i64 (48 + (k : Int)) = 48 + (k : Int) := wrap_id (by omega) (by omega)
  have e2 : IntKind.wrap .u8 (48 + (k : Int)) = ((48 + k : Nat) : Int) := by
    simp [IntKind.wrap, IntKind.bits, IntKind.signed]; omega
  rw [e1, e2]
  show ByteArray.empty.push (UInt8.ofNat (((48 + k : Nat) : Int).toNat)) = _
  rw [Int.toNat_natCast]
  rfl

set_option maxRecDepth 100000 in
theorem Decimal_spec (hs : sat h R) {n : Nat} (hn : n ≤ 9223372036854775807) {Q : Value → Heap → Prop} (hq : ∀ h', sat h' R → Q (.string (decS n)) h') :
    HCalls Tryz.prog 72 #[.int .i64 n] h Q := by
  refine ref16_Decimal_calls n h Q ?_
  unfold ref16_Decimal
  have hlen : (decDigits n).length ≤ 20 := dec_len 19 n (by omega)
  refine loop_gx (γ := Nat × List UInt8) (hb := fun s => by
    repeat' with_reducible first
      | refine @mono_bind _ _ _ _ ?_ (fun _ => ?_)
      | refine @mono_ite _ _ _ _ ?_ ?_
      | refine @mono_req _ _ _ ?_
    all_goals infer_instance)
    (fun g c h' => c.1 = ByteArray.mk g.2.toArray ∧ c.2.1 = (g.1 : Int) ∧ g.1 ≤ n ∧ ((g.2 = [] ∧ g.1 = n) ∨ (g.2 ≠ [] ∧ decDigits n = (if g.1 = 0 then [] else decDigits g.1) ++ g.2)) ∧ sat h' R)
    (fun g => g.1 + (if g.2 = [] then 1 else 0)) (n, []) ⟨rfl, rfl, Nat.le_refl _, .inl ⟨rfl, rfl⟩, hs⟩ ?_
  rintro ⟨m, t⟩ ⟨c1, c2, ⟨⟩⟩ h1 ⟨e1, e2, hm, hrel, hs1⟩
  simp only at e1 e2 hm hrel
  subst e1 e2
  have htl : t.length ≤ 20 := by
    rcases hrel with ⟨rfl, -⟩ | ⟨-, e⟩
    · simp
    · have := congrArg List.length e
      simp only [List.length_append] at this
      omega
  have hte : ByteArray.mk t.toArray = ByteArray.mk #[] ↔ t = [] := by
    constructor
    · intro h
      have := congrArg (fun b : ByteArray => b.data.toList) h
      simpa using this
    · rintro rfl; rfl
  refine bind_cut (fun x h' => h' = h1 ∧ (x.1 = true ↔ (0 < m ∨ t = []))) ?_ ?_
  · by_cases g : 0 < m
    · simp [g]
    · simp [g, hte]
  rintro ⟨x, ⟨⟩⟩ h2 ⟨rfl, hx⟩
  simp only at hx
  rw [HM.ite_apply]
  by_cases g : 0 < m ∨ t = []
  · rw [if_pos (hx.2 g)]
    refine ⟨by decide, ?_⟩
    refine new_cells hs1 fun b h3 hs3 => ?_
    have htm : Int.tmod (m : Int) 10 = ((m % 10 : Nat) : Int) := by
      rw [Int.tmod_eq_emod_of_nonneg (by omega)]; omega
    have htd : Int.tdiv (m : Int) 10 = ((m / 10 : Nat) : Int) := by
      rw [Int.tdiv_eq_ediv_of_nonneg (by omega)]; omega
    refine ⟨[IntKind.wrap .u8 (IntKind.wrap .i64 (48 + (Int.tmod (m : Int) 10)))], hs3.reads rfl, ?_⟩
    rw [htm, bytes_one (Nat.mod_lt _ (by decide)), htd]
    refine ⟨?_, by decide, ?_⟩
    · show 1 + t.toArray.size ≤ _
      simp; omega
    · have hcat : ByteArray.mk #[UInt8.ofNat (48 + m % 10)] ++ ByteArray.mk t.toArray = ByteArray.mk (UInt8.ofNat (48 + m % 10) :: t).toArray := by
        refine bytes_inj ?_
        simp
      have hdm : decDigits m = (if m / 10 = 0 then [] else decDigits (m / 10)) ++ [UInt8.ofNat (48 + m % 10)] := by
        rw [decDigits]
        split
        · rename_i hlt
          rw [if_pos (by omega), Nat.mod_eq_of_lt hlt]
          rfl
        · rename_i hge
          rw [if_neg (by omega)]
      rw [HM.pure_apply]
      refine .mk (m / 10, UInt8.ofNat (48 + m % 10) :: t) ?_ ⟨hcat, ?_, by simp only []; omega, .inr ⟨by simp, ?_⟩, hs3.drop⟩
      · simp only [List.cons_ne_nil, if_false]
        rcases g with g | g
        · split <;> omega
        · rw [if_pos g]; omega
      · simp only []
        rw [wrap_id (by omega) (by omega)]
      · simp only []
        rcases hrel with ⟨rfl, rfl⟩ | ⟨hne, e⟩
        · exact hdm
        · have hm0 : m ≠ 0 := by rcases g with g | g; omega; exact absurd g hne
          rw [e, if_neg hm0, hdm, List.append_assoc]
          rfl
  · rw [if_neg (fun hh => g (hx.1 hh)), HM.pure_apply]
    have hm0 : m = 0 := by omega
    have htn : t ≠ [] := fun e => g (.inr e)
    rcases hrel with ⟨e, -⟩ | ⟨-, e⟩
    · exact absurd e htn
    · rw [if_pos hm0, List.nil_append] at e
      have := hq h2 hs1
      unfold decS at this
      rw [e] at this
      exact this

theorem rText_spec (hs : sat h R) {a b c d : Int} {Q : Value → Heap → Prop} (hq : ∀ h', sat h' R → Q (.string (labelText a b c d)) h') :
    HCalls Tryz.prog 41 #[.agg #[.int .i64 a, .int .i64 b, .int .i64 c, .int .i64 d]] h Q := by
  refine ref16_Text_calls (a, b, c, d, ()) h Q ?_
  unfold ref16_Text
  refine new_cells hs fun tb h1 hs1 => ?_
  refine loadN_cells (ts := [.int .i64, .int .i64, .int .i64, .int .i64]) (a, b, c, d, ()) hs1 rfl ?_
  refine bind_call1 (rlgood_spec hs1 fun h2 hs2 => ⟨_, rfl, ?_⟩)
  (try dsimp only); rw [HM.ite_apply]
  by_cases hg : goodLabel a b c d
  case neg =>
    rw [if_pos (by simp [hg])]
    have := hq h2 hs2.drop
    unfold labelText at this
    rw [if_neg hg] at this
    exact this
  rw [if_neg (by simp [hg])]
  obtain ⟨⟨ha0, ha1, hb0, hb1⟩, hc0, hc1, hd0, hd1⟩ := id hg
  simp only at ha0 ha1 hb0 hb1
  obtain ⟨a, rfl⟩ := Int.eq_ofNat_of_zero_le ha0
  obtain ⟨b, rfl⟩ := Int.eq_ofNat_of_zero_le (show 0 ≤ b by omega)
  obtain ⟨c, rfl⟩ := Int.eq_ofNat_of_zero_le hc0
  obtain ⟨d, rfl⟩ := Int.eq_ofNat_of_zero_le hd0
  have hC : ∀ {h' : Heap} {R : List Asn}, sat h' (cells tb #[.int .i64 a, .int .i64 b, .int .i64 c, .int .i64 d] :: R) →
      cellH h' ⟨tb, 0, none⟩ = some (.int .i64 a) ∧ cellH h' ⟨tb, 1, none⟩ = some (.int .i64 b) ∧ cellH h' ⟨tb, 2, none⟩ = some (.int .i64 c) ∧ cellH h' ⟨tb, 3, none⟩ = some (.int .i64 d) :=
    fun hs' => ⟨hs'.cell 0, hs'.cell 1, hs'.cell 2, hs'.cell 3⟩
  refine ⟨a, by rw [add_own, add_own]; exact (hC hs2).1, ?_⟩
  refine bind_call1 (Decimal_spec hs2 (by omega) fun h3 hs3 => ⟨decS a, rfl, ?_⟩)
  refine ⟨b, by rw [add_own, add_own]; exact (hC hs3).2.1, ?_⟩
  refine bind_call1 (Decimal_spec hs3 (by omega) fun h4 hs4 => ⟨decS b, rfl, ?_⟩)
  refine ⟨c, by rw [add_own]; exact (hC hs4).2.2.1, ?_⟩
  refine bind_call1 (Decimal_spec hs4 (by omega) fun h5 hs5 => ⟨decS c, rfl, ?_⟩)
  refine ⟨d, by rw [add_own]; exact (hC hs5).2.2.2, ?_⟩
  refine bind_call1 (Decimal_spec hs5 (by omega) fun h6 hs6 => ⟨decS d, rfl, ?_⟩)
  have l1 : (decS a).size ≤ 20 := by have := dec_len 19 a (by omega); simpa [decS, ByteArray.size] using this
  have l2 : (decS b).size ≤ 20 := by have := dec_len 19 b (by omega); simpa [decS, ByteArray.size] using this
  have l3 : (decS c).size ≤ 20 := by have := dec_len 19 c (by omega); simpa [decS, ByteArray.size] using this
  have l4 : (decS d).size ≤ 20 := by have := dec_len 19 d (by omega); simpa [decS, ByteArray.size] using this
  have ld : (ByteArray.mk #[46]).size = 1 := rfl
  dsimp only
  refine ⟨?_, ?_, ?_, ?_, ?_, ?_, ?_⟩
  iterate 6 (simp only [ByteArray.size_append, ld]; omega)
  have := hq h6 hs6.drop
  unfold labelText at this
  rw [if_pos hg] at this
  have e : decS a ++ ByteArray.mk #[46] ++ decS b ++ ByteArray.mk #[46] ++ decS c ++ ByteArray.mk #[46] ++ decS d = textOf ((a : Int).toNat) (decS ((b : Int).toNat)) ((c : Int).toNat) ((d : Int).toNat) := by
    refine bytes_inj ?_
    simp [textOf, join_cons, joinTail]
  rw [← e] at this
  exact this

end Go.Proofs.YtfhalebbcbgbdaaGreatDoor
