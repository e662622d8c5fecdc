/-
  Cget: contracts: adverts that are read from bytes (the program, the document).
-/
import Derived.Test.YtmdagnoknmfhcaaDoorLget
import Derived.Test.YtmdagnoknmfhcaaDoorCput
import Derived.Test.YtmdagnoknmfhcaaDoorCrgd
namespace Go.Proofs.YtmdagnoknmfhcaaDoor
open Go.H Go.Proofs Go.Lib
set_option linter.unusedSimpArgs false
set_option linter.unusedVariables false
set_option synthInstance.maxSize 100000
set_option synthInstance.maxHeartbeats 400000
set_option maxRecDepth 100000

variable {h h0 : Heap} {R : List Asn}

/-- a reader's block -/
abbrev rdA (x : Nat) (s : ByteArray) (st : RdSt) : Asn := cells x #[.string s, .int .i64 ((st.1 : Nat) : Int), .bool st.2]
abbrev ptrR (x : Nat) : Value := .pointer (some ⟨x, 0, none⟩)

theorem number_spec {x w : Nat} {s : ByteArray} {st : RdSt} (hs : sat h (rdA x s st :: R)) (hw : wideW w) (hst : st.1 ≤ s.size) (hsz : s.size ≤ bigB) {Q : Value → Heap → Prop}
    (hq : ∀ h', sat h' (rdA x s (rdN w s st).2 :: R) → Q (.int .i64 (((rdN w s st).1 : Nat) : Int)) h') : HCalls Tryd.prog 59 #[ptrR x, .int .i64 w] h Q := by
  refine advert_reader_number_calls (some ⟨x, 0, none⟩) w h Q ?_
  unfold advert_reader_number
  obtain ⟨i, b⟩ := st
  have c2 : cellH h ⟨x, 2, none⟩ = some (.bool b) := hs.cell 2
  refine ⟨_, rfl, s, by rw [add_own]; exact hs.cell 0, _, rfl, (i : Int), by rw [add_own]; exact hs.cell 1, ?_⟩
  refine bind_callN (GetFixed_spec hw hst hsz ?_)
  have step : ∀ (v : Int × Int × Int × Unit), (∀ h', sat h' (rdA x s (i, b || !(v.2.2.1 == 0)) :: R) → (HM.bind (α := Addr) (HM.nonnil (some ⟨x, 0, none⟩)) fun (x11 : Addr) =>
      HM.bind (α := Bool) (HM.load1 .bool (Addr.add x11 2)) fun (x12 : Bool) =>
      HM.ite x12 (HM.pure (0, ())) (
      HM.bind (α := Addr) (HM.nonnil (some ⟨x, 0, none⟩)) fun (x13 : Addr) =>
      HM.bind (α := Unit) (HM.store1 (Addr.add x13 1) (.int .i64 v.2.1)) fun (_ : Unit) =>
      HM.pure (v.1, ()))) h' fun x h' => Q (.int .i64 x.1) h') →
      (HM.bind (α := Unit) (HM.bind (α := Addr) (HM.nonnil (some ⟨x, 0, none⟩)) fun (x6 : Addr) =>
      HM.bind (α := Bool) (HM.load1 .bool (Addr.add x6 2)) fun (x7 : Bool) =>
      HM.ite x7 (
      HM.bind (α := Addr) (HM.nonnil (some ⟨x, 0, none⟩)) fun (x8 : Addr) =>
      HM.bind (α := Unit) (HM.store1 (Addr.add x8 2) (.bool true)) fun (_ : Unit) =>
      HM.pure ()) (
      HM.bind (α := Addr) (HM.nonnil (some ⟨x, 0, none⟩)) fun (x9 : Addr) =>
      HM.bind (α := Unit) (HM.store1 (Addr.add x9 2) (.bool (!(v.2.2.1 == 0)))) fun (_ : Unit) =>
      HM.pure ())) fun (x10 : Unit) =>
      HM.bind (α := Addr) (HM.nonnil (some ⟨x, 0, none⟩)) fun (x11 : Addr) =>
      HM.bind (α := Bool) (HM.load1 .bool (Addr.add x11 2)) fun (x12 : Bool) =>
      HM.ite x12 (HM.pure (0, ())) (
      HM.bind (α := Addr) (HM.nonnil (some ⟨x, 0, none⟩)) fun (x13 : Addr) =>
      HM.bind (α := Unit) (HM.store1 (Addr.add x13 1) (.int .i64 v.2.1)) fun (_ : Unit) =>
      HM.pure (v.1, ()))) h fun x h' => Q (.int .i64 x.1) h' := by
    intro v hv
    refine ⟨_, rfl, b, by rw [add_own]; exact c2, ?_⟩
    (try dsimp only); rw [HM.ite_apply]
    cases b with
    | true =>
      rw [if_pos rfl]
      refine ⟨_, rfl, ?_⟩
      (try dsimp only); rw [HM.bind_apply, add_own]
      exact store1_cells hs (by simp) rfl fun h1 hs1 => hv h1 hs1
    | false =>
      rw [if_neg (by simp)]
      refine ⟨_, rfl, ?_⟩
      (try dsimp only); rw [HM.bind_apply, add_own]
      exact store1_cells hs (by simp) rfl fun h1 hs1 => hv h1 hs1
  have out : ∀ {h' : Heap} {v : Int × Int × Int × Unit} {b' : Bool}, sat h' (rdA x s (i, b') :: R) → (b' = true → ∀ h', sat h' (rdA x s (i, true) :: R) → Q (.int .i64 0) h') → (b' = false → ∀ h', sat h' (cells x #[.string s, .int .i64 v.2.1, .bool false] :: R) → Q (.int .i64 v.1) h') →
      (HM.bind (α := Addr) (HM.nonnil (some ⟨x, 0, none⟩)) fun (x11 : Addr) =>
      HM.bind (α := Bool) (HM.load1 .bool (Addr.add x11 2)) fun (x12 : Bool) =>
      HM.ite x12 (HM.pure (0, ())) (
      HM.bind (α := Addr) (HM.nonnil (some ⟨x, 0, none⟩)) fun (x13 : Addr) =>
      HM.bind (α := Unit) (HM.store1 (Addr.add x13 1) (.int .i64 v.2.1)) fun (_ : Unit) =>
      HM.pure (v.1, ()))) h' fun x h' => Q (.int .i64 x.1) h' := by
    intro h' v b' hs' h1 h2
    refine ⟨_, rfl, b', by rw [add_own]; exact hs'.cell 2, ?_⟩
    (try dsimp only); rw [HM.ite_apply]
    cases b' with
    | true =>
      rw [if_pos rfl]
      exact h1 rfl h' hs'
    | false =>
      rw [if_neg (by simp)]
      refine ⟨_, rfl, ?_⟩
      (try dsimp only); rw [HM.bind_apply, add_own]
      exact store1_cells hs' (by simp) rfl fun h3 hs3 => h2 rfl h3 hs3
  cases b with
  | true =>
    have e : rdN w s (i, true) = (0, (i, true)) := rfl
    rw [e] at hq
    cases hf : getFix s i w with
    | none => exact ⟨(0, 0, 242, ()), rfl, step _ fun h1 hs1 => out (v := (0, 0, 242, ())) hs1 (fun _ => hq) (fun e => by cases e)⟩
    | some n => exact ⟨((n : Int), ((i + w : Nat) : Int), 0, ()), rfl, step _ fun h1 hs1 => out (v := ((n : Int), ((i + w : Nat) : Int), 0, ())) hs1 (fun _ => hq) (fun e => by cases e)⟩
  | false =>
    cases hf : getFix s i w with
    | none =>
      have e : rdN w s (i, false) = (0, (i, true)) := by unfold rdN; rw [if_neg (by simp)]; simp only [hf]
      rw [e] at hq
      exact ⟨(0, 0, 242, ()), rfl, step _ fun h1 hs1 => out (v := (0, 0, 242, ())) hs1 (fun _ => hq) (fun e => by cases e)⟩
    | some n =>
      have e : rdN w s (i, false) = (n, (i + w, false)) := by unfold rdN; rw [if_neg (by simp)]; simp only [hf]
      rw [e] at hq
      exact ⟨((n : Int), ((i + w : Nat) : Int), 0, ()), rfl, step _ fun h1 hs1 => out (v := ((n : Int), ((i + w : Nat) : Int), 0, ())) hs1 (fun e => by cases e) (fun _ => hq)⟩

theorem data_spec {x : Nat} {s : ByteArray} {st : RdSt} (hs : sat h (rdA x s st :: R)) (hst : st.1 ≤ s.size) (hsz : s.size ≤ bigB) {Q : Value → Heap → Prop}
    (hq : ∀ h', sat h' (rdA x s (rdD s st).2 :: R) → Q (.string (rdD s st).1) h') : HCalls Tryd.prog 60 #[ptrR x] h Q := by
  refine advert_reader_data_calls (some ⟨x, 0, none⟩) h Q ?_
  unfold advert_reader_data
  obtain ⟨i, b⟩ := st
  have c2 : cellH h ⟨x, 2, none⟩ = some (.bool b) := hs.cell 2
  refine ⟨_, rfl, s, by rw [add_own]; exact hs.cell 0, _, rfl, (i : Int), by rw [add_own]; exact hs.cell 1, ?_⟩
  refine bind_callN (GetData_spec hst hsz ?_)
  have step : ∀ (v : ByteArray × Int × Int × Unit), (∀ h', sat h' (rdA x s (i, b || !(v.2.2.1 == 0)) :: R) → (HM.bind (α := Addr) (HM.nonnil (some ⟨x, 0, none⟩)) fun (x11 : Addr) =>
      HM.bind (α := Bool) (HM.load1 .bool (Addr.add x11 2)) fun (x12 : Bool) =>
      HM.ite x12 (HM.pure (ByteArray.mk #[], ())) (
      HM.bind (α := Addr) (HM.nonnil (some ⟨x, 0, none⟩)) fun (x13 : Addr) =>
      HM.bind (α := Unit) (HM.store1 (Addr.add x13 1) (.int .i64 v.2.1)) fun (_ : Unit) =>
      HM.pure (v.1, ()))) h' fun x h' => Q (.string x.1) h') →
      (HM.bind (α := Unit) (HM.bind (α := Addr) (HM.nonnil (some ⟨x, 0, none⟩)) fun (x6 : Addr) =>
      HM.bind (α := Bool) (HM.load1 .bool (Addr.add x6 2)) fun (x7 : Bool) =>
      HM.ite x7 (
      HM.bind (α := Addr) (HM.nonnil (some ⟨x, 0, none⟩)) fun (x8 : Addr) =>
      HM.bind (α := Unit) (HM.store1 (Addr.add x8 2) (.bool true)) fun (_ : Unit) =>
      HM.pure ()) (
      HM.bind (α := Addr) (HM.nonnil (some ⟨x, 0, none⟩)) fun (x9 : Addr) =>
      HM.bind (α := Unit) (HM.store1 (Addr.add x9 2) (.bool (!(v.2.2.1 == 0)))) fun (_ : Unit) =>
      HM.pure ())) fun (x10 : Unit) =>
      HM.bind (α := Addr) (HM.nonnil (some ⟨x, 0, none⟩)) fun (x11 : Addr) =>
      HM.bind (α := Bool) (HM.load1 .bool (Addr.add x11 2)) fun (x12 : Bool) =>
      HM.ite x12 (HM.pure (ByteArray.mk #[], ())) (
      HM.bind (α := Addr) (HM.nonnil (some ⟨x, 0, none⟩)) fun (x13 : Addr) =>
      HM.bind (α := Unit) (HM.store1 (Addr.add x13 1) (.int .i64 v.2.1)) fun (_ : Unit) =>
      HM.pure (v.1, ()))) h fun x h' => Q (.string x.1) h' := by
    intro v hv
    refine ⟨_, rfl, b, by rw [add_own]; exact c2, ?_⟩
    (try dsimp only); rw [HM.ite_apply]
    cases b with
    | true =>
      rw [if_pos rfl]
      refine ⟨_, rfl, ?_⟩
      (try dsimp only); rw [HM.bind_apply, add_own]
      exact store1_cells hs (by simp) rfl fun h1 hs1 => hv h1 hs1
    | false =>
      rw [if_neg (by simp)]
      refine ⟨_, rfl, ?_⟩
      (try dsimp only); rw [HM.bind_apply, add_own]
      exact store1_cells hs (by simp) rfl fun h1 hs1 => hv h1 hs1
  have out : ∀ {h' : Heap} {v : ByteArray × Int × Int × Unit} {b' : Bool}, sat h' (rdA x s (i, b') :: R) → (b' = true → ∀ h', sat h' (rdA x s (i, true) :: R) → Q (.string (ByteArray.mk #[])) h') → (b' = false → ∀ h', sat h' (cells x #[.string s, .int .i64 v.2.1, .bool false] :: R) → Q (.string v.1) h') →
      (HM.bind (α := Addr) (HM.nonnil (some ⟨x, 0, none⟩)) fun (x11 : Addr) =>
      HM.bind (α := Bool) (HM.load1 .bool (Addr.add x11 2)) fun (x12 : Bool) =>
      HM.ite x12 (HM.pure (ByteArray.mk #[], ())) (
      HM.bind (α := Addr) (HM.nonnil (some ⟨x, 0, none⟩)) fun (x13 : Addr) =>
      HM.bind (α := Unit) (HM.store1 (Addr.add x13 1) (.int .i64 v.2.1)) fun (_ : Unit) =>
      HM.pure (v.1, ()))) h' fun x h' => Q (.string x.1) h' := by
    intro h' v b' hs' h1 h2
    refine ⟨_, rfl, b', by rw [add_own]; exact hs'.cell 2, ?_⟩
    (try dsimp only); rw [HM.ite_apply]
    cases b' with
    | true =>
      rw [if_pos rfl]
      exact h1 rfl h' hs'
    | false =>
      rw [if_neg (by simp)]
      refine ⟨_, rfl, ?_⟩
      (try dsimp only); rw [HM.bind_apply, add_own]
      exact store1_cells hs' (by simp) rfl fun h3 hs3 => h2 rfl h3 hs3
  cases b with
  | true =>
    have e : rdD s (i, true) = (ByteArray.mk #[], (i, true)) := rfl
    rw [e] at hq
    cases hf : getDat s i with
    | none => exact ⟨(ByteArray.mk #[], 0, 242, ()), rfl, step _ fun h1 hs1 => out (v := (ByteArray.mk #[], 0, 242, ())) hs1 (fun _ => hq) (fun e => by cases e)⟩
    | some n => exact ⟨(n.1, ((n.2 : Nat) : Int), 0, ()), rfl, step _ fun h1 hs1 => out (v := (n.1, ((n.2 : Nat) : Int), 0, ())) hs1 (fun _ => hq) (fun e => by cases e)⟩
  | false =>
    cases hf : getDat s i with
    | none =>
      have e : rdD s (i, false) = (ByteArray.mk #[], (i, true)) := by unfold rdD; rw [if_neg (by simp)]; simp only [hf]
      rw [e] at hq
      exact ⟨(ByteArray.mk #[], 0, 242, ()), rfl, step _ fun h1 hs1 => out (v := (ByteArray.mk #[], 0, 242, ())) hs1 (fun _ => hq) (fun e => by cases e)⟩
    | some n =>
      have e : rdD s (i, false) = (n.1, (n.2, false)) := by unfold rdD; rw [if_neg (by simp)]; simp only [hf]
      rw [e] at hq
      exact ⟨(n.1, ((n.2 : Nat) : Int), 0, ()), rfl, step _ fun h1 hs1 => out (v := (n.1, ((n.2 : Nat) : Int), 0, ())) hs1 (fun e => by cases e) (fun _ => hq)⟩

theorem rnumber_spec {x w : Nat} {s : ByteArray} {st : RdSt} (hs : sat h (rdA x s st :: R)) (hw : wideW w) (hst : st.1 ≤ s.size) (hsz : s.size ≤ bigB) {Q : Value → Heap → Prop}
    (hq : ∀ h', sat h' (rdA x s (rdN w s st).2 :: R) → Q (.int .i64 (((rdN w s st).1 : Nat) : Int)) h') : HCalls Tryd.prog 61 #[ptrR x, .int .i64 w] h Q := by
  refine ref21_readNumber_calls (some ⟨x, 0, none⟩) w h Q ?_
  unfold ref21_readNumber
  obtain ⟨i, b⟩ := st
  refine ⟨_, rfl, s, by rw [add_own]; exact hs.cell 0, _, rfl, (i : Int), by rw [add_own]; exact hs.cell 1, ?_⟩
  refine bind_callN (rGetFixed_spec hw hst hsz ?_)
  cases hf : getFix s i w with
  | none =>
    refine ⟨(0, 0, 242, ()), rfl, ?_⟩
    have e : rdN w s (i, b) = (0, (i, true)) := by
      cases b with
      | true => rfl
      | false => unfold rdN; rw [if_neg (by simp)]; simp only [hf]
    rw [e] at hq
    refine ⟨_, rfl, ?_⟩
    (try dsimp only); rw [HM.bind_apply, add_own]
    exact store1_cells hs (by simp) rfl fun h1 hs1 => hq h1 hs1
  | some n =>
    refine ⟨((n : Int), ((i + w : Nat) : Int), 0, ()), rfl, _, rfl, b, by rw [add_own]; exact hs.cell 2, ?_⟩
    dsimp only; rw [HM.pure_apply]; (try dsimp only); rw [HM.ite_apply]
    cases b with
    | true =>
      have e : rdN w s (i, true) = (0, (i, true)) := rfl
      rw [e] at hq
      rw [if_pos rfl]
      refine ⟨_, rfl, ?_⟩
      (try dsimp only); rw [HM.bind_apply, add_own]
      exact store1_cells hs (by simp) rfl fun h1 hs1 => hq h1 hs1
    | false =>
      have e : rdN w s (i, false) = (n, (i + w, false)) := by unfold rdN; rw [if_neg (by simp)]; simp only [hf]
      rw [e] at hq
      rw [if_neg (by simp)]
      refine ⟨_, rfl, ?_⟩
      (try dsimp only); rw [HM.bind_apply, add_own]
      exact store1_cells hs (by simp) rfl fun h1 hs1 => hq h1 hs1

theorem rdata_spec {x : Nat} {s : ByteArray} {st : RdSt} (hs : sat h (rdA x s st :: R)) (hst : st.1 ≤ s.size) (hsz : s.size ≤ bigB) {Q : Value → Heap → Prop}
    (hq : ∀ h', sat h' (rdA x s (rdD s st).2 :: R) → Q (.string (rdD s st).1) h') : HCalls Tryd.prog 62 #[ptrR x] h Q := by
  refine ref21_readData_calls (some ⟨x, 0, none⟩) h Q ?_
  unfold ref21_readData
  obtain ⟨i, b⟩ := st
  refine ⟨_, rfl, s, by rw [add_own]; exact hs.cell 0, _, rfl, (i : Int), by rw [add_own]; exact hs.cell 1, ?_⟩
  refine bind_callN (rGetData_spec hst hsz ?_)
  cases hf : getDat s i with
  | none =>
    refine ⟨(ByteArray.mk #[], 0, 242, ()), rfl, ?_⟩
    have e : rdD s (i, b) = (ByteArray.mk #[], (i, true)) := by
      cases b with
      | true => rfl
      | false => unfold rdD; rw [if_neg (by simp)]; simp only [hf]
    rw [e] at hq
    refine ⟨_, rfl, ?_⟩
    (try dsimp only); rw [HM.bind_apply, add_own]
    exact store1_cells hs (by simp) rfl fun h1 hs1 => hq h1 hs1
  | some n =>
    refine ⟨(n.1, ((n.2 : Nat) : Int), 0, ()), rfl, _, rfl, b, by rw [add_own]; exact hs.cell 2, ?_⟩
    dsimp only; rw [HM.pure_apply]; (try dsimp only); rw [HM.ite_apply]
    cases b with
    | true =>
      have e : rdD s (i, true) = (ByteArray.mk #[], (i, true)) := rfl
      rw [e] at hq
      rw [if_pos rfl]
      refine ⟨_, rfl, ?_⟩
      (try dsimp only); rw [HM.bind_apply, add_own]
      exact store1_cells hs (by simp) rfl fun h1 hs1 => hq h1 hs1
    | false =>
      have e : rdD s (i, false) = (n.1, (n.2, false)) := by unfold rdD; rw [if_neg (by simp)]; simp only [hf]
      rw [e] at hq
      rw [if_neg (by simp)]
      refine ⟨_, rfl, ?_⟩
      (try dsimp only); rw [HM.bind_apply, add_own]
      exact store1_cells hs (by simp) rfl fun h1 hs1 => hq h1 hs1

/-! ### versions -/

theorem wrap_add (n m : Int) : IntKind.wrap .i64 (IntKind.wrap .i64 n + m) = IntKind.wrap .i64 (n + m) := by
  have key : ∀ n : Int, IntKind.wrap .i64 n % 18446744073709551616 = n % 18446744073709551616 := by
    intro n
    unfold IntKind.wrap
    simp only [IntKind.bits, IntKind.signed, Bool.true_and]
    split <;> omega
  have cong : ∀ a b : Int, a % 18446744073709551616 = b % 18446744073709551616 → IntKind.wrap .i64 a = IntKind.wrap .i64 b := by
    intro a b hab
    unfold IntKind.wrap
    have e : ((2 : Int) ^ IntKind.i64.bits) = 18446744073709551616 := by decide
    rw [e, hab]
  refine cong _ _ ?_
  have := key n
  omega
theorem ver_doc (hi lo : Nat) : IntKind.wrap .i64 ((IntKind.wrap .i64 ((hi : Int) * 4294967296)) + (lo : Int)) = verV hi lo := by
  rw [wrap_add]
  unfold verV
  congr 1
theorem ver_or {hi lo : Nat} (h1 : hi < 256 ^ 4) (h2 : lo < 256 ^ 4) : bitOp .or .i64 (IntKind.wrap .i64 ((hi : Int) * 2 ^ (min (Int.toNat 32) (IntKind.bits .i64)))) (lo : Int) = verV hi lo := by
  have e0 : ((2 : Int) ^ (min (Int.toNat 32) (IntKind.bits .i64))) = 4294967296 := by decide
  rw [e0]
  show IntKind.wrap .i64 (((BitVec.ofInt 64 (IntKind.wrap .i64 ((hi : Int) * 4294967296)) ||| BitVec.ofInt 64 (lo : Int)).toNat : Nat) : Int) = _
  have e1 : BitVec.ofInt 64 (IntKind.wrap .i64 ((hi : Int) * 4294967296)) = BitVec.ofNat 64 (hi * 4294967296) := by
    refine BitVec.eq_of_toNat_eq ?_
    rw [BitVec.toNat_ofInt, BitVec.toNat_ofNat]
    have e2 : IntKind.wrap .i64 ((hi : Int) * 4294967296) % ((2 ^ 64 : Nat) : Int) = ((hi * 4294967296 : Nat) : Int) := by
      unfold IntKind.wrap
      simp only [IntKind.bits, IntKind.signed, Bool.true_and]
      split <;> omega
    rw [e2, Int.toNat_natCast, Nat.mod_eq_of_lt (by omega)]
  rw [e1, BitVec.ofInt_natCast, BitVec.toNat_or, BitVec.toNat_ofNat, BitVec.toNat_ofNat, Nat.mod_eq_of_lt (by omega), Nat.mod_eq_of_lt (by omega)]
  have e2 := Nat.shiftLeft_add_eq_or_of_lt (i := 32) (b := lo) (by omega) hi
  rw [Nat.shiftLeft_eq] at e2
  rw [show hi * 4294967296 = hi * 2 ^ 32 from rfl, ← e2]
  rfl

/-! ### Get -/

/-- an advert and a code -/
def getC (s : ByteArray) : AdvT × Int := match getA s with
  | some a => (a, 0)
  | none => (⟨0, 0, [], []⟩, 129)

theorem rdL_all {α : Type} {p : Rd α} {P : α → Prop} (hp : ∀ s st, P (p s st).1) : ∀ (n : Nat) (s : ByteArray) (st : RdSt), ∀ x ∈ (rdL p n s st).1, P x
  | 0, s, st, x, hx => by cases hx
  | n + 1, s, st, x, hx => by
    rcases List.mem_cons.1 hx with rfl | hx
    · exact hp s st
    · exact rdL_all hp n s _ x hx
theorem rdL_len {α : Type} {p : Rd α} : ∀ (n : Nat) (s : ByteArray) (st : RdSt), (rdL p n s st).1.length = n
  | 0, s, st => rfl
  | n + 1, s, st => by
    show ((rdL p n s (p s st).2).1).length + 1 = n + 1
    rw [rdL_len n]
theorem rdK_sz (s : ByteArray) (st : RdSt) : szR (rdK s st).1.2 := by
  have h := fun st => rdD_size s st
  exact ⟨Nat.le_trans (Nat.le_of_lt (h _)) (by decide), Nat.le_trans (Nat.le_of_lt (h _)) (by decide), Nat.le_trans (Nat.le_of_lt (h _)) (by decide)⟩
theorem raw_sz (s : ByteArray) (st : RdSt) : szA (advR (rawR s st).1) :=
  ⟨fun f hf => Nat.le_trans (Nat.le_of_lt (rdL_all (P := fun f => f.size < 65536) rdD_size _ s _ f hf)) (by decide), fun l hl => rdL_all (P := fun l => szR l.2) rdK_sz _ s _ l hl⟩

theorem number_of {x w : Nat} {s : ByteArray} {st : RdSt} {r : Nat × RdSt} (hr : rdN w s st = r) (hs : sat h (rdA x s st :: R)) (hw : wideW w) (hst : st.1 ≤ s.size) (hsz : s.size ≤ bigB) {Q : Value → Heap → Prop}
    (hq : ∀ h', sat h' (rdA x s r.2 :: R) → Q (.int .i64 ((r.1 : Nat) : Int)) h') : HCalls Tryd.prog 59 #[ptrR x, .int .i64 w] h Q := by
  subst hr
  exact number_spec hs hw hst hsz hq
theorem data_of {x : Nat} {s : ByteArray} {st : RdSt} {r : ByteArray × RdSt} (hr : rdD s st = r) (hs : sat h (rdA x s st :: R)) (hst : st.1 ≤ s.size) (hsz : s.size ≤ bigB) {Q : Value → Heap → Prop}
    (hq : ∀ h', sat h' (rdA x s r.2 :: R) → Q (.string r.1) h') : HCalls Tryd.prog 60 #[ptrR x] h Q := by
  subst hr
  exact data_spec hs hst hsz hq
theorem rnumber_of {x w : Nat} {s : ByteArray} {st : RdSt} {r : Nat × RdSt} (hr : rdN w s st = r) (hs : sat h (rdA x s st :: R)) (hw : wideW w) (hst : st.1 ≤ s.size) (hsz : s.size ≤ bigB) {Q : Value → Heap → Prop}
    (hq : ∀ h', sat h' (rdA x s r.2 :: R) → Q (.int .i64 ((r.1 : Nat) : Int)) h') : HCalls Tryd.prog 61 #[ptrR x, .int .i64 w] h Q := by
  subst hr
  exact rnumber_spec hs hw hst hsz hq
theorem rdata_of {x : Nat} {s : ByteArray} {st : RdSt} {r : ByteArray × RdSt} (hr : rdD s st = r) (hs : sat h (rdA x s st :: R)) (hst : st.1 ≤ s.size) (hsz : s.size ≤ bigB) {Q : Value → Heap → Prop}
    (hq : ∀ h', sat h' (rdA x s r.2 :: R) → Q (.string r.1) h') : HCalls Tryd.prog 62 #[ptrR x] h Q := by
  subst hr
  exact rdata_spec hs hst hsz hq

theorem store1_at {b : Nat} {cs : Array Value} {i : Nat} {v : Value} {a : Addr} {Q : Unit → Heap → Prop} (hs : sat h (cells b cs :: R)) (ha : a = ⟨b, i, none⟩) (hi : i < cs.size) (hv : v.oneCell' = true)
    (hq : ∀ h', sat h' (cells b (cs.setIfInBounds i v) :: R) → Q () h') : HM.store1 a v h Q := by
  subst ha
  exact store1_cells hs hi hv hq
theorem app_one {α : Type} {enc : α → List Value} {size : Nat} {sl : Slc} {xs : List α} (henc : ∀ x, (enc x).length = size) (hcell : ∀ x, ∀ v ∈ enc x, v.oneCell' = true) {elem : TypeId} {bytes b : Nat} {zero : Array Value} (hz : zero.size = size) {x : α} {Q : Slc → Heap → Prop}
    (hs : sat h (cells b (enc x).toArray :: ownS enc size sl xs :: R)) (hsz : 0 < size) (hb0 : 0 < bytes) (hb : (xs.length + 1) * bytes ≤ 140737488355328)
    (hq : ∀ s' h', sat h' (ownS enc size s' (xs ++ [x]) :: R) → Q s' h') : HM.append elem size bytes zero sl 1 (srcSlc size ⟨some ⟨b, 0, none⟩, 1, 1⟩) h Q := by
  refine append_own henc hcell hz (ys := [x]) hs.p1 rfl ?_ hsz hb0 hb fun s' h2 hs2 => hq s' h2 hs2.p1.drop
  simp only [srcSlc, Nat.one_mul, List.flatMap_cons, List.flatMap_nil, List.append_nil]
  exact hs.reads (by simp [henc])

theorem kept {α : Type} {p : Rd α} {s : ByteArray} {st : RdSt} {r : α × RdSt} (hk : KeepsR p) (hr : p s st = r) (h : st.1 ≤ s.size) : r.2.1 ≤ s.size := by subst hr; exact hk s st h
theorem rdK_keeps : KeepsR rdK := rdK_law.keeps

abbrev zA : Array Value := #[.int .i64 0, .int .i64 0, .slice none 0 0, .slice none 0 0]
abbrev zK : LinkT := (0, ByteArray.mk #[], 0, 0, ByteArray.mk #[], ByteArray.mk #[], ())

set_option maxHeartbeats 4000000 in
theorem Get_spec {s : ByteArray} (hs : sat h (old h0 :: R)) (ht : TP h0) (hsz : s.size ≤ bigB) {Q : Value → Heap → Prop}
    (hq : ∀ h' sf sl, sat h' (ownS eS 1 sf (getC s).1.fs :: ownS encK 6 sl (getC s).1.ls :: old h0 :: R) → Q (.tuple #[vA (getC s).1 sf sl, .int .u8 (getC s).2]) h') :
    HCalls Tryd.prog 25 #[.string s] h Q := by
  refine advert_Get_calls s h Q ?_
  unfold advert_Get
  obtain ⟨r1, hr1⟩ : ∃ r, rdN 1 s (0, false) = r := ⟨_, rfl⟩
  obtain ⟨r2, hr2⟩ : ∃ r, rdN 4 s r1.2 = r := ⟨_, rfl⟩
  obtain ⟨r3, hr3⟩ : ∃ r, rdN 4 s r2.2 = r := ⟨_, rfl⟩
  obtain ⟨r4, hr4⟩ : ∃ r, rdN 1 s r3.2 = r := ⟨_, rfl⟩
  obtain ⟨r5, hr5⟩ : ∃ r, rdL rdD r4.1 s r4.2 = r := ⟨_, rfl⟩
  obtain ⟨r6, hr6⟩ : ∃ r, rdN 1 s r5.2 = r := ⟨_, rfl⟩
  obtain ⟨r7, hr7⟩ : ∃ r, rdL rdK r6.1 s r6.2 = r := ⟨_, rfl⟩
  have eraw : rawR s (0, false) = ((r1.1, r2.1, r3.1, r4.1, r5.1, r6.1, r7.1), r7.2) := by
    unfold rawR seqR
    simp only [hr1, hr2, hr3, hr4, hr5, hr6, hr7]
  have k1 := kept (rdN_keeps 1) hr1 (Nat.zero_le _)
  have k2 := kept (rdN_keeps 4) hr2 k1
  have k3 := kept (rdN_keeps 4) hr3 k2
  have k4 := kept (rdN_keeps 1) hr4 k3
  have n2 : r2.1 < 256 ^ 4 := by rw [← hr2]; exact rdN_lt 4 s _
  have n3 : r3.1 < 256 ^ 4 := by rw [← hr3]; exact rdN_lt 4 s _
  have n4 : r4.1 < 256 ^ 1 := by rw [← hr4]; exact rdN_lt 1 s _
  have n6 : r6.1 < 256 ^ 1 := by rw [← hr6]; exact rdN_lt 1 s _
  refine new_cells hs fun x1 h1 hs1 => ?_
  refine new_cells hs1 fun x2 h2 hs2' => ?_
  have hs2 : sat h2 (rdA x2 s (0, false) :: cells x1 zA :: old h0 :: R) := hs2'
  clear hs2' hs1 hs
  refine bind_call1 (number_of hr1 hs2 (.inl rfl) (Nat.zero_le _) hsz fun h3 hs3 => ⟨_, rfl, ?_⟩)
  refine new_cells hs3 fun x4 h4 hs4 => ?_
  (try dsimp only); rw [HM.bind_apply]
  refine storeN_all' hs4 rfl rfl fun h5 hs5 => ?_
  refine bind_call1 (number_of hr2 hs5.p1 (.inr (.inr rfl)) k1 hsz fun h6 hs6 => ⟨_, rfl, ?_⟩)
  refine ⟨by decide, ?_⟩
  refine bind_call1 (number_of hr3 hs6 (.inr (.inr rfl)) k2 hsz fun h7 hs7 => ⟨_, rfl, ?_⟩)
  (try dsimp only); rw [HM.bind_apply, add_own, ver_or n2 n3]
  refine store1_cells hs7.p1 (by simp) rfl fun h8 hs8' => ?_
  have hs8 : sat h8 (cells x4 (cA ⟨(r1.1 : Int), verV r2.1 r3.1, [], []⟩ ⟨none, 0, 0⟩ ⟨none, 0, 0⟩).toArray :: rdA x2 s r3.2 :: cells x1 zA :: old h0 :: R) := hs8'
  clear hs8' hs7 hs6 hs5 hs4 hs3 hs2
  refine bind_call1 (number_of hr4 hs8.p1 (.inl rfl) k3 hsz fun h9 hs9' => ⟨_, rfl, ?_⟩)
  have hs9 : sat h9 (cells x4 (cA ⟨(r1.1 : Int), verV r2.1 r3.1, [], []⟩ ⟨none, 0, 0⟩ ⟨none, 0, 0⟩).toArray :: ownS eS 1 ⟨none, 0, 0⟩ [] :: rdA x2 s r4.2 :: cells x1 zA :: old h0 :: R) := (ownS_nil (enc := eS) (size := 1) hs9').re [2, 0, 1]
  clear hs9' hs8
  (try dsimp only); rw [HM.bind_apply]
  refine loop_gx (γ := Nat × RdSt × List ByteArray × Slc) (hb := fun s => by
      repeat' with_reducible first
        | refine @mono_bind _ _ _ _ ?_ (fun _ => ?_)
        | refine @mono_ite _ _ _ _ ?_ ?_
        | refine @mono_req _ _ _ ?_
      all_goals infer_instance)
    (fun g c h' => c.1 = (((r4.1 - g.1 : Nat)) : Int) ∧ g.1 ≤ r4.1 ∧ g.2.1.1 ≤ s.size ∧ r5 = (g.2.2.1 ++ (rdL rdD g.1 s g.2.1).1, (rdL rdD g.1 s g.2.1).2) ∧ g.2.2.1.length = r4.1 - g.1 ∧
      sat h' (cells x4 (cA ⟨(r1.1 : Int), verV r2.1 r3.1, [], []⟩ g.2.2.2 ⟨none, 0, 0⟩).toArray :: ownS eS 1 g.2.2.2 g.2.2.1 :: rdA x2 s g.2.1 :: cells x1 zA :: old h0 :: R)) (fun g => g.1) (r4.1, r4.2, [], ⟨none, 0, 0⟩)
    ⟨by simp, Nat.le_refl _, k4, by simp only [List.nil_append]; exact hr5.symm, by simp, hs9⟩ ?_
  clear hs9
  rintro ⟨g, st, done, sf⟩ ⟨c, ⟨⟩⟩ h10 ⟨hc, hg, hst, he, hdl, hs10⟩
  simp only at hc hg hst he hdl hs10
  subst hc
  (try dsimp only); rw [HM.ite_apply]
  by_cases hi : r4.1 - g < r4.1
  · rw [if_pos (by simp only [decide_eq_true_eq]; omega)]
    obtain ⟨g, rfl⟩ : ∃ g', g = g' + 1 := ⟨g - 1, by omega⟩
    obtain ⟨q, hqd⟩ : ∃ r, rdD s st = r := ⟨_, rfl⟩
    have kq := kept rdD_keeps hqd hst
    have eq : rdL rdD (g + 1) s st = (q.1 :: (rdL rdD g s q.2).1, (rdL rdD g s q.2).2) := by rw [← hqd]; rfl
    rw [eq] at he
    simp only at he
    refine ⟨sf, by rw [add_own]; exact hs10.cell 2, ?_⟩
    refine bind_call1 (data_of hqd (hs10.re [2, 0, 1]) hst hsz fun h11 hs11 => ⟨_, rfl, ?_⟩)
    refine ⟨sf, by rw [add_own]; exact hs11.p1.cell 2, rfl, ?_⟩
    refine new_cells hs11 fun y h12 hs12 => ?_
    refine ⟨sf, by rw [add_own]; exact hs12.p2.cell 2, rfl, ?_⟩
    (try dsimp only); rw [HM.bind_apply]
    refine app_one (enc := eS) (x := q.1) eS_len eS_cell rfl (hs12.re [0, 3, 1, 2]) (by decide) (by decide) (by rw [hdl]; omega) fun sf' h13 hs13 => ?_
    (try dsimp only); rw [HM.bind_apply, add_own]
    refine store1_cells (hs13.re [2, 0, 1]) (by simp) rfl fun h14 hs14 => ?_
    simp only [Sum.elim_inl, Sum.elim_inr, HM.pure_apply]
    refine .mk (g, q.2, done ++ [q.1], sf') (by simp only; omega) ⟨by simp only; rw [wrap_id (by omega) (by omega)]; omega, by simp only; omega, kq, by simp only; rw [he, List.append_assoc]; rfl, by simp only [List.length_append, List.length_cons, List.length_nil]; omega, ?_⟩
    exact hs14
  rw [if_neg (by simp only [decide_eq_true_eq]; omega)]
  simp only [Sum.elim_inl, Sum.elim_inr, HM.pure_apply]
  have hg0 : g = 0 := by omega
  subst hg0
  have e5 : r5 = (done, st) := by rw [he]; show (done ++ [], st) = _; rw [List.append_nil]
  subst e5
  have k6 := kept (rdN_keeps 1) hr6 hst
  clear he hi hdl
  refine bind_call1 (number_of hr6 (hs10.re [2, 0, 1]) (.inl rfl) hst hsz fun h11 hs11' => ⟨_, rfl, ?_⟩)
  have hs11 : sat h11 (cells x4 (cA ⟨(r1.1 : Int), verV r2.1 r3.1, [], []⟩ sf ⟨none, 0, 0⟩).toArray :: ownS encK 6 ⟨none, 0, 0⟩ [] :: ownS eS 1 sf done :: rdA x2 s r6.2 :: cells x1 zA :: old h0 :: R) := (ownS_nil (enc := encK) (size := 6) hs11').re [2, 0, 3, 1]
  clear hs11' hs10
  (try dsimp only); rw [HM.bind_apply]
  refine loop_gx (γ := Nat × RdSt × List LinkT × Slc) (hb := fun s => by
      repeat' with_reducible first
        | refine @mono_bind _ _ _ _ ?_ (fun _ => ?_)
        | refine @mono_ite _ _ _ _ ?_ ?_
        | refine @mono_req _ _ _ ?_
      all_goals infer_instance)
    (fun g c h' => c.1 = (((r6.1 - g.1 : Nat)) : Int) ∧ g.1 ≤ r6.1 ∧ g.2.1.1 ≤ s.size ∧ r7 = (g.2.2.1 ++ (rdL rdK g.1 s g.2.1).1, (rdL rdK g.1 s g.2.1).2) ∧ g.2.2.1.length = r6.1 - g.1 ∧
      sat h' (cells x4 (cA ⟨(r1.1 : Int), verV r2.1 r3.1, [], []⟩ sf g.2.2.2).toArray :: ownS encK 6 g.2.2.2 g.2.2.1 :: ownS eS 1 sf done :: rdA x2 s g.2.1 :: cells x1 zA :: old h0 :: R)) (fun g => g.1) (r6.1, r6.2, [], ⟨none, 0, 0⟩)
    ⟨by simp, Nat.le_refl _, k6, by simp only [List.nil_append]; exact hr7.symm, by simp, hs11⟩ ?_
  clear hs11
  rintro ⟨g, rt, got, sl⟩ ⟨c, ⟨⟩⟩ h12 ⟨hc, hg, hrt, he, hdl, hs12⟩
  simp only at hc hg hrt he hdl hs12
  subst hc
  (try dsimp only); rw [HM.ite_apply]
  by_cases hi : r6.1 - g < r6.1
  · rw [if_pos (by simp only [decide_eq_true_eq]; omega)]
    obtain ⟨g, rfl⟩ : ∃ g', g = g' + 1 := ⟨g - 1, by omega⟩
    obtain ⟨q1, hq1⟩ : ∃ r, rdN 1 s rt = r := ⟨_, rfl⟩
    obtain ⟨q2, hq2⟩ : ∃ r, rdN 1 s q1.2 = r := ⟨_, rfl⟩
    obtain ⟨q3, hq3⟩ : ∃ r, rdN 1 s q2.2 = r := ⟨_, rfl⟩
    obtain ⟨q4, hq4⟩ : ∃ r, rdD s q3.2 = r := ⟨_, rfl⟩
    obtain ⟨q5, hq5⟩ : ∃ r, rdD s q4.2 = r := ⟨_, rfl⟩
    obtain ⟨q6, hq6⟩ : ∃ r, rdD s q5.2 = r := ⟨_, rfl⟩
    have j1 := kept (rdN_keeps 1) hq1 hrt
    have j2 := kept (rdN_keeps 1) hq2 j1
    have j3 := kept (rdN_keeps 1) hq3 j2
    have j4 := kept rdD_keeps hq4 j3
    have j5 := kept rdD_keeps hq5 j4
    have j6 := kept rdD_keeps hq6 j5
    have eK : rdK s rt = (((q1.1 : Int), q4.1, (q2.1 : Int), (q3.1 : Int), q5.1, q6.1, ()), q6.2) := by
      unfold rdK rdK6 seqR toK
      simp only [hq1, hq2, hq3, hq4, hq5, hq6]
    have eq : rdL rdK (g + 1) s rt = (((q1.1 : Int), q4.1, (q2.1 : Int), (q3.1 : Int), q5.1, q6.1, ()) :: (rdL rdK g s q6.2).1, (rdL rdK g s q6.2).2) := by
      show ((rdK s rt).1 :: (rdL rdK g s (rdK s rt).2).1, (rdL rdK g s (rdK s rt).2).2) = _
      rw [eK]
    rw [eq] at he
    simp only at he
    have hs13 := hs12.re [3, 0, 1, 2]
    refine bind_call1 (number_of hq1 hs13 (.inl rfl) hrt hsz fun h14 hs14 => ⟨_, rfl, ?_⟩)
    refine new_cells hs14 fun y h15 hs15 => ?_
    (try dsimp only); rw [HM.bind_apply]
    refine storeN_all' hs15 rfl rfl fun h16 hs16 => ?_
    refine bind_call1 (number_of hq2 hs16.p1 (.inl rfl) j1 hsz fun h17 hs17 => ⟨_, rfl, ?_⟩)
    (try dsimp only); rw [HM.bind_apply]
    refine store1_at (i := 2) hs17.p1 rfl (by simp) rfl fun h18 hs18 => ?_
    refine bind_call1 (number_of hq3 hs18.p1 (.inl rfl) j2 hsz fun h19 hs19 => ⟨_, rfl, ?_⟩)
    (try dsimp only); rw [HM.bind_apply]
    refine store1_at (i := 3) hs19.p1 rfl (by simp) rfl fun h20 hs20 => ?_
    refine bind_call1 (data_of hq4 hs20.p1 j3 hsz fun h21 hs21 => ⟨_, rfl, ?_⟩)
    refine bind_call1 (data_of hq5 hs21 j4 hsz fun h22 hs22 => ⟨_, rfl, ?_⟩)
    refine bind_call1 (data_of hq6 hs22 j5 hsz fun h23 hs23 => ⟨_, rfl, ?_⟩)
    (try dsimp only); rw [HM.bind_apply]
    refine store1_at (i := 1) hs23.p1 rfl (by simp) rfl fun h24 hs24 => ?_
    (try dsimp only); rw [HM.bind_apply]
    refine store1_at (i := 4) hs24 rfl (by simp) rfl fun h25 hs25 => ?_
    (try dsimp only); rw [HM.bind_apply]
    refine store1_at (i := 5) hs25 rfl (by simp) rfl fun h26 hs26' => ?_
    have hs26 : sat h26 (cells y (encK ((q1.1 : Int), q4.1, (q2.1 : Int), (q3.1 : Int), q5.1, q6.1, ())).toArray :: rdA x2 s q6.2 :: cells x4 (cA ⟨(r1.1 : Int), verV r2.1 r3.1, [], []⟩ sf sl).toArray :: ownS encK 6 sl got :: ownS eS 1 sf done :: cells x1 zA :: old h0 :: R) := hs26'
    clear hs26' hs25 hs24 hs23 hs22 hs21 hs20 hs19 hs18 hs17 hs16 hs15 hs14 hs13 hs12
    refine ⟨sl, by rw [add_own]; exact hs26.p2.cell 3, ?_⟩
    refine loadN_cells (ts := [.int .i64, .str, .int .i64, .int .i64, .str, .str]) ((q1.1 : Int), q4.1, (q2.1 : Int), (q3.1 : Int), q5.1, q6.1, ()) hs26 rfl ?_
    refine new_cells hs26 fun z h27 hs27' => ?_
    have hs27 := hs27'.p1.drop
    (try dsimp only); rw [HM.bind_apply]
    refine app_one (enc := encK) (x := ((q1.1 : Int), q4.1, (q2.1 : Int), (q3.1 : Int), q5.1, q6.1, ())) eK_len eK_cell rfl (hs27.re [0, 3, 1, 2]) (by decide) (by decide) (by rw [hdl]; omega) fun sl' h28 hs28 => ?_
    (try dsimp only); rw [HM.bind_apply, add_own]
    refine store1_cells (hs28.re [2, 0, 1]) (by simp) rfl fun h29 hs29 => ?_
    simp only [Sum.elim_inl, Sum.elim_inr, HM.pure_apply]
    refine .mk (g, q6.2, got ++ [((q1.1 : Int), q4.1, (q2.1 : Int), (q3.1 : Int), q5.1, q6.1, ())], sl') (by simp only; omega) ⟨by simp only; rw [wrap_id (by omega) (by omega)]; omega, by simp only; omega, j6, by simp only; rw [he, List.append_assoc]; rfl, by simp only [List.length_append, List.length_cons, List.length_nil]; omega, ?_⟩
    exact hs29.re [0, 1, 3, 2]
  rw [if_neg (by simp only [decide_eq_true_eq]; omega)]
  simp only [Sum.elim_inl, Sum.elim_inr, HM.pure_apply]
  have hg0 : g = 0 := by omega
  subst hg0
  have e7 : r7 = (got, rt) := by rw [he]; show (got ++ [], rt) = _; rw [List.append_nil]
  subst e7
  clear he hi hdl
  obtain ⟨a, ha⟩ : ∃ a : AdvT, (⟨(r1.1 : Int), verV r2.1 r3.1, done, got⟩ : AdvT) = a := ⟨_, rfl⟩
  have ea : advR (rawR s (0, false)).1 = a := by rw [eraw]; exact ha
  have hza : szA a := by rw [← ea]; exact raw_sz s _
  have efs : a.fs = done := by rw [← ha]
  have els : a.ls = got := by rw [← ha]
  have eo : a.o = (r1.1 : Int) := by rw [← ha]
  have ev : a.v = verV r2.1 r3.1 := by rw [← ha]
  have hs13 : sat h12 (cells x4 (cA a sf sl).toArray :: ownS eS 1 sf a.fs :: ownS encK 6 sl a.ls :: rdA x2 s rt :: cells x1 zA :: old h0 :: R) := by
    rw [efs, els]
    have := hs12.re [0, 2, 1]
    rw [← eo, ← ev] at this
    exact this
  clear hs12
  have eC : getC s = if rt.2 = true ∨ rt.1 < s.size ∨ goodA a = false then (⟨0, 0, [], []⟩, 129) else (a, 0) := by
    unfold getC getA
    rw [ea, eraw]
    simp only
    by_cases hb : rt.2 = true ∨ rt.1 < s.size ∨ goodA a = false
    · simp only [if_pos hb]
    · simp only [if_neg hb]
  refine bind_cut (fun z h' => (z.1 = true ↔ (rt.2 = true ∨ rt.1 < s.size ∨ goodA a = false)) ∧ sat h' (cells x4 (cA a sf sl).toArray :: ownS eS 1 sf a.fs :: ownS encK 6 sl a.ls :: rdA x2 s rt :: cells x1 zA :: old h0 :: R)) ?_ ?_
  · refine ⟨_, rfl, rt.2, by rw [add_own]; exact hs13.p3.cell 2, ?_⟩
    (try dsimp only); rw [HM.ite_apply]
    cases hb : rt.2 with
    | true =>
      rw [if_pos rfl]
      exact ⟨by simp, hs13⟩
    | false =>
    rw [if_neg (by simp)]
    refine ⟨_, rfl, (rt.1 : Int), by rw [add_own]; exact hs13.p3.cell 1, ?_⟩
    (try dsimp only); rw [HM.ite_apply]
    by_cases hlt : rt.1 < s.size
    · rw [if_pos (by simp only [decide_eq_true_eq]; omega)]
      exact ⟨by simp [hlt], hs13⟩
    rw [if_neg (by simp only [decide_eq_true_eq]; omega)]
    refine loadN_cells (ts := [.int .i64, .int .i64, .slc, .slc]) (a.o, a.v, sf, sl, ()) hs13 rfl ?_
    refine bind_call1 (good_spec (hs13.re [1, 2, 5, 0, 3, 4]) ht hza fun h14 hs14 => ⟨_, rfl, ?_⟩)
    refine ⟨by simp [hlt], ?_⟩
    exact hs14.re [3, 0, 1, 4, 5, 2]
  rintro ⟨z, ⟨⟩⟩ h14 ⟨hz, hs14⟩
  simp only at hz
  rw [eC] at hq
  (try dsimp only); rw [HM.ite_apply]
  by_cases hbad : rt.2 = true ∨ rt.1 < s.size ∨ goodA a = false
  · rw [if_pos hbad] at hq
    rw [if_pos (hz.2 hbad)]
    (try dsimp only); rw [HM.bind_apply]
    refine storeN_all' (hs14.re [4, 0, 1, 2, 3]) rfl rfl fun h15 hs15 => ?_
    refine loadN_cells (ts := [.int .i64, .int .i64, .slc, .slc]) (0, 0, ⟨none, 0, 0⟩, ⟨none, 0, 0⟩, ()) hs15 rfl ?_
    exact hq h15 ⟨none, 0, 0⟩ ⟨none, 0, 0⟩ (ownS_nil (ownS_nil hs15.drop.drop.drop.drop.drop))
  · rw [if_neg hbad] at hq
    rw [if_neg (fun e => hbad (hz.1 e))]
    refine loadN_cells (ts := [.int .i64, .int .i64, .slc, .slc]) (a.o, a.v, sf, sl, ()) hs14 rfl ?_
    (try dsimp only); rw [HM.bind_apply]
    refine storeN_all' (hs14.re [4, 0, 1, 2, 3]) rfl rfl fun h15 hs15 => ?_
    refine loadN_cells (ts := [.int .i64, .int .i64, .slc, .slc]) (a.o, a.v, sf, sl, ()) hs15 rfl ?_
    exact hq h15 sf sl (hs15.drop.drop.re [2, 0, 1]).drop

set_option maxHeartbeats 4000000 in
theorem rGet_spec {s : ByteArray} (hs : sat h R) (hsz : s.size ≤ bigB) {Q : Value → Heap → Prop}
    (hq : ∀ h' sf sl, sat h' (ownS eS 1 sf (getC s).1.fs :: ownS encK 6 sl (getC s).1.ls :: R) → Q (.tuple #[vA (getC s).1 sf sl, .int .i64 (getC s).2]) h') :
    HCalls Tryd.prog 26 #[.string s] h Q := by
  refine ref21_Get_calls s h Q ?_
  unfold ref21_Get
  obtain ⟨r1, hr1⟩ : ∃ r, rdN 1 s (0, false) = r := ⟨_, rfl⟩
  obtain ⟨r2, hr2⟩ : ∃ r, rdN 4 s r1.2 = r := ⟨_, rfl⟩
  obtain ⟨r3, hr3⟩ : ∃ r, rdN 4 s r2.2 = r := ⟨_, rfl⟩
  obtain ⟨r4, hr4⟩ : ∃ r, rdN 1 s r3.2 = r := ⟨_, rfl⟩
  obtain ⟨r5, hr5⟩ : ∃ r, rdL rdD r4.1 s r4.2 = r := ⟨_, rfl⟩
  obtain ⟨r6, hr6⟩ : ∃ r, rdN 1 s r5.2 = r := ⟨_, rfl⟩
  obtain ⟨r7, hr7⟩ : ∃ r, rdL rdK r6.1 s r6.2 = r := ⟨_, rfl⟩
  have eraw : rawR s (0, false) = ((r1.1, r2.1, r3.1, r4.1, r5.1, r6.1, r7.1), r7.2) := by
    unfold rawR seqR
    simp only [hr1, hr2, hr3, hr4, hr5, hr6, hr7]
  have k1 := kept (rdN_keeps 1) hr1 (Nat.zero_le _)
  have k2 := kept (rdN_keeps 4) hr2 k1
  have k3 := kept (rdN_keeps 4) hr3 k2
  have k4 := kept (rdN_keeps 1) hr4 k3
  have n2 : r2.1 < 256 ^ 4 := by rw [← hr2]; exact rdN_lt 4 s _
  have n3 : r3.1 < 256 ^ 4 := by rw [← hr3]; exact rdN_lt 4 s _
  have n4 : r4.1 < 256 ^ 1 := by rw [← hr4]; exact rdN_lt 1 s _
  have n6 : r6.1 < 256 ^ 1 := by rw [← hr6]; exact rdN_lt 1 s _
  refine new_cells hs fun x1 h1 hs1 => ?_
  refine new_cells hs1 fun x2 h2 hs2' => ?_
  have hs2 : sat h2 (rdA x2 s (0, false) :: cells x1 zA :: R) := hs2'
  clear hs2' hs1 hs
  refine bind_call1 (rnumber_of hr1 hs2 (.inl rfl) (Nat.zero_le _) hsz fun h3 hs3 => ⟨_, rfl, ?_⟩)
  refine bind_call1 (rnumber_of hr2 hs3 (.inr (.inr rfl)) k1 hsz fun h4 hs4 => ⟨_, rfl, ?_⟩)
  refine bind_call1 (rnumber_of hr3 hs4 (.inr (.inr rfl)) k2 hsz fun h5 hs5 => ⟨_, rfl, ?_⟩)
  refine new_cells hs5 fun x4 h6 hs6 => ?_
  (try dsimp only); rw [HM.bind_apply, ver_doc]
  refine storeN_all' hs6 rfl rfl fun h8 hs8' => ?_
  have hs8 : sat h8 (cells x4 (cA ⟨(r1.1 : Int), verV r2.1 r3.1, [], []⟩ ⟨none, 0, 0⟩ ⟨none, 0, 0⟩).toArray :: rdA x2 s r3.2 :: cells x1 zA :: R) := hs8'
  clear hs8' hs6 hs5 hs4 hs3 hs2
  refine bind_call1 (rnumber_of hr4 hs8.p1 (.inl rfl) k3 hsz fun h9 hs9' => ⟨_, rfl, ?_⟩)
  have hs9 : sat h9 (cells x4 (cA ⟨(r1.1 : Int), verV r2.1 r3.1, [], []⟩ ⟨none, 0, 0⟩ ⟨none, 0, 0⟩).toArray :: ownS eS 1 ⟨none, 0, 0⟩ [] :: rdA x2 s r4.2 :: cells x1 zA :: R) := (ownS_nil (enc := eS) (size := 1) hs9').re [2, 0, 1]
  clear hs9' hs8
  (try dsimp only); rw [HM.bind_apply]
  refine loop_gx (γ := Nat × RdSt × List ByteArray × Slc) (hb := fun s => by
      repeat' with_reducible first
        | refine @mono_bind _ _ _ _ ?_ (fun _ => ?_)
        | refine @mono_ite _ _ _ _ ?_ ?_
        | refine @mono_req _ _ _ ?_
      all_goals infer_instance)
    (fun g c h' => c.1 = (((r4.1 - g.1 : Nat)) : Int) ∧ g.1 ≤ r4.1 ∧ g.2.1.1 ≤ s.size ∧ r5 = (g.2.2.1 ++ (rdL rdD g.1 s g.2.1).1, (rdL rdD g.1 s g.2.1).2) ∧ g.2.2.1.length = r4.1 - g.1 ∧
      sat h' (cells x4 (cA ⟨(r1.1 : Int), verV r2.1 r3.1, [], []⟩ g.2.2.2 ⟨none, 0, 0⟩).toArray :: ownS eS 1 g.2.2.2 g.2.2.1 :: rdA x2 s g.2.1 :: cells x1 zA :: R)) (fun g => g.1) (r4.1, r4.2, [], ⟨none, 0, 0⟩)
    ⟨by simp, Nat.le_refl _, k4, by simp only [List.nil_append]; exact hr5.symm, by simp, hs9⟩ ?_
  clear hs9
  rintro ⟨g, st, done, sf⟩ ⟨c, ⟨⟩⟩ h10 ⟨hc, hg, hst, he, hdl, hs10⟩
  simp only at hc hg hst he hdl hs10
  subst hc
  (try dsimp only); rw [HM.ite_apply]
  by_cases hi : r4.1 - g < r4.1
  · rw [if_pos (by simp only [decide_eq_true_eq]; omega)]
    obtain ⟨g, rfl⟩ : ∃ g', g = g' + 1 := ⟨g - 1, by omega⟩
    obtain ⟨q, hqd⟩ : ∃ r, rdD s st = r := ⟨_, rfl⟩
    have kq := kept rdD_keeps hqd hst
    have eq : rdL rdD (g + 1) s st = (q.1 :: (rdL rdD g s q.2).1, (rdL rdD g s q.2).2) := by rw [← hqd]; rfl
    rw [eq] at he
    simp only at he
    refine bind_call1 (rdata_of hqd (hs10.re [2, 0, 1]) hst hsz fun h11 hs11 => ⟨_, rfl, ?_⟩)
    refine ⟨sf, by rw [add_own]; exact hs11.p1.cell 2, ?_⟩
    refine new_cells hs11 fun y h12 hs12 => ?_
    (try dsimp only); rw [HM.bind_apply]
    refine app_one (enc := eS) (x := q.1) eS_len eS_cell rfl (hs12.re [0, 3, 1, 2]) (by decide) (by decide) (by rw [hdl]; omega) fun sf' h13 hs13 => ?_
    (try dsimp only); rw [HM.bind_apply, add_own]
    refine store1_cells (hs13.re [2, 0, 1]) (by simp) rfl fun h14 hs14 => ?_
    simp only [Sum.elim_inl, Sum.elim_inr, HM.pure_apply]
    refine .mk (g, q.2, done ++ [q.1], sf') (by simp only; omega) ⟨by simp only; rw [wrap_id (by omega) (by omega)]; omega, by simp only; omega, kq, by simp only; rw [he, List.append_assoc]; rfl, by simp only [List.length_append, List.length_cons, List.length_nil]; omega, ?_⟩
    exact hs14
  rw [if_neg (by simp only [decide_eq_true_eq]; omega)]
  simp only [Sum.elim_inl, Sum.elim_inr, HM.pure_apply]
  have hg0 : g = 0 := by omega
  subst hg0
  have e5 : r5 = (done, st) := by rw [he]; show (done ++ [], st) = _; rw [List.append_nil]
  subst e5
  have k6 := kept (rdN_keeps 1) hr6 hst
  clear he hi hdl
  refine bind_call1 (rnumber_of hr6 (hs10.re [2, 0, 1]) (.inl rfl) hst hsz fun h11 hs11' => ⟨_, rfl, ?_⟩)
  have hs11 : sat h11 (cells x4 (cA ⟨(r1.1 : Int), verV r2.1 r3.1, [], []⟩ sf ⟨none, 0, 0⟩).toArray :: ownS encK 6 ⟨none, 0, 0⟩ [] :: ownS eS 1 sf done :: rdA x2 s r6.2 :: cells x1 zA :: R) := (ownS_nil (enc := encK) (size := 6) hs11').re [2, 0, 3, 1]
  clear hs11' hs10
  (try dsimp only); rw [HM.bind_apply]
  refine loop_gx (γ := Nat × RdSt × List LinkT × Slc) (hb := fun s => by
      repeat' with_reducible first
        | refine @mono_bind _ _ _ _ ?_ (fun _ => ?_)
        | refine @mono_ite _ _ _ _ ?_ ?_
        | refine @mono_req _ _ _ ?_
      all_goals infer_instance)
    (fun g c h' => c.1 = (((r6.1 - g.1 : Nat)) : Int) ∧ g.1 ≤ r6.1 ∧ g.2.1.1 ≤ s.size ∧ r7 = (g.2.2.1 ++ (rdL rdK g.1 s g.2.1).1, (rdL rdK g.1 s g.2.1).2) ∧ g.2.2.1.length = r6.1 - g.1 ∧
      sat h' (cells x4 (cA ⟨(r1.1 : Int), verV r2.1 r3.1, [], []⟩ sf g.2.2.2).toArray :: ownS encK 6 g.2.2.2 g.2.2.1 :: ownS eS 1 sf done :: rdA x2 s g.2.1 :: cells x1 zA :: R)) (fun g => g.1) (r6.1, r6.2, [], ⟨none, 0, 0⟩)
    ⟨by simp, Nat.le_refl _, k6, by simp only [List.nil_append]; exact hr7.symm, by simp, hs11⟩ ?_
  clear hs11
  rintro ⟨g, rt, got, sl⟩ ⟨c, ⟨⟩⟩ h12 ⟨hc, hg, hrt, he, hdl, hs12⟩
  simp only at hc hg hrt he hdl hs12
  subst hc
  (try dsimp only); rw [HM.ite_apply]
  by_cases hi : r6.1 - g < r6.1
  · rw [if_pos (by simp only [decide_eq_true_eq]; omega)]
    obtain ⟨g, rfl⟩ : ∃ g', g = g' + 1 := ⟨g - 1, by omega⟩
    obtain ⟨q1, hq1⟩ : ∃ r, rdN 1 s rt = r := ⟨_, rfl⟩
    obtain ⟨q2, hq2⟩ : ∃ r, rdN 1 s q1.2 = r := ⟨_, rfl⟩
    obtain ⟨q3, hq3⟩ : ∃ r, rdN 1 s q2.2 = r := ⟨_, rfl⟩
    obtain ⟨q4, hq4⟩ : ∃ r, rdD s q3.2 = r := ⟨_, rfl⟩
    obtain ⟨q5, hq5⟩ : ∃ r, rdD s q4.2 = r := ⟨_, rfl⟩
    obtain ⟨q6, hq6⟩ : ∃ r, rdD s q5.2 = r := ⟨_, rfl⟩
    have j1 := kept (rdN_keeps 1) hq1 hrt
    have j2 := kept (rdN_keeps 1) hq2 j1
    have j3 := kept (rdN_keeps 1) hq3 j2
    have j4 := kept rdD_keeps hq4 j3
    have j5 := kept rdD_keeps hq5 j4
    have j6 := kept rdD_keeps hq6 j5
    have eK : rdK s rt = (((q1.1 : Int), q4.1, (q2.1 : Int), (q3.1 : Int), q5.1, q6.1, ()), q6.2) := by
      unfold rdK rdK6 seqR toK
      simp only [hq1, hq2, hq3, hq4, hq5, hq6]
    have eq : rdL rdK (g + 1) s rt = (((q1.1 : Int), q4.1, (q2.1 : Int), (q3.1 : Int), q5.1, q6.1, ()) :: (rdL rdK g s q6.2).1, (rdL rdK g s q6.2).2) := by
      show ((rdK s rt).1 :: (rdL rdK g s (rdK s rt).2).1, (rdL rdK g s (rdK s rt).2).2) = _
      rw [eK]
    rw [eq] at he
    simp only at he
    have hs13 := hs12.re [3, 0, 1, 2]
    refine bind_call1 (rnumber_of hq1 hs13 (.inl rfl) hrt hsz fun h14 hs14 => ⟨_, rfl, ?_⟩)
    refine bind_call1 (rnumber_of hq2 hs14 (.inl rfl) j1 hsz fun h15 hs15 => ⟨_, rfl, ?_⟩)
    refine bind_call1 (rnumber_of hq3 hs15 (.inl rfl) j2 hsz fun h16 hs16 => ⟨_, rfl, ?_⟩)
    refine bind_call1 (rdata_of hq4 hs16 j3 hsz fun h21 hs21 => ⟨_, rfl, ?_⟩)
    refine bind_call1 (rdata_of hq5 hs21 j4 hsz fun h22 hs22 => ⟨_, rfl, ?_⟩)
    refine bind_call1 (rdata_of hq6 hs22 j5 hsz fun h23 hs23 => ⟨_, rfl, ?_⟩)
    refine ⟨sl, by rw [add_own]; exact hs23.p1.cell 3, ?_⟩
    refine new_cells hs23 fun z h27 hs27 => ?_
    (try dsimp only); rw [HM.bind_apply]
    refine app_one (enc := encK) (x := ((q1.1 : Int), q4.1, (q2.1 : Int), (q3.1 : Int), q5.1, q6.1, ())) eK_len eK_cell rfl (hs27.re [0, 3, 1, 2]) (by decide) (by decide) (by rw [hdl]; omega) fun sl' h28 hs28 => ?_
    (try dsimp only); rw [HM.bind_apply, add_own]
    refine store1_cells (hs28.re [2, 0, 1]) (by simp) rfl fun h29 hs29 => ?_
    simp only [Sum.elim_inl, Sum.elim_inr, HM.pure_apply]
    refine .mk (g, q6.2, got ++ [((q1.1 : Int), q4.1, (q2.1 : Int), (q3.1 : Int), q5.1, q6.1, ())], sl') (by simp only; omega) ⟨by simp only; rw [wrap_id (by omega) (by omega)]; omega, by simp only; omega, j6, by simp only; rw [he, List.append_assoc]; rfl, by simp only [List.length_append, List.length_cons, List.length_nil]; omega, ?_⟩
    exact hs29.re [0, 1, 3, 2]
  rw [if_neg (by simp only [decide_eq_true_eq]; omega)]
  simp only [Sum.elim_inl, Sum.elim_inr, HM.pure_apply]
  have hg0 : g = 0 := by omega
  subst hg0
  have e7 : r7 = (got, rt) := by rw [he]; show (got ++ [], rt) = _; rw [List.append_nil]
  subst e7
  clear he hi hdl
  obtain ⟨a, ha⟩ : ∃ a : AdvT, (⟨(r1.1 : Int), verV r2.1 r3.1, done, got⟩ : AdvT) = a := ⟨_, rfl⟩
  have ea : advR (rawR s (0, false)).1 = a := by rw [eraw]; exact ha
  have hza : szA a := by rw [← ea]; exact raw_sz s _
  have efs : a.fs = done := by rw [← ha]
  have els : a.ls = got := by rw [← ha]
  have eo : a.o = (r1.1 : Int) := by rw [← ha]
  have ev : a.v = verV r2.1 r3.1 := by rw [← ha]
  have hs13 : sat h12 (cells x4 (cA a sf sl).toArray :: ownS eS 1 sf a.fs :: ownS encK 6 sl a.ls :: rdA x2 s rt :: cells x1 zA :: R) := by
    rw [efs, els]
    have := hs12.re [0, 2, 1]
    rw [← eo, ← ev] at this
    exact this
  clear hs12
  have eC : getC s = if rt.2 = true ∨ rt.1 < s.size ∨ goodA a = false then (⟨0, 0, [], []⟩, 129) else (a, 0) := by
    unfold getC getA
    rw [ea, eraw]
    simp only
    by_cases hb : rt.2 = true ∨ rt.1 < s.size ∨ goodA a = false
    · simp only [if_pos hb]
    · simp only [if_neg hb]
  refine loadN_cells (ts := [.int .i64, .int .i64, .slc, .slc]) (a.o, a.v, sf, sl, ()) hs13 rfl ?_
  refine bind_call1 (rGood_spec (hs13.re [1, 2, 0]) hza fun h13 hs13' => ⟨_, rfl, ?_⟩)
  clear hs13
  have hs13 := hs13'.re [2, 0, 1]
  clear hs13'
  refine bind_cut (fun z h' => (z.1 = true ↔ (rt.2 = true ∨ rt.1 < s.size ∨ goodA a = false)) ∧ sat h' (cells x4 (cA a sf sl).toArray :: ownS eS 1 sf a.fs :: ownS encK 6 sl a.ls :: rdA x2 s rt :: cells x1 zA :: R)) ?_ ?_
  · refine ⟨_, rfl, rt.2, by rw [add_own]; exact hs13.p3.cell 2, ?_⟩
    (try dsimp only); rw [HM.ite_apply]
    cases hb : rt.2 with
    | true =>
      rw [if_pos rfl]
      exact ⟨by simp, hs13⟩
    | false =>
    rw [if_neg (by simp)]
    refine ⟨_, rfl, (rt.1 : Int), by rw [add_own]; exact hs13.p3.cell 1, ?_⟩
    (try dsimp only); rw [HM.ite_apply]
    by_cases hlt : rt.1 < s.size
    · rw [if_pos (by simp only [decide_eq_true_eq]; omega)]
      exact ⟨by simp [hlt], hs13⟩
    rw [if_neg (by simp only [decide_eq_true_eq]; omega)]
    exact ⟨by simp [hlt], hs13⟩
  rintro ⟨z, ⟨⟩⟩ h14 ⟨hz, hs14⟩
  simp only at hz
  rw [eC] at hq
  (try dsimp only); rw [HM.ite_apply]
  by_cases hbad : rt.2 = true ∨ rt.1 < s.size ∨ goodA a = false
  · rw [if_pos hbad] at hq
    rw [if_pos (hz.2 hbad)]
    (try dsimp only); rw [HM.bind_apply]
    refine storeN_all' (hs14.re [4, 0, 1, 2, 3]) rfl rfl fun h15 hs15 => ?_
    refine loadN_cells (ts := [.int .i64, .int .i64, .slc, .slc]) (0, 0, ⟨none, 0, 0⟩, ⟨none, 0, 0⟩, ()) hs15 rfl ?_
    exact hq h15 ⟨none, 0, 0⟩ ⟨none, 0, 0⟩ (ownS_nil (ownS_nil hs15.drop.drop.drop.drop.drop))
  · rw [if_neg hbad] at hq
    rw [if_neg (fun e => hbad (hz.1 e))]
    refine loadN_cells (ts := [.int .i64, .int .i64, .slc, .slc]) (a.o, a.v, sf, sl, ()) hs14 rfl ?_
    (try dsimp only); rw [HM.bind_apply]
    refine storeN_all' (hs14.re [4, 0, 1, 2, 3]) rfl rfl fun h15 hs15 => ?_
    refine loadN_cells (ts := [.int .i64, .int .i64, .slc, .slc]) (a.o, a.v, sf, sl, ()) hs15 rfl ?_
    exact hq h15 sf sl (hs15.drop.drop.re [2, 0, 1]).drop

end Go.Proofs.YtmdagnoknmfhcaaDoor
