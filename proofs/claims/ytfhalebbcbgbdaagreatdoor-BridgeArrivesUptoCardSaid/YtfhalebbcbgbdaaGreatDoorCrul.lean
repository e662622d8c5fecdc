/-
  Crul: contracts: rules, and which adverts may be (the program, the document).
-/
import Derived.Test.YtfhalebbcbgbdaaGreatDoorCrtp
import Derived.Test.YtfhalebbcbgbdaaGreatDoorCnum
namespace Go.Proofs.YtfhalebbcbgbdaaGreatDoor
open Go.H Go.Proofs Go.Lib
set_option linter.unusedSimpArgs false
set_option linter.unusedVariables false
set_option synthInstance.maxSize 100000
set_option synthInstance.maxHeartbeats 400000
set_option maxRecDepth 100000

abbrev RuleT := ByteArray × Int × Int × ByteArray × ByteArray × Unit
abbrev vR (r : RuleT) : Value := .agg #[.string r.1, .int .i64 r.2.1, .int .i64 r.2.2.1, .string r.2.2.2.1, .string r.2.2.2.2.1]
abbrev LinkT := Int × ByteArray × Int × Int × ByteArray × ByteArray × Unit
abbrev vK (l : LinkT) : Value := .agg #[.int .i64 l.1, .string l.2.1, .int .i64 l.2.2.1, .int .i64 l.2.2.2.1, .string l.2.2.2.2.1, .string l.2.2.2.2.2.1]
abbrev encK (l : LinkT) : List Value := [.int .i64 l.1, .string l.2.1, .int .i64 l.2.2.1, .int .i64 l.2.2.2.1, .string l.2.2.2.2.1, .string l.2.2.2.2.2.1]
theorem eK_len : ∀ x : LinkT, (encK x).length = 6 := fun _ => rfl
theorem eK_cell : ∀ x : LinkT, ∀ v ∈ encK x, v.oneCell' = true := fun x v hv => by
  simp only [encK, List.mem_cons, List.not_mem_nil, or_false] at hv
  rcases hv with rfl | rfl | rfl | rfl | rfl | rfl <;> rfl

abbrev bigB : Nat := 9223372036854775800
def szR (r : RuleT) : Prop := r.1.size ≤ bigB ∧ r.2.2.2.1.size ≤ bigB ∧ r.2.2.2.2.1.size ≤ bigB

def prefOK (s : ByteArray) : Bool := decide (s = ByteArray.mk #[]) || nameOK s
def chkR (r : RuleT) : Int :=
  if filterOK r.1 = false then 143
  else if (prefOK r.2.2.2.1 && prefOK r.2.2.2.2.1) = false then 144
  else if r.2.1 < 0 ∨ 2 < r.2.1 then 128
  else if r.2.2.1 < 0 ∨ 2 < r.2.2.1 then 155
  else 0

variable {h h0 : Heap} {R : List Asn}

theorem prefix_spec (hs : sat h (old h0 :: R)) (ht : TP h0) {s : ByteArray} (hsz : s.size ≤ bigB) {Q : Value → Heap → Prop} (hq : ∀ h', sat h' (old h0 :: R) → Q (.bool (prefOK s)) h') :
    HCalls Tryz.prog 66 #[.string s] h Q := by
  refine remap_prefix_calls s h Q ?_
  unfold remap_prefix
  refine bind_cut (fun z h' => sat h' (old h0 :: R) ∧ z.1 = prefOK s) ?_ ?_
  · unfold prefOK
    (try dsimp only); rw [HM.ite_apply]
    by_cases h0 : s = ByteArray.mk #[]
    · rw [if_pos (by simpa using h0)]; exact ⟨hs, by simp [h0]⟩
    · rw [if_neg (by simpa using h0)]
      refine bind_call1 (CheckName_spec hs ht (Nat.le_trans hsz (by decide)) fun h1 hs1 => ⟨_, rfl, hs1, ?_⟩)
      unfold nameC
      cases nameOK s <;> simp [h0]
  rintro ⟨z, ⟨⟩⟩ h1 ⟨hs1, hz⟩
  simp only at hz
  subst hz
  exact hq _ hs1

theorem two_tests {x : Nat} {i : Nat} {cs : Array Value} {n : Int} (hs : sat h (cells x cs :: R)) (hc : cs[i]? = some (.int .i64 n)) {Q : Bool × Unit → Heap → Prop} (hq : Q (decide (n < 0 ∨ 2 < n), ()) h) :
    (HM.bind (α := Int) (HM.load1 (.int .i64) (Addr.add ⟨x, 0, none⟩ i)) fun (x9 : Int) =>
      HM.ite (decide (x9 < (0 : Int))) (
      HM.pure (true, ())) (
      HM.bind (α := Int) (HM.load1 (.int .i64) (Addr.add ⟨x, 0, none⟩ i)) fun (x10 : Int) =>
      HM.pure (decide (2 < (x10 : Int)), ()))) h Q := by
  refine ⟨n, by rw [add_own, hs.cell]; exact hc, ?_⟩
  (try dsimp only); rw [HM.ite_apply]
  by_cases h1 : n < 0
  · rw [if_pos (by simpa using h1)]
    simpa [h1] using hq
  · rw [if_neg (by simpa using h1)]
    refine ⟨n, by rw [add_own, hs.cell]; exact hc, ?_⟩
    simpa [h1] using hq

theorem Check_spec (hs : sat h (old h0 :: R)) (ht : TP h0) {r : RuleT} (hz : szR r) {Q : Value → Heap → Prop} (hq : ∀ h', sat h' (old h0 :: R) → Q (.int .u8 (chkR r)) h') :
    HCalls Tryz.prog 36 #[vR r] h Q := by
  refine remap_Rule_Check_calls r h Q ?_
  unfold remap_Rule_Check
  refine new_cells hs fun x h1 hs1 => ?_
  refine ⟨r.1, by rw [add_own]; exact hs1.cell 0, ?_⟩
  refine bind_call1 (CheckFilter_spec hs1.p1 ht (Nat.le_trans hz.1 (by decide)) fun h2 hs2' => ⟨_, rfl, ?_⟩)
  have hs2 := hs2'.p1
  clear hs2' hs1
  unfold chkR at hq
  (try dsimp only); rw [HM.ite_apply]
  cases hf : filterOK r.1 with
  | false =>
    rw [if_pos hf] at hq
    rw [if_pos (by simp [filtC, hf])]
    exact hq _ hs2.drop
  | true =>
  rw [if_neg (by simp [hf])] at hq
  rw [if_neg (by simp [filtC, hf])]
  refine bind_cut (fun z h' => sat h' (cells x #[.string r.1, .int .i64 r.2.1, .int .i64 r.2.2.1, .string r.2.2.2.1, .string r.2.2.2.2.1] :: old h0 :: R) ∧ z.1 = !(prefOK r.2.2.2.1 && prefOK r.2.2.2.2.1)) ?_ ?_
  · refine ⟨r.2.2.2.1, by rw [add_own]; exact hs2.cell 3, ?_⟩
    refine bind_call1 (prefix_spec hs2.p1 ht hz.2.1 fun h3 hs3 => ⟨_, rfl, ?_⟩)
    (try dsimp only); rw [HM.ite_apply]
    cases prefOK r.2.2.2.1 with
    | false => rw [if_pos (by rfl)]; exact ⟨hs3.p1, rfl⟩
    | true =>
      rw [if_neg (by simp)]
      refine ⟨r.2.2.2.2.1, by rw [add_own]; exact hs3.p1.cell 4, ?_⟩
      refine bind_call1 (prefix_spec hs3 ht hz.2.2 fun h4 hs4 => ⟨_, rfl, ?_⟩)
      exact ⟨hs4.p1, by simp⟩
  rintro ⟨z, ⟨⟩⟩ h3 ⟨hs3, hzz⟩
  simp only at hzz
  subst hzz
  (try dsimp only); rw [HM.ite_apply]
  cases hp : (prefOK r.2.2.2.1 && prefOK r.2.2.2.2.1) with
  | false =>
    rw [if_pos hp] at hq
    rw [if_pos (by rfl)]
    exact hq _ hs3.drop
  | true =>
  rw [if_neg (by simp [hp])] at hq
  rw [if_neg (by simp)]
  refine bind_cut (fun z h' => h' = h3 ∧ z.1 = decide (r.2.1 < 0 ∨ 2 < r.2.1)) (two_tests hs3 rfl ⟨rfl, rfl⟩) ?_
  rintro ⟨z, ⟨⟩⟩ h4 ⟨rfl, hzz⟩
  simp only at hzz
  subst hzz
  (try dsimp only); rw [HM.ite_apply]
  by_cases hd : r.2.1 < 0 ∨ 2 < r.2.1
  · rw [if_pos hd] at hq
    rw [if_pos (by simpa using hd)]
    exact hq _ hs3.drop
  rw [if_neg hd] at hq
  rw [if_neg (by simpa using hd)]
  refine bind_cut (fun z h' => h' = h4 ∧ z.1 = decide (r.2.2.1 < 0 ∨ 2 < r.2.2.1)) (two_tests hs3 rfl ⟨rfl, rfl⟩) ?_
  rintro ⟨z, ⟨⟩⟩ h5 ⟨rfl, hzz⟩
  simp only at hzz
  subst hzz
  (try dsimp only); rw [HM.ite_apply]
  by_cases hd2 : r.2.2.1 < 0 ∨ 2 < r.2.2.1
  · rw [if_pos hd2] at hq
    rw [if_pos (by simpa using hd2)]
    exact hq _ hs3.drop
  · rw [if_neg hd2] at hq
    rw [if_neg (by simpa using hd2)]
    exact hq _ hs3.drop

theorem rCheck_spec (hs : sat h R) {r : RuleT} (hz : szR r) {Q : Value → Heap → Prop} (hq : ∀ h', sat h' R → Q (.int .i64 (chkR r)) h') :
    HCalls Tryz.prog 39 #[vR r] h Q := by
  refine ref10_Check_calls r h Q ?_
  unfold ref10_Check
  refine new_cells hs fun x h1 hs1 => ?_
  refine ⟨r.1, by rw [add_own]; exact hs1.cell 0, ?_⟩
  refine bind_call1 (rCheckFilter_spec hs1 hz.1 fun h2 hs2 => ⟨_, rfl, ?_⟩)
  refine ⟨r.2.2.2.1, by rw [add_own]; exact hs2.cell 3, ?_⟩
  refine bind_call1 (rCheckName_spec hs2 hz.2.1 fun h3 hs3 => ⟨_, rfl, ?_⟩)
  refine ⟨r.2.2.2.2.1, by rw [add_own]; exact hs3.cell 4, ?_⟩
  refine bind_call1 (rCheckName_spec hs3 hz.2.2 fun h4 hs4 => ⟨_, rfl, ?_⟩)
  clear hs3 hs2 hs1
  unfold chkR at hq
  (try dsimp only); rw [HM.ite_apply]
  cases hf : filterOK r.1 with
  | false =>
    rw [if_pos hf] at hq
    rw [if_pos (by simp [filtC, hf])]
    exact hq _ hs4.drop
  | true =>
  rw [if_neg (by simp [hf])] at hq
  rw [if_neg (by simp [filtC, hf])]
  refine bind_cut (fun z h' => h' = h4 ∧ z.1 = !(prefOK r.2.2.2.1 && prefOK r.2.2.2.2.1)) ?_ ?_
  · refine ⟨r.2.2.2.1, by rw [add_own]; exact hs4.cell 3, ?_⟩
    unfold prefOK nameC
    (try dsimp only); rw [HM.ite_apply]
    have last : ∀ {Q : Bool × Unit → Heap → Prop}, Q (!(decide (r.2.2.2.2.1 = ByteArray.mk #[]) || nameOK r.2.2.2.2.1), ()) h4 →
        (HM.bind (α := ByteArray) (HM.load1 .str (Addr.add ⟨x, 0, none⟩ 4)) fun (x10 : ByteArray) =>
          HM.ite (!(decide (x10 = (ByteArray.mk #[])))) (
          HM.pure (!((if nameOK r.2.2.2.2.1 = true then (0 : Int) else 144) == 0), ())) (
          HM.pure (false, ()))) h4 Q := by
      intro Q hQ
      refine ⟨r.2.2.2.2.1, by rw [add_own]; exact hs4.cell 4, ?_⟩
      (try dsimp only); rw [HM.ite_apply]
      by_cases he : r.2.2.2.2.1 = ByteArray.mk #[]
      · rw [if_neg (by simpa using he)]
        simpa [he] using hQ
      · rw [if_pos (by simpa using he)]
        cases hn : nameOK r.2.2.2.2.1 <;> simpa [he, hn] using hQ
    by_cases he : r.2.2.2.1 = ByteArray.mk #[]
    · rw [if_neg (by simpa using he)]
      refine last ⟨rfl, ?_⟩
      simp [he]
    · rw [if_pos (by simpa using he)]
      (try dsimp only); rw [HM.ite_apply]
      cases hn : nameOK r.2.2.2.1 with
      | false =>
        rw [if_pos (by simp)]
        exact ⟨rfl, by simp [he]⟩
      | true =>
        rw [if_neg (by simp)]
        refine last ⟨rfl, ?_⟩
        simp [he]
  rintro ⟨z, ⟨⟩⟩ h3 ⟨rfl, hzz⟩
  simp only at hzz
  subst hzz
  (try dsimp only); rw [HM.ite_apply]
  cases hp : (prefOK r.2.2.2.1 && prefOK r.2.2.2.2.1) with
  | false =>
    rw [if_pos hp] at hq
    rw [if_pos (by rfl)]
    exact hq _ hs4.drop
  | true =>
  rw [if_neg (by simp [hp])] at hq
  rw [if_neg (by simp)]
  refine bind_cut (fun z h' => h' = h3 ∧ z.1 = decide (r.2.1 < 0 ∨ 2 < r.2.1)) (two_tests hs4 rfl ⟨rfl, rfl⟩) ?_
  rintro ⟨z, ⟨⟩⟩ h4 ⟨rfl, hzz⟩
  simp only at hzz
  subst hzz
  (try dsimp only); rw [HM.ite_apply]
  by_cases hd : r.2.1 < 0 ∨ 2 < r.2.1
  · rw [if_pos hd] at hq
    rw [if_pos (by simpa using hd)]
    exact hq _ hs4.drop
  rw [if_neg hd] at hq
  rw [if_neg (by simpa using hd)]
  refine bind_cut (fun z h' => h' = h4 ∧ z.1 = decide (r.2.2.1 < 0 ∨ 2 < r.2.2.1)) (two_tests hs4 rfl ⟨rfl, rfl⟩) ?_
  rintro ⟨z, ⟨⟩⟩ h5 ⟨rfl, hzz⟩
  simp only at hzz
  subst hzz
  (try dsimp only); rw [HM.ite_apply]
  by_cases hd2 : r.2.2.1 < 0 ∨ 2 < r.2.2.1
  · rw [if_pos hd2] at hq
    rw [if_pos (by simpa using hd2)]
    exact hq _ hs4.drop
  · rw [if_neg hd2] at hq
    rw [if_neg (by simpa using hd2)]
    exact hq _ hs4.drop

/-! ### adverts -/

structure AdvT where
  o : Int
  v : Int
  fs : List ByteArray
  ls : List LinkT

def linkOK (o : Int) (l : LinkT) : Bool := decide (0 ≤ l.1 ∧ l.1 < 8 ∧ l.1 ≠ o) && decide (chkR l.2 = 0)
def headOK (a : AdvT) : Bool := decide (0 ≤ a.o ∧ a.o < 8 ∧ 1 ≤ a.v ∧ a.v ≤ 9007199254740992 ∧ a.fs.length ≤ 64 ∧ a.ls.length ≤ 16)
def goodA (a : AdvT) : Bool := headOK a && (a.fs.all filterOK && a.ls.all (linkOK a.o))
structure szA (a : AdvT) : Prop where
  fs : ∀ f ∈ a.fs, f.size ≤ bigB
  ls : ∀ l ∈ a.ls, szR l.2

/-- an advert's value: its filters and links lie in 'sf' and 'sl' -/
abbrev vA (a : AdvT) (sf sl : Slc) : Value := .agg #[.int .i64 a.o, .int .i64 a.v, .slice sf.a sf.len sf.cap, .slice sl.a sl.len sl.cap]
abbrev cA (a : AdvT) (sf sl : Slc) : List Value := [.int .i64 a.o, .int .i64 a.v, .slice sf.a sf.len sf.cap, .slice sl.a sl.len sl.cap]


theorem drop_at {α : Type} {l : List α} {i : Nat} {x : α} (hx : l[i]? = some x) : l.drop i = x :: l.drop (i + 1) := by
  obtain ⟨hi, rfl⟩ := List.getElem?_eq_some_iff.1 hx
  exact List.drop_eq_getElem_cons hi


theorem load_K {a : Addr} {l : LinkT} (ha : ∀ j v, (encK l)[j]? = some v → cellH h (a.add j) = some v) {Q : LinkT → Heap → Prop} (hq : Q l h) : HM.loadN [.int .i64, .str, .int .i64, .int .i64, .str, .str] a h Q :=
  loadN_of (ts := [.int .i64, .str, .int .i64, .int .i64, .str, .str]) l (fun i v hv => ha i v hv) hq
theorem load_R {a : Addr} {l : LinkT} {x : Nat} {cs : Array Value} (hs : sat h (cells x cs :: R)) (he : cs = (encK l).toArray) {Q : RuleT → Heap → Prop} (hq : Q l.2 h) : HM.loadN [.str, .int .i64, .int .i64, .str, .str] (Addr.add ⟨x, 0, none⟩ 1) h Q := by
  subst he
  refine loadN_of (ts := [.str, .int .i64, .int .i64, .str, .str]) l.2 (fun i v hv => ?_) hq
  rw [add_own, Addr.add_at, hs.cell]
  match i, hv with
  | 0, hv => exact hv
  | 1, hv => exact hv
  | 2, hv => exact hv
  | 3, hv => exact hv
  | 4, hv => exact hv
  | j + 5, hv => cases (show (none : Option Value) = some v from hv)



end Go.Proofs.YtfhalebbcbgbdaaGreatDoor
