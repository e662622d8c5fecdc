/-
  Crul: contracts: rules, and which adverts may be (the program, the document).
-/
import Derived.Test.YtmdagnoknmfhcaaDoorCrtp
import Derived.Test.YtmdagnoknmfhcaaDoorCnum
namespace Go.Proofs.YtmdagnoknmfhcaaDoor
open Go.H Go.Proofs Go.Lib
set_option linter.unusedSimpArgs false
set_option linter.unusedVariables false
set_option synthInstance.maxSize 100000
set_option synthInstance.maxHeartbeats 400000
set_option maxRecDepth 100000

abbrev RuleT := ByteArray × Int × Int × ByteArray × ByteArray × Unit
abbrev vR (r : RuleT) : Value := .agg #[.string r.1, .int .i64 r.2.1, .int .i64 r.2.2.1, .string r.2.2.2.1, .string r.2.2.2.2.1]
abbrev LinkT := Int × ByteArray × Int × Int × ByteArray × ByteArray × Unit
abbrev vK (l : LinkT) : Value := .agg #[.int .i64 l.1, .string l.2.1, .int .i64 l.2.2.1, .int .i64 l.2.2.2.1, .string l.2.2.2.2.1, .string l.2.2.2.2.2.1]
abbrev encK (l : LinkT) : List Value := [.int .i64 l.1, .string l.2.1, .int .i64 l.2.2.1, .int .i64 l.2.2.2.1, .string l.2.2.2.2.1, .string l.2.2.2.2.2.1]
theorem eK_len : ∀ x : LinkT, (encK x).length = 6 := fun _ => rfl
theorem eK_cell : ∀ x : LinkT, ∀ v ∈ encK x, v.oneCell' = true := fun x v hv => by
  simp only [encK, List.mem_cons, List.not_mem_nil, or_false] at hv
  rcases hv with rfl | rfl | rfl | rfl | rfl | rfl <;> rfl

abbrev bigB : Nat := 9223372036854775800
def szR (r : RuleT) : Prop := r.1.size ≤ bigB ∧ r.2.2.2.1.size ≤ bigB ∧ r.2.2.2.2.1.size ≤ bigB

def prefOK (s : ByteArray) : Bool := decide (s = ByteArray.mk #[]) || nameOK s
def chkR (r : RuleT) : Int :=
  if filterOK r.1 = false then 143
  else if (prefOK r.2.2.2.1 && prefOK r.2.2.2.2.1) = false then 144
  else if r.2.1 < 0 ∨ 2 < r.2.1 then 128
  else if r.2.2.1 < 0 ∨ 2 < r.2.2.1 then 155
  else 0

variable {h h0 : Heap} {R : List Asn}

theorem prefix_spec (hs : sat h (old h0 :: R)) (ht : TP h0) {s : ByteArray} (hsz : s.size ≤ bigB) {Q : Value → Heap → Prop} (hq : ∀ h', sat h' (old h0 :: R) → Q (.bool (prefOK s)) h') :
    HCalls Tryd.prog 113 #[.string s] h Q := by
  refine remap_prefix_calls s h Q ?_
  unfold remap_prefix
  refine bind_cut (fun z h' => sat h' (old h0 :: R) ∧ z.1 = prefOK s) ?_ ?_
  · unfold prefOK
    (try dsimp only); rw [HM.ite_apply]
    by_cases h0 : s = ByteArray.mk #[]
    · rw [if_pos (by simpa using h0)]; exact ⟨hs, by simp [h0]⟩
    · rw [if_neg (by simpa using h0)]
      refine bind_call1 (CheckName_spec hs ht (Nat.le_trans hsz (by decide)) fun h1 hs1 => ⟨_, rfl, hs1, ?_⟩)
      unfold nameC
      cases nameOK s <;> simp [h0]
  rintro ⟨z, ⟨⟩⟩ h1 ⟨hs1, hz⟩
  simp only at hz
  subst hz
  exact hq _ hs1

theorem two_tests {x : Nat} {i : Nat} {cs : Array Value} {n : Int} (hs : sat h (cells x cs :: R)) (hc : cs[i]? = some (.int .i64 n)) {Q : Bool × Unit → Heap → Prop} (hq : Q (decide (n < 0 ∨ 2 < n), ()) h) :
    (HM.bind (α := Int) (HM.load1 (.int .i64) (Addr.add ⟨x, 0, none⟩ i)) fun (x9 : Int) =>
      HM.ite (decide (x9 < (0 : Int))) (
      HM.pure (true, ())) (
      HM.bind (α := Int) (HM.load1 (.int .i64) (Addr.add ⟨x, 0, none⟩ i)) fun (x10 : Int) =>
      HM.pure (decide (2 < (x10 : Int)), ()))) h Q := by
  refine ⟨n, by rw [add_own, hs.cell]; exact hc, ?_⟩
  (try dsimp only); rw [HM.ite_apply]
  by_cases h1 : n < 0
  · rw [if_pos (by simpa using h1)]
    simpa [h1] using hq
  · rw [if_neg (by simpa using h1)]
    refine ⟨n, by rw [add_own, hs.cell]; exact hc, ?_⟩
    simpa [h1] using hq

theorem Check_spec (hs : sat h (old h0 :: R)) (ht : TP h0) {r : RuleT} (hz : szR r) {Q : Value → Heap → Prop} (hq : ∀ h', sat h' (old h0 :: R) → Q (.int .u8 (chkR r)) h') :
    HCalls Tryd.prog 84 #[vR r] h Q := by
  refine remap_Rule_Check_calls r h Q ?_
  unfold remap_Rule_Check
  refine new_cells hs fun x h1 hs1 => ?_
  refine ⟨r.1, by rw [add_own]; exact hs1.cell 0, ?_⟩
  refine bind_call1 (CheckFilter_spec hs1.p1 ht (Nat.le_trans hz.1 (by decide)) fun h2 hs2' => ⟨_, rfl, ?_⟩)
  have hs2 := hs2'.p1
  clear hs2' hs1
  unfold chkR at hq
  (try dsimp only); rw [HM.ite_apply]
  cases hf : filterOK r.1 with
  | false =>
    rw [if_pos hf] at hq
    rw [if_pos (by simp [filtC, hf])]
    exact hq _ hs2.drop
  | true =>
  rw [if_neg (by simp [hf])] at hq
  rw [if_neg (by simp [filtC, hf])]
  refine bind_cut (fun z h' => sat h' (cells x #[.string r.1, .int .i64 r.2.1, .int .i64 r.2.2.1, .string r.2.2.2.1, .string r.2.2.2.2.1] :: old h0 :: R) ∧ z.1 = !(prefOK r.2.2.2.1 && prefOK r.2.2.2.2.1)) ?_ ?_
  · refine ⟨r.2.2.2.1, by rw [add_own]; exact hs2.cell 3, ?_⟩
    refine bind_call1 (prefix_spec hs2.p1 ht hz.2.1 fun h3 hs3 => ⟨_, rfl, ?_⟩)
    (try dsimp only); rw [HM.ite_apply]
    cases prefOK r.2.2.2.1 with
    | false => rw [if_pos (by rfl)]; exact ⟨hs3.p1, rfl⟩
    | true =>
      rw [if_neg (by simp)]
      refine ⟨r.2.2.2.2.1, by rw [add_own]; exact hs3.p1.cell 4, ?_⟩
      refine bind_call1 (prefix_spec hs3 ht hz.2.2 fun h4 hs4 => ⟨_, rfl, ?_⟩)
      exact ⟨hs4.p1, by simp⟩
  rintro ⟨z, ⟨⟩⟩ h3 ⟨hs3, hzz⟩
  simp only at hzz
  subst hzz
  (try dsimp only); rw [HM.ite_apply]
  cases hp : (prefOK r.2.2.2.1 && prefOK r.2.2.2.2.1) with
  | false =>
    rw [if_pos hp] at hq
    rw [if_pos (by rfl)]
    exact hq _ hs3.drop
  | true =>
  rw [if_neg (by simp [hp])] at hq
  rw [if_neg (by simp)]
  refine bind_cut (fun z h' => h' = h3 ∧ z.1 = decide (r.2.1 < 0 ∨ 2 < r.2.1)) (two_tests hs3 rfl ⟨rfl, rfl⟩) ?_
  rintro ⟨z, ⟨⟩⟩ h4 ⟨rfl, hzz⟩
  simp only at hzz
  subst hzz
  (try dsimp only); rw [HM.ite_apply]
  by_cases hd : r.2.1 < 0 ∨ 2 < r.2.1
  · rw [if_pos hd] at hq
    rw [if_pos (by simpa using hd)]
    exact hq _ hs3.drop
  rw [if_neg hd] at hq
  rw [if_neg (by simpa using hd)]
  refine bind_cut (fun z h' => h' = h4 ∧ z.1 = decide (r.2.2.1 < 0 ∨ 2 < r.2.2.1)) (two_tests hs3 rfl ⟨rfl, rfl⟩) ?_
  rintro ⟨z, ⟨⟩⟩ h5 ⟨rfl, hzz⟩
  simp only at hzz
  subst hzz
  (try dsimp only); rw [HM.ite_apply]
  by_cases hd2 : r.2.2.1 < 0 ∨ 2 < r.2.2.1
  · rw [if_pos hd2] at hq
    rw [if_pos (by simpa using hd2)]
    exact hq _ hs3.drop
  · rw [if_neg hd2] at hq
    rw [if_neg (by simpa using hd2)]
    exact hq _ hs3.drop

theorem rCheck_spec (hs : sat h R) {r : RuleT} (hz : szR r) {Q : Value → Heap → Prop} (hq : ∀ h', sat h' R → Q (.int .i64 (chkR r)) h') :
    HCalls Tryd.prog 87 #[vR r] h Q := by
  refine ref10_Check_calls r h Q ?_
  unfold ref10_Check
  refine new_cells hs fun x h1 hs1 => ?_
  refine ⟨r.1, by rw [add_own]; exact hs1.cell 0, ?_⟩
  refine bind_call1 (rCheckFilter_spec hs1 hz.1 fun h2 hs2 => ⟨_, rfl, ?_⟩)
  refine ⟨r.2.2.2.1, by rw [add_own]; exact hs2.cell 3, ?_⟩
  refine bind_call1 (rCheckName_spec hs2 hz.2.1 fun h3 hs3 => ⟨_, rfl, ?_⟩)
  refine ⟨r.2.2.2.2.1, by rw [add_own]; exact hs3.cell 4, ?_⟩
  refine bind_call1 (rCheckName_spec hs3 hz.2.2 fun h4 hs4 => ⟨_, rfl, ?_⟩)
  clear hs3 hs2 hs1
  unfold chkR at hq
  (try dsimp only); rw [HM.ite_apply]
  cases hf : filterOK r.1 with
  | false =>
    rw [if_pos hf] at hq
    rw [if_pos (by simp [filtC, hf])]
    exact hq _ hs4.drop
  | true =>
  rw [if_neg (by simp [hf])] at hq
  rw [if_neg (by simp [filtC, hf])]
  refine bind_cut (fun z h' => h' = h4 ∧ z.1 = !(prefOK r.2.2.2.1 && prefOK r.2.2.2.2.1)) ?_ ?_
  · refine ⟨r.2.2.2.1, by rw [add_own]; exact hs4.cell 3, ?_⟩
    unfold prefOK nameC
    (try dsimp only); rw [HM.ite_apply]
    have last : ∀ {Q : Bool × Unit → Heap → Prop}, Q (!(decide (r.2.2.2.2.1 = ByteArray.mk #[]) || nameOK r.2.2.2.2.1), ()) h4 →
        (HM.bind (α := ByteArray) (HM.load1 .str (Addr.add ⟨x, 0, none⟩ 4)) fun (x10 : ByteArray) =>
          HM.ite (!(decide (x10 = (ByteArray.mk #[])))) (
          HM.pure (!((if nameOK r.2.2.2.2.1 = true then (0 : Int) else 144) == 0), ())) (
          HM.pure (false, ()))) h4 Q := by
      intro Q hQ
      refine ⟨r.2.2.2.2.1, by rw [add_own]; exact hs4.cell 4, ?_⟩
      (try dsimp only); rw [HM.ite_apply]
      by_cases he : r.2.2.2.2.1 = ByteArray.mk #[]
      · rw [if_neg (by simpa using he)]
        simpa [he] using hQ
      · rw [if_pos (by simpa using he)]
        cases hn : nameOK r.2.2.2.2.1 <;> simpa [he, hn] using hQ
    by_cases he : r.2.2.2.1 = ByteArray.mk #[]
    · rw [if_neg (by simpa using he)]
      refine last ⟨rfl, ?_⟩
      simp [he]
    · rw [if_pos (by simpa using he)]
      (try dsimp only); rw [HM.ite_apply]
      cases hn : nameOK r.2.2.2.1 with
      | false =>
        rw [if_pos (by simp)]
        exact ⟨rfl, by simp [he]⟩
      | true =>
        rw [if_neg (by simp)]
        refine last ⟨rfl, ?_⟩
        simp [he]
  rintro ⟨z, ⟨⟩⟩ h3 ⟨rfl, hzz⟩
  simp only at hzz
  subst hzz
  (try dsimp only); rw [HM.ite_apply]
  cases hp : (prefOK r.2.2.2.1 && prefOK r.2.2.2.2.1) with
  | false =>
    rw [if_pos hp] at hq
    rw [if_pos (by rfl)]
    exact hq _ hs4.drop
  | true =>
  rw [if_neg (by simp [hp])] at hq
  rw [if_neg (by simp)]
  refine bind_cut (fun z h' => h' = h3 ∧ z.1 = decide (r.2.1 < 0 ∨ 2 < r.2.1)) (two_tests hs4 rfl ⟨rfl, rfl⟩) ?_
  rintro ⟨z, ⟨⟩⟩ h4 ⟨rfl, hzz⟩
  simp only at hzz
  subst hzz
  (try dsimp only); rw [HM.ite_apply]
  by_cases hd : r.2.1 < 0 ∨ 2 < r.2.1
  · rw [if_pos hd] at hq
    rw [if_pos (by simpa using hd)]
    exact hq _ hs4.drop
  rw [if_neg hd] at hq
  rw [if_neg (by simpa using hd)]
  refine bind_cut (fun z h' => h' = h4 ∧ z.1 = decide (r.2.2.1 < 0 ∨ 2 < r.2.2.1)) (two_tests hs4 rfl ⟨rfl, rfl⟩) ?_
  rintro ⟨z, ⟨⟩⟩ h5 ⟨rfl, hzz⟩
  simp only at hzz
  subst hzz
  (try dsimp only); rw [HM.ite_apply]
  by_cases hd2 : r.2.2.1 < 0 ∨ 2 < r.2.2.1
  · rw [if_pos hd2] at hq
    rw [if_pos (by simpa using hd2)]
    exact hq _ hs4.drop
  · rw [if_neg hd2] at hq
    rw [if_neg (by simpa using hd2)]
    exact hq _ hs4.drop

/-! ### adverts -/

structure AdvT where
  o : Int
  v : Int
  fs : List ByteArray
  ls : List LinkT

def linkOK (o : Int) (l : LinkT) : Bool := decide (0 ≤ l.1 ∧ l.1 < 8 ∧ l.1 ≠ o) && decide (chkR l.2 = 0)
def headOK (a : AdvT) : Bool := decide (0 ≤ a.o ∧ a.o < 8 ∧ 1 ≤ a.v ∧ a.v ≤ 9007199254740992 ∧ a.fs.length ≤ 64 ∧ a.ls.length ≤ 16)
def goodA (a : AdvT) : Bool := headOK a && (a.fs.all filterOK && a.ls.all (linkOK a.o))
structure szA (a : AdvT) : Prop where
  fs : ∀ f ∈ a.fs, f.size ≤ bigB
  ls : ∀ l ∈ a.ls, szR l.2

/-- an advert's value: its filters and links lie in 'sf' and 'sl' -/
abbrev vA (a : AdvT) (sf sl : Slc) : Value := .agg #[.int .i64 a.o, .int .i64 a.v, .slice sf.a sf.len sf.cap, .slice sl.a sl.len sl.cap]
abbrev cA (a : AdvT) (sf sl : Slc) : List Value := [.int .i64 a.o, .int .i64 a.v, .slice sf.a sf.len sf.cap, .slice sl.a sl.len sl.cap]

theorem node_spec {n : Int} {Q : Value → Heap → Prop} (hq : Q (.bool (decide (0 ≤ n ∧ n < 8))) h) : HCalls Tryd.prog 79 #[.int .i64 n] h Q := by
  refine advert_node_calls n h Q ?_
  unfold advert_node
  refine bind_cut (fun z h' => h' = h ∧ z.1 = decide (0 ≤ n ∧ n < 8)) ?_ ?_
  · (try dsimp only); rw [HM.ite_apply]
    by_cases h1 : 0 ≤ n
    · rw [if_pos (by simpa using h1)]; exact ⟨rfl, by simp [h1]⟩
    · rw [if_neg (by simpa using h1)]; exact ⟨rfl, by simp [h1]⟩
  rintro ⟨z, ⟨⟩⟩ h1 ⟨rfl, hz⟩
  simp only at hz
  subst hz
  exact hq

theorem drop_at {α : Type} {l : List α} {i : Nat} {x : α} (hx : l[i]? = some x) : l.drop i = x :: l.drop (i + 1) := by
  obtain ⟨hi, rfl⟩ := List.getElem?_eq_some_iff.1 hx
  exact List.drop_eq_getElem_cons hi

theorem badF_spec {sf : Slc} {fs : List ByteArray} (hs : sat h (ownS eS 1 sf fs :: old h0 :: R)) (ht : TP h0) (hz : ∀ f ∈ fs, f.size ≤ bigB) (hl : fs.length ≤ 1000) {Q : Value → Heap → Prop}
    (hq : ∀ h', sat h' (ownS eS 1 sf fs :: old h0 :: R) → Q (.bool (!fs.all filterOK)) h') :
    HCalls Tryd.prog 80 #[.slice sf.a sf.len sf.cap, .func (.func 81) #[] #[]] h Q := by
  refine slices_ContainsFunc_string_calls sf _ h Q ?_
  unfold slices_ContainsFunc_string
  refine bind_call1 ?_
  refine slices_IndexFunc_string_calls sf _ h _ ?_
  unfold slices_IndexFunc_string
  have hlen := hs.own_len
  (try dsimp only); rw [HM.bind_apply]
  refine loop_gx (γ := Nat) (fun g c h' => c.1 = (((fs.length - g : Nat)) : Int) ∧ g ≤ fs.length ∧ fs.all filterOK = (fs.drop (fs.length - g)).all filterOK ∧ sat h' (ownS eS 1 sf fs :: old h0 :: R)) (fun g => g) fs.length
    ⟨by simp, Nat.le_refl _, by simp, hs⟩ ?_
  rintro g ⟨c, ⟨⟩⟩ h1 ⟨hc, hg, hall, hs1⟩
  simp only at hc
  subst hc
  (try dsimp only); rw [HM.ite_apply]
  by_cases hi : fs.length - g < fs.length
  · rw [if_pos (by simp only [decide_eq_true_eq, hlen]; omega)]
    obtain ⟨f, hf⟩ : ∃ f, fs[fs.length - g]? = some f := ⟨_, List.getElem?_eq_getElem hi⟩
    have hfz := hz f (List.mem_of_getElem? hf)
    rw [drop_at hf, List.all_cons] at hall
    (try dsimp only); rw [HM.bind_apply]
    refine idx_row (hs1.own_row eS_len) hf fun a ha => ?_
    refine ⟨f, by have := ha 0 (.string f) rfl; rwa [Go.H.add_zero] at this, ?_⟩
    refine ⟨81, #[], #[], rfl, Tryd.call81, ?_⟩
    refine advert_Advert_good_f1_calls f h1 _ ?_
    unfold advert_Advert_good_f1
    refine bind_call1 (CheckFilter_spec hs1.p1 ht (Nat.le_trans hfz (by decide)) fun h2 hs2 => ⟨_, rfl, ?_⟩)
    refine ⟨!(filtC f == 0), rfl, ?_⟩
    unfold filtC
    (try dsimp only); rw [HM.ite_apply]
    cases hok : filterOK f with
    | false =>
      rw [hok, Bool.false_and] at hall
      rw [if_pos (by rfl)]
      simp only [Sum.elim_inl, Sum.elim_inr, HM.pure_apply]
      refine ⟨(((fs.length - g : Nat)) : Int), rfl, ?_⟩
      have := hq h2 hs2.p1
      rw [hall] at this
      (try dsimp only); rw [show decide ((0 : Int) ≤ (((fs.length - g : Nat)) : Int)) = true by simp]
      exact this
    | true =>
      rw [hok, Bool.true_and] at hall
      rw [if_neg (by simp)]
      simp only [Sum.elim_inl, Sum.elim_inr, HM.pure_apply]
      exact .mk (g - 1) (by omega) ⟨by simp only; rw [wrap_id (by omega) (by omega)]; omega, by omega, by rw [hall, show fs.length - g + 1 = fs.length - (g - 1) by omega], hs2.p1⟩
  · rw [if_neg (by simp only [decide_eq_true_eq, hlen]; omega)]
    simp only [Sum.elim_inl, Sum.elim_inr, HM.pure_apply]
    refine ⟨-1, rfl, ?_⟩
    rw [show fs.drop (fs.length - g) = [] by simp; omega] at hall
    have := hq h1 hs1
    rw [hall] at this
    exact this

theorem load_K {a : Addr} {l : LinkT} (ha : ∀ j v, (encK l)[j]? = some v → cellH h (a.add j) = some v) {Q : LinkT → Heap → Prop} (hq : Q l h) : HM.loadN [.int .i64, .str, .int .i64, .int .i64, .str, .str] a h Q :=
  loadN_of (ts := [.int .i64, .str, .int .i64, .int .i64, .str, .str]) l (fun i v hv => ha i v hv) hq
theorem load_R {a : Addr} {l : LinkT} {x : Nat} {cs : Array Value} (hs : sat h (cells x cs :: R)) (he : cs = (encK l).toArray) {Q : RuleT → Heap → Prop} (hq : Q l.2 h) : HM.loadN [.str, .int .i64, .int .i64, .str, .str] (Addr.add ⟨x, 0, none⟩ 1) h Q := by
  subst he
  refine loadN_of (ts := [.str, .int .i64, .int .i64, .str, .str]) l.2 (fun i v hv => ?_) hq
  rw [add_own, Addr.add_at, hs.cell]
  match i, hv with
  | 0, hv => exact hv
  | 1, hv => exact hv
  | 2, hv => exact hv
  | 3, hv => exact hv
  | 4, hv => exact hv
  | j + 5, hv => cases (show (none : Option Value) = some v from hv)

theorem badK_spec {x : Nat} {a : AdvT} {sf sl : Slc} {ls : List LinkT} (hs : sat h (cells x (cA a sf sl).toArray :: ownS encK 6 sl ls :: old h0 :: R)) (ht : TP h0) (hz : ∀ l ∈ ls, szR l.2) (hl : ls.length ≤ 1000) {Q : Value → Heap → Prop}
    (hq : ∀ h', sat h' (cells x (cA a sf sl).toArray :: ownS encK 6 sl ls :: old h0 :: R) → Q (.bool (!ls.all (linkOK a.o))) h') :
    HCalls Tryd.prog 82 #[.slice sl.a sl.len sl.cap, .func (.func 83) #[] #[.pointer (some ⟨x, 0, none⟩)]] h Q := by
  refine slices_ContainsFunc_Link_calls sl _ h Q ?_
  unfold slices_ContainsFunc_Link
  refine bind_call1 ?_
  refine slices_IndexFunc_Link_calls sl _ h _ ?_
  unfold slices_IndexFunc_Link
  have hlen := hs.p1.own_len
  (try dsimp only); rw [HM.bind_apply]
  refine loop_gx (γ := Nat) (fun g c h' => c.1 = (((ls.length - g : Nat)) : Int) ∧ g ≤ ls.length ∧ ls.all (linkOK a.o) = (ls.drop (ls.length - g)).all (linkOK a.o) ∧ sat h' (cells x (cA a sf sl).toArray :: ownS encK 6 sl ls :: old h0 :: R)) (fun g => g) ls.length
    ⟨by simp, Nat.le_refl _, by simp, hs⟩ ?_
  rintro g ⟨c, ⟨⟩⟩ h1 ⟨hc, hg, hall, hs1⟩
  simp only at hc
  subst hc
  (try dsimp only); rw [HM.ite_apply]
  by_cases hi : ls.length - g < ls.length
  · rw [if_pos (by simp only [decide_eq_true_eq, hlen]; omega)]
    obtain ⟨l, hll⟩ : ∃ l, ls[ls.length - g]? = some l := ⟨_, List.getElem?_eq_getElem hi⟩
    have hlz := hz l (List.mem_of_getElem? hll)
    rw [drop_at hll, List.all_cons] at hall
    (try dsimp only); rw [HM.bind_apply]
    refine idx_row (hs1.p1.own_row eK_len) hll fun p hp => ?_
    (try dsimp only); rw [HM.bind_apply]
    refine load_K hp ?_
    refine ⟨83, #[], #[.pointer (some ⟨x, 0, none⟩)], rfl, Tryd.call83, ?_⟩
    refine advert_Advert_good_f2_calls l ⟨x, 0, none⟩ h1 _ ?_
    unfold advert_Advert_good_f2
    refine new_cells hs1 fun y h2 hs2' => ?_
    have hs2 : sat h2 (cells y (encK l).toArray :: cells x (cA a sf sl).toArray :: ownS encK 6 sl ls :: old h0 :: R) := hs2'
    clear hs2'
    refine bind_cut (fun z h' => z.1 = (!linkOK a.o l) ∧ sat h' (cells y (encK l).toArray :: cells x (cA a sf sl).toArray :: ownS encK 6 sl ls :: old h0 :: R)) ?_ ?_
    · unfold linkOK
      refine ⟨l.1, by rw [add_own]; exact hs2.cell 0, ?_⟩
      refine bind_call1 (node_spec ⟨_, rfl, ?_⟩)
      (try dsimp only); rw [HM.ite_apply]
      by_cases h1 : 0 ≤ l.1 ∧ l.1 < 8
      · rw [if_neg (by simp [h1])]
        refine ⟨l.1, by rw [add_own]; exact hs2.cell 0, ?_⟩
        refine ⟨a.o, by rw [add_own]; exact hs2.p1.cell 0, ?_⟩
        (try dsimp only); rw [HM.ite_apply]
        by_cases h2 : l.1 = a.o
        · rw [if_pos (by simpa using h2)]
          exact ⟨by simp [h2], hs2⟩
        · rw [if_neg (by simpa using h2)]
          refine load_R (a := ⟨y, 0, none⟩) hs2 rfl ?_
          refine bind_call1 (Check_spec (hs2.re [3, 0, 1, 2]) ht hlz fun h3 hs3 => ⟨_, rfl, ?_, hs3.re [1, 2, 3, 0]⟩)
          simp only [h1, h2, ne_eq, not_false_eq_true, and_self, decide_true, Bool.true_and]
          by_cases h3 : chkR l.2 = 0 <;> simp [h3]
      · rw [if_pos (by simp; omega)]
        refine ⟨?_, hs2⟩
        have : ¬ (0 ≤ l.1 ∧ l.1 < 8 ∧ l.1 ≠ a.o) := fun e => h1 ⟨e.1, e.2.1⟩
        simp [this]
    rintro ⟨z, ⟨⟩⟩ h3 ⟨hzz, hs3⟩
    simp only at hzz
    subst hzz
    refine ⟨!linkOK a.o l, rfl, ?_⟩
    (try dsimp only); rw [HM.ite_apply]
    cases hok : linkOK a.o l with
    | false =>
      rw [hok, Bool.false_and] at hall
      rw [if_pos (by rfl)]
      simp only [Sum.elim_inl, Sum.elim_inr, HM.pure_apply]
      refine ⟨(((ls.length - g : Nat)) : Int), rfl, ?_⟩
      have := hq h3 hs3.drop
      rw [hall] at this
      (try dsimp only); rw [show decide ((0 : Int) ≤ (((ls.length - g : Nat)) : Int)) = true by simp]
      exact this
    | true =>
      rw [hok, Bool.true_and] at hall
      rw [if_neg (by simp)]
      simp only [Sum.elim_inl, Sum.elim_inr, HM.pure_apply]
      exact .mk (g - 1) (by omega) ⟨by simp only; rw [wrap_id (by omega) (by omega)]; omega, by omega, by rw [hall, show ls.length - g + 1 = ls.length - (g - 1) by omega], hs3.drop⟩
  · rw [if_neg (by simp only [decide_eq_true_eq, hlen]; omega)]
    simp only [Sum.elim_inl, Sum.elim_inr, HM.pure_apply]
    refine ⟨-1, rfl, ?_⟩
    rw [show ls.drop (ls.length - g) = [] by simp; omega] at hall
    have := hq h1 hs1
    rw [hall] at this
    exact this

theorem good_spec {a : AdvT} {sf sl : Slc} (hs : sat h (ownS eS 1 sf a.fs :: ownS encK 6 sl a.ls :: old h0 :: R)) (ht : TP h0) (hz : szA a) {Q : Value → Heap → Prop}
    (hq : ∀ h', sat h' (ownS eS 1 sf a.fs :: ownS encK 6 sl a.ls :: old h0 :: R) → Q (.bool (goodA a)) h') : HCalls Tryd.prog 49 #[vA a sf sl] h Q := by
  refine advert_Advert_good_calls (a.o, a.v, sf, sl, ()) h Q ?_
  unfold advert_Advert_good
  have hl1 := hs.own_len
  have hl2 := hs.p1.own_len
  refine new_cells hs fun x h1 hs1' => ?_
  have hs1 : sat h1 (cells x (cA a sf sl).toArray :: ownS eS 1 sf a.fs :: ownS encK 6 sl a.ls :: old h0 :: R) := hs1'
  clear hs1'
  refine bind_cut (fun z h' => h' = h1 ∧ z.1 = !headOK a) ?_ ?_
  · unfold headOK
    refine ⟨a.o, by rw [add_own]; exact hs1.cell 0, ?_⟩
    refine bind_call1 (node_spec ⟨_, rfl, ?_⟩)
    (try dsimp only); rw [HM.ite_apply]
    by_cases c1 : 0 ≤ a.o ∧ a.o < 8
    · rw [if_neg (by simp [c1])]
      refine ⟨a.v, by rw [add_own]; exact hs1.cell 1, ?_⟩
      (try dsimp only); rw [HM.ite_apply]
      by_cases c2 : a.v < 1
      · rw [if_pos (by simpa using c2)]
        refine ⟨rfl, ?_⟩
        have : ¬ (0 ≤ a.o ∧ a.o < 8 ∧ 1 ≤ a.v ∧ a.v ≤ 9007199254740992 ∧ a.fs.length ≤ 64 ∧ a.ls.length ≤ 16) := fun e => by omega
        simp only [this, decide_false, Bool.not_false]
      · rw [if_neg (by simpa using c2)]
        refine ⟨a.v, by rw [add_own]; exact hs1.cell 1, ?_⟩
        (try dsimp only); rw [HM.ite_apply]
        by_cases c3 : 9007199254740992 < a.v
        · rw [if_pos (by simpa using c3)]
          refine ⟨rfl, ?_⟩
          have : ¬ (0 ≤ a.o ∧ a.o < 8 ∧ 1 ≤ a.v ∧ a.v ≤ 9007199254740992 ∧ a.fs.length ≤ 64 ∧ a.ls.length ≤ 16) := fun e => by omega
          simp only [this, decide_false, Bool.not_false]
        · rw [if_neg (by simpa using c3)]
          refine ⟨sf, by rw [add_own]; exact hs1.cell 2, ?_⟩
          (try dsimp only); rw [HM.ite_apply, hl1]
          by_cases c4 : 64 < a.fs.length
          · rw [if_pos (by simp only [decide_eq_true_eq]; omega)]
            refine ⟨rfl, ?_⟩
            have : ¬ (0 ≤ a.o ∧ a.o < 8 ∧ 1 ≤ a.v ∧ a.v ≤ 9007199254740992 ∧ a.fs.length ≤ 64 ∧ a.ls.length ≤ 16) := fun e => by omega
            simp only [this, decide_false, Bool.not_false]
          · rw [if_neg (by simp only [decide_eq_true_eq]; omega)]
            refine ⟨sl, by rw [add_own]; exact hs1.cell 3, rfl, ?_⟩
            rw [hl2, ← decide_not, decide_eq_decide]
            omega
    · rw [if_pos (by simp; omega)]
      refine ⟨rfl, ?_⟩
      have : ¬ (0 ≤ a.o ∧ a.o < 8 ∧ 1 ≤ a.v ∧ a.v ≤ 9007199254740992 ∧ a.fs.length ≤ 64 ∧ a.ls.length ≤ 16) := fun e => c1 ⟨e.1, e.2.1⟩
      simp only [this, decide_false, Bool.not_false]
  rintro ⟨z, ⟨⟩⟩ h2 ⟨rfl, hzz⟩
  simp only at hzz
  subst hzz
  unfold goodA at hq
  (try dsimp only); rw [HM.ite_apply]
  cases hh : headOK a with
  | false =>
    rw [hh] at hq
    rw [if_pos (by rfl)]
    exact hq _ hs1.drop
  | true =>
  rw [hh, Bool.true_and] at hq
  rw [if_neg (by simp)]
  have hb : a.fs.length ≤ 64 ∧ a.ls.length ≤ 16 := by
    unfold headOK at hh
    rw [decide_eq_true_eq] at hh
    exact ⟨hh.2.2.2.2.1, hh.2.2.2.2.2⟩
  refine ⟨sf, by rw [add_own]; exact hs1.cell 2, ?_⟩
  refine bind_call1 (badF_spec (hs1.re [1, 3, 0, 2]) ht hz.fs (by omega) fun h3 hs3' => ⟨_, rfl, ?_⟩)
  have hs3 : sat h3 (cells x (cA a sf sl).toArray :: ownS encK 6 sl a.ls :: old h0 :: ownS eS 1 sf a.fs :: R) := hs3'.re [2, 3, 1, 0]
  refine bind_cut (fun z h' => z.1 = (a.fs.all filterOK && a.ls.all (linkOK a.o)) ∧ sat h' (cells x (cA a sf sl).toArray :: ownS encK 6 sl a.ls :: old h0 :: ownS eS 1 sf a.fs :: R)) ?_ ?_
  · (try dsimp only); rw [HM.ite_apply]
    cases a.fs.all filterOK with
    | false => rw [if_neg (by simp)]; exact ⟨rfl, hs3⟩
    | true =>
      rw [if_pos (by rfl)]
      refine ⟨sl, by rw [add_own]; exact hs3.cell 3, ?_⟩
      refine bind_call1 (badK_spec hs3 ht hz.ls (by omega) fun h4 hs4 => ⟨_, rfl, ?_, hs4⟩)
      simp
  rintro ⟨z, ⟨⟩⟩ h4 ⟨hzz, hs4⟩
  simp only at hzz
  subst hzz
  exact hq _ ((hs4.re [3, 1, 2, 0]).re [3, 0, 1, 2]).drop

end Go.Proofs.YtmdagnoknmfhcaaDoor
