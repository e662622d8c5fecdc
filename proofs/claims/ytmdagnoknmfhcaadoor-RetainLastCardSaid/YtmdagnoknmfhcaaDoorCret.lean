/-
  Cret: contracts: the program's stores of messages.
-/
import Derived.Test.YtmdagnoknmfhcaaDoorCtpm
import Derived.Test.YtmdagnoknmfhcaaDoorLrel
import Derived.Test.YtmdagnoknmfhcaaDoorKstr
namespace Go.Proofs.YtmdagnoknmfhcaaDoor
open Go.H Go.Proofs Go.Lib
set_option linter.unusedSimpArgs false
set_option linter.unusedVariables false
set_option synthInstance.maxSize 100000
set_option synthInstance.maxHeartbeats 400000
set_option maxRecDepth 100000

abbrev ptr0 (b : Nat) : Value := .pointer (some ⟨b, 0, none⟩)
abbrev MsgT := ByteArray × ByteArray × Int × Unit
abbrev kM : Kind := .agg [.str, .str, .int .i64]
abbrev vM (m : MsgT) : Value := .agg #[.string m.1, .string m.2.1, .int .i64 m.2.2.1]
abbrev encG (m : MsgT) : List Value := [.string m.1, .string m.2.1, .int .i64 m.2.2.1]
abbrev eKS (s : ByteArray) : Value := .string s
def zM : MsgT := (ByteArray.mk #[], ByteArray.mk #[], 0, ())
theorem eG_len : ∀ x : MsgT, (encG x).length = 3 := fun _ => rfl
theorem eG_cell : ∀ x : MsgT, ∀ v ∈ encG x, v.oneCell' = true := fun x v hv => by
  simp only [encG, List.mem_cons, List.not_mem_nil, or_false] at hv
  rcases hv with rfl | rfl | rfl <;> rfl
theorem inj_eKS : ∀ a b : ByteArray, eKS a = eKS b → a = b := fun a b h => by cases h; rfl

def stoA (b : Nat) (most : Int) (l : List (ByteArray × MsgT)) : Asn := exA fun m : Nat => star (cells b #[.int .i64 most, .map (some m)]) (mapA eKS (Kind.val kM) m l)

variable {h h0 : Heap} {R : List Asn}

theorem stoA_iff {b : Nat} {most : Int} {l : List (ByteArray × MsgT)} : sat h (stoA b most l :: R) ↔ ∃ m : Nat, sat h (cells b #[.int .i64 most, .map (some m)] :: mapA eKS (Kind.val kM) m l :: R) := by
  unfold stoA
  rw [sat.ex_iff]
  constructor
  · rintro ⟨m, hs⟩; exact ⟨m, sat.star_iff.1 hs⟩
  · rintro ⟨m, hs⟩; exact ⟨m, sat.star_iff.2 hs⟩

/-- how many messages a store takes -/
def mostOf (n : Int) : Int := if 0 < (if 64 < n then 64 else n) then (if 64 < n then 64 else n) else 0
theorem mostOf_le (n : Int) : 0 ≤ mostOf n ∧ mostOf n ≤ 64 := by
  unfold mostOf
  split <;> split <;> omega

theorem retNew_spec (hs : sat h R) (n : Int) {Q : Value → Heap → Prop} (hq : ∀ b h', sat h' (stoA b (mostOf n) [] :: R) → Q (ptr0 b) h') : HCalls Tryd.prog 12 #[.int .i64 n] h Q := by
  refine retain_New_calls n h Q ?_
  unfold retain_New
  (try dsimp only); rw [HM.bind_apply]
  refine new_map (ek := eKS) (ev := Kind.val kM) hs fun m h1 hs1 => ?_
  refine new_cells hs1 fun b h2 hs2 => ?_
  exact hq b h2 (stoA_iff.2 ⟨m, hs2⟩)

def setP (most : Int) (l : List (ByteArray × MsgT)) (m : MsgT) : Int × List (ByteArray × MsgT) :=
  if nameOK m.1 = false then (144, l)
  else if m.2.2.1 < 0 ∨ 2 < m.2.2.1 then (155, l)
  else if m.2.1 = ByteArray.mk #[] then (0, mdel l m.1)
  else if mget l m.1 = none ∧ most ≤ l.length then (151, l)
  else (0, mset l m.1 m)

theorem Set_spec {b : Nat} {most : Int} {l : List (ByteArray × MsgT)} {m : MsgT} (hs : sat h (stoA b most l :: old h0 :: R)) (ht : TP h0) (hsz : m.1.size ≤ 9223372036854775807) {Q : Value → Heap → Prop}
    (hq : ∀ h', sat h' (stoA b most (setP most l m).2 :: old h0 :: R) → Q (.int .u8 (setP most l m).1) h') : HCalls Tryd.prog 15 #[ptr0 b, vM m] h Q := by
  refine retain_Store_Set_calls (some ⟨b, 0, none⟩) m h Q ?_
  obtain ⟨mb, hs⟩ := stoA_iff.1 hs
  unfold retain_Store_Set
  refine new_cells hs fun x h1 hs1 => ?_
  (try dsimp only); rw [HM.ite_apply, if_neg (by simp)]
  refine ⟨m.1, by rw [add_own]; exact hs1.cell 0, ?_⟩
  refine bind_call1 (CheckName_spec (hs1.re [3, 0, 1, 2]) ht hsz fun h2 hs2' => ⟨_, rfl, ?_⟩)
  have hs2 : sat h2 (cells x #[.string m.1, .string m.2.1, .int .i64 m.2.2.1] :: cells b #[.int .i64 most, .map (some mb)] :: mapA eKS (Kind.val kM) mb l :: old h0 :: R) := hs2'.re [1, 2, 3, 0]
  clear hs2' hs1 hs
  have fin : ∀ {h'}, sat h' (cells x #[.string m.1, .string m.2.1, .int .i64 m.2.2.1] :: cells b #[.int .i64 most, .map (some mb)] :: mapA eKS (Kind.val kM) mb l :: old h0 :: R) → sat h' (stoA b most l :: old h0 :: R) := fun hh => stoA_iff.2 ⟨mb, hh.drop⟩
  unfold setP at hq
  (try dsimp only); rw [HM.ite_apply]
  cases hn : nameOK m.1 with
  | false =>
    rw [if_pos hn] at hq
    rw [if_pos (by simp [nameC, hn])]
    exact hq _ (fin hs2)
  | true =>
  rw [if_neg (by simp [hn])] at hq
  rw [if_neg (by simp [nameC, hn])]
  refine bind_cut (fun z h' => h' = h2 ∧ z.1 = decide (m.2.2.1 < 0 ∨ 2 < m.2.2.1)) ?_ ?_
  · refine ⟨m.2.2.1, by rw [add_own]; exact hs2.cell 2, ?_⟩
    (try dsimp only); rw [HM.ite_apply]
    by_cases h1 : m.2.2.1 < 0
    · rw [if_pos (by simpa using h1)]
      exact ⟨rfl, by simp [h1]⟩
    · rw [if_neg (by simpa using h1)]
      refine ⟨m.2.2.1, by rw [add_own]; exact hs2.cell 2, rfl, ?_⟩
      simp [h1]
  rintro ⟨z, ⟨⟩⟩ h3 ⟨rfl, hz⟩
  simp only at hz
  subst hz
  (try dsimp only); rw [HM.ite_apply]
  by_cases hqs : m.2.2.1 < 0 ∨ 2 < m.2.2.1
  · rw [if_pos hqs] at hq
    rw [if_pos (by simpa using hqs)]
    exact hq _ (fin hs2)
  rw [if_neg hqs] at hq
  rw [if_neg (by simpa using hqs)]
  refine ⟨m.2.1, by rw [add_own]; exact hs2.cell 1, ?_⟩
  (try dsimp only); rw [HM.ite_apply]
  by_cases hp : m.2.1 = ByteArray.mk #[]
  · rw [if_pos hp] at hq
    rw [if_pos (by simpa using hp)]
    refine ⟨_, rfl, some mb, by rw [add_own]; exact hs2.p1.cell 1, ?_⟩
    refine ⟨m.1, by rw [add_own]; exact hs2.cell 0, ?_⟩
    (try dsimp only); rw [HM.bind_apply]
    refine del_map key_str (hs2.re [2, 0, 1]) fun h4 hs4 => ?_
    exact hq _ (stoA_iff.2 ⟨mb, (hs4.re [1, 2, 0]).drop⟩)
  rw [if_neg hp] at hq
  rw [if_neg (by simpa using hp)]
  refine ⟨_, rfl, some mb, by rw [add_own]; exact hs2.p1.cell 1, ?_⟩
  refine ⟨m.1, by rw [add_own]; exact hs2.cell 0, ?_⟩
  (try dsimp only); rw [HM.bind_apply]
  refine lookup_map (kind := kM) (z := zM) key_str rfl (hs2.re [2, 0, 1]) ?_
  refine new_cells hs2 fun y h4 hs4' => ?_
  have hs4 : sat h4 (cells y #[.string (ByteArray.mk #[]), .string (ByteArray.mk #[]), .int .i64 0] :: cells x #[.string m.1, .string m.2.1, .int .i64 m.2.2.1] :: cells b #[.int .i64 most, .map (some mb)] :: mapA eKS (Kind.val kM) mb l :: old h0 :: R) := hs4'
  clear hs4'
  (try dsimp only); rw [HM.bind_apply]
  refine lookup_map (kind := kM) (z := zM) key_str rfl (hs4.re [3, 0, 1, 2]) ?_
  refine ⟨rfl, ?_⟩
  refine ⟨m.1, by rw [add_own]; exact hs4.p1.cell 0, rfl, ?_⟩
  refine ⟨some mb, by rw [add_own]; exact (hs4.re [2, 0, 1]).cell 1, rfl, ?_⟩
  (try dsimp only); rw [HM.bind_apply]
  refine storeN_all' hs4 rfl rfl fun h5 hs5' => ?_
  have hs5 : sat h5 (cells x #[.string m.1, .string m.2.1, .int .i64 m.2.2.1] :: cells b #[.int .i64 most, .map (some mb)] :: mapA eKS (Kind.val kM) mb l :: old h0 :: R) := hs5'.drop
  clear hs5'
  refine bind_cut (fun z h' => h' = h5 ∧ z.1 = decide (mget l m.1 = none ∧ most ≤ l.length)) ?_ ?_
  · (try dsimp only); rw [HM.ite_apply]
    cases hg : mget l m.1 with
    | none =>
      rw [if_pos (by rfl)]
      refine ⟨_, rfl, some mb, by rw [add_own]; exact hs5.p1.cell 1, ?_⟩
      (try dsimp only); rw [HM.bind_apply]
      refine len_map (hs5.re [2, 0, 1]) ?_
      refine ⟨_, rfl, most, by rw [add_own]; exact hs5.p1.cell 0, rfl, ?_⟩
      simp
    | some v =>
      rw [if_neg (by simp)]
      exact ⟨rfl, by simp⟩
  rintro ⟨z, ⟨⟩⟩ h6 ⟨rfl, hz⟩
  simp only at hz
  subst hz
  (try dsimp only); rw [HM.ite_apply]
  by_cases hc : mget l m.1 = none ∧ most ≤ l.length
  · rw [if_pos hc] at hq
    rw [if_pos (by simpa using hc)]
    exact hq _ (fin hs5)
  rw [if_neg hc] at hq
  rw [if_neg (by simpa using hc)]
  refine ⟨_, rfl, some mb, by rw [add_own]; exact hs5.p1.cell 1, ?_⟩
  refine ⟨m.1, by rw [add_own]; exact hs5.cell 0, ?_⟩
  refine loadN_cells (ts := [.str, .str, .int .i64]) m hs5 rfl ?_
  (try dsimp only); rw [HM.bind_apply]
  refine set_map (x := m) key_str inj_eKS (hs5.re [2, 0, 1]) fun h7 hs7 => ?_
  exact hq _ (stoA_iff.2 ⟨mb, (hs7.re [1, 2, 0]).drop⟩)

theorem Set_nil {m : MsgT} (hs : sat h R) {Q : Value → Heap → Prop} (hq : ∀ h', sat h' R → Q (.int .u8 128) h') : HCalls Tryd.prog 15 #[.pointer none, vM m] h Q := by
  refine retain_Store_Set_calls none m h Q ?_
  unfold retain_Store_Set
  refine new_cells hs fun x h1 hs1 => ?_
  (try dsimp only); rw [HM.ite_apply, if_pos (by rfl)]
  exact hq _ hs1.drop

theorem rGet_nil {k : ByteArray} (hs : sat h R) {Q : Value → Heap → Prop} (hq : ∀ h', sat h' R → Q (.tuple #[vM zM, .bool false]) h') : HCalls Tryd.prog 17 #[.pointer none, .string k] h Q := by
  refine retain_Store_Get_calls none k h Q ?_
  unfold retain_Store_Get
  refine new_cells hs fun x h1 hs1 => ?_
  (try dsimp only); rw [HM.ite_apply, if_pos (by rfl)]
  (try dsimp only); rw [HM.bind_apply]
  refine storeN_all' hs1 rfl rfl fun h2 hs2 => ?_
  refine loadN_cells (ts := [.str, .str, .int .i64]) zM hs2 rfl ?_
  exact hq _ hs2.drop

theorem Get_spec {b : Nat} {most : Int} {l : List (ByteArray × MsgT)} {k : ByteArray} (hs : sat h (stoA b most l :: R)) {Q : Value → Heap → Prop}
    (hq : ∀ h', sat h' (stoA b most l :: R) → Q (.tuple #[vM ((mget l k).getD zM), .bool (mget l k).isSome]) h') : HCalls Tryd.prog 17 #[ptr0 b, .string k] h Q := by
  refine retain_Store_Get_calls (some ⟨b, 0, none⟩) k h Q ?_
  obtain ⟨mb, hs⟩ := stoA_iff.1 hs
  unfold retain_Store_Get
  refine new_cells hs fun x h1 hs1' => ?_
  have hs1 : sat h1 (cells x #[.string (ByteArray.mk #[]), .string (ByteArray.mk #[]), .int .i64 0] :: cells b #[.int .i64 most, .map (some mb)] :: mapA eKS (Kind.val kM) mb l :: R) := hs1'
  clear hs1' hs
  (try dsimp only); rw [HM.ite_apply, if_neg (by simp)]
  refine ⟨_, rfl, some mb, by rw [add_own]; exact hs1.p1.cell 1, ?_⟩
  (try dsimp only); rw [HM.bind_apply]
  refine lookup_map (kind := kM) (z := zM) key_str rfl (hs1.re [2, 0, 1]) ?_
  generalize mget l k = o at hq ⊢
  generalize o.getD zM = v at hq ⊢
  refine new_cells hs1 fun y h2 hs2 => ?_
  (try dsimp only); rw [HM.bind_apply]
  refine storeN_all' hs2 rfl rfl fun h3 hs3' => ?_
  have hs3 : sat h3 (cells y (encG v).toArray :: cells x #[.string (ByteArray.mk #[]), .string (ByteArray.mk #[]), .int .i64 0] :: cells b #[.int .i64 most, .map (some mb)] :: mapA eKS (Kind.val kM) mb l :: R) := hs3'
  clear hs3' hs2
  refine loadN_cells (ts := [.str, .str, .int .i64]) v hs3 rfl ?_
  (try dsimp only); rw [HM.bind_apply]
  refine storeN_all' hs3.p1 rfl rfl fun h4 hs4' => ?_
  have hs4 : sat h4 (cells x (encG v).toArray :: cells y (encG v).toArray :: cells b #[.int .i64 most, .map (some mb)] :: mapA eKS (Kind.val kM) mb l :: R) := hs4'
  refine loadN_cells (ts := [.str, .str, .int .i64]) v hs4 rfl ?_
  exact hq _ (stoA_iff.2 ⟨mb, hs4.drop.drop⟩)

/-- what a filter matches -/
def hitP (l : List (ByteArray × MsgT)) (f : ByteArray) (ns : List ByteArray) : List MsgT := (ns.filter (matchB f)).map fun n => (mget l n).getD zM

theorem rMatch_nil {f : ByteArray} {Q : Value → Heap → Prop} (hq : Q (.slice none 0 0) h) : HCalls Tryd.prog 19 #[.pointer none, .string f] h Q := by
  refine retain_Store_Match_calls none f h Q ?_
  unfold retain_Store_Match
  (try dsimp only); rw [HM.ite_apply, if_pos (by rfl)]
  exact hq

theorem Match_st {b : Nat} {most : Int} {l : List (ByteArray × MsgT)} {f : ByteArray} (hs : sat h (stoA b most l :: old h0 :: R)) (ht : TP h0) (hsz : f.size ≤ 9223372036854775807) (hl : l.length ≤ 64) (hk : ∀ p ∈ l, p.1.size ≤ 256) {Q : Value → Heap → Prop}
    (hq : ∀ (sl : Slc) h', sat h' (ownS encG 3 sl (hitP l f (sortS (l.map (·.1)))) :: stoA b most l :: old h0 :: R) → Q (.slice sl.a sl.len sl.cap) h') : HCalls Tryd.prog 19 #[ptr0 b, .string f] h Q := by
  refine retain_Store_Match_calls (some ⟨b, 0, none⟩) f h Q ?_
  obtain ⟨mb, hs⟩ := stoA_iff.1 hs
  unfold retain_Store_Match
  (try dsimp only); rw [HM.ite_apply, if_neg (by simp)]
  refine ⟨_, rfl, some mb, by rw [add_own]; exact hs.cell 1, ?_⟩
  refine bind_call1 ?_
  refine keysS_call (ρk := keysSM_ren) keysSM (some mb) ?_
  refine ⟨_, rfl, ?_⟩
  have hs2 := (hs.push_cells (T := keysSM_ren.t 23) (cs := #[.map (some mb)]))
  refine bind_call1 ?_
  refine sortedS_call (ρk := keysSM_ren) (ρs := sortedS_ren) (ρt := sortMS_ren) keysSM sortedS sortMS rfl (enters_of Tryd.func74 (by kernel_rfl) rfl) (enters_of Tryd.func75 (by kernel_rfl) rfl) (hs2.re [2, 0, 1])
    (fun p hp => ?_) (by omega) (hs2.cell 0) fun sl h1 hs3 => ?_
  · have := hk p hp
    unfold maxLen
    omega
  have hs4 := (hs3.re [2, 0, 1, 3, 4]).drop
  clear hs3 hs2 hs
  have hlsort : (sortS (l.map (·.1))).length = l.length := by simp [sortS, List.length_mergeSort]
  have hmem : ∀ n ∈ sortS (l.map (·.1)), n.size ≤ 256 := by
    intro n hn
    unfold sortS at hn
    obtain ⟨x, hx, rfl⟩ := List.mem_map.1 hn
    obtain ⟨y, hy, rfl⟩ := List.mem_map.1 ((List.mergeSort_perm _ _).mem_iff.1 hx)
    obtain ⟨p, hp, rfl⟩ := List.mem_map.1 hy
    exact hk p hp
  generalize sortS (l.map (·.1)) = ns at hs4 hlsort hmem hq
  have hlen := hs4.own_len
  refine ⟨sl, rfl, ?_⟩
  (try dsimp only); rw [HM.bind_apply]
  refine loop_gx (γ := Nat) (hb := fun s => by
      repeat' with_reducible first
        | refine @mono_bind _ _ _ _ ?_ (fun _ => ?_)
        | refine @mono_ite _ _ _ _ ?_ ?_
      all_goals infer_instance)
    (fun g c h' => c.2.1 = (((ns.length - g : Nat)) : Int) ∧ g ≤ ns.length ∧ sat h' (ownS encG 3 c.1 (hitP l f (ns.take (ns.length - g))) :: ownS eS 1 sl ns :: cells b #[.int .i64 most, .map (some mb)] :: mapA eKS (Kind.val kM) mb l :: old h0 :: R)) (fun g => g) ns.length
    ⟨by simp, Nat.le_refl _, by
      rw [Nat.sub_self]
      exact ownS_nil (hs4.re [0, 2, 1])⟩ ?_
  rintro g ⟨out, c, ⟨⟩⟩ h2 ⟨hc, hg, hs5⟩
  simp only at hc hs5
  subst hc
  (try dsimp only); rw [HM.ite_apply]
  by_cases hi : ns.length - g < ns.length
  · rw [if_pos (by simp only [decide_eq_true_eq, hlen]; omega)]
    obtain ⟨n, hn⟩ : ∃ n, ns[ns.length - g]? = some n := ⟨_, List.getElem?_eq_getElem hi⟩
    have hnz : n.size ≤ 256 := hmem n (List.mem_of_getElem? hn)
    have hw : IntKind.wrap .i64 ((((ns.length - g : Nat)) : Int) + 1) = ((ns.length - (g - 1) : Nat) : Int) := by rw [wrap_id (by omega) (by omega)]; omega
    have htake : ns.take (ns.length - (g - 1)) = ns.take (ns.length - g) ++ [n] := by
      rw [show ns.length - (g - 1) = ns.length - g + 1 by omega, List.take_add_one, hn]
      rfl
    (try dsimp only); rw [HM.bind_apply]
    refine idx_row (hs5.p1.own_row eS_len) hn fun a ha => ?_
    refine ⟨n, by have := ha 0 (.string n) rfl; rwa [Go.H.add_zero] at this, ?_⟩
    refine bind_call1 (Match_spec (hs5.re [4, 0, 1, 2, 3]) ht hsz (by omega) fun h3 hs6' => ⟨_, rfl, ?_⟩)
    have hs6 : sat h3 (ownS encG 3 out (hitP l f (ns.take (ns.length - g))) :: ownS eS 1 sl ns :: cells b #[.int .i64 most, .map (some mb)] :: mapA eKS (Kind.val kM) mb l :: old h0 :: R) := hs6'.re [1, 2, 3, 4, 0]
    clear hs6' hs5
    refine bind_cut (fun z h' => sat h' (ownS encG 3 z.1 (hitP l f (ns.take (ns.length - (g - 1)))) :: ownS eS 1 sl ns :: cells b #[.int .i64 most, .map (some mb)] :: mapA eKS (Kind.val kM) mb l :: old h0 :: R)) ?_ ?_
    · rw [htake]
      unfold hitP
      rw [List.filter_append, List.map_append]
      (try dsimp only); rw [HM.ite_apply]
      cases hm : matchB f n with
      | true =>
        rw [if_pos rfl]
        refine ⟨_, rfl, some mb, by rw [add_own]; exact (hs6.re [2, 0, 1]).cell 1, ?_⟩
        (try dsimp only); rw [HM.bind_apply]
        refine lookup_map (kind := kM) (z := zM) key_str rfl (hs6.re [3, 0, 1, 2]) ?_
        have hsmall : (hitP l f (ns.take (ns.length - g))).length ≤ 64 := by
          unfold hitP
          rw [List.length_map]
          refine Nat.le_trans (List.length_filter_le _ _) ?_
          rw [List.length_take]
          omega
        refine app_new (x := (mget l n).getD zM) eG_len eG_cell rfl hs6 (by decide) (by decide) (by omega) fun s' h4 hs7 => ?_
        simp only [List.filter_cons, hm, if_true, List.filter_nil, List.map_cons, List.map_nil]
        exact hs7
      | false =>
        rw [if_neg (by simp)]
        simp only [List.filter_cons, hm, Bool.false_eq_true, if_false, List.filter_nil, List.map_nil, List.append_nil]
        exact hs6
    rintro ⟨z, ⟨⟩⟩ h4 hs7
    simp only [Sum.elim_inl, Sum.elim_inr, HM.pure_apply]
    exact .mk (g - 1) (by omega) ⟨by simp only [hw], by omega, hs7⟩
  · rw [if_neg (by simp only [decide_eq_true_eq, hlen]; omega)]
    rw [List.take_of_length_le (by omega)] at hs5
    exact hq out h2 (((stoA_iff.2 ⟨mb, hs5.re [2, 3, 0, 1]⟩).re [2, 1, 0]).drop.p1.re [1, 0])

end Go.Proofs.YtmdagnoknmfhcaaDoor
