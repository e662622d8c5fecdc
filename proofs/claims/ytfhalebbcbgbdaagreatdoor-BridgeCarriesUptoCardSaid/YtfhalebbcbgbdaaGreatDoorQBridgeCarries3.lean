/-
  QBridgeCarries3: what the proof BridgeCarriesProof reaches of our texts: Cptp, Cidu, Crpp, Cinf, Cwrp, Cpub, Cbrs, Cbrw, Lpar, Kpar, Cpar, Csam, Cbrt, L23n, L23p, Crpa, Cusr, Carv, L23c, D23a, D23p.
-/
import Derived.Test.YtfhalebbcbgbdaaGreatDoorQBridgeCarries2
import Derived.Lib.Split
import Derived.Lib.IndexBytes
import Derived.Lib.ParseIntB
import Derived.Test.YtfhalebbcbgbdaaGreatDoorProg
import Derived.KernelRfl
import Derived.Shelf.Strings.Split
import Derived.Shelf.Strconv.Itoa4
import Derived.Shelf.LaysC
import Derived.Lib.SplitLaws
import Derived.Shelf.Strconv.ParseIntPublic10
import Derived.Laws.RangeString
import Derived.Test.YtfhalebbcbgbdaaGreatDoorRows
import Derived.Test.YtfhalebbcbgbdaaGreatDoorChecked
import Derived.Lib.LaidTab
import Derived.Lib.LaidU8
import Derived.Shelf.Vars
import Derived.ProofKit
import Derived.LaidMore
import Derived.LaidHandle
import Derived.OpenShut
import Derived.Stop.Joined
import Derived.Lib.LaidU8T
import Derived.PinnedBridge
namespace Go.Proofs.YtfhalebbcbgbdaaGreatDoor
open Go.H Go.Proofs Go.Lib
set_option linter.unusedSimpArgs false
set_option linter.unusedVariables false
set_option maxRecDepth 100000
variable {h h0 : Heap} {R : List Asn}
def tagX (t : ByteArray) : ByteArray := vB 38 ++ (datB tagS ++ datB t)
def propC (t : ByteArray) : Int := if t = e0S then 0 else textC t
def propB (t : ByteArray) : ByteArray := if t = e0S then vB 0 else if textC t = 0 then vB (tagX t).size ++ tagX t else e0S
theorem textC_tag : textC tagS = 0 := by decide
theorem textB_tag : textB tagS = datB tagS := by unfold textB; rw [if_pos textC_tag]
theorem textC_size {t : ByteArray} (h : textC t = 0) : t.size ≤ 65535 := by
  unfold textC at h
  split at h
  · cases h
  · split at h
    · cases h
    · omega
theorem datB_size (t : ByteArray) : (datB t).size = t.size + 2 := by
  unfold datB
  rw [ByteArray.size_append, fixB_size]
  omega
theorem tagX_size (t : ByteArray) : (tagX t).size = t.size + 8 := by
  unfold tagX
  rw [ByteArray.size_append, ByteArray.size_append, datB_size, datB_size, vB_size]
  show sizeV 38 + (3 + 2 + (t.size + 2)) = _
  have : sizeV 38 = 1 := by decide
  omega
theorem has_none (hs : sat h R) {a : Option Addr} {c : Nat} {Q : Value → Heap → Prop} (hq : ∀ h', sat h' R → Q (.bool false) h') : HCalls Tryz.prog 200 #[.slice a 0 c, .int .i64 38] h Q := by
  refine prop_has_calls ⟨a, 0, c⟩ 38 h Q ?_
  unfold prop_has
  refine bind_callN ?_
  refine prop_Find_calls ⟨a, 0, c⟩ 38 h _ ?_
  unfold prop_Find
  refine new_cells hs fun x1 h1 hs1 => ?_
  refine new_cells hs1 fun x2 h2 hs2 => ?_
  refine bind_call1 ?_
  refine slices_IndexFunc_Property_calls ⟨a, 0, c⟩ _ h2 _ ?_
  unfold slices_IndexFunc_Property
  (try dsimp only); rw [HM.bind_apply]
  refine loop_for 0 (fun i x h' => h' = h2 ∧ x.1 = (i : Int)) ⟨rfl, rfl⟩ (fun i x h1 hi hJ => by rw [hJ.2]; exact decide_eq_decide.2 (by omega)) (fun x h1 hJ K hd => ?_) (fun i x h1 hlt => absurd hlt (by omega))
  obtain ⟨rfl, hx⟩ := hJ
  refine hd _ _ ⟨-1, rfl, ?_⟩
  (try dsimp only); rw [HM.ite_apply, if_pos (by rfl)]
  refine storeN_all' hs2 rfl rfl fun h3 hs3 => ?_
  refine loadN_cells (ts := [.int .i64, .int .i64, .str, .str]) (0, 0, ByteArray.mk #[], ByteArray.mk #[], ()) hs3 rfl ?_
  refine ⟨((0, 0, ByteArray.mk #[], ByteArray.mk #[], ()), false, ()), rfl, ?_⟩
  refine new_cells hs3 fun x4 h4 hs4 => ?_
  (try dsimp only); rw [HM.bind_apply]
  refine storeN_all' hs4 rfl rfl fun h5 hs5 => ?_
  (try dsimp only); rw [HM.bind_apply, HM.ite_apply, if_neg (by simp)]
  exact hq _ hs5.drop.drop.drop
theorem pval_spec (hs : sat h (old h0 :: R)) (ht : U8 h0) {n : Int} {t : ByteArray} (hsz : t.size ≤ 9223372036854775000) {Q : Value → Heap → Prop}
    (hq : ∀ h', sat h' (old h0 :: R) → Q (.tuple #[.string (datB tagS ++ textB t), .int .u8 (textC t)]) h') :
    HCalls Tryz.prog 201 #[.agg #[.int .i64 38, .int .i64 n, .string tagS, .string t]] h Q := by
  refine prop_Property_value_calls (38, n, tagS, t, ()) h Q ?_
  unfold prop_Property_value
  refine new_cells hs fun x1 h1 hs1' => ?_
  have hs1 : sat h1 (cells x1 (encPr (38, n, tagS, t)).toArray :: old h0 :: R) := hs1'
  refine ⟨38, by rw [add_own]; exact hs1.cell 0, ?_⟩
  refine bind_call1 (kind38 ⟨7, rfl, ?_⟩)
  (try dsimp only); rw [HM.ite_apply, if_neg (by decide), HM.ite_apply, if_neg (by decide), HM.ite_apply, if_neg (by decide), HM.ite_apply, if_pos (by decide)]
  refine ⟨tagS, by rw [add_own]; exact hs1.cell 2, ?_⟩
  refine bind_callN (tput_spec hs1.p1 ht (by decide) fun h2 hs2 => ⟨(textB tagS, textC tagS, ()), rfl, ?_⟩)
  (try dsimp only); rw [textC_tag, textB_tag, HM.ite_apply, if_neg (by decide)]
  refine ⟨t, by rw [add_own]; exact hs2.p1.cell 3, ?_⟩
  refine bind_callN (tput_spec hs2 ht (by omega) fun h3 hs3 => ⟨(textB t, textC t, ()), rfl, ?_⟩)
  refine ⟨?_, hq h3 (hs3.p1).drop⟩
  have : (textB t).size ≤ t.size + 2 := by
    unfold textB
    split
    · rw [datB_size]; exact Nat.le_refl _
    · show 0 ≤ _; omega
  rw [datB_size]
  show 3 + 2 + (textB t).size ≤ _
  omega
theorem blen_spec {b : Nat} {xs : List Int} (hs : sat h (bldA b xs :: R)) {Q : Value → Heap → Prop} (hq : Q (.int .i64 ((xs.length : Nat) : Int)) h) : HCalls Tryz.prog 87 #[ptrB b] h Q := by
  refine strings_Builder_Len_calls (some ⟨b, 0, none⟩) h Q ?_
  unfold strings_Builder_Len
  obtain ⟨p, s, hp, hs⟩ := bldA_iff.1 hs
  have hg := hs.get
  have hl : s.len = xs.length := by
    rcases bufA_cases hs.p1 with ⟨rfl, rfl, -⟩ | ⟨g, cur, hf, -⟩
    · rfl
    · exact hf.len
  refine ⟨_, rfl, s, by rw [add_own]; simp [cellH, hg], ?_⟩
  have := hq
  rw [← hl] at this
  exact this
theorem bld_new {Q : Nat → Heap → Prop} (hq : sat (h.push (.cells #[.pointer none, .slice none 0 0] 199)) (bldA h.size [] :: old h :: []) → Q h.size (h.push (.cells #[.pointer none, .slice none 0 0] 199))) : HM.new (.cells #[.pointer none, .slice none 0 0] 199) h Q :=
  hq (bldA_iff.2 ⟨.pointer none, ⟨none, 0, 0⟩, .inl rfl, ((bufA_nil (T := 5) (sat_old h).push).p1)⟩)
theorem intsS_byte (t : ByteArray) : ∀ x ∈ intsS t, 0 ≤ x ∧ x < 256 := by
  intro x hx
  unfold intsS at hx
  obtain ⟨b, -, rfl⟩ := List.mem_map.1 hx
  have := b.toNat_lt
  omega
theorem ints_intsS (t : ByteArray) : bytesOfInts (intsS t) = t := by
  refine data_inj ?_
  rw [ints_data]
  unfold intsS
  rw [List.map_map]
  conv => rhs; rw [← List.map_id t.data.toList]
  refine List.map_congr_left fun b _ => ?_
  simp
theorem U8.up (ht : U8 h0) (hs : sat h (old h0 :: R)) : U8 h := ⟨fun c hc => hs.old_cell (ht.1 c hc), fun i hi => ⟨hs.old_cell (ht.2 i hi).1, hs.old_cell (ht.2 i hi).2⟩⟩
theorem pput_spec (hs : sat h (old h0 :: R)) (ht : U8 h0) {t : ByteArray} (hsz : t.size ≤ 9223372036854775000) {s : Slc} (hr : RowAt encPr 4 h s (tagP t)) {Q : Value → Heap → Prop}
    (hq : ∀ h', sat h' (old h0 :: R) → Q (.tuple #[.string (propB t), .int .u8 (propC t)]) h') :
    HCalls Tryz.prog 165 #[.slice s.a s.len s.cap] h Q := by
  refine prop_Put_calls s h Q ?_
  unfold prop_Put
  have hsl := hr.1
  have hl1 : (tagP t).length ≤ 1 := by unfold tagP; split <;> simp
  (try dsimp only); rw [HM.ite_apply, if_neg (by simp only [decide_eq_true_eq]; omega)]
  (try dsimp only); rw [HM.bind_apply]
  refine bld_new fun hb0 => ?_
  generalize h.push (.cells #[.pointer none, .slice none 0 0] 199) = h2 at hb0 ⊢
  generalize hbb : h.size = b at hb0 ⊢
  have fin : ∀ (x : ByteArray) (h3 : Heap), x.size ≤ 70000 → propC t = 0 → propB t = vB x.size ++ x → sat h3 (bldA b (intsS x) :: old h :: []) →
      (HM.bind (HM.call1 Tryz.prog (.one (.int .i64)) 87 #[.pointer (some ⟨b, 0, none⟩)]) fun x17 =>
        HM.bind (HM.callN Tryz.prog [.one .str, .one (.int .u8)] 89 #[.int .i64 x17]) fun x18 =>
        HM.ite (!(x18.2.1 == 0)) (HM.pure (ByteArray.mk #[], 149, ())) (
        HM.bind (HM.call1 Tryz.prog (.one .str) 90 #[.pointer (some ⟨b, 0, none⟩)]) fun x19 =>
        HM.req (ByteArray.size x18.1 + ByteArray.size x19 ≤ 9223372036854775807) <|
        HM.pure (x18.1 ++ x19, 0, ()))) h3 (fun (r : ByteArray × Int × Unit) h' => Q (.tuple #[.string r.1, .int .u8 r.2.1]) h') := by
    intro x h3 hx hc hB hs3
    refine bind_call1 (blen_spec hs3 ⟨_, rfl, ?_⟩)
    (try dsimp only); rw [intsS_len]
    refine bind_callN (vput_spec hs3 (n := x.size) (by omega) fun h4 hs4 => ⟨(vB x.size, 0, ()), rfl, ?_⟩)
    (try dsimp only); rw [HM.ite_apply, if_neg (by decide)]
    refine bind_call1 (String_spec hs4 (by omega) (intsS_byte x) fun h5 hk => ⟨_, rfl, ?_⟩)
    (try dsimp only); rw [ints_intsS]
    refine ⟨?_, ?_⟩
    · have := sizeV_pos x.size
      rw [vB_size]
      omega
    have := hq h5 (hs.grow hk)
    rw [hc, hB] at this
    exact this
  by_cases hte : t = e0S
  · have hnil : tagP t = [] := by unfold tagP; rw [if_pos hte]
    rw [hnil] at hr hsl
    (try dsimp only); rw [HM.bind_apply]
    refine loop_for 0 (fun i x h' => h' = h2 ∧ x.1 = (i : Int)) ⟨rfl, rfl⟩ (fun i x h1 hi hJ => by rw [hJ.2, hsl]; exact decide_eq_decide.2 (by simp)) (fun x h1 hJ K hd => ?_) (fun i x h1 hlt => absurd hlt (by omega))
    obtain ⟨rfl, hx⟩ := hJ
    refine hd _ _ ?_
    refine fin e0S _ (by decide) (by unfold propC; rw [if_pos hte]) ?_ hb0
    unfold propB
    rw [if_pos hte]
    rfl
  · have hone : tagP t = [(38, 0, tagS, t)] := by unfold tagP; rw [if_neg hte]
    rw [hone] at hr hsl
    have hp0 : propC t = textC t := by unfold propC; rw [if_neg hte]
    (try dsimp only); rw [HM.bind_apply]
    refine loop_for 1 (fun i x h' => x.1 = (i : Int) ∧ if i = 0 then h' = h2 else textC t = 0 ∧ sat h' (bldA b (intsS (tagX t)) :: old h :: [])) ⟨rfl, by rw [if_pos rfl]⟩ (fun i x h1 hi hJ => by rw [hJ.1, hsl]; exact decide_eq_decide.2 (by simp; omega)) (fun x h1 hJ K hd => ?_) (fun i x h1 hlt hJ K hnx hd => ?_)
    · obtain ⟨hx, hJ⟩ := hJ
      rw [if_neg (by decide)] at hJ
      refine hd _ _ ?_
      have hz := textC_size hJ.1
      refine fin (tagX t) _ (by rw [tagX_size]; omega) (by rw [hp0]; exact hJ.1) ?_ hJ.2
      unfold propB
      rw [if_neg hte, if_pos hJ.1]
    · have hi0 : i = 0 := by omega
      subst hi0
      obtain ⟨ci, ⟨⟩⟩ := x
      obtain ⟨hx, hJ⟩ := hJ
      rw [if_pos rfl] at hJ
      simp only at hx
      subst hx hJ
      (try dsimp only); rw [HM.bind_apply]
      refine idx_row (i := 0) (hr.old hb0.p1) (x := (38, 0, tagS, t)) rfl fun a ha => ?_
      refine loadN_of (ts := [.int .i64, .int .i64, .str, .str]) ((38, 0, tagS, t, ()) : Int × Int × ByteArray × ByteArray × Unit) ha ?_
      refine new_cells hb0 fun x6 h3 hs3 => ?_
      (try dsimp only); rw [HM.bind_apply]
      refine storeN_all' hs3 rfl rfl fun h4 hs4' => ?_
      have hs4 : sat h4 (cells x6 (encPr (38, 0, tagS, t)).toArray :: bldA b [] :: old h :: []) := hs4'
      clear hs4' hs3
      refine ⟨38, by rw [add_own]; exact hs4.cell 0, ?_⟩
      refine bind_call1 (kind38 ⟨7, rfl, ?_⟩)
      (try dsimp only); rw [HM.ite_apply, if_neg (by decide)]
      (try dsimp only); rw [HM.bind_apply]
      refine ⟨0, 0, s.cap, rfl, ⟨rfl, by omega⟩, rfl, ?_⟩
      refine ⟨38, by rw [add_own]; exact hs4.cell 0, ?_⟩
      refine bind_call1 (has_none hs4 fun h5 hs5 => ⟨false, rfl, ?_⟩)
      (try dsimp only); rw [HM.ite_apply, if_neg (by decide)]
      refine loadN_cells (ts := [.int .i64, .int .i64, .str, .str]) ((38, 0, tagS, t, ()) : Int × Int × ByteArray × ByteArray × Unit) hs5 rfl ?_
      refine bind_callN (pval_spec hs5.p2 (ht.up hs) (by omega) fun h6 hs6' => ⟨(datB tagS ++ textB t, textC t, ()), rfl, ?_⟩)
      have hs6 : sat h6 (cells x6 (encPr (38, 0, tagS, t)).toArray :: bldA b [] :: old h :: []) := hs6'.re [1, 2, 0]
      clear hs6' hs5 hs4
      (try dsimp only); rw [HM.ite_apply]
      by_cases hc : textC t = 0
      · rw [if_neg (by rw [hc]; decide)]
        have htb : textB t = datB t := by unfold textB; rw [if_pos hc]
        have hz := textC_size hc
        refine ⟨38, by rw [add_own]; exact hs6.cell 0, ?_⟩
        refine bind_callN (vput_spec hs6 (n := 38) (by decide) fun h7 hs7 => ⟨(vB 38, 0, ()), rfl, ?_⟩)
        (try dsimp only); rw [htb]
        have hsz2 : (vB 38 ++ (datB tagS ++ datB t)).size = t.size + 8 := tagX_size t
        refine ⟨?_, ?_⟩
        · rw [← ByteArray.size_append, hsz2]; omega
        refine bind_callN (Write_spec (t := tagX t) hs7.p1 (by rw [tagX_size]; simp only [List.length_nil]; omega) fun h8 hs8 => ⟨(_, .nilIface, ()), rfl, ?_⟩)
        refine hnx _ _ ⟨by decide, ?_⟩
        rw [if_neg (by decide)]
        rw [List.nil_append] at hs8
        exact ⟨hc, hs8.p1.drop.re [0, 1] |> fun hh => hs8.re [0, 2, 1] |> fun h2 => (hs8.p1.drop.re [0, 1])⟩
      · rw [if_pos (by simp [hc])]
        refine hd _ _ ?_
        have := hq h6 (hs.grow fun k o ho => (hs6.re [2, 0, 1]).old_get ho)
        rw [hp0] at this
        unfold propB at this
        rw [if_neg hte, if_neg hc] at this
        exact this
end Go.Proofs.YtfhalebbcbgbdaaGreatDoor
namespace Go.Proofs.YtfhalebbcbgbdaaGreatDoor
set_option linter.unusedSimpArgs false
open Go.H Go.Proofs
set_option linter.unusedVariables false
set_option synthInstance.maxSize 100000
set_option synthInstance.maxHeartbeats 400000
theorem eI_len (x : Int) : (eI x).length = 1 := rfl
end Go.Proofs.YtfhalebbcbgbdaaGreatDoor
namespace Go.Proofs.YtfhalebbcbgbdaaGreatDoor
open Go.H Go.Proofs Go.Lib
set_option linter.unusedSimpArgs false
set_option linter.unusedVariables false
set_option maxRecDepth 100000
variable {h h0 : Heap} {R : List Asn}
theorem row_cells {b n : Nat} {xs : List Int} {cs : Array Value} (hc : cs = (xs.flatMap eI).toArray) (hn : n = xs.length) (hs : sat h (cells b cs :: R)) : RowAt eI 1 h ⟨some ⟨b, 0, none⟩, n, n⟩ xs := by
  subst hc hn
  have : sat h (ownS eI 1 ⟨some ⟨b, 0, none⟩, xs.length, xs.length⟩ xs :: R) := by
    refine ownS_mk (o := 0) ⟨by simp, Nat.le_refl _, rfl, by simp [flat_len eI_len], ?_⟩ hs
    simp only [Nat.zero_mul, List.drop_zero, List.toList_toArray]
    rw [List.take_of_length_le (by rw [flat_len eI_len]; exact Nat.le_refl _)]
  exact this.own_row eI_len
end Go.Proofs.YtfhalebbcbgbdaaGreatDoor
namespace Go.Proofs.YtfhalebbcbgbdaaGreatDoor
open Go.H Go.Proofs
set_option linter.unusedSimpArgs false
set_option linter.unusedVariables false
set_option synthInstance.maxSize 100000
set_option synthInstance.maxHeartbeats 400000
theorem Index_spec {h : Heap} {s : Slc} {xs : List Int} {x : Int} (hx : RowAt eI 1 h s xs) (hb : xs.length ≤ 4611686018427387904) {Q : Value → Heap → Prop}
    (hno : x ∉ xs → Q (.int .i64 (-1)) h) (hyes : x ∈ xs → ∀ i : Nat, xs[i]? = some x → Q (.int .i64 i) h) :
    HCalls Tryz.prog 220 #[.slice s.a s.len s.cap, .int .i64 x] h Q := by
  refine slices_Index_calls s x h Q ?_
  unfold slices_Index
  simp
  have h1 := hx.1
  refine loop_gx (γ := Nat) (fun i c h' => h' = h ∧ c.1 = (i : Int) ∧ i ≤ xs.length ∧ x ∉ xs.take i) (fun i => xs.length - i) 0 ⟨rfl, rfl, Nat.zero_le _, by simp⟩ ?_
  rintro i ⟨c, ⟨⟩⟩ h' ⟨rfl, hc, hi, hn⟩
  simp only at hc
  subst hc
  have next : IntKind.wrap .i64 ((i : Int) + 1) = ((i + 1 : Nat) : Int) := by rw [wrap_id (by omega) (by omega)]; rfl
  simp
  by_cases hlt : i < xs.length
  · rw [if_pos (by omega)]
    refine idx_row hx (List.getElem?_eq_getElem hlt) fun a ha => ?_
    have c0 : cellH h' a = some (.int .i64 xs[i]) := by simpa [Go.H.add_zero] using ha 0 _ rfl
    simp [c0]
    by_cases he : x = xs[i]
    · rw [if_pos he]
      exact hyes (he ▸ List.getElem_mem hlt) i (by rw [he]; exact List.getElem?_eq_getElem hlt)
    · rw [if_neg he]
      refine .mk (i + 1) (by omega) ⟨rfl, next, by omega, fun hm => ?_⟩
      rw [List.take_succ_eq_append_getElem hlt, List.mem_append] at hm
      rcases hm with hm | hm
      · exact hn hm
      · exact he (List.mem_singleton.1 hm)
  · rw [if_neg (by omega)]
    rw [List.take_of_length_le (by omega)] at hn
    exact hno hn
end Go.Proofs.YtfhalebbcbgbdaaGreatDoor
namespace Go.Proofs.YtfhalebbcbgbdaaGreatDoor
open Go.H Go.Proofs Go.Lib
set_option linter.unusedSimpArgs false
set_option linter.unusedVariables false
set_option maxRecDepth 100000
variable {h h0 : Heap} {R : List Asn}
theorem first0 (c : Int) : firstC c 0 = c := by unfold firstC; split <;> simp_all
theorem textB_size (t : ByteArray) : (textB t).size ≤ t.size + 2 := by
  unfold textB
  split
  · rw [datB_size]; exact Nat.le_refl _
  · show 0 ≤ _; omega
theorem propB_size (t : ByteArray) : (propB t).size ≤ t.size + 12 := by
  unfold propB
  split
  · rw [vB_size]; have := sizeV_pos 0; omega
  · split
    · rw [ByteArray.size_append, vB_size, tagX_size]
      have := sizeV_pos (t.size + 8)
      omega
    · show 0 ≤ _; omega
theorem wtxt_spec {b : Nat} {xs : List Int} {c : Int} {t : ByteArray} (hs : sat h (wrA b xs c :: old h0 :: R)) (ht : U8 h0) (hb : xs.length + t.size ≤ 1000000000) {Q : Value → Heap → Prop}
    (hq : ∀ h', sat h' (wrA b (xs ++ intsS (textB t)) (firstC c (textC t)) :: old h0 :: R) → Q (.tuple #[]) h') : HCalls Tryz.prog 161 #[ptrW b, .string t] h Q := by
  refine packet_writer_text_calls (some ⟨b, 0, none⟩) t h Q ?_
  unfold packet_writer_text
  refine bind_callN (tput_spec hs.p1 ht (by omega) fun h1 hs1 => ⟨(textB t, textC t, ()), rfl, ?_⟩)
  have := textB_size t
  refine bind_callN (wpart_spec (t := textB t) hs1.p1 (by omega) fun h2 hs2 => ⟨(), rfl, ?_⟩)
  exact hq h2 hs2
theorem wid_spec {b : Nat} {xs : List Int} {c : Int} {id : Nat} (hs : sat h (wrA b xs c :: R)) (h1 : 1 ≤ id ∧ id ≤ 65535) (hb : xs.length ≤ 1000000000) {Q : Value → Heap → Prop}
    (hq : ∀ h', sat h' (wrA b (xs ++ intsS (fixB 2 id)) c :: R) → Q (.tuple #[]) h') : HCalls Tryz.prog 124 #[ptrW b, .int .i64 id] h Q := by
  refine packet_writer_id_calls (some ⟨b, 0, none⟩) id h Q ?_
  unfold packet_writer_id
  refine cut (fun z h' => h' = h ∧ z.1 = false) ?_ ?_
  · intro K hK
    (try dsimp only); rw [HM.ite_apply, if_neg (by simp; omega)]
    exact hK _ _ ⟨rfl, by simp; omega⟩
  rintro ⟨z, ⟨⟩⟩ h2 ⟨rfl, hz⟩
  simp only at hz
  subst hz
  (try dsimp only); rw [HM.ite_apply, if_neg (by decide)]
  refine bind_callN ?_
  refine packet_writer_two_calls (some ⟨b, 0, none⟩) id h2 _ ?_
  unfold packet_writer_two
  refine bind_callN (Fixed_spec (w := 2) hs (.inr (.inl rfl)) (by simpa using Nat.lt_succ_of_le h1.2) fun h3 hs3 => ⟨(fixB 2 id, 0, ()), rfl, ?_⟩)
  refine bind_callN (wpart_spec (d := 0) hs3 (by rw [fixB_size]; omega) fun h4 hs4 => ⟨(), rfl, (), rfl, ?_⟩)
  rw [first0] at hs4
  exact hq h4 hs4
theorem allowed3 (hs : sat h R) {Q : Value → Heap → Prop} (hq : ∀ h', sat h' R → Q (.bool true) h') : HCalls Tryz.prog 168 #[.int .i64 3, .int .i64 38] h Q := by
  refine packet_Allowed_calls 3 38 h Q ?_
  unfold packet_Allowed
  refine cut (fun z h' => ∃ x : Nat, z.1 = ⟨some ⟨x, 0, none⟩, 8, 8⟩ ∧ sat h' (cells x #[.int .i64 1, .int .i64 2, .int .i64 3, .int .i64 8, .int .i64 9, .int .i64 11, .int .i64 35, .int .i64 38] :: R)) ?_ ?_
  · intro K hK
    simp only [HM.bind_apply, HM.ite_apply]
    simp
    refine new_cells hs fun x h1 hs1 => ?_
    exact hK _ _ ⟨x, rfl, hs1⟩
  rintro ⟨z, ⟨⟩⟩ h2 ⟨x, hz, hs2⟩
  simp only at hz
  subst hz
  refine bind_call1 ?_
  refine slices_Contains_calls ⟨some ⟨x, 0, none⟩, 8, 8⟩ 38 h2 _ ?_
  unfold slices_Contains
  refine bind_call1 (Index_spec (s := ⟨some ⟨x, 0, none⟩, 8, 8⟩) (x := 38) (row_cells (xs := [1, 2, 3, 8, 9, 11, 35, 38]) rfl rfl hs2) (by decide) (fun hn => absurd hn (by decide)) (fun _ i _ => ⟨i, rfl, ?_⟩))
  refine ⟨true, by simp, ?_⟩
  exact hq h2 hs2.drop
theorem wprops_spec {b : Nat} {xs : List Int} {c : Int} {t : ByteArray} {s : Slc} (hs : sat h (wrA b xs c :: old h0 :: R)) (ht : U8 h0) (hr : RowAt encPr 4 h0 s (tagP t)) (hb : xs.length + t.size ≤ 1000000000) {Q : Value → Heap → Prop}
    (hq : ∀ h', sat h' (wrA b (xs ++ intsS (propB t)) (firstC c (propC t)) :: old h0 :: R) → Q (.tuple #[]) h') : HCalls Tryz.prog 122 #[ptrW b, .int .i64 3, .slice s.a s.len s.cap] h Q := by
  refine packet_writer_props_calls (some ⟨b, 0, none⟩) 3 s h Q ?_
  unfold packet_writer_props
  refine new_cells hs fun x1 h1 hs1 => ?_
  have hsl := hr.1
  have hpz := propB_size t
  refine bind_callN (pput_spec (hs1.re [2, 0, 1]) ht (by omega) (hr.old (hs1.re [2, 0, 1])) fun h2 hs2 => ⟨(propB t, propC t, ()), rfl, ?_⟩)
  refine bind_callN (wpart_spec (t := propB t) (hs2.re [2, 0, 1]) (by omega) fun h3 hs3 => ⟨(), rfl, ?_⟩)
  refine bind_call1 ?_
  refine slices_ContainsFunc_calls s _ h3 _ ?_
  unfold slices_ContainsFunc
  have hs4 : sat h3 (cells x1 #[.int .i64 3] :: wrA b (xs ++ intsS (propB t)) (firstC c (propC t)) :: old h0 :: R) := hs3.re [2, 0, 1]
  clear hs3 hs2 hs1 hs
  refine bind_call1 ?_
  refine slices_IndexFunc_Property_calls s _ h3 _ ?_
  unfold slices_IndexFunc_Property
  (try dsimp only); rw [HM.bind_apply]
  refine loop_for (tagP t).length (fun i x h' => x.1 = (i : Int) ∧ sat h' (cells x1 #[.int .i64 3] :: wrA b (xs ++ intsS (propB t)) (firstC c (propC t)) :: old h0 :: R)) ⟨rfl, hs4⟩ (fun i x h1 hi hJ => by rw [hJ.1, hsl]; exact decide_eq_decide.2 (by omega)) (fun x h1 hJ K hd => ?_) (fun i x h1 hlt hJ K hnx hd => ?_)
  · obtain ⟨hx, hs5⟩ := hJ
    refine hd _ _ ⟨-1, rfl, false, rfl, ?_⟩
    (try dsimp only); rw [HM.bind_apply, HM.ite_apply, if_neg (by decide)]
    exact hq h1 hs5.drop
  · obtain ⟨ci, ⟨⟩⟩ := x
    obtain ⟨hx, hs5⟩ := hJ
    simp only at hx
    subst hx
    have hte : ¬ t = e0S := fun e => by unfold tagP at hlt; rw [if_pos e] at hlt; exact absurd hlt (by simp)
    have hone : tagP t = [(38, 0, tagS, t)] := by unfold tagP; rw [if_neg hte]
    have hi0 : i = 0 := by rw [hone] at hlt; simpa using hlt
    subst hi0
    (try dsimp only); rw [HM.bind_apply]
    refine idx_row (i := 0) (hr.old hs5.p2) (x := (38, 0, tagS, t)) (by rw [hone]; rfl) fun a ha => ?_
    refine loadN_of (ts := [.int .i64, .int .i64, .str, .str]) ((38, 0, tagS, t, ()) : Int × Int × ByteArray × ByteArray × Unit) ha ?_
    refine ⟨_, _, _, rfl, Tryz.call167, ?_⟩
    refine packet_writer_props_f1_calls (38, 0, tagS, t, ()) ⟨x1, 0, none⟩ h1 _ ?_
    unfold packet_writer_props_f1
    refine new_cells hs5 fun x6 h6 hs6 => ?_
    refine ⟨3, hs6.p1.cell 0, 38, by rw [add_own]; exact hs6.cell 0, ?_⟩
    refine bind_call1 (allowed3 hs6 fun h7 hs7 => ⟨true, rfl, false, rfl, ?_⟩)
    (try dsimp only); rw [HM.ite_apply, if_neg (by decide)]
    exact hnx _ _ ⟨by (try dsimp only); decide, hs7.drop⟩
end Go.Proofs.YtfhalebbcbgbdaaGreatDoor
namespace Go.Proofs.YtfhalebbcbgbdaaGreatDoor
open Go.H Go.Proofs Go.Lib
set_option linter.unusedSimpArgs false
set_option linter.unusedVariables false
set_option maxRecDepth 100000
variable {h h0 : Heap} {R : List Asn}
structure PubOK (o : PkO) (t : ByteArray) : Prop where
  kind : o.kind = 3
  props : o.props = tagP t
  qos : o.qos = 0 ∨ o.qos = 1 ∨ o.qos = 2
  dup : o.dup = true → o.qos ≠ 0
  id : o.qos ≠ 0 → 1 ≤ o.id ∧ o.id ≤ 65535
  top : o.topic.size ≤ 100000000
  pay : o.payload.size ≤ 100000000
  tag : t.size ≤ 100000000
def idB (o : PkO) : List Int := if o.qos = 0 then [] else intsS (fixB 2 o.id.toNat)
def bodyB (o : PkO) (t : ByteArray) : List Int := intsS (textB o.topic) ++ idB o ++ intsS (propB t) ++ intsS o.payload
def bodyC (o : PkO) (t : ByteArray) : Int := firstC (textC o.topic) (propC t)
theorem firstC_0 (c : Int) : firstC 0 c = c := by unfold firstC; rw [if_pos rfl]
theorem idB_len (o : PkO) : (idB o).length ≤ 2 := by
  unfold idB
  split
  · simp
  · rw [intsS_len, fixB_size]; exact Nat.le_refl _
theorem wpub_spec {b : Nat} {o : PkO} {t : ByteArray} {c p : Slc} (hs : sat h (wrA b [] 0 :: old h0 :: R)) (ht : U8 h0) (hk : PubOK o t) (hr : RowAt encPr 4 h0 p (tagP t)) {Q : Value → Heap → Prop}
    (hq : ∀ h', sat h' (wrA b (bodyB o t) (bodyC o t) :: old h0 :: R) → Q (.tuple #[]) h') : HCalls Tryz.prog 123 #[ptrW b, vPkK .u8 (pkT o c p)] h Q := by
  refine packet_writer_publish_calls (some ⟨b, 0, none⟩) (pkT o c p) h Q ?_
  unfold packet_writer_publish
  have h1 := textB_size o.topic
  have h2 := propB_size t
  have h3 := idB_len o
  have g1 := hk.top; have g2 := hk.pay; have g3 := hk.tag
  refine new_cells hs fun x1 hh1 hs1' => ?_
  have hs1 : sat hh1 (cells x1 (encPkK .u8 (pkT o c p)).toArray :: wrA b [] 0 :: old h0 :: R) := hs1'
  clear hs1' hs
  refine ⟨o.topic, by rw [add_own]; exact hs1.cell 5, ?_⟩
  refine bind_callN (wtxt_spec (hs1.re [1, 2, 0]) ht (by simp only [List.length_nil]; omega) fun hh2 hs2' => ⟨(), rfl, ?_⟩)
  rw [List.nil_append, firstC_0] at hs2'
  have hs2 : sat hh2 (cells x1 (encPkK .u8 (pkT o c p)).toArray :: wrA b (intsS (textB o.topic)) (textC o.topic) :: old h0 :: R) := hs2'.re [2, 0, 1]
  clear hs2' hs1
  refine ⟨o.qos, by rw [add_own]; exact hs2.cell 3, ?_⟩
  refine Go.H.cut (fun z h' => sat h' (cells x1 (encPkK .u8 (pkT o c p)).toArray :: wrA b (intsS (textB o.topic) ++ idB o) (textC o.topic) :: old h0 :: R)) ?_ ?_
  · intro K hK
    unfold idB at hK
    (try dsimp only); rw [HM.ite_apply]
    by_cases hq0 : o.qos = 0
    · rw [if_neg (by simp [hq0])]
      rw [if_pos hq0, List.append_nil] at hK
      exact hK _ _ hs2
    · rw [if_pos (by have := hk.qos; simp; omega)]
      rw [if_neg hq0] at hK
      obtain ⟨i1, i2⟩ := hk.id hq0
      have hid : o.id = ((o.id.toNat : Nat) : Int) := by omega
      refine ⟨o.id, by rw [add_own]; exact hs2.cell 4, ?_⟩
      rw [hid]
      refine bind_callN (wid_spec (hs2.re [1, 2, 0]) (by omega) (by rw [intsS_len]; omega) fun hh3 hs3 => ⟨(), rfl, ?_⟩)
      exact hK _ _ (hs3.re [2, 0, 1])
  rintro ⟨⟩ hh3 hs3
  refine ⟨p, by rw [add_own]; exact hs3.cell 9, ?_⟩
  refine bind_callN (wprops_spec (hs3.re [1, 2, 0]) ht hr (by simp only [List.length_append, intsS_len]; omega) fun hh4 hs4' => ⟨(), rfl, ?_⟩)
  have hs4 : sat hh4 (cells x1 (encPkK .u8 (pkT o c p)).toArray :: wrA b (intsS (textB o.topic) ++ idB o ++ intsS (propB t)) (bodyC o t) :: old h0 :: R) := hs4'.re [2, 0, 1]
  clear hs4' hs3
  refine ⟨o.payload, by rw [add_own]; exact hs4.cell 6, ?_⟩
  refine bind_callN (wpart_spec (d := 0) (hs4.re [1, 2, 0]) (by simp only [List.length_append, intsS_len]; omega) fun hh5 hs5 => ⟨(), rfl, ?_⟩)
  rw [first0] at hs5
  exact hq hh5 (hs5.re [2, 0, 1]).drop
theorem wbody_spec {b : Nat} {o : PkO} {t : ByteArray} {c p : Slc} (hs : sat h (wrA b [] 0 :: old h0 :: R)) (ht : U8 h0) (hk : PubOK o t) (hr : RowAt encPr 4 h0 p (tagP t)) {Q : Value → Heap → Prop}
    (hq : ∀ h', sat h' (wrA b (bodyB o t) (bodyC o t) :: old h0 :: R) → Q (.tuple #[]) h') : HCalls Tryz.prog 86 #[ptrW b, vPkK .u8 (pkT o c p)] h Q := by
  refine packet_writer_body_calls (some ⟨b, 0, none⟩) (pkT o c p) h Q ?_
  unfold packet_writer_body
  refine new_cells hs fun x1 hh1 hs1' => ?_
  have hs1 : sat hh1 (cells x1 (encPkK .u8 (pkT o c p)).toArray :: wrA b [] 0 :: old h0 :: R) := hs1'
  clear hs1' hs
  refine ⟨o.kind, by rw [add_own]; exact hs1.cell 0, ?_⟩
  rw [hk.kind]
  simp only [HM.bind_apply, HM.ite_apply]
  rw [if_neg (by decide), if_neg (by decide), if_pos (by decide)]
  simp only [HM.pure_apply, Sum.elim_inl, Sum.elim_inr]
  refine loadN_cells (ts := Pk_tK .u8) (pkT o c p) hs1 rfl ?_
  refine bind_callN (wpub_spec (c := c) (p := p) (hs1.re [1, 2, 0]) ht hk hr fun hh2 hs2 => ⟨(), rfl, ?_⟩)
  exact hq hh2 (hs2.re [2, 0, 1]).drop
def flagN (o : PkO) : Nat := (if o.dup = true then 8 else 0) + 2 * o.qos.toNat + (if o.retain = true then 1 else 0)
def putC (o : PkO) (t : ByteArray) : Int := if bodyC o t ≠ 0 then bodyC o t else if 65536 < (bodyB o t).length then 149 else 0
def putB (o : PkO) (t : ByteArray) : ByteArray := if putC o t = 0 then fixB 1 (48 + flagN o) ++ vB (bodyB o t).length ++ bytesOfInts (bodyB o t) else e0S
theorem bodyB_byte (o : PkO) (t : ByteArray) : ∀ x ∈ bodyB o t, 0 ≤ x ∧ x < 256 := by
  intro x hx
  unfold bodyB at hx
  simp only [List.mem_append] at hx
  rcases hx with ((hx | hx) | hx) | hx
  · exact intsS_byte _ x hx
  · unfold idB at hx
    split at hx
    · simp at hx
    · exact intsS_byte _ x hx
  · exact intsS_byte _ x hx
  · exact intsS_byte _ x hx
theorem bodyB_ne {o : PkO} {t : ByteArray} (h : bodyC o t = 0) : bodyB o t ≠ [] := by
  intro e
  have h1 : textC o.topic = 0 := by
    unfold bodyC firstC at h
    split at h
    · assumption
    · exact absurd h (by assumption)
  have h2 : 2 ≤ (intsS (textB o.topic)).length := by
    rw [intsS_len]
    unfold textB
    rw [if_pos h1, datB_size]
    omega
  have h3 := congrArg List.length e
  unfold bodyB at h3
  simp only [List.length_append, List.length_nil] at h3
  omega
theorem flags3 {Q : Value → Heap → Prop} (hq : Q (.int .i64 0) h) : HCalls Tryz.prog 82 #[.int .i64 3] h Q := by
  refine packet_Kind_flags_calls 3 h _ ?_
  unfold packet_Kind_flags
  simp only [HM.bind_apply, HM.ite_apply]
  rw [if_neg (by decide), if_neg (by decide)]
  simp only [HM.pure_apply]
  rw [if_neg (by decide)]
  exact hq
set_option maxHeartbeats 1000000 in
theorem put_spec {o : PkO} {t : ByteArray} {c p : Slc} (hs : sat h (old h0 :: R)) (ht : U8 h0) (hk : PubOK o t) (hr : RowAt encPr 4 h p (tagP t)) {Q : Value → Heap → Prop}
    (hq : ∀ h', sat h' (old h0 :: R) → Q (.tuple #[.string (putB o t), .int .u8 (putC o t)]) h') : HCalls Tryz.prog 50 #[vPkK .u8 (pkT o c p)] h Q := by
  refine packet_Put_calls (pkT o c p) h Q ?_
  unfold packet_Put
  have hU := ht.up hs
  refine new_cells (sat_old h) fun x1 h1 hs1' => ?_
  have hs1 : sat h1 (cells x1 (encPkK .u8 (pkT o c p)).toArray :: old h :: []) := hs1'
  clear hs1'
  have back : ∀ {h' : Heap} {A : List Asn}, sat h' (old h :: A) → sat h' (old h0 :: R) := fun hh => hs.grow fun k o ho => hh.old_get ho
  refine ⟨o.kind, by rw [add_own]; exact hs1.cell 0, ?_⟩
  (try dsimp only); rw [hk.kind]
  refine bind_call1 (flags3 ⟨0, rfl, ?_⟩)
  refine wr_new hs1 fun b h2 hs2 => ?_
  refine Go.H.cut (fun z h' => h' = h2 ∧ z.1 = false) ?_ ?_
  · intro K hK
    refine ⟨3, by rw [add_own]; exact (hs2.p1.cell 0).trans (by show some (Value.int .i64 o.kind) = _; rw [hk.kind]; rfl), ?_⟩
    (try dsimp only); rw [HM.ite_apply, if_neg (by decide)]
    refine ⟨3, by rw [add_own]; exact (hs2.p1.cell 0).trans (by show some (Value.int .i64 o.kind) = _; rw [hk.kind]; rfl), ?_⟩
    exact hK _ _ ⟨rfl, rfl⟩
  rintro ⟨z, ⟨⟩⟩ h3 ⟨rfl, hz⟩
  simp only at hz
  subst hz
  (try dsimp only); rw [HM.ite_apply, if_neg (by decide)]
  refine ⟨3, by rw [add_own]; exact (hs2.p1.cell 0).trans (by show some (Value.int .i64 o.kind) = _; rw [hk.kind]; rfl), ?_⟩
  have c1 : ∀ {h' : Heap} {A : List Asn}, sat h' (cells x1 (encPkK .u8 (pkT o c p)).toArray :: A) → cellH h' ⟨x1, 1, none⟩ = some (.bool o.dup) := fun hh => hh.cell 1
  have c2 : ∀ {h' : Heap} {A : List Asn}, sat h' (cells x1 (encPkK .u8 (pkT o c p)).toArray :: A) → cellH h' ⟨x1, 2, none⟩ = some (.bool o.retain) := fun hh => hh.cell 2
  have c3 : ∀ {h' : Heap} {A : List Asn}, sat h' (cells x1 (encPkK .u8 (pkT o c p)).toArray :: A) → cellH h' ⟨x1, 3, none⟩ = some (.int .i64 o.qos) := fun hh => hh.cell 3
  have hqr : 0 ≤ o.qos ∧ o.qos ≤ 2 := by have := hk.qos; omega
  refine Go.H.cut (fun z h' => z.1 = (flagN o : Int) ∧ h' = h3) ?_ ?_
  · intro K hK
    (try dsimp only); rw [HM.ite_apply, if_pos (by decide)]
    refine ⟨o.qos, by rw [add_own]; exact c3 hs2.p1, ?_⟩
    refine bind_callN ?_
    refine packet_writer_qos_calls (some ⟨b, 0, none⟩) o.qos h3 _ ?_
    unfold packet_writer_qos
    refine Go.H.cut (fun z h' => h' = h3 ∧ z.1 = false) ?_ ?_
    · intro K2 hK2
      (try dsimp only); rw [HM.ite_apply, if_neg (by simp; omega)]
      exact hK2 _ _ ⟨rfl, by simp; omega⟩
    rintro ⟨z, ⟨⟩⟩ h4 ⟨rfl, hz⟩
    simp only at hz
    subst hz
    (try dsimp only); rw [HM.bind_apply, HM.ite_apply, if_neg (by decide)]
    refine ⟨(), rfl, ?_⟩
    refine Go.H.cut (fun z h' => h' = h4 ∧ z.1 = false) ?_ ?_
    · intro K2 hK2
      refine ⟨o.dup, by rw [add_own]; exact c1 hs2.p1, ?_⟩
      (try dsimp only); rw [HM.ite_apply]
      cases hd : o.dup with
      | false => rw [if_neg (by decide)]; exact hK2 _ _ ⟨rfl, rfl⟩
      | true =>
        rw [if_pos rfl]
        refine ⟨o.qos, by rw [add_own]; exact c3 hs2.p1, hK2 _ _ ⟨rfl, ?_⟩⟩
        simpa using hk.dup hd
    rintro ⟨z, ⟨⟩⟩ h5 ⟨rfl, hz⟩
    simp only at hz
    subst hz
    (try dsimp only); rw [HM.bind_apply, HM.ite_apply, if_neg (by decide)]
    refine ⟨o.dup, by rw [add_own]; exact c1 hs2.p1, o.qos, by rw [add_own]; exact c3 hs2.p1, by decide, o.retain, by rw [add_own]; exact c2 hs2.p1, ?_⟩
    have bit : ∀ (v : Bool) (n : Int) (Q' : Value → Heap → Prop), Q' (.int .i64 (if v = true then n else 0)) h5 → HCalls Tryz.prog 85 #[.bool v, .int .i64 n] h5 Q' := fun v n Q' hQ' => by
      refine packet_bit_calls v n h5 Q' ?_
      unfold packet_bit
      rw [HM.ite_apply]
      cases v with
      | false => exact hQ'
      | true => exact hQ'
    refine bind_call1 (bit _ _ _ ⟨_, rfl, ?_⟩)
    refine ⟨o.retain, by rw [add_own]; exact c2 hs2.p1, rfl, o.qos, by rw [add_own]; exact c3 hs2.p1, rfl, ?_⟩
    refine bind_call1 (bit _ _ _ ⟨_, rfl, ?_⟩)
    refine ⟨o.qos, by rw [add_own]; exact c3 hs2.p1, rfl, ?_⟩
    refine hK _ _ ⟨?_, rfl⟩
    (try dsimp only)
    unfold flagN
    rcases hk.qos with e | e | e <;> rw [e] <;> cases o.dup <;> cases o.retain <;> decide
  rintro ⟨z, ⟨⟩⟩ h4 ⟨hz, rfl⟩
  simp only at hz
  subst hz
  refine loadN_cells (ts := Pk_tK .u8) (pkT o c p) hs2.p1 rfl ?_
  refine bind_callN (wbody_spec (h0 := h) (c := c) (p := p) (hs2.re [0, 2, 1]) hU hk hr fun h5 hs5 => ⟨(), rfl, ?_⟩)
  have hput : ∀ {h' : Heap} {A : List Asn}, sat h' (old h :: A) → Q (.tuple #[.string (putB o t), .int .u8 (putC o t)]) h' := fun hh => hq _ (back hh)
  refine ⟨_, rfl, bodyC o t, by rw [add_own]; exact wcode hs5, ?_⟩
  (try dsimp only); rw [HM.ite_apply]
  by_cases hc : bodyC o t = 0
  case neg =>
    rw [if_pos (by simp [hc])]
    refine ⟨_, rfl, bodyC o t, by rw [add_own]; exact wcode hs5, ?_⟩
    have := hput hs5.p1
    have e : putC o t = bodyC o t := by unfold putC; rw [if_pos hc]
    unfold putB at this
    rw [e, if_neg hc] at this
    exact this
  rw [if_neg (by simp [hc])]
  refine ⟨_, rfl, ?_⟩
  refine bind_call1 (wlen_spec hs5 ⟨_, rfl, ?_⟩)
  (try dsimp only); rw [HM.ite_apply]
  by_cases hl : 65536 < (bodyB o t).length
  · rw [if_pos (by simp only [decide_eq_true_eq]; omega)]
    have := hput hs5.p1
    have e : putC o t = 149 := by unfold putC; rw [if_neg (by simp [hc]), if_pos hl]
    unfold putB at this
    rw [e, if_neg (by decide)] at this
    exact this
  rw [if_neg (by simp only [decide_eq_true_eq]; omega)]
  have hfl : flagN o ≤ 13 := by
    unfold flagN
    have := hk.qos
    split <;> split <;> omega
  have e0 : putC o t = 0 := by unfold putC; rw [if_neg (by simp [hc]), if_neg hl]
  have hne := bodyB_ne hc
  generalize hL : bodyB o t = L at hs5 hl hne
  have hLb : ∀ x ∈ L, 0 ≤ x ∧ x < 256 := by rw [← hL]; exact bodyB_byte o t
  have c0 : ∀ {h' : Heap}, sat h' (wrA b L (bodyC o t) :: old h :: cells x1 (encPkK .u8 (pkT o c p)).toArray :: []) → cellH h' ⟨x1, 0, none⟩ = some (.int .i64 3) := fun hh => (hh.p2.cell 0).trans (by show some (Value.int .i64 o.kind) = _; rw [hk.kind])
  refine ⟨3, by rw [add_own]; exact c0 hs5, by decide, ?_⟩
  have hb1 : IntKind.wrap .i64 (IntKind.wrap .i64 (3 * 2 ^ (min (Int.toNat 4) (IntKind.bits .i64))) + (flagN o : Int)) = ((48 + flagN o : Nat) : Int) := by
    rw [show IntKind.wrap .i64 (3 * 2 ^ (min (Int.toNat 4) (IntKind.bits .i64))) = 48 by decide, wrap_id (by omega) (by omega)]
    omega
  (try dsimp only); rw [hb1]
  refine bind_callN (Fixed_spec (w := 1) hs5 (.inl rfl) (by omega) fun h6 hs6 => ⟨(fixB 1 (48 + flagN o), 0, ()), rfl, ?_⟩)
  refine ⟨_, rfl, ?_⟩
  refine bind_call1 (wlen_spec hs6 ⟨_, rfl, ?_⟩)
  refine bind_callN (vput_spec hs6 (n := L.length) (by omega) fun h7 hs7 => ⟨(vB L.length, 0, ()), rfl, ?_⟩)
  have hv := sizeV_pos L.length
  (try dsimp only)
  refine ⟨by rw [fixB_size, vB_size]; omega, _, rfl, ?_⟩
  refine bind_call1 (wtext_spec hs7 hLb hne fun h8 hk8 => ⟨_, rfl, ?_⟩)
  (try dsimp only)
  refine ⟨by rw [ByteArray.size_append, fixB_size, vB_size, ints_size]; omega, ?_⟩
  have := hq h8 (hs.grow hk8)
  unfold putB at this
  rw [e0, if_pos rfl, hL] at this
  exact this
end Go.Proofs.YtfhalebbcbgbdaaGreatDoor
namespace Go.Proofs.YtfhalebbcbgbdaaGreatDoor
open Go.H Go.Proofs
set_option linter.unusedSimpArgs false
set_option linter.unusedVariables false
set_option maxRecDepth 100000
variable {h h0 : Heap} {R : List Asn}
abbrev msg1 (m : MsT) : MsT := (m.1, m.2.1, 1, m.2.2.2.1, m.2.2.2.2)
abbrev tryP (m : MsT) (r : Bool) : PkO := ⟨3, false, r, 1, 1, m.1, m.2.1, 0, tagP m.2.2.2.2, [], false⟩
noncomputable def bsendF (o : OutS) (m : MsT) : (OutS × List PkO) × Int := if putC (tryP m false) m.2.2.2.2 ≠ 0 then ((o, []), putC (tryP m false) m.2.2.2.2) else sendF o (msg1 m)
theorem tryP_ok {m : MsT} {r : Bool} (h1 : m.1.size ≤ 100000000) (h2 : m.2.1.size ≤ 100000000) (h3 : m.2.2.2.2.size ≤ 100000000) : PubOK (tryP m r) m.2.2.2.2 :=
  ⟨rfl, rfl, .inr (.inl rfl), fun e => absurd e (by simp), fun _ => ⟨by simp, by simp⟩, h1, h2, h3⟩
theorem bsend_spec {b : Nat} {rs : List RuleT} {o : OutS} {m : MsT} (hs : sat h (brgA b rs o :: old h0 :: R)) (ht : U8 h0) (hok : FlowOK o) (z1 : m.1.size ≤ 100000000) (z2 : m.2.1.size ≤ 100000000) (z3 : m.2.2.2.2.size ≤ 100000000) {Q : Value → Heap → Prop}
    (hq : ∀ S h', sat h' (brgA b rs (bsendF o m).1.1 :: pksA .u8 S (bsendF o m).1.2 :: old h0 :: R) → Q (.tuple #[.slice S.a S.len S.cap, .int .u8 (bsendF o m).2]) h') :
    HCalls Tryz.prog 23 #[at0 b, vMs m] h Q := by
  refine bridge_Bridge_Send_calls (some ⟨b, 0, none⟩) (toU m) h Q ?_
  unfold bridge_Bridge_Send
  refine new_cells hs fun x1 h1 hs1' => ?_
  have hs1 : sat h1 (cells x1 (encM m).toArray :: brgA b rs o :: old h0 :: R) := hs1'
  (try dsimp only); rw [HM.ite_apply, if_neg (by simp)]
  (try dsimp only); rw [HM.bind_apply, add_own]
  refine store1_cells hs1 (by simp) rfl fun h2 hs2' => ?_
  have hs2 : sat h2 (cells x1 (encM (msg1 m)).toArray :: brgA b rs o :: old h0 :: R) := hs2'
  clear hs2' hs1 hs1' hs
  refine ⟨m.1, by rw [add_own]; exact hs2.cell 0, m.2.1, by rw [add_own]; exact hs2.cell 1, ?_⟩
  refine new_cells hs2 fun x4 h3 hs3' => ?_
  (try dsimp only); rw [HM.bind_apply]
  refine storeN_all' hs3' rfl rfl fun h4 hs4' => ?_
  have hs4 : sat h4 (cells x4 (encPkK .u8 (pkT (tryP m false) ⟨none, 0, 0⟩ ⟨none, 0, 0⟩)).toArray :: cells x1 (encM (msg1 m)).toArray :: brgA b rs o :: old h0 :: R) := hs4'
  clear hs4' hs3' hs2
  refine ⟨m.2.2.2.2, by rw [add_own]; exact hs4.p1.cell 4, ?_⟩
  refine Go.H.cut (fun z h' => ∃ p : Slc, sat h' (cells x4 (encPkK .u8 (pkT (tryP m false) ⟨none, 0, 0⟩ p)).toArray :: ownS encPr 4 p (tagP m.2.2.2.2) :: cells x1 (encM (msg1 m)).toArray :: brgA b rs o :: old h0 :: R)) ?_ ?_
  · intro K hK
    (try dsimp only); rw [HM.ite_apply]
    by_cases hte : m.2.2.2.2 = ByteArray.mk #[]
    · rw [if_neg (by simp [hte])]
      refine hK _ _ ⟨⟨none, 0, 0⟩, ?_⟩
      have e : tagP m.2.2.2.2 = [] := if_pos hte
      rw [e]
      exact (ownS_nil hs4).p1
    · rw [if_pos (by simp [hte])]
      refine ⟨m.2.2.2.2, by rw [add_own]; exact hs4.p1.cell 4, ?_⟩
      refine new_cells hs4 fun x8 h5 hs5 => ?_
      (try dsimp only); rw [HM.bind_apply, add_own]
      refine store1_cells hs5.p1 (by simp) rfl fun h6 hs6 => ?_
      refine hK _ _ ⟨⟨some ⟨x8, 0, none⟩, 1, 1⟩, ?_⟩
      have e : tagP m.2.2.2.2 = [(38, 0, tagS, m.2.2.2.2)] := if_neg hte
      rw [e]
      have h7 := ownS_mk (enc := encPr) (size := 4) (s := ⟨some ⟨x8, 0, none⟩, 1, 1⟩) (xs := [(38, 0, tagS, m.2.2.2.2)]) (o := 0) (cs := (encPr (38, 0, tagS, m.2.2.2.2)).toArray) ⟨rfl, Nat.le_refl _, rfl, by simp, by simp⟩ hs6.p1
      exact h7.p1
  rintro ⟨⟩ h5 ⟨p, hs5⟩
  refine loadN_cells (ts := Pk_tK .u8) (pkT (tryP m false) ⟨none, 0, 0⟩ p) hs5 rfl ?_
  refine bind_callN (put_spec (o := tryP m false) (c := ⟨none, 0, 0⟩) (p := p) (hs5.re [4, 0, 1, 2, 3]) ht (tryP_ok z1 z2 z3) (hs5.p1.own_row ePr_len) fun h6 hs6' => ⟨(putB (tryP m false) m.2.2.2.2, putC (tryP m false) m.2.2.2.2, ()), rfl, ?_⟩)
  have hs6 : sat h6 (cells x1 (encM (msg1 m)).toArray :: brgA b rs o :: old h0 :: R) := (hs6'.re [1, 2, 3, 4, 0]).drop.drop
  clear hs6' hs5
  (try dsimp only); rw [HM.ite_apply]
  by_cases hc : putC (tryP m false) m.2.2.2.2 = 0
  case neg =>
    rw [if_pos (by simp [hc])]
    have := hq ⟨none, 0, 0⟩ h6
    have e : bsendF o m = ((o, []), putC (tryP m false) m.2.2.2.2) := if_pos hc
    rw [e] at this
    exact this ((pks_nil hs6.drop).p1)
  rw [if_neg (by simp [hc])]
  have e : bsendF o m = sendF o (msg1 m) := if_neg (by simp [hc])
  rw [e] at hq
  obtain ⟨S, ob, hs7⟩ := brgA_iff.1 hs6.p1
  refine ⟨_, rfl, some ⟨ob, 0, none⟩, by rw [add_own]; exact hs7.cell 1, ?_⟩
  refine loadN_cells (ts := [.str, .str, .int .i64, .bool, .str]) (toU (msg1 m)) hs7.p3 rfl ?_
  refine bind_callN (osend_spec (m := msg1 m) (hs7.re [2, 0, 1, 3, 4]) hok fun S' h' hs8 => ⟨(S', _, ()), rfl, ?_⟩)
  refine hq S' h' (brgA_iff.2 ⟨S, ob, (hs8.re [4, 2, 3, 0, 1]).drop⟩)
end Go.Proofs.YtfhalebbcbgbdaaGreatDoor
namespace Go.Proofs.YtfhalebbcbgbdaaGreatDoor
open Go.H Go.Proofs
set_option linter.unusedSimpArgs false
set_option linter.unusedVariables false
set_option maxRecDepth 100000
variable {h h0 : Heap} {L L' L1 L2 R : List Asn} {Q : Value → Heap → Prop}
theorem wakes23_w (ht : TP h0) (hq : At (old h0 :: L') (Q (.bool true))) (hx : Has L (old h0) L' := by repeat (first | with_reducible exact Go.H.has0 | apply Go.H.hasS)) : FW Tryz.prog 10 #[] L Q :=
  fun h hs => wakes23_spec (hx.s hs) ht fun h' hs' => hq h' hs'
theorem brgNew_w {s : Slc} {rs : List RuleT} (ht : TP h0) (hz : ∀ r ∈ rs, szR r) (hl : rs.length ≤ 16) (hbad : codeRs rs ≠ 0 → At (ownS encRu 5 s rs :: old h0 :: L2) (Q (.tuple #[.pointer none, .int .u8 (codeRs rs)])))
    (hok : codeRs rs = 0 → ∀ b, At (brgA b rs freshO :: ownS encRu 5 s rs :: old h0 :: L2) (Q (.tuple #[at0 b, .int .u8 0]))) (hx : Has L (ownS encRu 5 s rs) L1 := by repeat (first | with_reducible exact Go.H.has0 | apply Go.H.hasS)) (hy : Has L1 (old h0) L2 := by repeat (first | with_reducible exact Go.H.has0 | apply Go.H.hasS)) :
    FW Tryz.prog 12 #[.slice s.a s.len s.cap] L Q :=
  fun h hs => brgNew_spec ((hx.then hy).s hs) ht hz hl (fun hc h' hs' => hbad hc h' hs') (fun hc h' b hs' => hok hc b h' hs')
theorem bbegin_w {b : Nat} {rs : List RuleT} {o : OutS} (hok : FlowOK o) (hq : ∀ S : Slc, At (brgA b rs (beginF o 64).1 :: pksA .u8 S (beginF o 64).2 :: L') (Q (.slice S.a S.len S.cap))) (hx : Has L (brgA b rs o) L' := by repeat (first | with_reducible exact Go.H.has0 | apply Go.H.hasS)) :
    FW Tryz.prog 20 #[at0 b] L Q := fun h hs => bbegin_spec (hx.s hs) hok fun S h' hs' => hq S h' hs'
theorem bsend_w {b : Nat} {rs : List RuleT} {o : OutS} {m : MsT} (ht : U8 h0) (hok : FlowOK o) (z1 : m.1.size ≤ 100000000) (z2 : m.2.1.size ≤ 100000000) (z3 : m.2.2.2.2.size ≤ 100000000)
    (hq : ∀ S : Slc, At (brgA b rs (bsendF o m).1.1 :: pksA .u8 S (bsendF o m).1.2 :: old h0 :: L2) (Q (.tuple #[.slice S.a S.len S.cap, .int .u8 (bsendF o m).2])))
    (hx : Has L (brgA b rs o) L1 := by repeat (first | with_reducible exact Go.H.has0 | apply Go.H.hasS)) (hy : Has L1 (old h0) L2 := by repeat (first | with_reducible exact Go.H.has0 | apply Go.H.hasS)) :
    FW Tryz.prog 23 #[at0 b, vMs m] L Q := fun h hs => bsend_spec ((hx.then hy).s hs) ht hok z1 z2 z3 fun S h' hs' => hq S h' hs'
end Go.Proofs.YtfhalebbcbgbdaaGreatDoor
namespace Go.Proofs.YtfhalebbcbgbdaaGreatDoor
open Go.H Go.Proofs Go.Lib
set_option linter.unusedSimpArgs false
set_option linter.unusedVariables false
theorem index46 : ∀ (x r : List UInt8), 46 ∉ x → indexByte (x ++ 46 :: r) 46 = x.length
  | [], r, _ => by simp [indexByte]
  | b :: x, r, h => by
    simp only [List.mem_cons, not_or] at h
    have hb : (b == 46) = false := by simpa using fun e => h.1 e.symm
    have ih := index46 x r h.2
    simp only [List.cons_append, indexByte, hb, ih]
    have : ¬ (((x.length : Nat) : Int) == -1) = true := by simp
    simp only [Bool.false_eq_true, if_false, if_neg this, List.length_cons]
    omega
theorem index46_none : ∀ (x : List UInt8), 46 ∉ x → indexByte x 46 = -1
  | [], _ => rfl
  | b :: x, h => by
    simp only [List.mem_cons, not_or] at h
    have hb : (b == 46) = false := by simpa using fun e => h.1 e.symm
    simp [indexByte, hb, index46_none x h.2]
theorem hit46 (x r : List UInt8) (h : 46 ∉ x) : index (x ++ 46 :: r) [46] = x.length := by rw [index_one]; exact index46 x r h
theorem miss46 (x : List UInt8) (h : 46 ∉ x) : index x [46] = -1 := by rw [index_one]; exact index46_none x h
theorem split_hit (x r : List UInt8) (k : Nat) (h : 46 ∉ x) : splitK [46] 0 (k + 1) (x ++ 46 :: r) = x :: splitK [46] 0 k r := by
  have hi := hit46 x r h
  have hn : ¬ (index (x ++ 46 :: r) [46] == -1) = true := by rw [hi]; simp
  simp only [splitK, if_neg hn, hi]
  congr 1
  all_goals simp
theorem split_miss (x : List UInt8) (k : Nat) (h : 46 ∉ x) : splitK [46] 0 k x = [x] := by
  cases k with
  | zero => rfl
  | succ k => simp [splitK, miss46 x h]
theorem count_h (x r : List UInt8) (h : 46 ∉ x) : count (x ++ 46 :: r) [46] = 1 + count r [46] := by
  rw [count_hit (by simp) (hit46 x r h)]
  simp
theorem count_m (x : List UInt8) (h : 46 ∉ x) : count x [46] = 0 := count_miss (miss46 x h)
theorem split4 {a b c d : List UInt8} (ha : 46 ∉ a) (hb : 46 ∉ b) (hc : 46 ∉ c) (hd : 46 ∉ d) :
    splitK [46] 0 (count (join [a, b, c, d] [46]) [46]) (join [a, b, c, d] [46]) = [a, b, c, d] := by
  have e : join [a, b, c, d] [46] = a ++ 46 :: (b ++ 46 :: (c ++ 46 :: d)) := by simp [join_cons, joinTail]
  rw [e, count_h _ _ ha, count_h _ _ hb, count_h _ _ hc, count_m _ hd]
  rw [show 1 + (1 + (1 + 0)) = 0 + 1 + 1 + 1 from rfl, split_hit _ _ _ ha, split_hit _ _ _ hb, split_hit _ _ _ hc, split_miss _ _ hd]
def dot : ByteArray := ByteArray.mk #[46]
def pieces (s : ByteArray) : List ByteArray := splitB dot 0 (countB s dot) s
theorem bytes_inj {x y : ByteArray} (h : x.data.toList = y.data.toList) : x = y := by
  cases x; cases y
  simp at h
  rw [h]
theorem pieces_data (s : ByteArray) : (pieces s).map (·.data.toList) = splitK [46] 0 (count s.data.toList [46]) s.data.toList := by
  unfold pieces
  rw [splitB_data]
  rfl
theorem pieces_join {a b c d : ByteArray} (ha : 46 ∉ a.data.toList) (hb : 46 ∉ b.data.toList) (hc : 46 ∉ c.data.toList) (hd : 46 ∉ d.data.toList) :
    pieces ⟨(join [a.data.toList, b.data.toList, c.data.toList, d.data.toList] [46]).toArray⟩ = [a, b, c, d] := by
  have h := pieces_data ⟨(join [a.data.toList, b.data.toList, c.data.toList, d.data.toList] [46]).toArray⟩
  rw [show (ByteArray.mk (join [a.data.toList, b.data.toList, c.data.toList, d.data.toList] [46]).toArray).data.toList = join [a.data.toList, b.data.toList, c.data.toList, d.data.toList] [46] from by simp, split4 ha hb hc hd] at h
  generalize pieces _ = l at h
  match l, h with
  | [x, y, z, u], h =>
    simp only [List.map_cons, List.map_nil, List.cons.injEq, and_true] at h
    rw [bytes_inj h.1, bytes_inj h.2.1, bytes_inj h.2.2.1, bytes_inj h.2.2.2]
  | [], h => simp at h
  | [_], h => simp at h
  | [_, _], h => simp at h
  | [_, _, _], h => simp at h
  | _ :: _ :: _ :: _ :: _ :: _, h => simp at h
theorem digit_of {u : Nat} (h : u < 10) : (UInt8.ofNat (48 + u)).toNat = 48 + u := by
  rw [UInt8.toNat_ofNat']
  omega
theorem dec_digits : ∀ (n : Nat), ∀ x ∈ decDigits n, 48 ≤ x.toNat ∧ x.toNat ≤ 57 := by
  intro n
  induction n using Nat.strongRecOn with
  | _ n ih =>
    intro x hx
    rw [decDigits] at hx
    split at hx
    · rename_i h
      rw [List.mem_singleton.1 hx, digit_of h]
      omega
    · rename_i h
      rcases List.mem_append.1 hx with hx | hx
      · exact ih (n / 10) (by omega) x hx
      · rw [List.mem_singleton.1 hx, digit_of (Nat.mod_lt _ (by decide))]
        omega
theorem dec_no46 (n : Nat) : 46 ∉ decDigits n := fun h => by
  have := dec_digits n 46 h
  exact absurd this.1 (by decide)
theorem dec_ne (n : Nat) : decDigits n ≠ [] := by
  rw [decDigits]
  split <;> simp
theorem dec_len : ∀ (k n : Nat), n < 10 ^ (k + 1) → (decDigits n).length ≤ k + 1
  | 0, n, h => by
    rw [decDigits, dif_pos (by simpa using h)]
    simp
  | k + 1, n, h => by
    rw [decDigits]
    split
    · simp
    · rw [Nat.pow_succ] at h
      have := dec_len k (n / 10) (by omega)
      simp
      omega
theorem parse_more (M : Nat) : ∀ (l r : List UInt8) (acc v : Nat), parseUintM M acc l = .ok v → parseUintM M acc (l ++ r) = parseUintM M v r
  | [], r, acc, v, h => by
    simp only [parseUintM, NumEnd.ok.injEq] at h
    rw [h]; rfl
  | c :: l, r, acc, v, h => by
    simp only [parseUintM] at h
    simp only [List.cons_append, parseUintM]
    split at h
    · rename_i h1
      rw [if_pos h1]
      split at h
      · cases h
      · rename_i h2
        rw [if_neg h2]
        split at h
        · cases h
        · rename_i h3
          rw [if_neg h3]
          exact parse_more M l r _ v h
    · cases h
theorem parse_dec {M : Nat} (hM : M ≤ 18446744073709551615) : ∀ (n : Nat), n ≤ M → parseUintM M 0 (decDigits n) = .ok n := by
  intro n
  induction n using Nat.strongRecOn with
  | _ n ih =>
    intro hn
    rw [decDigits]
    split
    · rename_i h
      have hd := digit_of h
      simp only [parseUintM, hd]
      rw [if_pos (by omega), if_neg (by omega), if_neg (by omega)]
      congr 1
      omega
    · rename_i h
      have hd := digit_of (Nat.mod_lt n (show 0 < 10 by decide))
      rw [parse_more M _ _ _ _ (ih (n / 10) (by omega) (by omega))]
      simp only [parseUintM, hd]
      rw [if_pos (by omega), if_neg (by omega), if_neg (by omega)]
      congr 1
      omega
theorem parseInt_dec {n : Nat} (hn : n < 9223372036854775808) : parseIntB 64 (decDigits n) = .ok (n : Int) := by
  have hne := dec_ne n
  have hp : parseUintB 64 (decDigits n) = .ok n := by
    unfold parseUintB
    rw [if_neg hne]
    exact parse_dec (by decide) n (by omega)
  have hd := dec_digits n
  generalize decDigits n = l at hne hp hd
  cases l with
  | nil => exact absurd rfl hne
  | cons c r =>
    have hc := hd c (List.mem_cons_self ..)
    have h1 : ¬ (c.toNat = 43 ∨ c.toNat = 45) := by omega
    have h2 : ¬ c.toNat = 45 := by omega
    have h43 : ¬ c.toNat = 43 := by omega
    have h9 : ¬ 9223372036854775808 ≤ n := by omega
    simp [parseIntB, h43, h2, hp, h9]
def pv (s : ByteArray) : Int := match parseIntB 64 s.data.toList with
  | .ok v => v
  | .range => intSat 64 s.data.toList
  | _ => 0
theorem pv_dec {n : Nat} (hn : n < 9223372036854775808) : pv (decS n) = n := by
  unfold pv
  rw [show (decS n).data.toList = decDigits n from by simp, parseInt_dec hn]
def labelText (a b c d : Int) : ByteArray := if goodLabel a b c d then textOf a.toNat (decS b.toNat) c.toNat d.toNat else ByteArray.mk #[]
abbrev LabT := Int × Int × Int × Int
def parseR (s : ByteArray) : Option LabT := match pieces s with
  | [x, y, z, u] => if goodLabel (pv x) (pv y) (pv z) (pv u) ∧ labelText (pv x) (pv y) (pv z) (pv u) = s then some (pv x, pv y, pv z, pv u) else none
  | _ => none
theorem parse_text {a b c d : Int} (hg : goodLabel a b c d) : parseR (labelText a b c d) = some (a, b, c, d) := by
  have hp : pieces (labelText a b c d) = [decS a.toNat, decS b.toNat, decS c.toNat, decS d.toNat] := by
    unfold labelText
    rw [if_pos hg]
    unfold textOf
    exact pieces_join (by simpa using dec_no46 _) (by simpa using dec_no46 _) (by simpa using dec_no46 _) (by simpa using dec_no46 _)
  obtain ⟨⟨ha0, ha1, hb0, hb1⟩, hc0, hc1, hd0, hd1⟩ := id hg
  simp only at ha0 ha1 hb0 hb1
  have ea : pv (decS a.toNat) = a := by rw [pv_dec (by omega)]; omega
  have eb : pv (decS b.toNat) = b := by rw [pv_dec (by omega)]; omega
  have ec : pv (decS c.toNat) = c := by rw [pv_dec (by omega)]; omega
  have ed : pv (decS d.toNat) = d := by rw [pv_dec (by omega)]; omega
  unfold parseR
  rw [hp]
  simp only [ea, eb, ec, ed]
  rw [if_pos ⟨hg, trivial⟩]
theorem parse_empty : parseR (ByteArray.mk #[]) = none := by
  have h := pieces_data (ByteArray.mk #[])
  have e : splitK [46] 0 (count (ByteArray.mk #[]).data.toList [46]) (ByteArray.mk #[]).data.toList = [[]] := split_miss [] _ (by simp)
  rw [e] at h
  unfold parseR
  generalize pieces (ByteArray.mk #[]) = l at h
  match l, h with
  | [x], _ => rfl
  | [], h => simp at h
  | _ :: _ :: _, h => simp at h
theorem text_size {a b c d : Int} (hg : goodLabel a b c d) : (labelText a b c d).size ≤ 100 := by
  unfold labelText
  rw [if_pos hg]
  obtain ⟨⟨ha0, ha1, hb0, hb1⟩, hc0, hc1, hd0, hd1⟩ := id hg
  simp only at ha0 ha1 hb0 hb1
  have l1 := dec_len 19 a.toNat (by omega)
  have l2 := dec_len 19 b.toNat (by omega)
  have l3 := dec_len 19 c.toNat (by omega)
  have l4 := dec_len 19 d.toNat (by omega)
  show (List.toArray _).size ≤ 100
  simp [join_cons, joinTail]
  omega
theorem text_ne {a b c d : Int} (hg : goodLabel a b c d) : labelText a b c d ≠ ByteArray.mk #[] := fun h => by
  have h1 := parse_text hg
  rw [h, parse_empty] at h1
  cases h1
end Go.Proofs.YtfhalebbcbgbdaaGreatDoor
namespace Go.Proofs.YtfhalebbcbgbdaaGreatDoor
set_option linter.unusedSimpArgs false
set_option linter.unusedVariables false
open Go.Proofs Go.Shelf
def splitL_ren : Go.Shelf.Ren := ⟨fun n => match n with | 146 => 61 | 221 => 103 | 268 => 149 | 138 => 150 | 143 => 151 | 195 => 187 | 197 => 188 | 218 => 189 | 219 => 190 | 260 => 212 | 217 => 213 | 225 => 214 | 224 => 215 | 267 => 216 | 266 => 224 | 314 => 225 | n => n, fun n => match n with | 9 => 9 | 31 => 32 | 3 => 3 | 4 => 4 | 0 => 0 | 105 => 278 | 21 => 21 | 5 => 5 | 46 => 204 | 119 => 308 | 139 => 311 | 138 => 310 | 146 => 312 | 51 => 275 | n => n, fun n => match n with | 1 => 3 | 3 => 6 | 4 => 7 | n => n⟩
theorem splitL : Lays.n146 Tryz.prog splitL_ren where
  mixed := by kernel_rfl
  f138 := Tryz.func150.trans (congrArg some (by kernel_rfl))
  f143 := Tryz.func151.trans (congrArg some (by kernel_rfl))
  f146 := Tryz.func61.trans (congrArg some (by kernel_rfl))
  f195 := Tryz.func187.trans (congrArg some (by kernel_rfl))
  f197 := Tryz.func188.trans (congrArg some (by kernel_rfl))
  f217 := Tryz.func213.trans (congrArg some (by kernel_rfl))
  f218 := Tryz.func189.trans (congrArg some (by kernel_rfl))
  f219 := Tryz.func190.trans (congrArg some (by kernel_rfl))
  f221 := Tryz.func103.trans (congrArg some (by kernel_rfl))
  f224 := Tryz.func215.trans (congrArg some (by kernel_rfl))
  f225 := Tryz.func214.trans (congrArg some (by kernel_rfl))
  f260 := Tryz.func212.trans (congrArg some (by kernel_rfl))
  f266 := Tryz.func224.trans (congrArg some (by kernel_rfl))
  f267 := Tryz.func216.trans (congrArg some (by kernel_rfl))
  f268 := Tryz.func149.trans (congrArg some (by kernel_rfl))
  f314 := Tryz.func225.trans (congrArg some (by kernel_rfl))
  t0 := Tryz.underlying0
  a0 := Tryz.isAgg0
  z0 := Tryz.sizeOf0
  v0 := Tryz.zeroValue0
  t3 := Tryz.underlying3
  a3 := Tryz.isAgg3
  z3 := Tryz.sizeOf3
  v3 := Tryz.zeroValue3
  t4 := Tryz.underlying4
  a4 := Tryz.isAgg4
  z4 := Tryz.sizeOf4
  v4 := Tryz.zeroValue4
  t5 := Tryz.underlying5
  a5 := Tryz.isAgg5
  z5 := Tryz.sizeOf5
  v5 := Tryz.zeroValue5
  t9 := Tryz.underlying9
  a9 := Tryz.isAgg9
  z9 := Tryz.sizeOf9
  v9 := Tryz.zeroValue9
  t21 := Tryz.underlying21
  a21 := Tryz.isAgg21
  z21 := Tryz.sizeOf21
  v21 := Tryz.zeroValue21
  t31 := Tryz.underlying32
  a31 := Tryz.isAgg32
  z31 := Tryz.sizeOf32
  v31 := Tryz.zeroValue32
  t46 := Tryz.underlying204
  a46 := Tryz.isAgg204
  z46 := Tryz.sizeOf204
  v46 := Tryz.zeroValue204
  t51 := Tryz.underlying275
  a51 := Tryz.isAgg275
  z51 := Tryz.sizeOf275
  v51 := Tryz.zeroValue275
  t105 := Tryz.underlying278
  a105 := Tryz.isAgg278
  z105 := Tryz.sizeOf278
  v105 := Tryz.zeroValue278
  t119 := Tryz.underlying308
  a119 := Tryz.isAgg308
  z119 := Tryz.sizeOf308
  t138 := Tryz.underlying310
  a138 := Tryz.isAgg310
  z138 := Tryz.sizeOf310
  v138 := Tryz.zeroValue310
  t139 := Tryz.underlying311
  a139 := Tryz.isAgg311
  z139 := Tryz.sizeOf311
  v139 := Tryz.zeroValue311
  t146 := Tryz.underlying312
  a146 := Tryz.isAgg312
  z146 := Tryz.sizeOf312
  v146 := Tryz.zeroValue312
  g1 := by kernel_rfl
  g3 := by kernel_rfl
  g4 := by kernel_rfl
def formatM_ren : Go.Shelf.Ren := ⟨fun n => match n with | 173 => 60 | 246 => 102 | 283 => 145 | 284 => 146 | 285 => 147 | 286 => 148 | 129 => 183 | 317 => 182 | 318 => 184 | 319 => 185 | 320 => 186 | 337 => 210 | 338 => 211 | n => n, fun n => match n with | 2 => 2 | 3 => 3 | 9 => 9 | 4 => 4 | 171 => 242 | 0 => 0 | 53 => 125 | 37 => 106 | 5 => 5 | 173 => 245 | 212 => 274 | 51 => 275 | 20 => 20 | 213 => 276 | 46 => 204 | 232 => 306 | 233 => 307 | n => n, fun n => match n with | 17 => 0 | 18 => 4 | 19 => 5 | n => n⟩
theorem formatM : LaysM.n173 Tryz.prog formatM_ren where
  mixed := by kernel_rfl
  f129 := Tryz.func183.trans (congrArg some (by kernel_rfl))
  f173 := Tryz.func60.trans (congrArg some (by kernel_rfl))
  f246 := Tryz.func102.trans (congrArg some (by kernel_rfl))
  f283 := Tryz.func145.trans (congrArg some (by kernel_rfl))
  f284 := Tryz.func146.trans (congrArg some (by kernel_rfl))
  f285 := Tryz.func147.trans (congrArg some (by kernel_rfl))
  f286 := Tryz.func148.trans (congrArg some (by kernel_rfl))
  f317 := Tryz.func182.trans (congrArg some (by kernel_rfl))
  f318 := Tryz.func184.trans (congrArg some (by kernel_rfl))
  f319 := Tryz.func185.trans (congrArg some (by kernel_rfl))
  f320 := Tryz.func186.trans (congrArg some (by kernel_rfl))
  f337 := Tryz.func210.trans (congrArg some (by kernel_rfl))
  f338 := Tryz.func211.trans (congrArg some (by kernel_rfl))
  t0 := Tryz.underlying0
  a0 := Tryz.isAgg0
  z0 := Tryz.sizeOf0
  v0 := Tryz.zeroValue0
  t2 := Tryz.underlying2
  a2 := Tryz.isAgg2
  z2 := Tryz.sizeOf2
  v2 := Tryz.zeroValue2
  t3 := Tryz.underlying3
  a3 := Tryz.isAgg3
  z3 := Tryz.sizeOf3
  v3 := Tryz.zeroValue3
  t4 := Tryz.underlying4
  a4 := Tryz.isAgg4
  z4 := Tryz.sizeOf4
  v4 := Tryz.zeroValue4
  t5 := Tryz.underlying5
  a5 := Tryz.isAgg5
  z5 := Tryz.sizeOf5
  v5 := Tryz.zeroValue5
  t9 := Tryz.underlying9
  a9 := Tryz.isAgg9
  z9 := Tryz.sizeOf9
  v9 := Tryz.zeroValue9
  t20 := Tryz.underlying20
  a20 := Tryz.isAgg20
  z20 := Tryz.sizeOf20
  v20 := Tryz.zeroValue20
  t37 := Tryz.underlying106
  a37 := Tryz.isAgg106
  z37 := Tryz.sizeOf106
  v37 := Tryz.zeroValue106
  t46 := Tryz.underlying204
  a46 := Tryz.isAgg204
  z46 := Tryz.sizeOf204
  v46 := Tryz.zeroValue204
  t51 := Tryz.underlying275
  a51 := Tryz.isAgg275
  z51 := Tryz.sizeOf275
  v51 := Tryz.zeroValue275
  t53 := Tryz.underlying125
  a53 := Tryz.isAgg125
  z53 := Tryz.sizeOf125
  v53 := Tryz.zeroValue125
  t171 := Tryz.underlying242
  a171 := Tryz.isAgg242
  z171 := Tryz.sizeOf242
  v171 := Tryz.zeroValue242
  t173 := Tryz.underlying245
  a173 := Tryz.isAgg245
  z173 := Tryz.sizeOf245
  v173 := Tryz.zeroValue245
  t212 := Tryz.underlying274
  a212 := Tryz.isAgg274
  z212 := Tryz.sizeOf274
  v212 := Tryz.zeroValue274
  t213 := Tryz.underlying276
  a213 := Tryz.isAgg276
  z213 := Tryz.sizeOf276
  t232 := Tryz.underlying306
  a232 := Tryz.isAgg306
  z232 := Tryz.sizeOf306
  v232 := Tryz.zeroValue306
  t233 := Tryz.underlying307
  a233 := Tryz.isAgg307
  z233 := Tryz.sizeOf307
  v233 := Tryz.zeroValue307
  g17 := by kernel_rfl
  g18 := by kernel_rfl
  g19 := by kernel_rfl
  i0 := by kernel_rfl
  i2 := by kernel_rfl
  i3 := by kernel_rfl
  i4 := by kernel_rfl
  i5 := by kernel_rfl
  i9 := by kernel_rfl
  i20 := by kernel_rfl
  i37 := by kernel_rfl
  i46 := by kernel_rfl
  i51 := by kernel_rfl
  i53 := by kernel_rfl
  i171 := by kernel_rfl
  i173 := by kernel_rfl
  i212 := by kernel_rfl
  i232 := by kernel_rfl
  i233 := by kernel_rfl
  m17 := by kernel_rfl
  m18 := by kernel_rfl
  m19 := by kernel_rfl
def parseL_ren : Go.Shelf.Ren := ⟨fun n => match n with | 174 => 62 | 247 => 104 | 245 => 105 | 287 => 152 | 279 => 153 | 280 => 154 | 281 => 155 | 282 => 156 | 321 => 191 | 322 => 192 | 316 => 193 | 171 => 59 | 205 => 194 | 243 => 101 | 246 => 102 | 283 => 145 | 284 => 146 | 285 => 147 | 286 => 148 | 129 => 183 | 317 => 182 | 318 => 184 | 319 => 185 | 320 => 186 | 337 => 210 | 338 => 211 | n => n, fun n => match n with | 9 => 9 | 3 => 3 | 2 => 2 | 75 => 167 | 85 => 168 | 4 => 4 | 167 => 249 | 5 => 5 | 53 => 125 | 175 => 250 | 46 => 204 | 168 => 252 | 37 => 106 | 0 => 0 | 210 => 284 | 21 => 21 | 127 => 235 | 145 => 301 | 143 => 299 | 171 => 242 | 173 => 245 | 212 => 274 | 51 => 275 | 20 => 20 | 213 => 276 | 232 => 306 | 233 => 307 | 80 => 113 | n => n, fun n => match n with | 15 => 1 | 16 => 2 | 17 => 0 | 18 => 4 | 19 => 5 | n => n⟩
theorem parseL : LaysC.n174 Tryz.prog parseL_ren where
  mixed := by kernel_rfl
  f129 := Tryz.func183.trans (congrArg some (by kernel_rfl))
  f171 := Tryz.func59.trans (congrArg some (by kernel_rfl))
  f174 := Tryz.func62.trans (congrArg some (by kernel_rfl))
  f205 := Tryz.func194.trans (congrArg some (by kernel_rfl))
  f243 := Tryz.func101.trans (congrArg some (by kernel_rfl))
  f245 := Tryz.func105.trans (congrArg some (by kernel_rfl))
  f246 := Tryz.func102.trans (congrArg some (by kernel_rfl))
  f247 := Tryz.func104.trans (congrArg some (by kernel_rfl))
  f279 := Tryz.func153.trans (congrArg some (by kernel_rfl))
  f280 := Tryz.func154.trans (congrArg some (by kernel_rfl))
  f281 := Tryz.func155.trans (congrArg some (by kernel_rfl))
  f282 := Tryz.func156.trans (congrArg some (by kernel_rfl))
  f283 := Tryz.func145.trans (congrArg some (by kernel_rfl))
  f284 := Tryz.func146.trans (congrArg some (by kernel_rfl))
  f285 := Tryz.func147.trans (congrArg some (by kernel_rfl))
  f286 := Tryz.func148.trans (congrArg some (by kernel_rfl))
  f287 := Tryz.func152.trans (congrArg some (by kernel_rfl))
  f316 := Tryz.func193.trans (congrArg some (by kernel_rfl))
  f317 := Tryz.func182.trans (congrArg some (by kernel_rfl))
  f318 := Tryz.func184.trans (congrArg some (by kernel_rfl))
  f319 := Tryz.func185.trans (congrArg some (by kernel_rfl))
  f320 := Tryz.func186.trans (congrArg some (by kernel_rfl))
  f321 := Tryz.func191.trans (congrArg some (by kernel_rfl))
  f322 := Tryz.func192.trans (congrArg some (by kernel_rfl))
  f337 := Tryz.func210.trans (congrArg some (by kernel_rfl))
  f338 := Tryz.func211.trans (congrArg some (by kernel_rfl))
  t0 := Tryz.underlying0
  a0 := Tryz.isAgg0
  z0 := Tryz.sizeOf0
  v0 := Tryz.zeroValue0
  t2 := Tryz.underlying2
  a2 := Tryz.isAgg2
  z2 := Tryz.sizeOf2
  v2 := Tryz.zeroValue2
  t3 := Tryz.underlying3
  a3 := Tryz.isAgg3
  z3 := Tryz.sizeOf3
  v3 := Tryz.zeroValue3
  t4 := Tryz.underlying4
  a4 := Tryz.isAgg4
  z4 := Tryz.sizeOf4
  v4 := Tryz.zeroValue4
  t5 := Tryz.underlying5
  a5 := Tryz.isAgg5
  z5 := Tryz.sizeOf5
  v5 := Tryz.zeroValue5
  t9 := Tryz.underlying9
  a9 := Tryz.isAgg9
  z9 := Tryz.sizeOf9
  v9 := Tryz.zeroValue9
  t20 := Tryz.underlying20
  a20 := Tryz.isAgg20
  z20 := Tryz.sizeOf20
  v20 := Tryz.zeroValue20
  t21 := Tryz.underlying21
  a21 := Tryz.isAgg21
  z21 := Tryz.sizeOf21
  v21 := Tryz.zeroValue21
  t37 := Tryz.underlying106
  a37 := Tryz.isAgg106
  z37 := Tryz.sizeOf106
  v37 := Tryz.zeroValue106
  t46 := Tryz.underlying204
  a46 := Tryz.isAgg204
  z46 := Tryz.sizeOf204
  v46 := Tryz.zeroValue204
  t51 := Tryz.underlying275
  a51 := Tryz.isAgg275
  z51 := Tryz.sizeOf275
  v51 := Tryz.zeroValue275
  t53 := Tryz.underlying125
  a53 := Tryz.isAgg125
  z53 := Tryz.sizeOf125
  v53 := Tryz.zeroValue125
  t75 := Tryz.underlying167
  a75 := Tryz.isAgg167
  z75 := Tryz.sizeOf167
  v75 := Tryz.zeroValue167
  t85 := Tryz.underlying168
  a85 := Tryz.isAgg168
  z85 := Tryz.sizeOf168
  v85 := Tryz.zeroValue168
  t127 := Tryz.underlying235
  a127 := Tryz.isAgg235
  z127 := Tryz.sizeOf235
  v127 := Tryz.zeroValue235
  t143 := Tryz.underlying299
  a143 := Tryz.isAgg299
  z143 := Tryz.sizeOf299
  v143 := Tryz.zeroValue299
  t145 := Tryz.underlying301
  a145 := Tryz.isAgg301
  z145 := Tryz.sizeOf301
  v145 := Tryz.zeroValue301
  t167 := Tryz.underlying249
  a167 := Tryz.isAgg249
  z167 := Tryz.sizeOf249
  v167 := Tryz.zeroValue249
  t168 := Tryz.underlying252
  a168 := Tryz.isAgg252
  z168 := Tryz.sizeOf252
  v168 := Tryz.zeroValue252
  t171 := Tryz.underlying242
  a171 := Tryz.isAgg242
  z171 := Tryz.sizeOf242
  v171 := Tryz.zeroValue242
  t173 := Tryz.underlying245
  a173 := Tryz.isAgg245
  z173 := Tryz.sizeOf245
  v173 := Tryz.zeroValue245
  t175 := Tryz.underlying250
  a175 := Tryz.isAgg250
  z175 := Tryz.sizeOf250
  v175 := Tryz.zeroValue250
  t210 := Tryz.underlying284
  a210 := Tryz.isAgg284
  z210 := Tryz.sizeOf284
  v210 := Tryz.zeroValue284
  t212 := Tryz.underlying274
  a212 := Tryz.isAgg274
  z212 := Tryz.sizeOf274
  v212 := Tryz.zeroValue274
  t213 := Tryz.underlying276
  a213 := Tryz.isAgg276
  z213 := Tryz.sizeOf276
  t232 := Tryz.underlying306
  a232 := Tryz.isAgg306
  z232 := Tryz.sizeOf306
  v232 := Tryz.zeroValue306
  t233 := Tryz.underlying307
  a233 := Tryz.isAgg307
  z233 := Tryz.sizeOf307
  v233 := Tryz.zeroValue307
  g15 := by kernel_rfl
  g16 := by kernel_rfl
  g17 := by kernel_rfl
  g18 := by kernel_rfl
  g19 := by kernel_rfl
  t80 := Tryz.underlying113
  a80 := Tryz.isAgg113
  z80 := Tryz.sizeOf113
  v80 := Tryz.zeroValue113
  i0 := by kernel_rfl
  i2 := by kernel_rfl
  i3 := by kernel_rfl
  i4 := by kernel_rfl
  i5 := by kernel_rfl
  i9 := by kernel_rfl
  i20 := by kernel_rfl
  i21 := by kernel_rfl
  i37 := by kernel_rfl
  i46 := by kernel_rfl
  i51 := by kernel_rfl
  i53 := by kernel_rfl
  i75 := by kernel_rfl
  i80 := by kernel_rfl
  i85 := by kernel_rfl
  i127 := by kernel_rfl
  i143 := by kernel_rfl
  i145 := by kernel_rfl
  i167 := by kernel_rfl
  i168 := by kernel_rfl
  i171 := by kernel_rfl
  i173 := by kernel_rfl
  i175 := by kernel_rfl
  i210 := by kernel_rfl
  i212 := by kernel_rfl
  i232 := by kernel_rfl
  i233 := by kernel_rfl
  m15 := by kernel_rfl
  m16 := by kernel_rfl
  m17 := by kernel_rfl
  m18 := by kernel_rfl
  m19 := by kernel_rfl
  c0 := by kernel_rfl
  c2 := by kernel_rfl
  c3 := by kernel_rfl
  c4 := by kernel_rfl
  c5 := by kernel_rfl
  c9 := by kernel_rfl
  c20 := by kernel_rfl
  c21 := by kernel_rfl
  c37 := by kernel_rfl
  c46 := by kernel_rfl
  c51 := by kernel_rfl
  c53 := by kernel_rfl
  c75 := by kernel_rfl
  c80 := by kernel_rfl
  c85 := by kernel_rfl
  c127 := by kernel_rfl
  c143 := by kernel_rfl
  c145 := by kernel_rfl
  c167 := by kernel_rfl
  c168 := by kernel_rfl
  c171 := by kernel_rfl
  c173 := by kernel_rfl
  c175 := by kernel_rfl
  c210 := by kernel_rfl
  c212 := by kernel_rfl
  c213 := by kernel_rfl
  c232 := by kernel_rfl
  c233 := by kernel_rfl
end Go.Proofs.YtfhalebbcbgbdaaGreatDoor
namespace Go.Proofs.YtfhalebbcbgbdaaGreatDoor
open Go.H Go.Proofs Go.Lib
open Go.RowKit (Below)
set_option linter.unusedSimpArgs false
set_option linter.unusedVariables false
set_option synthInstance.maxSize 100000
set_option synthInstance.maxHeartbeats 400000
abbrev TF (h0 : Heap) : Prop := ∃ t f, h0[0]? = some (.cells (pow10Tab.map fun z => Value.int .u64 z).toArray t f)
structure TX (h0 : Heap) : Prop where
  pow : ∃ t f, h0[0]? = some (.cells (pow10Tab.map fun z => Value.int .u64 z).toArray t f)
  maxl : ∃ m, cellH h0 ⟨3, 0, none⟩ = some (.int .i64 m)
  syn : ∃ te pe, cellH h0 ⟨1, 0, none⟩ = some (.iface te pe)
  rng : ∃ te pe, cellH h0 ⟨2, 0, none⟩ = some (.iface te pe)
variable {h h0 : Heap} {R : List Asn}
theorem Format_spec (hs : sat h (old h0 :: R)) (ht : TF h0) {n : Nat} (hn : n ≤ 9223372036854775807) {Q : Value → Heap → Prop} (hq : ∀ h', sat h' (old h0 :: R) → Q (.string (decS n)) h') :
    HCalls Tryz.prog 60 #[.int .i64 n, .int .i64 10] h Q :=
  calls_below hs (fun w hw => by
    obtain ⟨t, f, hp⟩ := ht
    have hg := hs.old_get hp
    have htab : TabIs Tryz.prog w "internal/strconv.uint64pow10" .u64 pow10Tab := by
      unfold TabIs World.var?
      rw [show Tryz.prog.globalNamed "internal/strconv.uint64pow10" = some 0 by kernel_rfl]
      simp only [Option.bind_some]
      rw [hw, hg]
    refine (Any.strconv_FormatInt_10 formatM n (by omega) (by omega) w htab).mono ?_
    rintro e w' ⟨rfl, k, os, rfl⟩
    refine ⟨?_, ⟨rfl, rfl, rfl, by show w.heap.size ≤ (w.heap ++ os).size; rw [Array.size_append]; omega, fun j hj => by show (w.heap ++ os)[j]? = _; rw [Array.getElem?_append_left hj]⟩⟩
    rw [itoa_nonneg]) hq
theorem Split_spec (hs : sat h (old h0 :: R)) (ht : TX h0) {s : ByteArray} (hsz : s.size < 4294967281) {Q : Value → Heap → Prop}
    (hq : ∀ b h', sat h' (cells b ((pieces s).map Value.string).toArray :: old h0 :: R) → Q (.slice (some ⟨b, 0, none⟩) (pieces s).length (pieces s).length) h') :
    HCalls Tryz.prog 61 #[.string s, .string (ByteArray.mk #[46])] h Q := fun w hw => by
  subst hw
  obtain ⟨m, hm⟩ := ht.maxl
  refine (Any.strings_Split splitL (by kernel_rfl) s (ByteArray.mk #[46]) m w hsz (hs.old_cell hm) (by decide)).mono ?_
  rintro e w' ⟨rfl, rfl⟩
  refine ⟨_, rfl, ⟨rfl, rfl, rfl⟩, ?_⟩
  have hl : (pieces s).length = countB s dot + 1 := splitB_all dot (by decide) 0 _ s rfl
  have := hq w.heap.size _ (hs.push_cells (T := splitL_ren.t 9))
  rw [hl] at this
  exact this
theorem ParseInt_spec (hs : sat h (old h0 :: R)) (ht : TX h0) {s : ByteArray} (hsz : s.size ≤ 281474976710656) {Q : Value → Heap → Prop}
    (hq : ∀ v' h', sat h' (old h0 :: R) → Q (.tuple #[.int .i64 (pv s), v']) h') :
    HCalls Tryz.prog 62 #[.string s, .int .i64 10, .int .i64 64] h Q := fun w hw => by
  subst hw
  have fin : ∀ v v' w', v = pv s → Below w.heap.size w w' → ∃ x, Ending.returned (.tuple #[.int .i64 v, v']) = .returned x ∧ Same w w' ∧ Q x w'.heap := fun v v' w' hv hb => by
    subst hv
    exact ⟨_, rfl, below_same hb, hq _ _ (hs.grow (below_grow hb))⟩
  unfold pv at fin
  rcases hp : parseIntB 64 s.data.toList with v | _ | _
  · refine (Any.strconv_ParseInt_10_at64_ok parseL s (by omega) v hp w).mono ?_
    rintro e w' ⟨rfl, hw'⟩
    refine fin _ _ _ (by rw [hp]) ?_
    rcases hw' with rfl | ⟨t, rfl⟩
    · exact Below.refl _ _
    · exact bytesWorld_below _ _ _
  · obtain ⟨te, pe, hc⟩ := ht.syn
    refine (Any.strconv_ParseInt_10_at64_syntax parseL s hsz hp _ w (hs.old_cell hc) (.inr ⟨te, pe, rfl⟩)).mono ?_
    rintro e w' ⟨N, rfl, -, -, hb⟩
    exact fin _ _ _ (by rw [hp]) hb
  · obtain ⟨te, pe, hc⟩ := ht.rng
    refine (Any.strconv_ParseInt_10_at64_range parseL s hsz hp _ w (hs.old_cell hc) (.inr ⟨te, pe, rfl⟩)).mono ?_
    rintro e w' ⟨N, rfl, -, -, hb⟩
    exact fin _ _ _ (by rw [hp]) hb
theorem Text_spec (hs : sat h (old h0 :: R)) (ht : TF h0) {a b c d : Int} {Q : Value → Heap → Prop} (hq : ∀ h', sat h' (old h0 :: R) → Q (.string (labelText a b c d)) h') :
    HCalls Tryz.prog 29 #[.agg #[.int .i64 a, .int .i64 b, .int .i64 c, .int .i64 d]] h Q := by
  by_cases hg : goodLabel a b c d
  · obtain ⟨⟨ha0, ha1, hb0, hb1⟩, hc0, hc1, hd0, hd1⟩ := id hg
    simp only at ha0 ha1 hb0 hb1
    obtain ⟨a, rfl⟩ := Int.eq_ofNat_of_zero_le ha0
    obtain ⟨b, rfl⟩ := Int.eq_ofNat_of_zero_le (show 0 ≤ b by omega)
    obtain ⟨c, rfl⟩ := Int.eq_ofNat_of_zero_le hc0
    obtain ⟨d, rfl⟩ := Int.eq_ofNat_of_zero_le hd0
    have hsz := text_size hg
    unfold labelText at hq hsz
    rw [if_pos hg] at hq hsz
    refine Text_of (F := decS b) hs hg (fun X h Q hs' hq' => Format_spec (hs'.re [1, 0]) ht (by omega) fun h' hs'' => hq' h' (hs''.re [1, 0])) ?_ hq
    exact Nat.le_trans hsz (by decide)
  · unfold labelText at hq
    rw [if_neg hg] at hq
    exact Text_bad hs hg hq
def parseV : Option LabT → Value
  | some l => .tuple #[.agg #[.int .i64 l.1, .int .i64 l.2.1, .int .i64 l.2.2.1, .int .i64 l.2.2.2], .bool true]
  | none => .tuple #[.agg #[.int .i64 0, .int .i64 0, .int .i64 0, .int .i64 0], .bool false]
theorem parseR_len {s : ByteArray} (h : (pieces s).length ≠ 4) : parseR s = none := by
  unfold parseR
  generalize pieces s = l at h
  match l, h with
  | [x, y, z, u], h => exact absurd rfl h
  | [], _ => rfl
  | [_], _ => rfl
  | [_, _], _ => rfl
  | [_, _, _], _ => rfl
  | _ :: _ :: _ :: _ :: _ :: _, _ => rfl
theorem piece_le {s x : ByteArray} (hx : x ∈ pieces s) : x.size ≤ s.size := by
  have : ∀ (k : Nat) (s : ByteArray), ∀ x ∈ splitB dot 0 k s, x.size ≤ s.size := by
    intro k
    induction k with
    | zero => intro s x hx; rw [List.mem_singleton.1 hx]; exact Nat.le_refl _
    | succ k ih =>
      intro s x hx
      unfold splitB at hx
      split at hx
      · rw [List.mem_singleton.1 hx]; exact Nat.le_refl _
      · rcases List.mem_cons.1 hx with rfl | hx
        · simp; omega
        · have := ih _ x hx
          simp at this
          omega
  exact this _ s x hx
set_option maxRecDepth 100000 in
theorem Parse_spec (hs : sat h (old h0 :: R)) (ht : TX h0) {s : ByteArray} (hsz : s.size ≤ 1048576) {Q : Value → Heap → Prop} (hq : ∀ h', sat h' (old h0 :: R) → Q (parseV (parseR s)) h') :
    HCalls Tryz.prog 31 #[.string s] h Q := by
  refine tags_Parse_calls s h Q ?_
  unfold tags_Parse
  refine new_cells hs fun lb h1 hs1 => ?_
  refine bind_call1 (Split_spec (hs1.re [1, 0]) ht (by omega) fun pb h2 hs2' => ⟨⟨some ⟨pb, 0, none⟩, (pieces s).length, (pieces s).length⟩, rfl, ?_⟩)
  have hs2 : sat h2 (cells lb #[.int .i64 0, .int .i64 0, .int .i64 0, .int .i64 0] :: cells pb ((pieces s).map Value.string).toArray :: old h0 :: R) := hs2'.re [2, 0, 1]
  clear hs1 hs2'
  dsimp only
  rw [HM.ite_apply]
  by_cases hl : (pieces s).length = 4
  case neg =>
    rw [if_pos (by simp; omega)]
    refine storeN_all' hs2 rfl rfl fun h3 hs3 => ?_
    refine loadN_cells (ts := [.int .i64, .int .i64, .int .i64, .int .i64]) (0, 0, 0, 0, ()) hs3 rfl ?_
    have := hq h3 hs3.drop.drop
    rw [parseR_len hl] at this
    exact this
  rw [if_neg (by simp; omega)]
  obtain ⟨x, y, z, u, hp⟩ : ∃ x y z u, pieces s = [x, y, z, u] := by
    generalize pieces s = l at hl
    match l, hl with
    | [x, y, z, u], _ => exact ⟨x, y, z, u, rfl⟩
  have hpl : ∀ p ∈ [x, y, z, u], p.size ≤ 281474976710656 := fun p hp' => by
    have := piece_le (s := s) (x := p) (by rw [hp]; exact hp')
    omega
  have hR : parseR s = if goodLabel (pv x) (pv y) (pv z) (pv u) ∧ labelText (pv x) (pv y) (pv z) (pv u) = s then some (pv x, pv y, pv z, pv u) else none := by
    unfold parseR; rw [hp]
  rw [hR] at hq
  rw [hp] at hs2 ⊢
  have hs2' : sat h2 (cells lb #[.int .i64 0, .int .i64 0, .int .i64 0, .int .i64 0] :: cells pb #[.string x, .string y, .string z, .string u] :: old h0 :: R) := hs2
  clear hs2 hR hl
  refine new_cells hs2' fun nb h3 hs3 => ?_
  refine loop_gx (γ := Nat) (hb := fun s => by
    repeat' with_reducible first
      | refine @mono_bind _ _ _ _ ?_ (fun _ => ?_)
      | refine @mono_ite _ _ _ _ ?_ ?_
      | refine @mono_req _ _ _ ?_
    all_goals infer_instance)
    (fun i c h' => i ≤ 4 ∧ c.1 = (i : Int) ∧ sat h' (cells nb #[.int .i64 (if 0 < i then pv x else 0), .int .i64 (if 1 < i then pv y else 0), .int .i64 (if 2 < i then pv z else 0), .int .i64 (if 3 < i then pv u else 0)] ::
      cells pb #[.string x, .string y, .string z, .string u] :: cells lb #[.int .i64 0, .int .i64 0, .int .i64 0, .int .i64 0] :: old h0 :: R)) (fun i => 4 - i) 0 ⟨by omega, rfl, hs3.re [0, 2, 1]⟩ ?_
  rintro i ⟨c, ⟨⟩⟩ h4 ⟨hi, hc, hs4⟩
  simp only at hc
  subst hc
  rw [HM.ite_apply]
  by_cases hi4 : i < 4
  · rw [if_pos (by simp; omega)]
    have next : IntKind.wrap .i64 ((i : Int) + 1) = ((i + 1 : Nat) : Int) := by rw [wrap_id (by omega) (by omega)]; rfl
    obtain ⟨p, hpi, hpm, hst⟩ : ∃ p, (#[Value.string x, .string y, .string z, .string u] : Array Value)[i]? = some (.string p) ∧ p ∈ [x, y, z, u] ∧
        (#[Value.int .i64 (if 0 < i then pv x else 0), .int .i64 (if 1 < i then pv y else 0), .int .i64 (if 2 < i then pv z else 0), .int .i64 (if 3 < i then pv u else 0)] : Array Value).setIfInBounds i (.int .i64 (pv p)) =
          #[Value.int .i64 (if 0 < i + 1 then pv x else 0), .int .i64 (if 1 < i + 1 then pv y else 0), .int .i64 (if 2 < i + 1 then pv z else 0), .int .i64 (if 3 < i + 1 then pv u else 0)] := by
      match i, hi4 with
      | 0, _ => exact ⟨x, rfl, by simp, rfl⟩
      | 1, _ => exact ⟨y, rfl, by simp, rfl⟩
      | 2, _ => exact ⟨z, rfl, by simp, rfl⟩
      | 3, _ => exact ⟨u, rfl, by simp, rfl⟩
    rw [HM.bind_apply]
    refine idx_at (by omega) (by simp; omega) ?_
    have hcp : cellH h4 ⟨pb, i, none⟩ = some (.string p) := by rw [hs4.p1.cell]; exact hpi
    refine ⟨p, by rw [add_own]; simpa using hcp, ?_⟩
    refine bind_callN (ParseInt_spec (hs4.re [3, 0, 1, 2]) ht (hpl p hpm) fun v' h5 hs5 => ⟨(pv p, v', ()), rfl, ?_⟩)
    dsimp only
    rw [HM.bind_apply]
    refine idx_at (by omega) (by omega) ?_
    rw [HM.bind_apply, add_own]
    refine store1_cells (hs5.re [1, 2, 3, 0]) (by simp; omega) rfl fun h6 hs6 => ?_
    simp only [HM.pure_apply]
    refine .mk (i + 1) (by omega) ⟨by omega, next, ?_⟩
    have e : ((i : Int).toNat * 1) = i := by omega
    rw [e, hst] at hs6
    exact hs6
  · have : i = 4 := by omega
    subst this
    rw [if_neg (by simp)]
    simp only [HM.pure_apply]
    have hs5 : sat h4 (cells nb #[.int .i64 (pv x), .int .i64 (pv y), .int .i64 (pv z), .int .i64 (pv u)] :: cells pb #[.string x, .string y, .string z, .string u] :: cells lb #[.int .i64 0, .int .i64 0, .int .i64 0, .int .i64 0] :: old h0 :: R) := hs4
    clear hs4
    have c0 : cellH h4 ⟨nb, 0, none⟩ = some (.int .i64 (pv x)) := hs5.cell 0
    have c1 : cellH h4 ⟨nb, 1, none⟩ = some (.int .i64 (pv y)) := hs5.cell 1
    have c2 : cellH h4 ⟨nb, 2, none⟩ = some (.int .i64 (pv z)) := hs5.cell 2
    have c3 : cellH h4 ⟨nb, 3, none⟩ = some (.int .i64 (pv u)) := hs5.cell 3
    rw [HM.bind_apply]
    refine idx_at (by decide) (by decide) ⟨pv x, by rw [add_own]; exact c0, ?_⟩
    dsimp only
    rw [HM.bind_apply]
    refine idx_at (by decide) (by decide) ⟨pv y, by rw [add_own]; exact c1, ?_⟩
    dsimp only
    rw [HM.bind_apply]
    refine idx_at (by decide) (by decide) ⟨pv z, by rw [add_own]; exact c2, ?_⟩
    dsimp only
    rw [HM.bind_apply]
    refine idx_at (by decide) (by decide) ⟨pv u, by rw [add_own]; exact c3, ?_⟩
    dsimp only
    have hs6 := hs5.re [2, 3, 0, 1]
    clear hs5 hs3 hs2' c0 c1 c2 c3
    refine new_cells hs6 fun mb h7 hs7 => ?_
    refine storeN_all' hs7 rfl rfl fun h8 hs8' => ?_
    have hs8 : sat h8 (cells mb #[.int .i64 (pv x), .int .i64 (pv y), .int .i64 (pv z), .int .i64 (pv u)] :: cells lb #[.int .i64 0, .int .i64 0, .int .i64 0, .int .i64 0] :: old h0 :: cells nb #[.int .i64 (pv x), .int .i64 (pv y), .int .i64 (pv z), .int .i64 (pv u)] :: cells pb #[.string x, .string y, .string z, .string u] :: R) := hs8'
    clear hs8' hs7 hs6
    refine bind_cut (fun w h' => w.1 = !decide (goodLabel (pv x) (pv y) (pv z) (pv u) ∧ labelText (pv x) (pv y) (pv z) (pv u) = s) ∧
      sat h' (cells mb #[.int .i64 (pv x), .int .i64 (pv y), .int .i64 (pv z), .int .i64 (pv u)] :: cells lb #[.int .i64 0, .int .i64 0, .int .i64 0, .int .i64 0] :: old h0 :: R)) ?_ ?_
    · have out : ∀ {h' : Heap}, sat h' (cells mb #[.int .i64 (pv x), .int .i64 (pv y), .int .i64 (pv z), .int .i64 (pv u)] :: cells lb #[.int .i64 0, .int .i64 0, .int .i64 0, .int .i64 0] :: old h0 :: cells nb #[.int .i64 (pv x), .int .i64 (pv y), .int .i64 (pv z), .int .i64 (pv u)] :: cells pb #[.string x, .string y, .string z, .string u] :: R) →
          sat h' (cells mb #[.int .i64 (pv x), .int .i64 (pv y), .int .i64 (pv z), .int .i64 (pv u)] :: cells lb #[.int .i64 0, .int .i64 0, .int .i64 0, .int .i64 0] :: old h0 :: R) := fun hh => (hh.re [3, 4, 0, 1, 2]).drop.drop
      refine loadN_cells (ts := [.int .i64, .int .i64, .int .i64, .int .i64]) (pv x, pv y, pv z, pv u, ()) hs8 rfl ?_
      refine bind_call1 (lgood_spec hs8 fun h9 hs9 => ⟨_, rfl, ?_⟩)
      dsimp only
      rw [HM.ite_apply]
      by_cases hg : goodLabel (pv x) (pv y) (pv z) (pv u)
      · rw [if_neg (by simp [hg])]
        refine loadN_cells (ts := [.int .i64, .int .i64, .int .i64, .int .i64]) (pv x, pv y, pv z, pv u, ()) hs9 rfl ?_
        refine bind_call1 (Text_spec (hs9.re [2, 0, 1]) ht.pow fun h10 hs10 => ⟨_, rfl, ?_⟩)
        exact ⟨by simp [hg], out (hs10.re [1, 2, 0])⟩
      · rw [if_pos (by simp [hg])]
        exact ⟨by simp [hg], out hs9⟩
    rintro ⟨w, ⟨⟩⟩ h9 ⟨hw, hs9⟩
    simp only at hw
    subst hw
    dsimp only
    rw [HM.ite_apply]
    by_cases hg : goodLabel (pv x) (pv y) (pv z) (pv u) ∧ labelText (pv x) (pv y) (pv z) (pv u) = s
    · rw [if_pos hg] at hq
      rw [if_neg (by simp [hg])]
      refine loadN_cells (ts := [.int .i64, .int .i64, .int .i64, .int .i64]) (pv x, pv y, pv z, pv u, ()) hs9 rfl ?_
      refine storeN_all' (hs9.re [1, 0]) rfl rfl fun h10 hs10 => ?_
      refine loadN_cells (ts := [.int .i64, .int .i64, .int .i64, .int .i64]) (pv x, pv y, pv z, pv u, ()) hs10 rfl ?_
      exact hq h10 hs10.drop.drop
    · rw [if_neg hg] at hq
      rw [if_pos (by simp only [hg, decide_false, Bool.not_false])]
      refine storeN_all' (hs9.re [1, 0]) rfl rfl fun h10 hs10 => ?_
      refine loadN_cells (ts := [.int .i64, .int .i64, .int .i64, .int .i64]) (0, 0, 0, 0, ()) hs10 rfl ?_
      exact hq h10 hs10.drop.drop
end Go.Proofs.YtfhalebbcbgbdaaGreatDoor
namespace Go.Proofs.YtfhalebbcbgbdaaGreatDoor
open Go.H Go.Proofs
set_option linter.unusedSimpArgs false
set_option linter.unusedVariables false
set_option maxRecDepth 100000
variable {h h0 : Heap} {L L' R : List Asn} {Q : Value → Heap → Prop}
def PkRows (k : IntKind) (h0 : Heap) (s : Slc) (os : List PkO) : Prop := ∃ T : List (Slc × Slc × PkO), T.map (·.2.2) = os ∧ RowAt (encPkK k) 26 h0 s (T.map pkF) ∧
  ∀ t ∈ T, RowAt (eKd k) 1 h0 t.1 t.2.2.codes ∧ RowAt encPr 4 h0 t.2.1 t.2.2.props
theorem PkRows.nil (k : IntKind) : PkRows k h0 ⟨none, 0, 0⟩ [] := ⟨[], rfl, RowAt.nil, by simp⟩
theorem PkRows.len {k : IntKind} {s : Slc} {os : List PkO} (hp : PkRows k h0 s os) : s.len = os.length := by
  obtain ⟨T, rfl, h1, -⟩ := hp
  rw [h1.1]; simp
end Go.Proofs.YtfhalebbcbgbdaaGreatDoor
namespace Go.Proofs.YtfhalebbcbgbdaaGreatDoor
open Go.H Go.Proofs
set_option linter.unusedSimpArgs false
set_option linter.unusedVariables false
set_option maxRecDepth 100000
variable {h h0 : Heap} {L L' L1 L2 R : List Asn} {Q : Value → Heap → Prop}
abbrev cLab (y : LabT) : Array Value := #[.int .i64 y.1, .int .i64 y.2.1, .int .i64 y.2.2.1, .int .i64 y.2.2.2]
def hopM (y : LabT) (m : MsT) (p : HopT) : MsT := (p.2.1, m.2.1, 1, m.2.2.2.1, labelText y.1 y.2.1 (y.2.2.1 + 1) p.2.2.1)
def routeB (rs : List RuleT) (y : LabT) (m : MsT) : List MsT :=
  if labelText y.1 y.2.1 y.2.2.1 y.2.2.2 = e0S ∨ 32 ≤ y.2.2.1 then [] else (routeP m.1 y.2.2.2 0 rs).map (hopM y m)
theorem route_good {y : LabT} (h : ¬ (labelText y.1 y.2.1 y.2.2.1 y.2.2.2 = e0S ∨ 32 ≤ y.2.2.1)) : goodLabel y.1 y.2.1 y.2.2.1 y.2.2.2 := by
  simp only [not_or] at h
  by_cases hg : goodLabel y.1 y.2.1 y.2.2.1 y.2.2.2
  · exact hg
  · exact absurd (by unfold labelText; rw [if_neg hg]) h.1
theorem take_snoc {α β : Type} (f : α → β) (l : List α) (i : Nat) (h : i < l.length) : (l.take (i + 1)).map f = (l.take i).map f ++ [f l[i]] := by
  rw [List.take_add_one, List.getElem?_eq_getElem h, List.map_append]; rfl
theorem take_map_len {α β : Type} (f : α → β) (l : List α) (i : Nat) : ((l.take i).map f).length ≤ l.length := by
  rw [List.length_map, List.length_take]; omega
theorem rmRoute_w {s : Slc} {rs : List RuleT} {n : ByteArray} {q : Int} (ht : TP h0) (hz : ∀ r ∈ rs, szR r) (hn : n.size ≤ bigB) (hl : rs.length ≤ 1000) (hq : ∀ S : Slc, At (ownS encHo 3 S (routeP n q 0 rs) :: ownS encRu 5 s rs :: old h0 :: L2) (Q (.slice S.a S.len S.cap)))
    (hx : Has L (ownS encRu 5 s rs) L1 := by repeat (first | with_reducible exact Go.H.has0 | apply Go.H.hasS)) (hy : Has L1 (old h0) L2 := by repeat (first | with_reducible exact Go.H.has0 | apply Go.H.hasS)) : FW Tryz.prog 28 #[.slice s.a s.len s.cap, .string n, .int .i64 q] L Q :=
  fun h hs => rmRoute_spec ((hx.then hy).s hs) ht hz hn hl fun h' S hs' => hq S h' hs'
theorem Text_w {a b c d : Int} (ht : TF h0) (hq : At (old h0 :: L') (Q (.string (labelText a b c d)))) (hx : Has L (old h0) L' := by repeat (first | with_reducible exact Go.H.has0 | apply Go.H.hasS)) :
    FW Tryz.prog 29 #[.agg #[.int .i64 a, .int .i64 b, .int .i64 c, .int .i64 d]] L Q := fun h hs => Text_spec (hx.s hs) ht fun h' hs' => hq h' hs'
theorem brt_w {b : Nat} {rs : List RuleT} {o : OutS} {y : LabT} {m : MsT} (ht : TP h0) (hx : TF h0) (hz : ∀ r ∈ rs, szR r) (hl : rs.length ≤ 1000) (hm : m.1.size ≤ 1048576)
    (hq : ∀ S : Slc, At (ownS encM 5 S (routeB rs y m) :: brgA b rs o :: old h0 :: L2) (Q (.slice S.a S.len S.cap))) (hA : Has L (brgA b rs o) L1 := by repeat (first | with_reducible exact Go.H.has0 | apply Go.H.hasS)) (hO : Has L1 (old h0) L2 := by repeat (first | with_reducible exact Go.H.has0 | apply Go.H.hasS)) :
    FW Tryz.prog 16 #[at0 b, .agg (cLab y), vMs m] L Q := by
  refine fun h hs => bridge_Bridge_Route_calls (some ⟨b, 0, none⟩) (y.1, y.2.1, y.2.2.1, y.2.2.2, ()) (toU m) h Q ((?_ : W (brgA b rs o :: old h0 :: L2) _ _) h ((hA.then hO).s hs))
  clear hs h hA hO
  unfold bridge_Bridge_Route
  refine W.newc fun x1 => W.newc fun x2 => ?_
  refine W.bf rfl (W.bbind (W.loadN ?_))
  refine W.bbind (W.call1 (Text_w hx (At.un ?_)))
  refine W.cutp (fun z => z.1 = decide (labelText y.1 y.2.1 y.2.2.1 y.2.2.2 = e0S ∨ 32 ≤ y.2.2.1)) (fun _ => old h0 :: cells x2 (encM m).toArray :: cells x1 (cLab y) :: brgA b rs o :: L2) (fun K hK => ?_) (fun z hz1 => ?_)
  · refine W.ite (fun hb => W.pure ((hK (true, ()) ?_).sub)) (fun hb => ?_)
    · simp only [decide_eq_true_eq] at hb; simp [hb]
    · simp only [decide_eq_false_iff_not] at hb
      refine W.load ?_
      exact W.pure ((hK (decide (32 ≤ y.2.2.1), ()) (by simp [hb])).sub)
  unfold routeB at hq
  by_cases hc : labelText y.1 y.2.1 y.2.2.1 y.2.2.2 = e0S ∨ 32 ≤ y.2.2.1
  · rw [if_pos hc] at hq
    refine W.tt (by rw [hz1]; simpa using hc) ?_
    refine W.nils encM 5 ?_
    exact W.pure (hq ⟨none, 0, 0⟩).sub
  rw [if_neg hc] at hq
  have hg := route_good hc
  refine W.ff (by rw [hz1]; simpa using hc) ?_
  refine W.nonnil ?_
  refine W.opn2 (fun h R => brgA_iff.1) fun S ob => ?_
  refine W.load ?_
  refine W.load ?_
  refine W.load ?_
  refine W.call1 (rmRoute_w (s := S) (rs := rs) ht hz (Nat.le_trans hm (by decide)) hl fun S2 => At.un ?_)
  generalize hH : routeP m.1 y.2.2.2 0 rs = H at hq ⊢
  have hHl : H.length ≤ 1000 := by rw [← hH]; exact Nat.le_trans (routeP_len _ _ rs 0) hl
  refine W.fact (A := ownS encHo 3 S2 H) own_len' fun hS2 => ?_
  refine W.nil0 encM 5 ((H.take 0).map (hopM y m)) ?_
  refine W.for H.length (fun i x => x.2.1 = (i : Int)) (fun i x => ownS encM 5 x.1 ((H.take i).map (hopM y m)) :: ownS encHo 3 S2 H :: cells x2 (encM m).toArray :: cells x1 (cLab y) :: old h0 :: cells b #[.slice S.a S.len S.cap, at0 ob] :: ownS encRu 5 S rs :: outA ob o :: L2) rfl (by repeat (first | with_reducible exact Go.H.Sub.rfl | with_reducible exact Go.H.Sub.nil | refine Go.H.Sub.cons (by repeat (first | with_reducible exact Go.H.has0 | apply Go.H.hasS)) ?_ | refine Go.H.Sub.drop ?_))
    (fun i x hi hI => by rw [hI]; simp only [hS2]; exact decide_eq_decide.2 (by omega)) ?_ ?_
  · rintro ⟨out, _, ⟨⟩⟩ hI K hd
    dsimp only
    rw [List.take_length]
    refine W.pure (hd _ _ ?_)
    refine W.cls3 (A := brgA b rs o) (fun h hs => brgA_iff.2 ⟨S, ob, hs⟩) ?_
    exact W.pure (hq out).sub
  · rintro i ⟨out, _, ⟨⟩⟩ hlt hI K hnx hd
    simp only at hI
    subst hI
    dsimp only
    have hy := List.getElem?_eq_getElem hlt
    have hbl := take_map_len (hopM y m) H i
    rw [take_snoc _ _ _ hlt] at hnx
    generalize (H.take i).map (hopM y m) = M at hnx hbl
    generalize H[i] = p at hy hnx
    refine W.idx hlt fun a ha => ?_
    refine W.loadeN (v := p) ha hy ?_
    refine W.newc fun x16 => ?_
    refine W.storeN ?_
    refine W.loadNo ?_
    refine W.load ?_
    refine W.load ?_
    refine W.newc fun x20 => ?_
    refine W.storeN ?_
    repeat (first | refine W.bpure ?_ | refine W.bbind ?_ | refine W.newc fun _ => ?_ | refine W.load ?_ | refine W.load0 ?_ | refine W.loadx ?_ | (refine W.loadN ?_; try dsimp only) | (refine W.loadNo ?_; try dsimp only) | refine W.storeN ?_ | refine W.store ?_ | refine W.store0 ?_ | refine W.storex ?_ | refine W.req ?_ rfl | refine W.bt rfl ?_ | refine W.bf rfl ?_ | refine W.tt rfl ?_ | refine W.ff rfl ?_ | refine W.inl ?_ | refine W.inr ?_ | refine W.nonnil ?_ | refine W.bf (Go.H.nbq _) ?_ | refine W.ff (Go.H.nbq _) ?_ | refine W.bf (Go.H.nbd rfl) ?_ | refine W.ff (Go.H.nbd rfl) ?_)
    refine W.call1 (Text_w hx (At.un ?_))
    repeat (first | refine W.bpure ?_ | refine W.bbind ?_ | refine W.newc fun _ => ?_ | refine W.load ?_ | refine W.load0 ?_ | refine W.loadx ?_ | (refine W.loadN ?_; try dsimp only) | (refine W.loadNo ?_; try dsimp only) | refine W.storeN ?_ | refine W.store ?_ | refine W.store0 ?_ | refine W.storex ?_ | refine W.req ?_ rfl | refine W.bt rfl ?_ | refine W.bf rfl ?_ | refine W.tt rfl ?_ | refine W.ff rfl ?_ | refine W.inl ?_ | refine W.inr ?_ | refine W.nonnil ?_ | refine W.bf (Go.H.nbq _) ?_ | refine W.ff (Go.H.nbq _) ?_ | refine W.bf (Go.H.nbd rfl) ?_ | refine W.ff (Go.H.nbd rfl) ?_)
    have e : IntKind.wrap .i64 (y.2.2.1 + 1) = y.2.2.1 + 1 := wrap_id (by have := hg.2.1; omega) (by omega)
    refine W.app1b (xs := M) (hopM y m p) (fun s' => ?_) (by omega) (by repeat (first | with_reducible exact Go.H.has0 | apply Go.H.hasS)) (by repeat (first | with_reducible exact Go.H.has0 | apply Go.H.hasS)) (by show _ = (encM (hopM y m p)).toArray; simp only [hopM, e]) rfl (by decide)
    exact W.pure ((hnx (s', IntKind.wrap .i64 ((i : Int) + 1), ()) (by simp only; rw [wrap_id (by omega) (by omega)]; rfl)).sub)
theorem brgNew_big {s : Slc} (hl : 16 < s.len) (hq : At L (Q (.tuple #[.pointer none, .int .u8 149]))) : FW Tryz.prog 12 #[.slice s.a s.len s.cap] L Q := by
  refine fun h hs => bridge_New_calls s h Q ((?_ : W L _ _) h hs)
  clear hs h
  unfold bridge_New
  refine W.tt (by simp only [decide_eq_true_eq]; omega) ?_
  exact W.pure hq
end Go.Proofs.YtfhalebbcbgbdaaGreatDoor
namespace Go.Proofs.YtfhalebbcbgbdaaGreatDoor
open Go.H Go.Proofs Go.Lib
set_option linter.unusedSimpArgs false
set_option linter.unusedVariables false
set_option synthInstance.maxSize 100000
set_option synthInstance.maxHeartbeats 400000
set_option maxRecDepth 100000
variable {h h0 : Heap} {R : List Asn}
abbrev cLb (a b c d : Int) : Array Value := #[.int .i64 a, .int .i64 b, .int .i64 c, .int .i64 d]
theorem labels_spec (hs : sat h R) {a b c d : Int} {Q : Value → Heap → Prop} (hq : ∀ h', sat h' R → Q (.tuple #[.agg (cLb a b c d), .agg (cLb a b c d)]) h') : HCalls Tryz.prog 14 #[.agg (cLb a b c d)] h Q := by
  refine law23_labels_calls (a, b, c, d, ()) h Q ?_
  unfold law23_labels
  refine new_cells hs fun x1 h1 hs1 => ?_
  refine new_cells hs1 fun x2 h2 hs2 => ?_
  refine new_cells hs2 fun x3 h3 hs3 => ?_
  have g : ∀ {h' : Heap} {R' : List Asn}, sat h' (cells x1 (cLb a b c d) :: R') → cellH h' ⟨x1, 0, none⟩ = some (.int .i64 a) ∧ cellH h' ⟨x1, 1, none⟩ = some (.int .i64 b) ∧ cellH h' ⟨x1, 2, none⟩ = some (.int .i64 c) ∧ cellH h' ⟨x1, 3, none⟩ = some (.int .i64 d) := fun hs' => ⟨hs'.cell 0, hs'.cell 1, hs'.cell 2, hs'.cell 3⟩
  obtain ⟨g0, g1, g2, g3⟩ := g hs3.p2
  refine ⟨a, by rw [add_own]; exact g0, b, by rw [add_own]; exact g1, c, by rw [add_own]; exact g2, d, by rw [add_own]; exact g3, a, by rw [add_own]; exact g0, b, by rw [add_own]; exact g1, c, by rw [add_own]; exact g2, d, by rw [add_own]; exact g3, ?_⟩
  (try dsimp only); rw [HM.bind_apply]
  refine storeN_all' hs3.p1 rfl rfl fun h4 hs4 => ?_
  have hs4' : sat h4 (cells x1 (cLb a b c d) :: cells x2 (cLb a b c d) :: cells x3 (cLb 0 0 0 0) :: R) := hs4.p2
  clear hs4 hs3 hs2 hs1 g0 g1 g2 g3
  obtain ⟨g0, g1, g2, g3⟩ := g hs4'
  refine ⟨d, by rw [add_own]; exact g3, rfl, c, by rw [add_own]; exact g2, rfl, b, by rw [add_own]; exact g1, rfl, a, by rw [add_own]; exact g0, rfl, ?_⟩
  (try dsimp only); rw [HM.bind_apply]
  refine storeN_all' hs4'.p2 rfl rfl fun h5 hs5 => ?_
  have hs5' : sat h5 (cells x2 (cLb a b c d) :: cells x3 (cLb a b c d) :: cells x1 (cLb a b c d) :: R) := hs5.re [2, 0, 1]
  refine loadN_cells (ts := [.int .i64, .int .i64, .int .i64, .int .i64]) (a, b, c, d, ()) hs5' rfl ?_
  refine loadN_cells (ts := [.int .i64, .int .i64, .int .i64, .int .i64]) (a, b, c, d, ()) hs5'.p1 rfl ?_
  exact hq h5 hs5'.drop.drop.drop
end Go.Proofs.YtfhalebbcbgbdaaGreatDoor
namespace Go.Proofs.YtfhalebbcbgbdaaGreatDoor
open Go.H Go.Proofs
set_option linter.unusedSimpArgs false
set_option linter.unusedVariables false
set_option maxRecDepth 100000
variable {h h0 : Heap} {L L' L1 L2 R : List Asn} {Q : Value → Heap → Prop}
theorem rule_w {r : RuleT} (hq : At L (Q (.tuple #[vR r, vR r]))) : FW Tryz.prog 35 #[vR r] L Q := by
  refine fun h hs => law23_rule_calls r h Q ((?_ : W L _ _) h hs)
  clear hs h
  unfold law23_rule
  repeat (first | refine W.bpure ?_ | refine W.bbind ?_ | refine W.newc fun _ => ?_ | refine W.load ?_ | refine W.load0 ?_ | refine W.loadx ?_ | (refine W.loadN ?_; try dsimp only) | (refine W.loadNo ?_; try dsimp only) | refine W.storeN ?_ | refine W.store ?_ | refine W.store0 ?_ | refine W.storex ?_ | refine W.req ?_ rfl | refine W.bt rfl ?_ | refine W.bf rfl ?_ | refine W.tt rfl ?_ | refine W.ff rfl ?_ | refine W.inl ?_ | refine W.inr ?_ | refine W.nonnil ?_ | refine W.bf (Go.H.nbq _) ?_ | refine W.ff (Go.H.nbq _) ?_ | refine W.bf (Go.H.nbd rfl) ?_ | refine W.ff (Go.H.nbd rfl) ?_)
  exact W.pure hq.sub
theorem rules_w {s : Slc} {rs : List RuleT} (hr : RowAt encRu 5 h0 s rs) (hq : ∀ S1 S2 : Slc, At (ownS encRu 5 S1 (rs.take 20) :: ownS encRu 5 S2 (rs.take 20) :: old h0 :: L1) (Q (.tuple #[.slice S1.a S1.len S1.cap, .slice S2.a S2.len S2.cap]))) (hx : Has L (old h0) L1 := by repeat (first | with_reducible exact Go.H.has0 | apply Go.H.hasS)) :
    FW Tryz.prog 11 #[.slice s.a s.len s.cap] L Q := by
  refine fun h hs => law23_rules_calls s h Q ((?_ : W (old h0 :: L1) _ _) h (hx.s hs))
  clear hs h hx
  unfold law23_rules
  have hmn : (if 20 < ((s.len : Nat) : Int) then (20 : Int) else ((s.len : Nat) : Int)) = ((min 20 rs.length : Nat) : Int) := by rw [hr.1]; split <;> omega
  rw [hmn]
  refine W.slo hr (Nat.min_le_right _ _) fun s' hr' => ?_
  have e20 : rs.take (min 20 rs.length) = rs.take 20 := by
    by_cases h : 20 ≤ rs.length
    · rw [Nat.min_eq_left h]
    · rw [Nat.min_eq_right (by omega), List.take_length, List.take_of_length_le (by omega)]
  rw [e20] at hr'
  have hyl : (rs.take 20).length ≤ 20 := by rw [List.length_take]; omega
  generalize rs.take 20 = xs at hr' hq hyl
  have hsl : s'.len = xs.length := hr'.1
  refine W.nil0 encRu 5 (xs.take 0) ?_
  refine W.nil0 encRu 5 (xs.take 0) ?_
  refine W.for xs.length (fun i x => x.2.2.1 = (i : Int)) (fun i x => ownS encRu 5 x.1 (xs.take i) :: ownS encRu 5 x.2.1 (xs.take i) :: old h0 :: L1) rfl (by repeat (first | with_reducible exact Go.H.Sub.rfl | with_reducible exact Go.H.Sub.nil | refine Go.H.Sub.cons (by repeat (first | with_reducible exact Go.H.has0 | apply Go.H.hasS)) ?_ | refine Go.H.Sub.drop ?_)) (fun i x hi hI => by rw [hI, hsl]; exact decide_eq_decide.2 (by omega)) ?_ ?_
  · rintro ⟨o1, o2, _, ⟨⟩⟩ hI K hd
    dsimp only
    rw [List.take_length]
    refine W.pure (hd _ _ ?_)
    exact W.pure (hq o1 o2).sub
  · rintro i ⟨o1, o2, _, ⟨⟩⟩ hlt hI K hnx hd
    simp only at hI
    subst hI
    dsimp only
    have hy := List.getElem?_eq_getElem hlt
    have hbl : (xs.take i).length ≤ 20 := by rw [List.length_take]; omega
    have htk : xs.take (i + 1) = xs.take i ++ [xs[i]] := by rw [List.take_add_one, hy]; rfl
    rw [htk] at hnx
    generalize xs.take i = M at hnx hbl
    generalize xs[i] = r at hy hnx
    have hb : (M.length + 1) * 64 ≤ 140737488355328 := by omega
    refine W.idxo hr' hlt fun a ha => ?_
    refine W.loadoN (v := r) hr' ha hy ?_
    refine W.newc fun x6 => ?_
    refine W.storeN ?_
    refine W.loadN (v := r) ?_
    refine W.callN (rule_w (r := r) (At.unN ?_))
    refine W.newc fun x9 => ?_
    refine W.newc fun x10 => ?_
    refine W.storeN ?_
    refine W.storeN ?_
    refine W.loadN (v := r) ?_
    refine W.loadN (v := r) ?_
    repeat' (first | refine W.app1b (xs := M) r (fun s' => ?_) hb | refine W.newc fun _ => ?_ | refine W.loadN (v := r) ?_ | refine W.req ?_ rfl | refine W.both ?_ ?_)
    all_goals
      refine W.pure ?_
      refine At.sub (hnx (_, _, IntKind.wrap .i64 ((i : Int) + 1), ()) ?_) ?_
      · simp only; rw [wrap_id (by omega) (by omega)]; rfl
      · repeat (first | with_reducible exact Go.H.Sub.rfl | with_reducible exact Go.H.Sub.nil | refine Go.H.Sub.cons (by repeat (first | with_reducible exact Go.H.has0 | apply Go.H.hasS)) ?_ | refine Go.H.Sub.drop ?_)
structure szM (m : MsT) : Prop where
  t : m.1.size ≤ 1048576
  p : m.2.1.size ≤ 1048576
  g : m.2.2.2.2.size ≤ 1048576
end Go.Proofs.YtfhalebbcbgbdaaGreatDoor
namespace Go.Proofs.YtfhalebbcbgbdaaGreatDoor
open Go.H Go.Proofs Go.Lib
set_option linter.unusedSimpArgs false
set_option linter.unusedVariables false
set_option synthInstance.maxSize 100000
set_option synthInstance.maxHeartbeats 400000
abbrev cL (a b c d : Int) : Array Value := #[.int .i64 a, .int .i64 b, .int .i64 c, .int .i64 d]
abbrev vL (a b c d : Int) : Value := .agg (cL a b c d)
def parseT : Option LabT → (Int × Int × Int × Int × Unit) × Bool × Unit
  | some l => ((l.1, l.2.1, l.2.2.1, l.2.2.2, ()), true, ())
  | none => ((0, 0, 0, 0, ()), false, ())
theorem parseV_eq (o : Option LabT) : parseV o = .tuple (KTup.vals [.agg [.int .i64, .int .i64, .int .i64, .int .i64], .one .bool] (parseT o)).toArray := by
  cases o <;> rfl
set_option maxRecDepth 100000 in
section
variable {h : Heap} {R : List Asn}
end
end Go.Proofs.YtfhalebbcbgbdaaGreatDoor
namespace Go.Proofs.YtfhalebbcbgbdaaGreatDoor
open Go.H Go.Proofs
set_option linter.unusedSimpArgs false
set_option linter.unusedVariables false
set_option maxRecDepth 100000
variable {h h0 : Heap} {R : List Asn}
def usersL (n : ByteArray) (l : List PropT) : List ByteArray := (l.filter fun p => decide (p.1 = 38 ∧ p.2.2.1 = n)).map (·.2.2.2)
abbrev PrU := Int × Int × ByteArray × ByteArray × Unit
theorem usersL_snoc {n : ByteArray} {l : List PropT} {p : PropT} : usersL n (l ++ [p]) = usersL n l ++ (if p.1 = 38 ∧ p.2.2.1 = n then [p.2.2.2] else []) := by
  unfold usersL
  rw [List.filter_append, List.map_append]
  congr 1
  by_cases e : p.1 = 38 ∧ p.2.2.1 = n
  · rw [if_pos e, List.filter_cons_of_pos (by simpa using e)]; rfl
  · rw [if_neg e, List.filter_cons_of_neg (by simpa using e)]; rfl
theorem usersL_len (n : ByteArray) (l : List PropT) : (usersL n l).length ≤ l.length := by
  unfold usersL
  rw [List.length_map]
  exact List.length_filter_le _ _
abbrev eS1 (x : ByteArray) : List Value := [.string x]
theorem eS1_len (x : ByteArray) : (eS1 x).length = 1 := rfl
theorem eS1_cell (x : ByteArray) : ∀ v ∈ eS1 x, v.oneCell' = true := by intro v hv; rw [List.mem_singleton.1 hv]; rfl
theorem users_spec {s : Slc} {ps : List PropT} {n : ByteArray} (hs : sat h (ownS encPr 4 s ps :: R)) (hl : ps.length ≤ 100000) {Q : Value → Heap → Prop}
    (hq : ∀ (s' : Slc) h', sat h' (ownS eS1 1 s' (usersL n ps) :: ownS encPr 4 s ps :: R) → Q (.slice s'.a s'.len s'.cap) h') :
    HCalls Tryz.prog 30 #[.slice s.a s.len s.cap, .string n] h Q := by
  refine prop_Users_calls s n h Q ?_
  unfold prop_Users
  have hsl := hs.own_len
  (try dsimp only); rw [HM.bind_apply]
  refine loop_for ps.length (fun i x h' => x.2.1 = (i : Int) ∧ sat h' (ownS eS1 1 x.1 (usersL n (ps.take i)) :: ownS encPr 4 s ps :: R))
    ⟨rfl, by simpa [usersL] using ownS_nil hs⟩ (fun i x h hi hJ => by rw [hJ.1, hsl]; exact decide_eq_decide.2 (by omega)) (fun x h hJ K hd => ?_) (fun i x h hlt hJ K hnx hd => ?_)
  · obtain ⟨hx, hs1⟩ := hJ
    rw [List.take_length] at hs1
    exact hd _ _ (hq _ _ hs1)
  · obtain ⟨out, ci, ⟨⟩⟩ := x
    obtain ⟨hx, hs1⟩ := hJ
    simp only at hx hs1
    subst hx
    have hy := List.getElem?_eq_getElem hlt
    have htk : ps.take (i + 1) = ps.take i ++ [ps[i]] := by rw [List.take_add_one, hy]; rfl
    generalize ps[i] = p at hy htk
    have hul : (usersL n (ps.take i)).length ≤ 100000 := by
      have := usersL_len n (ps.take i)
      rw [List.length_take] at this
      omega
    (try dsimp only); rw [HM.bind_apply]
    refine idx_row (hs1.p1.own_row ePr_len) hy fun a ha => ?_
    refine loadN_of (ts := [.int .i64, .int .i64, .str, .str]) ((p.1, p.2.1, p.2.2.1, p.2.2.2, ()) : PrU) ha ?_
    refine new_cells hs1 fun x5 h2 hs2 => ?_
    (try dsimp only); rw [HM.bind_apply]
    refine storeN_all' hs2 rfl rfl fun h3 hs3' => ?_
    have hs3 : sat h3 (cells x5 (encPr p).toArray :: ownS eS1 1 out (usersL n (ps.take i)) :: ownS encPr 4 s ps :: R) := hs3'
    clear hs3' hs2
    refine cut (fun z h' => h' = h3 ∧ z.1 = decide (p.1 = 38 ∧ p.2.2.1 = n)) ?_ ?_
    · intro K2 hK2
      refine ⟨p.1, by rw [add_own]; exact hs3.cell 0, ?_⟩
      (try dsimp only); rw [HM.ite_apply]
      by_cases e : p.1 = 38
      · rw [if_pos (by simpa using e)]
        refine ⟨p.2.2.1, by rw [add_own]; exact hs3.cell 2, hK2 _ _ ⟨rfl, ?_⟩⟩
        simp [e]
      · rw [if_neg (by simpa using e)]
        exact hK2 _ _ ⟨rfl, by simp [e]⟩
    rintro ⟨z, ⟨⟩⟩ h4 ⟨rfl, hz⟩
    simp only at hz
    subst hz
    refine cut (fun z h' => sat h' (ownS eS1 1 z.1 (usersL n (ps.take (i + 1))) :: ownS encPr 4 s ps :: R)) ?_ ?_
    · intro K2 hK2
      rw [htk, usersL_snoc] at hK2
      (try dsimp only); rw [HM.ite_apply]
      by_cases e : p.1 = 38 ∧ p.2.2.1 = n
      · rw [if_pos (decide_eq_true e)]
        rw [if_pos e] at hK2
        refine ⟨p.2.2.2, by rw [add_own]; exact hs3.cell 3, ?_⟩
        refine app_new (x := p.2.2.2) eS1_len eS1_cell rfl (hs3.re [1, 0, 2]) (by decide) (by decide) (by omega) fun out' h5 hs5 => ?_
        exact hK2 _ _ hs5.p1.drop
      · rw [if_neg (by rw [decide_eq_true_eq]; exact e)]
        rw [if_neg e, List.append_nil] at hK2
        exact hK2 _ _ hs3.drop
    rintro ⟨out', ⟨⟩⟩ h5 hs5
    exact hnx _ _ ⟨by (try dsimp only); rw [wrap_id (by omega) (by omega)]; rfl, hs5⟩
end Go.Proofs.YtfhalebbcbgbdaaGreatDoor
namespace Go.Proofs.YtfhalebbcbgbdaaGreatDoor
open Go.H Go.Proofs
set_option linter.unusedSimpArgs false
set_option linter.unusedVariables false
set_option maxRecDepth 100000
variable {h h0 : Heap} {R : List Asn}
abbrev msZ : MsT := (e0S, e0S, 0, false, e0S)
def arrF (o : PkO) : LabT × MsT × Bool :=
  if o.kind ≠ 3 ∨ (usersL tagS o.props).length ≠ 1 then ((0, 0, 0, 0), msZ, false)
  else match parseR ((usersL tagS o.props).headD e0S) with
    | none => ((0, 0, 0, 0), msZ, false)
    | some l => (l, (o.topic, o.payload, l.2.2.2, o.retain, e0S), true)
def arrV (x : LabT × MsT × Bool) : Value := .tuple #[vL x.1.1 x.1.2.1 x.1.2.2.1 x.1.2.2.2, vMs x.2.1, .bool x.2.2]
theorem arrived_spec (ht : TX h0) {o : PkO} {c p : Slc} (hs : sat h (ownS encPr 4 p o.props :: old h0 :: R)) (hl : o.props.length ≤ 100000) (hz : ∀ u ∈ o.props, u.2.2.2.size ≤ 1048576) {Q : Value → Heap → Prop}
    (hq : ∀ h', sat h' (ownS encPr 4 p o.props :: old h0 :: R) → Q (arrV (arrF o)) h') :
    HCalls Tryz.prog 8 #[vPkK .u8 (pkT o c p)] h Q := by
  refine bridge_Arrived_calls (pkT o c p) h Q ?_
  unfold bridge_Arrived
  refine new_cells hs fun x1 h1 hs1' => ?_
  have hs1 : sat h1 (cells x1 (encPkK .u8 (pkT o c p)).toArray :: ownS encPr 4 p o.props :: old h0 :: R) := hs1'
  refine new_cells hs1 fun x2 h2 hs2 => ?_
  refine new_cells hs2 fun x3 h3 hs3' => ?_
  have hs3 : sat h3 (cells x3 (encM msZ).toArray :: cells x2 (cL 0 0 0 0) :: cells x1 (encPkK .u8 (pkT o c p)).toArray :: ownS encPr 4 p o.props :: old h0 :: R) := hs3'
  clear hs3' hs2 hs1 hs1'
  refine ⟨p, by rw [add_own]; exact hs3.p2.cell 9, ?_⟩
  refine bind_call1 (users_spec (n := tagS) (hs3.re [3, 0, 1, 2]) hl fun s' h4 hs4' => ⟨s', rfl, ?_⟩)
  have hs4 : sat h4 (cells x3 (encM msZ).toArray :: cells x2 (cL 0 0 0 0) :: cells x1 (encPkK .u8 (pkT o c p)).toArray :: ownS eS1 1 s' (usersL tagS o.props) :: ownS encPr 4 p o.props :: old h0 :: R) := hs4'.re [2, 3, 4, 0, 1]
  clear hs4' hs3
  have hsl : s'.len = (usersL tagS o.props).length := hs4.p3.own_len
  have none_ : arrF o = ((0, 0, 0, 0), msZ, false) → ∀ {h' : Heap} {R' : List Asn}, sat h' (cells x3 (encM msZ).toArray :: cells x2 (cL 0 0 0 0) :: R') → (∀ {h''}, sat h'' (cells x3 (encM msZ).toArray :: cells x2 (cL 0 0 0 0) :: R') → sat h'' (ownS encPr 4 p o.props :: old h0 :: R)) →
      (HM.bind (HM.storeN ⟨x2, 0, none⟩ [.int .i64 0, .int .i64 0, .int .i64 0, .int .i64 0]) fun _ =>
        HM.bind (HM.storeN ⟨x3, 0, none⟩ [.string (ByteArray.mk #[]), .string (ByteArray.mk #[]), .int .i64 0, .bool false, .string (ByteArray.mk #[])]) fun _ =>
        HM.bind (HM.loadN [.int .i64, .int .i64, .int .i64, .int .i64] ⟨x2, 0, none⟩) fun x8 =>
        HM.bind (HM.loadN [.str, .str, .int .i64, .bool, .str] ⟨x3, 0, none⟩) fun x9 =>
        (HM.pure ((x8.1, x8.2.1, x8.2.2.1, x8.2.2.2.1, ()), (x9.1, x9.2.1, x9.2.2.1, x9.2.2.2.1, x9.2.2.2.2.1, ()), false, ()) : HM ((Int × Int × Int × Int × Unit) × MsU × Bool × Unit))) h' (fun r h' => Q (.tuple #[.agg #[.int .i64 r.1.1, .int .i64 r.1.2.1, .int .i64 r.1.2.2.1, .int .i64 r.1.2.2.2.1], .agg #[.string r.2.1.1, .string r.2.1.2.1, .int .i64 r.2.1.2.2.1, .bool r.2.1.2.2.2.1, .string r.2.1.2.2.2.2.1], .bool r.2.2.1]) h') := by
    intro he h' R' hs' hback
    refine storeN_all' hs'.p1 rfl rfl fun h5 hs5 => ?_
    refine storeN_all' hs5.p1 rfl rfl fun h6 hs6' => ?_
    have hs6 : sat h6 (cells x3 (encM msZ).toArray :: cells x2 (cL 0 0 0 0) :: R') := hs6'
    refine loadN_cells (ts := [.int .i64, .int .i64, .int .i64, .int .i64]) (0, 0, 0, 0, ()) hs6.p1 rfl ?_
    refine loadN_cells (ts := [.str, .str, .int .i64, .bool, .str]) (toU msZ) hs6 rfl ?_
    have := hq h6 (hback hs6)
    rw [he] at this
    exact this
  refine cut (fun z h' => h' = h4 ∧ z.1 = decide (o.kind ≠ 3 ∨ (usersL tagS o.props).length ≠ 1)) ?_ ?_
  · intro K hK
    refine ⟨o.kind, by rw [add_own]; exact hs4.p2.cell 0, ?_⟩
    (try dsimp only); rw [HM.ite_apply]
    by_cases e : o.kind = 3
    · rw [if_neg (by simp [e])]
      refine hK _ _ ⟨rfl, ?_⟩
      simp only [e, hsl]
      rw [Bool.eq_iff_iff]
      simp
      omega
    · rw [if_pos (by simp [e])]
      exact hK _ _ ⟨rfl, by simp [e]⟩
  rintro ⟨z, ⟨⟩⟩ h5 ⟨rfl, hz⟩
  simp only at hz
  subst hz
  (try dsimp only); rw [HM.ite_apply]
  by_cases hbad : o.kind ≠ 3 ∨ (usersL tagS o.props).length ≠ 1
  · rw [if_pos (decide_eq_true hbad)]
    exact none_ (by unfold arrF; rw [if_pos hbad]) hs4 fun h => h.drop.drop.drop.drop
  rw [if_neg (by rw [decide_eq_true_eq]; exact hbad)]
  have hlen : (usersL tagS o.props).length = 1 := Classical.not_not.1 fun e => hbad (.inr e)
  obtain ⟨t, hu⟩ := List.length_eq_one_iff.1 hlen
  have htz : t.size ≤ 1048576 := by
    have : t ∈ usersL tagS o.props := by rw [hu]; exact List.mem_cons_self ..
    unfold usersL at this
    obtain ⟨q, hq1, rfl⟩ := List.mem_map.1 this
    exact hz q (List.mem_filter.1 hq1).1
  (try dsimp only); rw [HM.bind_apply]
  refine idx_row (i := 0) (hs4.p3.own_row eS1_len) (x := t) (by rw [hu]; rfl) fun a ha => ?_
  refine ⟨t, by simpa [Go.H.add_zero] using ha 0 _ rfl, ?_⟩
  refine bind_callN (Parse_spec (hs4.re [5, 0, 1, 2, 3, 4]) ht htz fun h6 hs6 => ⟨parseT (parseR t), parseV_eq _, ?_⟩)
  have he : arrF o = match parseR t with
      | none => ((0, 0, 0, 0), msZ, false)
      | some l => (l, (o.topic, o.payload, l.2.2.2, o.retain, e0S), true) := by
    unfold arrF
    rw [if_neg hbad, hu]
    rfl
  refine new_cells (hs6.re [1, 2, 3, 4, 5, 0]) fun x13 h7 hs7 => ?_
  (try dsimp only); rw [HM.bind_apply]
  cases hp : parseR t with
  | none =>
    rw [hp] at he
    refine storeN_all' hs7 rfl rfl fun h8 hs8 => ?_
    (try dsimp only); rw [HM.ite_apply, if_pos (by rfl)]
    exact none_ he (hs8.re [1, 2, 0]) fun h => h.drop.drop.drop.drop.drop
  | some l =>
    rw [hp] at he
    refine storeN_all' hs7 rfl rfl fun h8 hs8' => ?_
    have hs8 : sat h8 (cells x13 (cL l.1 l.2.1 l.2.2.1 l.2.2.2) :: cells x3 (encM msZ).toArray :: cells x2 (cL 0 0 0 0) :: cells x1 (encPkK .u8 (pkT o c p)).toArray :: ownS eS1 1 s' (usersL tagS o.props) :: ownS encPr 4 p o.props :: old h0 :: R) := hs8'
    clear hs8' hs7
    (try dsimp only); rw [HM.ite_apply, if_neg (by simp [parseT])]
    refine loadN_cells (ts := [.int .i64, .int .i64, .int .i64, .int .i64]) (l.1, l.2.1, l.2.2.1, l.2.2.2, ()) hs8 rfl ?_
    refine ⟨o.topic, by rw [add_own]; exact hs8.p3.cell 5, o.payload, by rw [add_own]; exact hs8.p3.cell 6, l.2.2.2, by rw [add_own]; exact hs8.cell 3, o.retain, by rw [add_own]; exact hs8.p3.cell 2, ?_⟩
    (try dsimp only); rw [HM.bind_apply]
    refine storeN_all' hs8.p2 rfl rfl fun h9 hs9' => ?_
    have hs9 : sat h9 (cells x2 (cL l.1 l.2.1 l.2.2.1 l.2.2.2) :: cells x13 (cL l.1 l.2.1 l.2.2.1 l.2.2.2) :: cells x3 (encM msZ).toArray :: cells x1 (encPkK .u8 (pkT o c p)).toArray :: ownS eS1 1 s' (usersL tagS o.props) :: ownS encPr 4 p o.props :: old h0 :: R) := hs9'
    clear hs9' hs8
    refine ⟨o.retain, by rw [add_own]; exact hs9.p3.cell 2, rfl, l.2.2.2, by rw [add_own]; exact hs9.p1.cell 3, rfl, o.payload, by rw [add_own]; exact hs9.p3.cell 6, rfl, o.topic, by rw [add_own]; exact hs9.p3.cell 5, rfl, ?_⟩
    (try dsimp only); rw [HM.bind_apply]
    refine storeN_all' hs9.p2 rfl rfl fun h10 hs10' => ?_
    have hs10 : sat h10 (cells x3 (encM (o.topic, o.payload, l.2.2.2, o.retain, e0S)).toArray :: cells x2 (cL l.1 l.2.1 l.2.2.1 l.2.2.2) :: cells x13 (cL l.1 l.2.1 l.2.2.1 l.2.2.2) :: cells x1 (encPkK .u8 (pkT o c p)).toArray :: ownS eS1 1 s' (usersL tagS o.props) :: ownS encPr 4 p o.props :: old h0 :: R) := hs10'
    clear hs10' hs9
    refine loadN_cells (ts := [.int .i64, .int .i64, .int .i64, .int .i64]) (l.1, l.2.1, l.2.2.1, l.2.2.2, ()) hs10.p1 rfl ?_
    refine loadN_cells (ts := [.str, .str, .int .i64, .bool, .str]) (toU (o.topic, o.payload, l.2.2.2, o.retain, e0S)) hs10 rfl ?_
    have := hq h10 hs10.drop.drop.drop.drop.drop
    rw [he] at this
    exact this
end Go.Proofs.YtfhalebbcbgbdaaGreatDoor
namespace Go.Proofs.YtfhalebbcbgbdaaGreatDoor
open Go.H Go.Proofs Go.Lib
set_option linter.unusedSimpArgs false
set_option linter.unusedVariables false
set_option maxRecDepth 100000
variable {h h0 : Heap} {L L' L1 L2 R : List Asn} {Q : Value → Heap → Prop}
theorem next_ascii {t : ByteArray} (h0 : 0 < t.size) (h1 : (t[0]'h0).toNat < 128) (h2 : (t[0]'h0).toNat ≠ 0) : nextLen t = 1 := by
  have hd : Lib.decodeGo t = ((t[0]'h0).toNat, 1) := by
    unfold Lib.decodeGo
    rw [if_neg (by omega)]
    exact decode_ascii t 0 h0 h1
  unfold nextLen
  rw [hd]
  rw [if_neg]
  rintro (e | ⟨e, -⟩)
  · exact h2 e
  · simp only at e; omega
theorem fault_ascii {s : ByteArray} (hs : ∀ (i : Nat) (h : i < s.size), (s[i]'h).toNat < 128 ∧ (s[i]'h).toNat ≠ 0) : faultOf s = none := by
  have key : ∀ (f a : Nat), faultGo s f a = none := by
    intro f
    induction f with
    | zero => intro a; rfl
    | succ f ih =>
      intro a
      unfold faultGo
      by_cases ha : a < s.size
      · rw [if_pos ha]
        have hsz : 0 < (s.extract a s.size).size := by rw [ByteArray.size_extract]; omega
        have hg : (s.extract a s.size)[0]'hsz = s[a]'ha := by
          rw [ByteArray.getElem_extract]; congr 1
        have := next_ascii hsz (by rw [hg]; exact (hs a ha).1) (by rw [hg]; exact (hs a ha).2)
        rw [this, if_neg (by decide)]
        exact ih _
      · rw [if_neg ha]
  exact key _ _
theorem join_mem {x : UInt8} : ∀ (l : List (List UInt8)) (sep : List UInt8), x ∈ Lib.join l sep → x ∈ sep ∨ ∃ a ∈ l, x ∈ a
  | [], sep, h => by simp [Lib.join] at h
  | [a], sep, h => by
    simp [Lib.join] at h
    exact .inr ⟨a, by simp, h⟩
  | a :: b :: l, sep, h => by
    have h' : x ∈ a ++ (sep ++ Lib.join (b :: l) sep) := h
    simp only [List.mem_append] at h'
    rcases h' with h | h | h
    · exact .inr ⟨a, by simp, h⟩
    · exact .inl h
    · rcases join_mem (b :: l) sep h with h | ⟨c, hc, h⟩
      · exact .inl h
      · exact .inr ⟨c, List.mem_cons_of_mem _ hc, h⟩
theorem text_fault {a b c d : Int} (hg : goodLabel a b c d) : faultOf (labelText a b c d) = none := by
  refine fault_ascii fun i hi => ?_
  have hm : ∀ x ∈ (labelText a b c d).data.toList, 46 ≤ x.toNat ∧ x.toNat ≤ 57 := by
    intro x hx
    unfold labelText at hx
    rw [if_pos hg] at hx
    have dd : ∀ n, x ∈ (decS n).data.toList → 46 ≤ x.toNat ∧ x.toNat ≤ 57 := by
      intro n hn
      have := dec_digits n x (by simpa [decS] using hn)
      omega
    have e46 : x = 46 → 46 ≤ x.toNat ∧ x.toNat ≤ 57 := fun e => by subst e; decide
    have hx2 : x ∈ Lib.join [(decS a.toNat).data.toList, (decS b.toNat).data.toList, (decS c.toNat).data.toList, (decS d.toNat).data.toList] [46] := by simpa [textOf] using hx
    rcases join_mem _ _ hx2 with h1 | ⟨l, hl, h1⟩
    · exact e46 (List.mem_singleton.1 h1)
    · simp only [List.mem_cons, List.not_mem_nil, or_false] at hl
      rcases hl with rfl | rfl | rfl | rfl <;> exact dd _ h1
  have := hm ((labelText a b c d)[i]) (by
    have : (labelText a b c d)[i] = (labelText a b c d).data.toList[i]'(by simpa using hi) := rfl
    rw [this]; exact List.getElem_mem _)
  omega
theorem turnP_some {r : RuleT} {n fr to t : ByteArray} (h : turnP r n fr to = some t) : chkR r = 0 ∧ nameOK t = true := by
  unfold turnP at h
  split at h
  · rename_i hc; cases h; exact ⟨hc.2.1, hc.2.2.2.2⟩
  · cases h
theorem toP_some {r : RuleT} {n t : ByteArray} (h : toP r n = some t) : chkR r = 0 ∧ nameOK t = true := by
  unfold toP at h
  split at h
  · cases h
  · exact turnP_some h
theorem chkR_qos {r : RuleT} (h : chkR r = 0) : 0 ≤ r.2.2.1 ∧ r.2.2.1 ≤ 2 := by
  unfold chkR at h
  split at h
  · cases h
  · split at h
    · cases h
    · split at h
      · cases h
      · split at h
        · cases h
        · omega
theorem routeP_mem {n : ByteArray} {q : Int} {p : HopT} : ∀ {rs : List RuleT} {i : Nat}, p ∈ routeP n q i rs → nameOK p.2.1 = true ∧ (0 ≤ q → q ≤ 2 → 0 ≤ p.2.2.1 ∧ p.2.2.1 ≤ 2)
  | [], _, h => by simp [routeP] at h
  | r :: rs, i, h => by
    rcases List.mem_append.1 h with h | h
    · unfold hopP at h
      split at h
      · rename_i t ht
        rw [List.mem_singleton.1 h]
        obtain ⟨h1, h2⟩ := toP_some ht
        have := chkR_qos h1
        refine ⟨h2, fun h3 h4 => ?_⟩
        simp only
        split <;> omega
      · simp at h
    · exact routeP_mem h
theorem car_put {y : LabT} {m : MsT} {p : HopT} (hg : goodLabel y.1 y.2.1 (y.2.2.1 + 1) p.2.2.1) (hp : nameOK p.2.1 = true) :
    putC (tryP (hopM y m p) false) (hopM y m p).2.2.2.2 = 0 ∨ (putC (tryP (hopM y m p) false) (hopM y m p).2.2.2.2 = 149 ∧ 32768 < m.2.1.size) := by
  have hsz := sizedT_iff.1 (nameOK_sized hp)
  have h1 : textC p.2.1 = 0 := by
    unfold textC
    rw [if_neg (by simp [hsz.1]), if_neg (by omega)]
  have ht := text_size hg
  have h2 : propC (hopM y m p).2.2.2.2 = 0 := by
    unfold propC
    split
    · rfl
    · show textC (labelText y.1 y.2.1 (y.2.2.1 + 1) p.2.2.1) = 0
      unfold textC
      rw [if_neg (by simp [text_fault hg]), if_neg (by omega)]
  have hC : bodyC (tryP (hopM y m p) false) (hopM y m p).2.2.2.2 = 0 := by
    show firstC (textC p.2.1) (propC (hopM y m p).2.2.2.2) = 0
    rw [h1, h2]; rfl
  unfold putC
  rw [if_neg (by rw [hC]; simp)]
  split
  · rename_i hb
    refine .inr ⟨rfl, ?_⟩
    unfold bodyB at hb
    simp only [List.length_append, intsS_len] at hb
    have g1 := textB_size p.2.1
    have g2 := propB_size (hopM y m p).2.2.2.2
    have g3 := idB_len (tryP (hopM y m p) false)
    have g4 : (hopM y m p).2.2.2.2.size ≤ 100 := ht
    have hb' : 65536 < (textB p.2.1).size + (idB (tryP (hopM y m p) false)).length + (propB (hopM y m p).2.2.2.2).size + m.2.1.size := hb
    have := hsz.2.2.1
    omega
  · exact .inl rfl
structure CarOK (o : OutS) (i : Nat) : Prop where
  ok : FlowOK o
  on : o.on = true
  wait : o.waiting = []
  len : o.flights.length = i
  most : o.most = 64
theorem car_send {o : OutS} {i : Nat} (hc : CarOK o i) (hi : i < 64) {m : MsT} (hm : m.2.2.1 = 1) : ∃ (o' : OutS) (id : Int), sendF o m = ((o', [pubO m id false]), 0) ∧ CarOK o' (i + 1) := by
  have hok := sendF_ok hc.ok m
  have e1 : goF { o with waiting := o.waiting ++ [m] } [m] = ({ o with pool := ⟨o.pool.most, nextI o.pool.used o.pool.taken, o.pool.used ++ [nextI o.pool.used o.pool.taken]⟩, flights := o.flights ++ [(nextI o.pool.used o.pool.taken, m, false)], waiting := [] }, [pubO m (nextI o.pool.used o.pool.taken) false]) := by
    unfold goF
    rw [if_neg (by rw [hm]; simp only; have := hc.len; have := hc.most; omega), if_pos (by rw [hm]; decide)]
    rfl
  have e : sendF o m = (({ o with pool := ⟨o.pool.most, nextI o.pool.used o.pool.taken, o.pool.used ++ [nextI o.pool.used o.pool.taken]⟩, flights := o.flights ++ [(nextI o.pool.used o.pool.taken, m, false)], waiting := [] }, [pubO m (nextI o.pool.used o.pool.taken) false]), 0) := by
    unfold sendF
    rw [if_neg (by rw [hm]; decide), if_neg (by rw [hm]; simp), if_neg (by rw [hc.wait]; simp)]
    unfold goOnF
    rw [if_pos hc.on]
    simp only [hc.wait, List.nil_append]
    have := e1
    simp only [hc.wait, List.nil_append] at this
    rw [this]
  refine ⟨_, _, e, ?_⟩
  rw [e] at hok
  exact ⟨hok.1, hc.on, rfl, by simp [hc.len], hc.most⟩
theorem car_bsend {o : OutS} {i : Nat} (hc : CarOK o i) (hi : i < 64) {y : LabT} {m : MsT} {p : HopT} (hg : goodLabel y.1 y.2.1 (y.2.2.1 + 1) p.2.2.1) (hp : nameOK p.2.1 = true) :
    (∃ (o' : OutS) (id : Int), bsendF o (hopM y m p) = ((o', [pubO (hopM y m p) id false]), 0) ∧ CarOK o' (i + 1)) ∨ ((bsendF o (hopM y m p)).2 = 149 ∧ (bsendF o (hopM y m p)).1.2 = [] ∧ 32768 < m.2.1.size) := by
  unfold bsendF
  rcases car_put (m := m) hg hp with h | ⟨h, hl⟩
  · rw [if_neg (by simp [h])]
    exact .inl (car_send hc hi rfl)
  · rw [if_pos (by rw [h]; decide)]
    exact .inr ⟨h, rfl, hl⟩
theorem car_arr {y : LabT} {m : MsT} {p : HopT} {id : Int} (hg : goodLabel y.1 y.2.1 (y.2.2.1 + 1) p.2.2.1) :
    arrF (pubO (hopM y m p) id false) = ((y.1, y.2.1, y.2.2.1 + 1, p.2.2.1), (p.2.1, m.2.1, p.2.2.1, m.2.2.2.1, e0S), true) := by
  have hne : labelText y.1 y.2.1 (y.2.2.1 + 1) p.2.2.1 ≠ e0S := text_ne hg
  have hu : usersL tagS (pubO (hopM y m p) id false).props = [labelText y.1 y.2.1 (y.2.2.1 + 1) p.2.2.1] := by
    show usersL tagS (tagP (labelText y.1 y.2.1 (y.2.2.1 + 1) p.2.2.1)) = _
    unfold tagP usersL
    rw [if_neg hne]
    simp
  unfold arrF
  rw [hu, if_neg (by simp [pubO])]
  simp only [List.headD_cons, parse_text hg]
  rfl
theorem arrived_w {o : PkO} {c p : Slc} (ht : TX h0) (hl : o.props.length ≤ 100000) (hz : ∀ u ∈ o.props, u.2.2.2.size ≤ 1048576) (hq : At (ownS encPr 4 p o.props :: old h0 :: L2) (Q (arrV (arrF o)))) (hx : Has L (ownS encPr 4 p o.props) L1 := by repeat (first | with_reducible exact Go.H.has0 | apply Go.H.hasS)) (hy : Has L1 (old h0) L2 := by repeat (first | with_reducible exact Go.H.has0 | apply Go.H.hasS)) :
    FW Tryz.prog 8 #[vPkK .u8 (pkT o c p)] L Q := fun h hs => arrived_spec ht ((hx.then hy).s hs) hl hz fun h' hs' => hq h' hs'
theorem pks_iff' {k : IntKind} {s : Slc} {os : List PkO} : ∀ h R, sat h (pksA k s os :: R) → ∃ T : List (Slc × Slc × PkO), T.map (·.2.2) = os ∧ sat h (ownS (encPkK k) 26 s (T.map pkF) :: bigA (pkB k) T :: R) := fun h R => pks_iff.1
theorem begin_fresh : (beginF freshO 64).1 = { freshO with on := true } := by
  simp only [beginF, goOnF, goF, if_true]; rfl
set_option maxHeartbeats 2000000 in
theorem BridgeCarries_w (hx : TX h0) (ht : TP h0) {s1 : Slc} {rs0 : List RuleT} {y : LabT} {m : MsT} (hr : RowAt encRu 5 h0 s1 rs0) (hz0 : ∀ r ∈ rs0, szR r) (hm : szM m)
    (hq : ∀ h' R, sat h' (old h0 :: R) → Q (.bool true) h') : FW Tryz.prog 7 #[.slice s1.a s1.len s1.cap, .agg (cLab y), vMs m] [old h0] Q := by
  have fin : ∀ {L L'}, Has L (old h0) L' → At L (Q (.bool true)) := fun hx h hs => hq h _ (hx.s hs)
  have hu := ht.u8
  refine fun h hs => law23_BridgeCarries_calls s1 (y.1, y.2.1, y.2.2.1, y.2.2.2, ()) (toU m) h Q ((?_ : W [old h0] _ _) h hs)
  clear hs h
  unfold law23_BridgeCarries
  refine W.newc fun x1 => ?_
  refine W.newc fun x2 => ?_
  refine W.callN (rules_w hr fun S1 S2 => At.unN ?_)
  have hz : ∀ r ∈ rs0.take 20, szR r := fun r hr => hz0 r (List.mem_of_mem_take hr)
  have hl20 : (rs0.take 20).length ≤ 20 := by rw [List.length_take]; omega
  generalize rs0.take 20 = rs at hz hl20
  refine W.fact (A := ownS encRu 5 S1 rs) own_len' fun hl1 => ?_
  by_cases hbig : 16 < rs.length
  · refine W.callN (brgNew_big (s := S1) (by omega) (At.unN ?_))
    refine W.bbind (W.call1 (wakes23_w ht (At.un ?_)))
    repeat (first | refine W.bpure ?_ | refine W.bbind ?_ | refine W.newc fun _ => ?_ | refine W.load ?_ | refine W.load0 ?_ | refine W.loadx ?_ | (refine W.loadN ?_; try dsimp only) | (refine W.loadNo ?_; try dsimp only) | refine W.storeN ?_ | refine W.store ?_ | refine W.store0 ?_ | refine W.storex ?_ | refine W.req ?_ rfl | refine W.bt rfl ?_ | refine W.bf rfl ?_ | refine W.tt rfl ?_ | refine W.ff rfl ?_ | refine W.inl ?_ | refine W.inr ?_ | refine W.nonnil ?_ | refine W.bf (Go.H.nbq _) ?_ | refine W.ff (Go.H.nbq _) ?_ | refine W.bf (Go.H.nbd rfl) ?_ | refine W.ff (Go.H.nbd rfl) ?_)
    refine W.call1 (wakes23_w ht (At.un ?_))
    exact W.pure (fin (by repeat (first | with_reducible exact Go.H.has0 | apply Go.H.hasS)))
  by_cases hc : codeRs rs = 0
  rotate_left
  · refine W.callN (brgNew_w (s := S1) (rs := rs) ht hz (by omega) (fun _ => At.unN ?_) (fun h => absurd h hc))
    refine W.bbind (W.call1 (wakes23_w ht (At.un ?_)))
    refine W.bf rfl ?_
    refine W.bpure ?_
    refine W.tt (by show (!(codeRs rs == 0)) = true; simp [hc]) ?_
    refine W.call1 (wakes23_w ht (At.un ?_))
    exact W.pure (fin (by repeat (first | with_reducible exact Go.H.has0 | apply Go.H.hasS)))
  refine W.callN (brgNew_w (s := S1) (rs := rs) ht hz (by omega) (fun h => absurd hc h) fun _ b => At.unN ?_)
  refine W.bbind (W.call1 (wakes23_w ht (At.un ?_)))
  repeat (first | refine W.bpure ?_ | refine W.bbind ?_ | refine W.newc fun _ => ?_ | refine W.load ?_ | refine W.load0 ?_ | refine W.loadx ?_ | (refine W.loadN ?_; try dsimp only) | (refine W.loadNo ?_; try dsimp only) | refine W.storeN ?_ | refine W.store ?_ | refine W.store0 ?_ | refine W.storex ?_ | refine W.req ?_ rfl | refine W.bt rfl ?_ | refine W.bf rfl ?_ | refine W.tt rfl ?_ | refine W.ff rfl ?_ | refine W.inl ?_ | refine W.inr ?_ | refine W.nonnil ?_ | refine W.bf (Go.H.nbq _) ?_ | refine W.ff (Go.H.nbq _) ?_ | refine W.bf (Go.H.nbd rfl) ?_ | refine W.ff (Go.H.nbd rfl) ?_)
  refine W.call1 (bbegin_w FlowOK.new fun SB => At.un ?_)
  rw [begin_fresh]
  refine W.loadN ?_
  refine W.callN fun h hs => labels_spec (a := y.1) (b := y.2.1) (c := y.2.2.1) (d := y.2.2.2) hs fun h' hs' => ?_
  refine (At.unN ?_ : At _ _) h' hs'
  refine W.newc fun x11 => ?_
  refine W.newc fun x12 => ?_
  refine W.storeN ?_
  refine W.storeN ?_
  refine W.load ?_
  refine W.store (cs' := (encM (m.1, m.2.1, y.2.2.2, m.2.2.2.1, m.2.2.2.2)).toArray) ?_
  refine W.load ?_
  refine W.load ?_
  refine W.call1 (rmRoute_w (s := S1) (rs := rs) (n := m.1) (q := y.2.2.2) ht hz (Nat.le_trans hm.t (by decide)) (by omega) fun SH => At.un ?_)
  refine W.loadN ?_
  refine W.loadN ?_
  refine W.call1 (brt_w (y := y) (m := (m.1, m.2.1, y.2.2.2, m.2.2.2.1, m.2.2.2.2)) ht hx.pow hz (by omega) hm.t fun SA => At.un ?_)
  have hHl : (routeP m.1 y.2.2.2 0 rs).length ≤ 16 := Nat.le_trans (routeP_len _ _ rs 0) (by omega)
  have hHm : ∀ p ∈ routeP m.1 y.2.2.2 0 rs, nameOK p.2.1 = true ∧ (0 ≤ y.2.2.2 → y.2.2.2 ≤ 2 → 0 ≤ p.2.2.1 ∧ p.2.2.1 ≤ 2) := fun p hp => routeP_mem hp
  have hB : ((labelText y.1 y.2.1 y.2.2.1 y.2.2.2 = e0S ∨ 32 ≤ y.2.2.1) ∧ routeB rs y (m.1, m.2.1, y.2.2.2, m.2.2.2.1, m.2.2.2.2) = []) ∨
      (¬ (labelText y.1 y.2.1 y.2.2.1 y.2.2.2 = e0S ∨ 32 ≤ y.2.2.1) ∧ routeB rs y (m.1, m.2.1, y.2.2.2, m.2.2.2.1, m.2.2.2.2) = (routeP m.1 y.2.2.2 0 rs).map (hopM y (m.1, m.2.1, y.2.2.2, m.2.2.2.1, m.2.2.2.2))) := by
    unfold routeB
    by_cases hb : labelText y.1 y.2.1 y.2.2.1 y.2.2.2 = e0S ∨ 32 ≤ y.2.2.1
    · exact .inl ⟨hb, if_pos hb⟩
    · exact .inr ⟨hb, if_neg hb⟩
  generalize routeP m.1 y.2.2.2 0 rs = H at hHl hHm hB ⊢
  generalize hmm : ((m.1, m.2.1, y.2.2.2, m.2.2.2.1, m.2.2.2.2) : MsT) = mm at hB ⊢
  have hmp : mm.2.1 = m.2.1 := by rw [← hmm]
  have hmr : mm.2.2.2.1 = m.2.2.2.1 := by rw [← hmm]
  generalize routeB rs y mm = M at hB ⊢
  refine W.fact (A := ownS encM 5 SA M) own_len' fun hSA => ?_
  refine W.fact (A := ownS encHo 3 SH H) own_len' fun hSH => ?_
  refine W.loop (γ := Nat × OutS) (fun g x => x.1 = (g.1 : Int) ∧ x.2.1 = (g.1 : Int) ∧ g.1 ≤ M.length ∧ CarOK g.2 g.1) (fun g x => [ownS encM 5 SA M, ownS encHo 3 SH H, brgA b rs g.2, cells x11 (cLab y), cells x2 (encM mm).toArray, old h0])
    (fun g => M.length - g.1) (0, { freshO with on := true }) ⟨rfl, rfl, Nat.zero_le _, ⟨FlowOK.new.off true, rfl, rfl, rfl, rfl⟩⟩ (by repeat (first | with_reducible exact Go.H.Sub.rfl | with_reducible exact Go.H.Sub.nil | refine Go.H.Sub.cons (by repeat (first | with_reducible exact Go.H.has0 | apply Go.H.hasS)) ?_ | refine Go.H.Sub.drop ?_)) ?_
  rintro ⟨i, o⟩ ⟨_, _, ⟨⟩⟩ ⟨hI1, hI2, hle, hcar⟩ K hnx hd
  simp only at hI1 hI2 hle hcar
  subst hI1 hI2
  dsimp only
  refine W.ite (fun hb => ?_) (fun hb => ?_)
  · have hltM : i < M.length := by simp only [hSA, decide_eq_true_eq] at hb; omega
    rcases hB with ⟨-, rfl⟩ | ⟨hbad, rfl⟩
    · simp at hltM
    have hlt : i < H.length := by simpa using hltM
    have hg := route_good hbad
    have hy := List.getElem?_eq_getElem hlt
    have hyM : (H.map (hopM y mm))[i]? = some (hopM y mm H[i]) := by rw [List.getElem?_map, hy]; rfl
    have hpm := hHm _ (List.getElem_mem hlt)
    generalize H[i] = p at hy hyM hpm
    obtain ⟨hpn, hpq⟩ := hpm
    have hg2 : goodLabel y.1 y.2.1 (y.2.2.1 + 1) p.2.2.1 := by
      obtain ⟨ht1, hh0, hh1, hq0, hq1⟩ := hg
      simp only [not_or] at hbad
      have := hpq hq0 hq1
      exact ⟨ht1, by omega, by omega, this.1, this.2⟩
    have htx := text_size hg2
    have hps := (sizedT_iff.1 (nameOK_sized hpn)).2.2.1
    refine W.idx (xs := H.map (hopM y mm)) hltM fun a ha => ?_
    refine W.loadeN (v := toU (hopM y mm p)) ha hyM ?_
    refine W.newc fun x24 => ?_
    refine W.storeN ?_
    refine W.loadN (v := toU (hopM y mm p)) ?_
    refine W.callN (bsend_w (m := hopM y mm p) hu hcar.ok (Nat.le_trans hps (by decide)) (by show mm.2.1.size ≤ _; rw [hmp]; exact Nat.le_trans hm.p (by decide)) (Nat.le_trans htx (by decide)) fun SC => At.unN ?_)
    rcases car_bsend (m := mm) hcar (by omega) hg2 hpn with ⟨o', id, e, hcar'⟩ | ⟨e1, e2, hlong⟩
    · rw [e]
      refine W.ff rfl ?_
      refine W.fact (A := pksA .u8 SC [pubO (hopM y mm p) id false]) (fun h R => pks_len) fun hSl => ?_
      refine W.bf rfl ?_
      refine W.bf (by rw [show SC.len = 1 from hSl]; rfl) ?_
      refine W.bpure ?_
      refine W.ff (by simp only [hSH, decide_eq_false_iff_not]; omega) ?_
      refine W.opnp pks_iff' fun T hT => ?_
      obtain ⟨⟨c1, p1, o1⟩, rfl, ho1⟩ := List.map_eq_singleton_iff.1 hT
      simp only at ho1
      subst ho1
      refine W.cv2 (A := bigA (pkB .u8) [(c1, p1, pubO (hopM y mm p) id false)]) (B := ownS (eKd .u8) 1 c1 []) (C := ownS encPr 4 p1 (pubO (hopM y mm p) id false).props) (fun h R hs => pkB_iff.1 (bigA_sing.1 hs)) ?_
      refine W.idx (i := 0) (xs := [(c1, p1, pubO (hopM y mm p) id false)].map pkF) (Nat.zero_lt_succ _) fun a ha => ?_
      refine W.loadeN (x := pkF (c1, p1, pubO (hopM y mm p) id false)) (v := pkT (pubO (hopM y mm p) id false) c1 p1) ha rfl ?_
      refine W.callN (arrived_w (o := pubO (hopM y mm p) id false) (c := c1) (p := p1) hx (by show (tagP _).length ≤ _; unfold tagP; split <;> simp) (by
        show ∀ u ∈ tagP _, _
        unfold tagP
        split
        · simp
        · intro u hu
          rw [List.mem_singleton.1 hu]
          exact Nat.le_trans htx (by decide)) ?_)
      rw [car_arr hg2]
      refine At.unN (x := ((y.1, y.2.1, y.2.2.1 + 1, p.2.2.1, ()), (p.2.1, mm.2.1, p.2.2.1, mm.2.2.2.1, e0S, ()), true, ())) ?_
      refine W.newc fun x32 => ?_
      refine W.newc fun x33 => ?_
      refine W.storeN ?_
      refine W.storeN ?_
      refine W.bf rfl ?_
      refine W.bbind (W.loadNo (v := (y.1, y.2.1, ())) ?_)
      refine W.bbind (W.loadNo (v := (y.1, y.2.1, ())) ?_)
      refine W.bf (by simp) ?_
      repeat (first | refine W.bpure ?_ | refine W.bbind ?_ | refine W.newc fun _ => ?_ | refine W.load ?_ | refine W.load0 ?_ | refine W.loadx ?_ | (refine W.loadN ?_; try dsimp only) | (refine W.loadNo ?_; try dsimp only) | refine W.storeN ?_ | refine W.store ?_ | refine W.store0 ?_ | refine W.storex ?_ | refine W.req ?_ rfl | refine W.bt rfl ?_ | refine W.bf rfl ?_ | refine W.tt rfl ?_ | refine W.ff rfl ?_ | refine W.inl ?_ | refine W.inr ?_ | refine W.nonnil ?_ | refine W.bf (Go.H.nbq _) ?_ | refine W.ff (Go.H.nbq _) ?_ | refine W.bf (Go.H.nbd rfl) ?_ | refine W.ff (Go.H.nbd rfl) ?_)
      refine W.bf (by rw [wrap_id (by have := hg.2.1; omega) (by have := hg.2.2.1; omega)]; simp) ?_
      refine W.bbind (W.load ?_)
      refine W.bbind (W.idx (xs := H) hlt fun a ha => ?_)
      refine W.bbind (W.loade ha hy ?_)
      refine W.bf (nbq _) ?_
      refine W.bbind (W.load ?_)
      refine W.bbind (W.idx (xs := H) hlt fun a ha => ?_)
      refine W.bbind (W.loade ha hy ?_)
      refine W.bf (nbd rfl) ?_
      refine W.bbind (W.load ?_)
      refine W.bbind (W.load ?_)
      refine W.bf (nbd rfl) ?_
      refine W.bbind (W.load ?_)
      refine W.bbind (W.load ?_)
      refine W.bf (nbq _) ?_
      refine W.bbind (W.load ?_)
      refine W.bbind (W.load ?_)
      refine W.bpure ?_
      refine W.ff (nbq _) ?_
      exact W.pure ((hnx (i + 1, o') (IntKind.wrap .i64 ((i : Int) + 1), IntKind.wrap .i64 ((i : Int) + 1), ()) (by simp only; omega) ⟨by simp only; rw [wrap_id (by omega) (by omega)]; rfl, by simp only; rw [wrap_id (by omega) (by omega)]; rfl, hltM, hcar'⟩).sub)
    · rw [e1]
      refine W.tt rfl ?_
      refine W.load ?_
      refine W.pure (hd _ _ (W.inr (W.pure ?_)))
      have e3 : decide (32768 < (((hopM y mm p).2.1.size : Nat) : Int)) = true := by
        rw [decide_eq_true_eq]
        show (32768 : Int) < ((mm.2.1.size : Nat) : Int)
        omega
      show At _ (Q (.bool (decide (32768 < (((hopM y mm p).2.1.size : Nat) : Int)))))
      rw [e3]
      exact fin (by repeat (first | with_reducible exact Go.H.has0 | apply Go.H.hasS))
  · have hi : i = M.length := by simp only [hSA, decide_eq_false_iff_not] at hb; omega
    refine W.pure (hd _ _ (W.inl ?_))
    rcases hB with ⟨hbad, rfl⟩ | ⟨hbad, rfl⟩
    · refine W.bite (fun _ => W.bpure (W.pure (fin (by repeat (first | with_reducible exact Go.H.has0 | apply Go.H.hasS))))) (fun _ => ?_)
      refine W.bbind (W.loadN ?_)
      refine W.bbind (W.call1 (Text_w hx.pow (At.un ?_)))
      by_cases e : labelText y.1 y.2.1 y.2.2.1 y.2.2.2 = e0S
      · exact W.bt (by simp [e]) (W.bpure (W.pure (fin (by repeat (first | with_reducible exact Go.H.has0 | apply Go.H.hasS)))))
      · refine W.bf (by simp [e]) ?_
        refine W.bbind (W.load ?_)
        refine W.bpure (W.pure ?_)
        have e3 : decide (32 ≤ y.2.2.1) = true := by
          rw [decide_eq_true_eq]
          rcases hbad with h | h
          · exact absurd h e
          · exact h
        show At _ (Q (.bool (decide (32 ≤ y.2.2.1))))
        rw [e3]
        exact fin (by repeat (first | with_reducible exact Go.H.has0 | apply Go.H.hasS))
    · rw [List.length_map] at hi
      exact W.bt (by simp [hSH, hi]) (W.bpure (W.pure (fin (by repeat (first | with_reducible exact Go.H.has0 | apply Go.H.hasS)))))
end Go.Proofs.YtfhalebbcbgbdaaGreatDoor
namespace Go.Proofs.YtfhalebbcbgbdaaGreatDoor
open Go.ChangeShapes Go.WideShapes Go.ChangeAt Go.RowKit Go.Proofs Go.Lib Go.H
set_option linter.unusedSimpArgs false
set_option linter.unusedVariables false
set_option maxRecDepth 100000
def laid23a : List (String × DataW Unit) := Rows.bridgeArrivesUptoRow.laid
noncomputable def laidWorld (os : Os) : World :=
  let w0 := World.doorLaid Tryz.prog 400 os
  { w0 with heap := w0.heap.modify 6 fun
      | .cells _ t frozen => .cells ((List.range 256).map fun c => Value.int .u8 (firstT c)).toArray t frozen
      | o => o }
theorem laid_met23a (os : Os) (args : Array Value) : laidMetH Tryz.prog laid23a ((laidWorld os).forCall (fun _ _ => 0) ⟨#[], args, []⟩).memory :=
  laidMetH_of_parts3 (fuel := 8) (laidMet_of_run' 8 (by kernel_rfl) (by kernel_rfl)) (by kernel_rfl) (by kernel_rfl)
theorem u8_extra : U8Extra Tryz.prog u8_ren where
  n3 := by kernel_rfl
  n4 := by kernel_rfl
  y3 := by kernel_rfl
  y4 := by kernel_rfl
  c5 := by kernel_rfl
  c119 := by kernel_rfl
  c138 := by kernel_rfl
theorem accept_eq : (Rows.laid_unicode_utf8_acceptRanges : DataW Unit) = acceptData := by kernel_rfl
theorem first_eq : (Rows.laid_unicode_utf8_first : DataW Unit) = firstData := Pinned.utf8First_eq
theorem iface_of_trod {H : Type} {enc : TypeId × Value → H} {P : Program} {w : World} {base : Nat} {sp : Nat → Bool} {fuel : Nat} {t : TypeId} {ms : Array (String × TypeId)} {cs : List Value} {nm : String} {d : DataW H} {p : List MemPlace}
    (ht : P.underlying t = some (.interface ms)) (h : DataW.trod enc P w base sp false fuel t cs = some (.iface nm d, p)) : ∃ u v, cs = [.iface u v] := by
  cases fuel with
  | zero => simp [DataW.trod] at h
  | succ n =>
    simp only [DataW.trod, ht] at h
    split at h
    all_goals first
      | exact ⟨_, _, rfl⟩
      | (cases h; done)
      | (simp at h; done)
      | (rename_i e _; cases e; done)
      | (rename_i e; cases e; done)
theorem cell_of_iface {P : Program} {W : World} {n nm : String} {d : DataW Unit} {g : Nat} {t : TypeId} {ms : Array (String × TypeId)} (h : VarReads P W n (.iface nm d)) (hg : P.globalNamed n = some g)
    (hty : (P.globals[g]?).map (·.type) = some t) (ht : P.underlying t = some (.interface ms)) : ∃ u v, cellH W.heap ⟨g, 0, none⟩ = some (.iface u v) := by
  obtain ⟨g', t', cs, fuel, p, hg', ht', hvar, hd⟩ := h
  obtain rfl := Option.some.inj (hg.symm.trans hg')
  obtain rfl := Option.some.inj (hty.symm.trans ht')
  obtain ⟨u, v, e⟩ := iface_of_trod ht hd
  refine ⟨u, v, ?_⟩
  have := World.var?_cell hg hvar 0
  have e2 : cs[0]? = some (.iface u v) := by rw [← Array.getElem?_toList, e]; rfl
  rw [e2] at this
  exact this
theorem block_of_tab {P : Program} {W : World} {n : String} {k : IntKind} {zs : List Int} {g c : Nat} {t e : TypeId} (h : VarReads P W n (tabData k zs)) (hg : P.globalNamed n = some g)
    (hty : (P.globals[g]?).map (·.type) = some t) (ht : P.underlying t = some (.array c e)) (he : P.underlying e = some (.int k)) (hce : P.cellsOf e = 1) (hct : P.cellsOf t = c) :
    ∃ t' f, W.heap[g]? = some (.cells (zs.map fun z => Value.int k z).toArray t' f) := by
  obtain ⟨g', t', cs, fuel, p, hg', ht', hvar, hd⟩ := h
  obtain rfl := Option.some.inj (hg.symm.trans hg')
  obtain rfl := Option.some.inj (hty.symm.trans ht')
  have hc := cells_of_tab ht he hce hct hd
  unfold World.var? at hvar
  rw [hg] at hvar
  simp only [Option.bind_some] at hvar
  cases hb : W.heap[g]? with
  | none => rw [hb] at hvar; cases hvar
  | some o =>
    rw [hb] at hvar
    cases o with
    | cells cs' t' f =>
      cases hvar
      rw [← hc]
      exact ⟨t', f, by simp⟩
    | _ => cases hvar
abbrev TA (h0 : Heap) : Prop := TX h0 ∧ TP h0
theorem ta_of_laid {W : World} (h : laidMetH Tryz.prog laid23a W) (hsh : W.ShapedOpen Tryz.prog) : TA W.heap := by
  rw [MakeChecks.laidMetH_plain _ _ _ (by kernel_rfl)] at h
  have hmax : ∃ m, cellH W.heap ⟨3, 0, none⟩ = some (.int .i64 m) := cell_of_shapedOpen_int (t := 3) (zero := #[.int .i64 0]) hsh (of_decide_eq_true (by kernel_rfl)) (by kernel_rfl) rfl (by kernel_rfl) (by kernel_rfl) Tryz.underlying3
  refine ⟨⟨?_, hmax, ?_, ?_⟩, ⟨?_, hmax⟩⟩
  · have h1 := laidMet.reads h (n := "internal/strconv.uint64pow10") (d := Rows.laid_internal_strconv_uint64pow10) (by unfold laid23a Rows.bridgeArrivesUptoRow; simp)
    rw [show (Rows.laid_internal_strconv_uint64pow10 : DataW Unit) = tabData .u64 pow10Tab by kernel_rfl] at h1
    exact block_of_tab h1 (by kernel_rfl) (by kernel_rfl) Tryz.underlying274 Tryz.underlying125 (by kernel_rfl) (by kernel_rfl)
  · have h1 := laidMet.reads h (n := "strconv.ErrSyntax") (d := Rows.laid_strconv_ErrSyntax) (by unfold laid23a Rows.bridgeArrivesUptoRow; simp)
    exact cell_of_iface h1 (by kernel_rfl) (by kernel_rfl) Tryz.underlying167
  · have h1 := laidMet.reads h (n := "strconv.ErrRange") (d := Rows.laid_strconv_ErrRange) (by unfold laid23a Rows.bridgeArrivesUptoRow; simp)
    exact cell_of_iface h1 (by kernel_rfl) (by kernel_rfl) Tryz.underlying167
  · have h4 := laidMet.reads h (n := "unicode/utf8.acceptRanges") (d := Rows.laid_unicode_utf8_acceptRanges) (by unfold laid23a Rows.bridgeArrivesUptoRow; simp)
    have h3 := laidMet.reads h (n := "unicode/utf8.first") (d := Rows.laid_unicode_utf8_first) (by unfold laid23a Rows.bridgeArrivesUptoRow; simp)
    rw [accept_eq] at h4
    rw [first_eq] at h3
    have ht := utf8Tabs_of_readsT (L := { u8 with }) u8_extra h3 h4
    exact ⟨fun c hc => ht.1 c hc, fun i hi => ht.2 i hi⟩
def okB {H : Type} (t : TypeId) (d : DataW H) : Prop := Rows.uptoBulk d ≤ 1048576
theorem bulk_mem {H : Type} : ∀ {l : List (DataW H)} {d : DataW H}, d ∈ l → Rows.uptoBulk d ≤ Rows.uptoBulkAll l
  | x :: l, d, h => by
    simp only [Rows.uptoBulkAll]
    rcases List.mem_cons.1 h with rfl | h
    · omega
    · have := bulk_mem h
      omega
theorem bulk_pos {H : Type} (d : DataW H) : 1 ≤ Rows.uptoBulk d := by
  cases d with
  | lit l => cases l <;> simp [Rows.uptoBulk]
  | _ => simp [Rows.uptoBulk]
theorem bulk_len {H : Type} : ∀ (l : List (DataW H)), l.length ≤ Rows.uptoBulkAll l
  | [] => Nat.zero_le _
  | d :: l => by
    have := bulk_len l
    have := bulk_pos d
    simp only [List.length_cons, Rows.uptoBulkAll]
    omega
theorem okB_law {H : Type} : Go.R.OkLaw (H := H) Tryz.prog okB 1048576 (fun _ => 1) where
  str h := by simp only [okB, Rows.uptoBulk] at h; omega
  elem _ h hd := by simp only [okB, Rows.uptoBulk] at h ⊢; have := bulk_mem hd; omega
  cnt {t e elems rest} _ h := by simp only [okB, Rows.uptoBulk] at h; have := bulk_len elems; omega
  field _ h _ hd := by simp only [okB, Rows.uptoBulk] at h ⊢; have := bulk_mem (List.mem_of_getElem? hd); omega
  arr _ h hd := by simp only [okB, Rows.uptoBulk] at h ⊢; have := bulk_mem hd; omega
abbrev MsG := ByteArray × ByteArray × Int × Bool × ByteArray
abbrev encMG (x : MsG) : List Value := [.string x.1, .string x.2.1, .int .i64 x.2.2.1, .bool x.2.2.2.1, .string x.2.2.2.2]
abbrev goodM23 (top : Nat) (x : MsG) : Prop := x.1.size ≤ top ∧ x.2.1.size ≤ top ∧ (Lit.int .i64 x.2.2.1).wf = true ∧ True ∧ x.2.2.2.2.size ≤ top
section
variable {H : Type} {ec : TypeId × Value → H} {w : World} {base : Nat} {sp : Nat → Bool} {held : Bool} {ok : TypeId → DataW H → Prop} {top : Nat} {wt : TypeId → Nat}
theorem rd_Msg23 (hk : Go.R.OkLaw Tryz.prog ok top wt) : Go.R.RdG ec Tryz.prog w base sp held ok 23 encMG (goodM23 top) :=
  Go.R.rg_struct hk Tryz.underlying23 (n := 5) (by kernel_rfl)
    (Go.R.rf_cons (c := 1) (by kernel_rfl) (by rfl) (Go.R.rg_str hk Tryz.underlying9) (Go.R.rf_cons (c := 1) (by kernel_rfl) (by rfl) (Go.R.rg_str hk Tryz.underlying9) (Go.R.rf_cons (c := 1) (by kernel_rfl) (by rfl) (Go.R.rg_int Tryz.underlying3)
      (Go.R.rf_cons (c := 1) (by kernel_rfl) (by rfl) (Go.R.rg_bool Tryz.underlying4) (Go.R.rf_one (c := 1) (by kernel_rfl) (by rfl) (by decide) (Go.R.rg_str hk Tryz.underlying9))))))
end
end Go.Proofs.YtfhalebbcbgbdaaGreatDoor
namespace Go.Proofs.YtfhalebbcbgbdaaGreatDoor
open Go.ChangeShapes Go.WideShapes Go.ChangeAt Go.RowKit Go.Proofs Go.Lib Go.H
set_option linter.unusedSimpArgs false
set_option linter.unusedVariables false
set_option maxRecDepth 100000
abbrev RuleQ := ByteArray × Int × Int × ByteArray × ByteArray
abbrev encRq (x : RuleQ) : List Value := [.string x.1, .int .i64 x.2.1, .int .i64 x.2.2.1, .string x.2.2.2.1, .string x.2.2.2.2]
abbrev goodRq (top : Nat) (x : RuleQ) : Prop := x.1.size ≤ top ∧ (Lit.int .i64 x.2.1).wf = true ∧ (Lit.int .i64 x.2.2.1).wf = true ∧ x.2.2.2.1.size ≤ top ∧ x.2.2.2.2.size ≤ top
section
variable {H : Type} {ec : TypeId × Value → H} {w : World} {base : Nat} {sp : Nat → Bool} {held : Bool} {ok : TypeId → DataW H → Prop} {top : Nat} {wt : TypeId → Nat}
theorem rd_Rule23 (hk : Go.R.OkLaw Tryz.prog ok top wt) : Go.R.RdG ec Tryz.prog w base sp held ok 127 encRq (goodRq top) :=
  Go.R.rg_struct hk Tryz.underlying127 (n := 5) (by kernel_rfl)
    (Go.R.rf_cons (c := 1) (by kernel_rfl) (by rfl) (Go.R.rg_str hk Tryz.underlying9) (Go.R.rf_cons (c := 1) (by kernel_rfl) (by rfl) (Go.R.rg_int Tryz.underlying3) (Go.R.rf_cons (c := 1) (by kernel_rfl) (by rfl) (Go.R.rg_int Tryz.underlying3)
      (Go.R.rf_cons (c := 1) (by kernel_rfl) (by rfl) (Go.R.rg_str hk Tryz.underlying9) (Go.R.rf_one (c := 1) (by kernel_rfl) (by rfl) (by decide) (Go.R.rg_str hk Tryz.underlying9))))))
theorem rd_Rules23 (hk : Go.R.OkLaw Tryz.prog ok top wt) : Go.R.RdG ec Tryz.prog w base sp held ok 61 (fun x : Slc × List RuleQ => [.slice x.1.a x.1.len x.1.cap]) (Go.R.GoodG encRq 5 (wt 127) top w.heap (goodRq top)) :=
  Go.R.rg_slice hk Tryz.underlying61 (by kernel_rfl) rfl (rd_Rule23 hk)
theorem rd_Lab23 (hk : Go.R.OkLaw Tryz.prog ok top wt) : Go.R.RdG ec Tryz.prog w base sp held ok 64 (fun x : Int × Int × Int × Int => [.int .i64 x.1, .int .i64 x.2.1, .int .i64 x.2.2.1, .int .i64 x.2.2.2]) (fun x => (Lit.int .i64 x.1).wf = true ∧ (Lit.int .i64 x.2.1).wf = true ∧ (Lit.int .i64 x.2.2.1).wf = true ∧ (Lit.int .i64 x.2.2.2).wf = true) :=
  Go.R.rg_struct hk Tryz.underlying64 (n := 4) (by kernel_rfl)
    (Go.R.rf_cons (c := 1) (by kernel_rfl) (by rfl) (Go.R.rg_int Tryz.underlying3) (Go.R.rf_cons (c := 1) (by kernel_rfl) (by rfl) (Go.R.rg_int Tryz.underlying2) (Go.R.rf_cons (c := 1) (by kernel_rfl) (by rfl) (Go.R.rg_int Tryz.underlying3)
      (Go.R.rf_one (c := 1) (by kernel_rfl) (by rfl) (by decide) (Go.R.rg_int Tryz.underlying3)))))
end
theorem rules_row {h : Heap} {s : Slc} {xs : List RuleQ} (hr : RowAt encRq 5 h s xs) : RowAt encRu 5 h s (xs.map fun x => ((x.1, x.2.1, x.2.2.1, x.2.2.2.1, x.2.2.2.2, ()) : RuleT)) := by
  refine ⟨by rw [hr.1, List.length_map], hr.2.1, fun i x hx => ?_⟩
  rw [List.getElem?_map] at hx
  cases hy : xs[i]? with
  | none => rw [hy] at hx; cases hx
  | some y => rw [hy] at hx; cases hx; exact hr.2.2 i y hy
end Go.Proofs.YtfhalebbcbgbdaaGreatDoor
