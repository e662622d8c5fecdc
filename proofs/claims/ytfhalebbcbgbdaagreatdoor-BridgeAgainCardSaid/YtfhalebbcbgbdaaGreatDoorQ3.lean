/-
  Q3: what the proof BridgeAgainProof reaches of our texts: Cbra, Kwrt, Cwrt, Cvar, Cptx, Cbld, Cptp, Cidu, Crpp, Cinf, Cwrp, Cpub, Cbrs, Cbrl, Cbrw, L23g, L23h, HC, D23, D23g.
-/
import Derived.Test.YtfhalebbcbgbdaaGreatDoorQ2
import Derived.Shelf.Strings.Builder1
import Derived.ChangeArms
import Derived.DataReads
import Derived.SizedLaws
import Derived.Handed
import Derived.Test.YtfhalebbcbgbdaaGreatDoorRows
import Derived.Test.YtfhalebbcbgbdaaGreatDoorChecked
import Derived.Shelf.Vars
import Derived.ProofKit
import Derived.LaidMore
import Derived.LaidHandle
import Derived.OpenShut
import Derived.Stop.Joined
import Derived.Lib.LaidU8T
import Derived.PinnedBridge
namespace Go.Proofs.YtfhalebbcbgbdaaGreatDoor
open Go.H Go.Proofs
set_option linter.unusedSimpArgs false
set_option linter.unusedVariables false
set_option maxRecDepth 100000
variable {h h0 : Heap} {R : List Asn}
theorem bbegin_spec {b : Nat} {rs : List RuleT} {o : OutS} (hs : sat h (brgA b rs o :: R)) (hok : FlowOK o) {Q : Value → Heap → Prop}
    (hq : ∀ S h', sat h' (brgA b rs (beginF o 64).1 :: pksA .u8 S (beginF o 64).2 :: R) → Q (.slice S.a S.len S.cap) h') : HCalls Tryz.prog 20 #[at0 b] h Q := by
  refine bridge_Bridge_Begin_calls (some ⟨b, 0, none⟩) h Q ?_
  unfold bridge_Bridge_Begin
  obtain ⟨S, ob, hs1⟩ := brgA_iff.1 hs
  (try dsimp only); rw [HM.ite_apply, if_neg (by simp)]
  refine ⟨_, rfl, some ⟨ob, 0, none⟩, by rw [add_own]; exact hs1.cell 1, ?_⟩
  refine bind_call1 (obegin_spec (hs1.re [2, 0, 1]) hok fun S' h' hs2 => ⟨S', rfl, ?_⟩)
  refine hq S' h' (brgA_iff.2 ⟨S, ob, hs2.re [2, 3, 0, 1]⟩)
theorem bend_spec {b : Nat} {rs : List RuleT} {o : OutS} (hs : sat h (brgA b rs o :: R)) {Q : Value → Heap → Prop}
    (hq : ∀ h', sat h' (brgA b rs { o with on := false } :: R) → Q (.tuple #[]) h') : HCalls Tryz.prog 22 #[at0 b] h Q := by
  refine bridge_Bridge_End_calls (some ⟨b, 0, none⟩) h Q ?_
  unfold bridge_Bridge_End
  obtain ⟨S, ob, hs1⟩ := brgA_iff.1 hs
  (try dsimp only); rw [HM.bind_apply, HM.ite_apply, if_pos (by simp)]
  refine ⟨_, rfl, some ⟨ob, 0, none⟩, by rw [add_own]; exact hs1.cell 1, ?_⟩
  refine bind_callN ?_
  refine outflow_Flow_End_calls (some ⟨ob, 0, none⟩) h _ ?_
  unfold outflow_Flow_End
  (try dsimp only); rw [HM.bind_apply, HM.ite_apply, if_pos (by simp)]
  obtain ⟨pb, fl, wt, hs2⟩ := outA_iff.1 (hs1.re [2, 0, 1])
  refine ⟨_, rfl, ?_⟩
  (try dsimp only); rw [HM.bind_apply, add_own]
  refine store1_cells hs2 (by simp) rfl fun h1 hs3 => ?_
  refine ⟨(), rfl, hq h1 (brgA_iff.2 ⟨S, ob, ?_⟩)⟩
  have : sat h1 (outA ob { o with on := false } :: cells b #[.slice S.a S.len S.cap, at0 ob] :: ownS encRu 5 S rs :: R) := outA_iff.2 ⟨pb, fl, wt, hs3⟩
  exact this.re [1, 2, 0]
theorem bans_spec {b : Nat} {rs : List RuleT} {o : OutS} {p : Pk} (hs : sat h (brgA b rs o :: R)) (hok : FlowOK o) {Q : Value → Heap → Prop}
    (hq : ∀ S h', sat h' (brgA b rs (ansF o p.1 p.2.2.2.2.1 p.2.2.2.2.2.2.2.1).1.1 :: pksA .u8 S (ansF o p.1 p.2.2.2.2.1 p.2.2.2.2.2.2.2.1).1.2 :: R) → Q (.tuple #[.slice S.a S.len S.cap, .int .u8 (ansF o p.1 p.2.2.2.2.1 p.2.2.2.2.2.2.2.1).2]) h') :
    HCalls Tryz.prog 18 #[at0 b, vPkK .u8 p] h Q := by
  refine bridge_Bridge_Answer_calls (some ⟨b, 0, none⟩) p h Q ?_
  unfold bridge_Bridge_Answer
  obtain ⟨S, ob, hs1⟩ := brgA_iff.1 hs
  refine new_cells hs1 fun x1 h1 hs2' => ?_
  have hs2 : sat h1 (cells x1 (encPkK .u8 p).toArray :: cells b #[.slice S.a S.len S.cap, at0 ob] :: ownS encRu 5 S rs :: outA ob o :: R) := hs2'
  (try dsimp only); rw [HM.ite_apply, if_neg (by simp)]
  refine ⟨_, rfl, some ⟨ob, 0, none⟩, by rw [add_own]; exact hs2.p1.cell 1, ?_⟩
  refine loadN_cells (ts := Pk_tK .u8) p hs2 rfl ?_
  refine bind_callN (oans_spec (p := p) (hs2.p3) hok fun S' h' hs3 => ⟨(S', _, ()), rfl, ?_⟩)
  refine hq S' h' (brgA_iff.2 ⟨S, ob, (hs3.re [2, 3, 4, 0, 1]).drop⟩)
end Go.Proofs.YtfhalebbcbgbdaaGreatDoor
namespace Go.Proofs.YtfhalebbcbgbdaaGreatDoor
open Go.Shelf Go.RowKit Go.Proofs
set_option linter.unusedVariables false
set_option linter.unusedSimpArgs false
section
variable {P : Program} {ρ : Ren}
set_option maxHeartbeats 1000000 in
set_option maxRecDepth 100000 in
theorem check_part (L : Lays.n240 P ρ) (X : Builder.X72 P ρ) {b n : Nat} {E : TypeId} {w : World} (h0 : w.cell? ⟨b, 0, none⟩ = some (.pointer none)) (hsh : w.shape? b = some (E, n)) (hn : 0 < n) (hl : liesAt P P.depth E (n / P.cellsOf E) 0 (ρ.t 72) 1 = true) (hfz : w.frozen? ⟨b, 0, none⟩ = false) :
    Calls P (ρ.f 240) #[.pointer (some ⟨b, 0, none⟩)] w fun e w' => e = .returned (.tuple #[]) ∧ w' = w.setCell ⟨b, 0, none⟩ (.pointer (some ⟨b, 0, none⟩)) := by
  obtain ⟨j, hj, hjs⟩ := Option.map_eq_some_iff.1 X.sizeBuilder
  have mixed := L.mixed
  have v72 := L.v72; have u72 := run_underlying L.t72; have z72 := L.z72; have a72 := L.a72; have t72 := L.t72
  have v70 := L.v70; have u70 := run_underlying L.t70; have z70 := L.z70; have a70 := L.a70; have t70 := L.t70
  have v9 := L.v9; have u9 := run_underlying L.t9; have z9 := L.z9; have a9 := L.a9; have t9 := L.t9
  have v4 := L.v4; have u4 := run_underlying L.t4; have z4 := L.z4; have a4 := L.a4; have t4 := L.t4
  have v164 := L.v164; have u164 := run_underlying L.t164; have z164 := L.z164; have a164 := L.a164; have t164 := L.t164
  go_enter L.f240, Body.n240_ntmps ρ
  go_wp2
  rw [Lib.run_to_unsafe w ⟨b, 0, none⟩ L.t70 L.t164 hj (by rw [hjs]; decide) hsh hn]
  simp only [Result.andThen]
  rw [Oper.upon_value]
  go_wp2
  rw [run_callFunc_extern L.f276 (by kernel_rfl) (by kernel_rfl) (by kernel_rfl) (e := Extern.AbiNoEscape.same) (by kernel_rfl), Lib.run_noEscape]
  simp only [Result.andThen]
  rw [Oper.upon_value]
  go_wp2
  rw [Lib.run_from_unsafe w ⟨b, 0, none⟩ L.t164 L.t70 hj hsh hl]
  simp only [Result.andThen]
  rw [Oper.upon_value]
  go_wp2
  go_end0
  exact ⟨rfl, rfl⟩
set_option maxHeartbeats 2000000 in
set_option maxRecDepth 100000 in
theorem text_part (L : Lays.n169 P ρ) (X : Builder.Extra P ρ) {B b g cap : Nat} {cur : Array Value} {l : List UInt8} {w : World} (h0 : l ≠ []) (hc : w.cell? ⟨b, 1, none⟩ = some (.slice (some ⟨g, 0, none⟩) l.length cap)) (hbg : B ≤ g)
    (hg : w.heap[g]? = some (.cells cur (ρ.t 5) (0, 0))) (hnc : l.length ≤ cap) (hcm : cap ≤ 9223372036854775807) (hcs : cur.size = cap) (hb : ∀ j (x : UInt8), l[j]? = some x → w.cell? ((⟨g, 0, none⟩ : Addr).add j) = some (.int .u8 x.toNat)) :
    Calls P (ρ.f 169) #[.pointer (some ⟨b, 0, none⟩)] w fun e w' => e = .returned (.string ⟨l.toArray⟩) ∧ Below B w w' := by
  have hl0 : l.length ≠ 0 := by simpa using h0
  have c1 : w.drew.cell? ⟨b, 1, none⟩ = some (.slice (some ⟨g, 0, none⟩) l.length cap) := hc
  have hSD : (Builtin.unsafeSliceData_ #[(ρ.t 37)] (ρ.t 127) #[.slice (some ⟨g, 0, none⟩) l.length cap]).run P w.drew = .ok (.pointer (some ⟨g, 0, none⟩)) w.drew :=
    Lib.run_unsafeSliceData_row _ _ _ _ _ _ (by omega)
  have hUS : (Builtin.unsafeString_ #[(ρ.t 127), (ρ.t 3)] (ρ.t 9) #[.pointer (some ⟨g, 0, none⟩), .int .i64 l.length]).run P w.drew = .ok (.string ⟨l.toArray⟩) (w.drew.freeze ⟨g, 0, none⟩ l.length) := by
    have hg' : w.drew.heap[g]? = some (.cells cur (ρ.t 5) (0, 0)) := hg
    exact Lib.run_unsafeString_row w.drew (ρ.t 127) (ρ.t 3) (ρ.t 9) (ρ.t 5) L.t127 X.cellsByte g cur.size (by simp [World.shape?, hg']) l h0 (by omega) (by omega) hb
  have mixed := L.mixed
  have v72 := L.v72; have u72 := run_underlying L.t72; have z72 := L.z72; have a72 := L.a72; have t72 := L.t72
  have v70 := L.v70; have u70 := run_underlying L.t70; have z70 := L.z70; have a70 := L.a70; have t70 := L.t70
  have v37 := L.v37; have u37 := run_underlying L.t37; have z37 := L.z37; have a37 := L.a37; have t37 := L.t37
  have v127 := L.v127; have u127 := run_underlying L.t127; have z127 := L.z127; have a127 := L.a127; have t127 := L.t127
  have v3 := L.v3; have u3 := run_underlying L.t3; have z3 := L.z3; have a3 := L.a3; have t3 := L.t3
  have v9 := L.v9; have u9 := run_underlying L.t9; have z9 := L.z9; have a9 := L.a9; have t9 := L.t9
  have v5 := X.v5; have u5 := run_underlying X.t5; have z5 := X.z5; have a5 := X.a5; have t5 := X.t5
  go_enter L.f169, Body.n169_ntmps ρ
  go_wp2
  go_region_o
  all_goals (go_wp2; go_ret; exact ⟨rfl, Lib.below_freeze (Below.drew (Below.refl B w)) (p := ⟨g, 0, none⟩) hbg _⟩)
end
end Go.Proofs.YtfhalebbcbgbdaaGreatDoor
namespace Go.Proofs.YtfhalebbcbgbdaaGreatDoor
open Go.H Go.Proofs Go.Lib
open Go.RowKit (Below)
set_option linter.unusedSimpArgs false
set_option linter.unusedVariables false
set_option maxRecDepth 100000
abbrev ptrW (b : Nat) : Value := .pointer (some ⟨b, 0, none⟩)
def wrA (b : Nat) (xs : List Int) (c : Int) : Asn := exA fun x : Value × Slc => star (pr (x.1 = .pointer none ∨ x.1 = ptrW b)) (star (blk b (.cells #[x.1, .slice x.2.a x.2.len x.2.cap, .int .u8 c] 201 (0, 0))) (bufA 5 x.2 xs))
variable {h h0 : Heap} {R : List Asn}
theorem wrA_iff {b : Nat} {xs : List Int} {c : Int} : sat h (wrA b xs c :: R) ↔ ∃ (p : Value) (s : Slc), (p = .pointer none ∨ p = ptrW b) ∧ sat h (blk b (.cells #[p, .slice s.a s.len s.cap, .int .u8 c] 201 (0, 0)) :: bufA 5 s xs :: R) := by
  unfold wrA
  rw [sat.ex_iff]
  constructor
  · rintro ⟨⟨p, s⟩, hs⟩
    rw [sat.star_iff, sat.pr_iff, sat.star_iff] at hs
    exact ⟨p, s, hs⟩
  · rintro ⟨p, s, hs⟩
    refine ⟨(p, s), ?_⟩
    rw [sat.star_iff, sat.pr_iff, sat.star_iff]
    exact hs
theorem wr_new {Q : Nat → Heap → Prop} (hs : sat h R) (hq : ∀ b h', sat h' (wrA b [] 0 :: R) → Q b h') : HM.new (.cells #[.pointer none, .slice none 0 0, .int .u8 0] 201) h Q :=
  hq _ _ (wrA_iff.2 ⟨.pointer none, ⟨none, 0, 0⟩, .inl rfl, (bufA_nil (T := 5) hs.push).p1⟩)
theorem wcheck_spec {b : Nat} {xs : List Int} {c : Int} (hs : sat h (wrA b xs c :: R)) {Q : Value → Heap → Prop}
    (hq : ∀ (s : Slc) h', sat h' (blk b (.cells #[ptrW b, .slice s.a s.len s.cap, .int .u8 c] 201 (0, 0)) :: bufA 5 s xs :: R) → Q (.tuple #[]) h') : HCalls Tryz.prog 143 #[ptrW b] h Q := fun w hw => by
  subst hw
  obtain ⟨p, s, hp, hs⟩ := wrA_iff.1 hs
  have hg := hs.get
  rcases hp with rfl | rfl
  · refine (check_part { joinL with } joinX.toX72 (b := b) (n := 3) (E := 201) (w := w) (by simp [World.cell?, hg]) (by simp [World.shape?, hg]) (by decide) (by kernel_rfl) (by simp [World.frozen?, hg])).mono ?_
    rintro e w' ⟨rfl, rfl⟩
    exact ⟨_, rfl, ⟨rfl, rfl, rfl⟩, hq s _ (blk_set hs 0 (ptrW b))⟩
  · refine (Any.Builder_copyCheck_used { joinL with } joinX.toX72 b w (by simp [World.cell?, hg])).mono ?_
    rintro e w' ⟨rfl, rfl⟩
    exact ⟨_, rfl, ⟨rfl, rfl, rfl⟩, hq s _ hs⟩
theorem wwrite_spec {b : Nat} {xs : List Int} {c : Int} {t : ByteArray} (hs : sat h (wrA b xs c :: R)) (hb : xs.length + t.size ≤ 140737488355328) {Q : Value → Heap → Prop}
    (hq : ∀ h', sat h' (wrA b (xs ++ intsS t) c :: R) → Q (.tuple #[.int .i64 ((t.size : Nat) : Int), .nilIface]) h') : HCalls Tryz.prog 100 #[ptrW b, .string t] h Q := by
  refine strings_Builder_WriteString_calls (some ⟨b, 0, none⟩) t h Q ?_
  unfold strings_Builder_WriteString
  refine bind_callN (wcheck_spec hs fun s h1 hs1 => ⟨(), rfl, ?_⟩)
  have hg := hs1.get
  refine ⟨_, rfl, s, by rw [add_own]; simp [cellH, hg], ?_⟩
  (try dsimp only); rw [HM.bind_apply]
  refine append_buf hs1.p1 hb fun s' h2 hs2 => ?_
  have hg2 := hs2.p1.get
  refine ⟨_, rfl, ?_⟩
  (try dsimp only); rw [HM.bind_apply, add_own]
  refine ⟨by simp [cellH, hg2], by simp [frozenH, hg2], rfl, ?_⟩
  exact hq _ (wrA_iff.2 ⟨ptrW b, s', .inr rfl, blk_set hs2.p1 1 (.slice s'.a s'.len s'.cap)⟩)
theorem wlen_spec {b : Nat} {xs : List Int} {c : Int} (hs : sat h (wrA b xs c :: R)) {Q : Value → Heap → Prop} (hq : Q (.int .i64 ((xs.length : Nat) : Int)) h) : HCalls Tryz.prog 87 #[ptrW b] h Q := by
  refine strings_Builder_Len_calls (some ⟨b, 0, none⟩) h Q ?_
  unfold strings_Builder_Len
  obtain ⟨p, s, hp, hs⟩ := wrA_iff.1 hs
  have hg := hs.get
  have hl : s.len = xs.length := by
    rcases bufA_cases hs.p1 with ⟨rfl, rfl, -⟩ | ⟨g, cur, hf, -⟩
    · rfl
    · exact hf.len
  refine ⟨_, rfl, s, by rw [add_own]; simp [cellH, hg], ?_⟩
  have := hq
  rw [← hl] at this
  exact this
theorem wcode {b : Nat} {xs : List Int} {c : Int} (hs : sat h (wrA b xs c :: R)) : cellH h ⟨b, 2, none⟩ = some (.int .u8 c) := by
  obtain ⟨p, s, hp, hs⟩ := wrA_iff.1 hs
  have hg := hs.get
  simp [cellH, hg]
def firstC (c d : Int) : Int := if c = 0 then d else c
theorem wfail_spec {b : Nat} {xs : List Int} {c d : Int} (hs : sat h (wrA b xs c :: R)) {Q : Value → Heap → Prop}
    (hq : ∀ h', sat h' (wrA b xs (firstC c d) :: R) → Q (.tuple #[]) h') : HCalls Tryz.prog 84 #[ptrW b, .int .u8 d] h Q := by
  refine packet_writer_fail_calls (some ⟨b, 0, none⟩) d h Q ?_
  unfold packet_writer_fail
  refine ⟨_, rfl, c, by rw [add_own]; exact wcode hs, ?_⟩
  (try dsimp only); rw [HM.bind_apply, HM.ite_apply]
  by_cases hc : c = 0
  · rw [if_pos (by simpa using hc)]
    obtain ⟨p, s, hp, hs1⟩ := wrA_iff.1 hs
    have hg := hs1.get
    refine ⟨_, rfl, ?_⟩
    (try dsimp only); rw [HM.bind_apply, add_own]
    refine ⟨by simp [cellH, hg], by simp [frozenH, hg], rfl, ?_⟩
    refine hq _ ?_
    rw [show firstC c d = d from if_pos hc]
    exact wrA_iff.2 ⟨p, s, hp, blk_set hs1 2 (.int .u8 d)⟩
  · rw [if_neg (by simpa using hc)]
    have := hq h
    rw [show firstC c d = c from if_neg hc] at this
    exact this hs
theorem wpart_spec {b : Nat} {xs : List Int} {c d : Int} {t : ByteArray} (hs : sat h (wrA b xs c :: R)) (hb : xs.length + t.size ≤ 140737488355328) {Q : Value → Heap → Prop}
    (hq : ∀ h', sat h' (wrA b (xs ++ intsS t) (firstC c d) :: R) → Q (.tuple #[]) h') : HCalls Tryz.prog 164 #[ptrW b, .string t, .int .u8 d] h Q := by
  refine packet_writer_part_calls (some ⟨b, 0, none⟩) t d h Q ?_
  unfold packet_writer_part
  refine bind_callN (wfail_spec hs fun h1 hs1 => ⟨(), rfl, ?_⟩)
  refine ⟨_, rfl, ?_⟩
  refine bind_callN (wwrite_spec hs1 hb fun h2 hs2 => ⟨(_, .nilIface, ()), rfl, ?_⟩)
  exact hq h2 hs2
theorem wtext_spec {b : Nat} {xs : List Int} {c : Int} {hB : Heap} (hs : sat h (wrA b xs c :: old hB :: R)) (hx : ∀ x ∈ xs, 0 ≤ x ∧ x < 256) (h0 : xs ≠ []) {Q : Value → Heap → Prop}
    (hq : ∀ h', (∀ (k : Nat) o, hB[k]? = some o → h'[k]? = some o) → Q (.string (bytesOfInts xs)) h') : HCalls Tryz.prog 90 #[ptrW b] h Q := fun w hw => by
  subst hw
  obtain ⟨p, s, hp, hs⟩ := wrA_iff.1 hs
  have hg := hs.get
  rcases bufA_cases hs.p1 with ⟨rfl, rfl, -⟩ | ⟨g, cur, hf, hs1⟩
  · exact absurd rfl h0
  have hgg := hs1.get
  have hle : hB.size ≤ g := fresh_old (hs1.re [0, 2, 1])
  have hll : (xs.map fun x : Int => UInt8.ofNat x.toNat).length = s.len := by rw [List.length_map, hf.len]
  refine (text_part (ρ := joinL_ren) { joinL with } joinX (B := hB.size) (b := b) (g := g) (cap := s.cap) (cur := cur) (l := xs.map fun x : Int => UInt8.ofNat x.toNat) (w := w) (by simpa using h0) ?_ hle hgg (by rw [hll]; exact hf.le) hf.cap hf.size ?_).mono ?_
  · rw [hll, ← hf.a]
    simp [World.cell?, hg]
  · intro j x hj
    have hfr := hf.front
    have hxj : (xs.map (Value.int .u8))[j]? = some (.int .u8 x.toNat) := by
      rw [List.getElem?_map] at hj ⊢
      cases hxs : xs[j]? with
      | none => rw [hxs] at hj; cases hj
      | some y =>
        rw [hxs] at hj
        simp only [Option.map_some, Option.some.injEq] at hj ⊢
        obtain ⟨h1, h2⟩ := hx y (List.mem_of_getElem? hxs)
        rw [← hj]
        simp only [UInt8.toNat_ofNat']
        congr 1
        omega
    rw [← hfr, List.getElem?_take] at hxj
    split at hxj
    · rw [add_own]
      have : w.cell? ⟨g, j, none⟩ = cur[j]? := by simp [World.cell?, hgg]
      rw [this]
      simpa using hxj
    · cases hxj
  rintro e w' ⟨rfl, hbel⟩
  have e1 : (⟨(xs.map fun x : Int => UInt8.ofNat x.toNat).toArray⟩ : ByteArray) = bytesOfInts xs := data_inj (by rw [ints_data])
  rw [e1]
  refine ⟨_, rfl, below_same hbel, hq _ fun k o hk => ?_⟩
  have hlt := (Array.getElem?_eq_some_iff.1 hk).1
  rw [hbel.block k hlt]
  exact (hs.re [2, 0, 1]).old_get hk
end Go.Proofs.YtfhalebbcbgbdaaGreatDoor
namespace Go.Proofs.YtfhalebbcbgbdaaGreatDoor
open Go.H Go.Proofs Go.Lib
set_option linter.unusedSimpArgs false
set_option linter.unusedVariables false
set_option maxRecDepth 100000
variable {h h0 : Heap} {R : List Asn}
def sizeV (n : Nat) : Nat := if n < 128 then 1 else if n < 16384 then 2 else if n < 2097152 then 3 else 4
theorem sizeV_pos (n : Nat) : 1 ≤ sizeV n ∧ sizeV n ≤ 4 := by unfold sizeV; split <;> (try split) <;> (try split) <;> omega
def vI (k n i : Nat) : Int := ((n / 128 ^ i % 128 + (if i + 1 < k then 128 else 0) : Nat) : Int)
def vLs (n : Nat) : List Int := (List.range (sizeV n)).map (vI (sizeV n) n)
def vB (n : Nat) : ByteArray := bytesOfInts (vLs n)
theorem vB_size (n : Nat) : (vB n).size = sizeV n := by unfold vB vLs; rw [ints_size, List.length_map, List.length_range]
theorem vsize_spec {n : Nat} (hn : n ≤ 268435455) {Q : Value → Heap → Prop} (hq : Q (.int .i64 (sizeV n)) h) : HCalls Tryz.prog 128 #[.int .i64 n] h Q := by
  refine varint_Size_calls n h Q ?_
  unfold varint_Size
  have w1 : IntKind.wrap .i64 (0 + 1) = 1 := by decide
  have w2 : IntKind.wrap .i64 (1 + 1) = 2 := by decide
  have w3 : IntKind.wrap .i64 (2 + 1) = 3 := by decide
  have w4 : IntKind.wrap .i64 (3 + 1) = 4 := by decide
  unfold sizeV at hq
  have a1 : ¬ ((n : Int) < 0) := by omega
  have a2 : ¬ (268435455 < (n : Int)) := by omega
  by_cases b1 : n < 128
  · rw [if_pos b1] at hq
    have c1 : ¬ (128 ≤ (n : Int)) := by omega
    have c2 : ¬ (16384 ≤ (n : Int)) := by omega
    have c3 : ¬ (2097152 ≤ (n : Int)) := by omega
    simp [HM.bind_apply, HM.ite_apply, HM.pure_apply, a1, a2, c1, c2, c3, w1]
    exact hq
  rw [if_neg b1] at hq
  have c1 : 128 ≤ (n : Int) := by omega
  by_cases b2 : n < 16384
  · rw [if_pos b2] at hq
    have c2 : ¬ (16384 ≤ (n : Int)) := by omega
    have c3 : ¬ (2097152 ≤ (n : Int)) := by omega
    simp [HM.bind_apply, HM.ite_apply, HM.pure_apply, a1, a2, c1, c2, c3, w1, w2]
    exact hq
  rw [if_neg b2] at hq
  have c2 : 16384 ≤ (n : Int) := by omega
  by_cases b3 : n < 2097152
  · rw [if_pos b3] at hq
    have c3 : ¬ (2097152 ≤ (n : Int)) := by omega
    simp [HM.bind_apply, HM.ite_apply, HM.pure_apply, a1, a2, c1, c2, c3, w1, w2, w3]
    exact hq
  rw [if_neg b3] at hq
  have c3 : 2097152 ≤ (n : Int) := by omega
  simp [HM.bind_apply, HM.ite_apply, HM.pure_apply, a1, a2, c1, c2, c3, w1, w2, w3, w4]
  exact hq
theorem and127 (m : Nat) (hm : m ≤ 268435455) : bitOp .and .i64 (m : Int) 127 = ((m % 128 : Nat) : Int) := by
  show IntKind.wrap .i64 (((BitVec.ofInt 64 (m : Int) &&& BitVec.ofInt 64 127).toNat : Nat) : Int) = _
  rw [BitVec.ofInt_natCast, show (127 : Int) = ((127 : Nat) : Int) from rfl, BitVec.ofInt_natCast, BitVec.toNat_and, BitVec.toNat_ofNat, BitVec.toNat_ofNat, Nat.mod_eq_of_lt (by omega), Nat.mod_eq_of_lt (by omega)]
  have := Nat.and_two_pow_sub_one_eq_mod m 7
  rw [show (127 : Nat) = 2 ^ 7 - 1 from rfl, this, wrap_id (by omega) (by omega)]
theorem or128 (m : Nat) (hm : m < 128) : bitOp .or .u8 (m : Int) 128 = ((m + 128 : Nat) : Int) := by
  show IntKind.wrap .u8 (((BitVec.ofInt 8 (m : Int) ||| BitVec.ofInt 8 128).toNat : Nat) : Int) = _
  rw [BitVec.ofInt_natCast, show (128 : Int) = ((128 : Nat) : Int) from rfl, BitVec.ofInt_natCast, BitVec.toNat_or, BitVec.toNat_ofNat, BitVec.toNat_ofNat, Nat.mod_eq_of_lt (by omega), Nat.mod_eq_of_lt (by omega)]
  have e := Nat.shiftLeft_add_eq_or_of_lt (i := 7) (b := m) (by omega) 1
  rw [Nat.shiftLeft_eq, Nat.or_comm] at e
  rw [show (128 : Nat) = 1 * 2 ^ 7 from rfl, ← e, wrap_u8]
  omega
theorem sh7 {n i : Nat} (hi : i ≤ 3) : Int.fdiv (n : Int) (2 ^ (min (Int.toNat (IntKind.wrap .i64 (7 * (i : Int)))) (IntKind.bits .i64))) = ((n / 128 ^ i : Nat) : Int) := by
  rw [wrap_id (by omega) (by omega)]
  have e1 : min (Int.toNat (7 * (i : Int))) (IntKind.bits .i64) = 7 * i := by
    show min _ 64 = _
    omega
  rw [e1]
  have e2 : ((2 : Int) ^ (7 * i)) = ((128 ^ i : Nat) : Int) := by
    rw [Int.natCast_pow, Int.pow_mul]
    rfl
  rw [e2, Int.fdiv_eq_ediv_of_nonneg _ (Int.natCast_nonneg _), ← Int.natCast_ediv]
theorem vput_spec (hs : sat h R) {n : Nat} (hn : n ≤ 268435455) {Q : Value → Heap → Prop} (hq : ∀ h', sat h' R → Q (.tuple #[.string (vB n), .int .u8 0]) h') : HCalls Tryz.prog 89 #[.int .i64 n] h Q := by
  refine varint_Put_calls n h Q ?_
  unfold varint_Put
  have hk := sizeV_pos n
  refine bind_call1 (vsize_spec hn ⟨_, rfl, ?_⟩)
  (try dsimp only); rw [HM.ite_apply, if_neg (by simp only [beq_iff_eq]; omega)]
  (try dsimp only); rw [HM.bind_apply]
  refine loop_for (sizeV n) (fun i x h' => x.2.1 = (i : Int) ∧ sat h' (ownS eU 1 x.1 ((List.range i).map (vI (sizeV n) n)) :: R))
    ⟨rfl, ownS_nil hs⟩ (fun i x h hi hJ => by rw [hJ.1]; exact decide_eq_decide.2 (by omega)) (fun x h hJ K hd => ?_) (fun i x h hlt hJ K hnx hd => ?_)
  · obtain ⟨hx, hs1⟩ := hJ
    refine hd _ _ ?_
    (try dsimp only); rw [HM.bind_apply]
    refine strOf_own hs1 ?_
    exact hq _ hs1.drop
  · obtain ⟨out, ci, ⟨⟩⟩ := x
    obtain ⟨hx, hs1⟩ := hJ
    simp only at hx hs1
    subst hx
    have hdl : n / 128 ^ i ≤ n := Nat.div_le_self _ _
    refine ⟨by (try dsimp only); rw [wrap_id (by omega) (by omega)]; omega, ?_⟩
    refine cut (fun z h' => h' = h ∧ z.1 = vI (sizeV n) n i) ?_ ?_
    · intro K2 hK2
      have hw : IntKind.wrap .i64 (((sizeV n : Nat) : Int) - 1) = ((sizeV n - 1 : Nat) : Int) := by rw [wrap_id (by omega) (by omega)]; omega
      (try dsimp only); rw [HM.ite_apply, hw, sh7 (by omega), and127 _ (by omega), wrap_u8, Nat.mod_eq_of_lt (by omega)]
      by_cases hl : i + 1 < sizeV n
      · rw [if_pos (by simp only [decide_eq_true_eq]; omega), or128 _ (by omega)]
        exact hK2 _ _ ⟨rfl, by unfold vI; rw [if_pos hl]⟩
      · rw [if_neg (by simp only [decide_eq_true_eq]; omega)]
        exact hK2 _ _ ⟨rfl, by unfold vI; rw [if_neg hl]; rfl⟩
    rintro ⟨z, ⟨⟩⟩ h2 ⟨rfl, hz⟩
    simp only at hz
    subst hz
    refine app_new (x := vI (sizeV n) n i) eU_len eU_cell rfl hs1 (by decide) (by decide) (by rw [List.length_map, List.length_range]; omega) fun out' h3 hs2 => ?_
    refine hnx _ _ ⟨by (try dsimp only); rw [wrap_id (by omega) (by omega)]; rfl, ?_⟩
    rw [List.range_succ, List.map_append]
    exact hs2
end Go.Proofs.YtfhalebbcbgbdaaGreatDoor
namespace Go.Proofs.YtfhalebbcbgbdaaGreatDoor
open Go.H Go.Proofs Go.Lib
set_option linter.unusedSimpArgs false
set_option linter.unusedVariables false
set_option maxRecDepth 100000
variable {h h0 : Heap} {R : List Asn}
def textC (s : ByteArray) : Int := if faultOf s ≠ none then 129 else if 65535 < s.size then 149 else 0
def textB (s : ByteArray) : ByteArray := if textC s = 0 then datB s else e0S
theorem tput_spec (hs : sat h (old h0 :: R)) (ht : U8 h0) {s : ByteArray} (hsz : s.size ≤ 9223372036854775800) {Q : Value → Heap → Prop} (hq : ∀ h', sat h' (old h0 :: R) → Q (.tuple #[.string (textB s), .int .u8 (textC s)]) h') :
    HCalls Tryz.prog 197 #[.string s] h Q := by
  refine text_Put_calls s h Q ?_
  unfold text_Put
  have mk : ∀ {o : Option Nat}, faultOf s = o → ∀ h1, sat h1 (old h0 :: R) → HM.ite o.isSome (HM.pure (ByteArray.mk #[], 129, ())) (HM.bind (HM.callN Tryz.prog [.one .str, .one (.int .u8)] 198 #[.string s]) fun x2 => HM.pure (x2.1, x2.2.1, ())) h1 (fun (x : ByteArray × Int × Unit) h' => Q (.tuple #[.string x.1, .int .u8 x.2.1]) h') := by
    intro o ho h1 hs1
    rw [HM.ite_apply]
    cases o with
    | some n =>
      rw [if_pos (by rfl)]
      have e : textC s = 129 := by unfold textC; rw [if_pos (by rw [ho]; simp)]
      have := hq h1 hs1
      unfold textB at this
      rw [e, if_neg (by decide)] at this
      exact this
    | none =>
      rw [if_neg (by simp)]
      by_cases hl : s.size ≤ 65535
      · have e : textC s = 0 := by unfold textC; rw [if_neg (by rw [ho]; simp), if_neg (by omega)]
        refine bind_callN (Data_spec hs1 hl fun h2 hs2 => ⟨(datB s, 0, ()), rfl, ?_⟩)
        have := hq h2 hs2
        unfold textB at this
        rw [e, if_pos rfl] at this
        exact this
      · have e : textC s = 149 := by unfold textC; rw [if_neg (by rw [ho]; simp), if_pos (by omega)]
        refine bind_callN ?_
        refine varint_Data_calls s h1 _ ?_
        unfold varint_Data
        (try dsimp only); rw [HM.ite_apply, if_pos (by simp only [decide_eq_true_eq]; omega)]
        refine ⟨(ByteArray.mk #[], 149, ()), rfl, ?_⟩
        have := hq h1 hs1
        unfold textB at this
        rw [e, if_neg (by decide)] at this
        exact this
  refine bind_callN (Fault_spec hs ht s (by omega) fun h1 hs1 => ?_)
  cases ho : faultOf s with
  | some n => exact ⟨(n, true, ()), rfl, mk ho h1 hs1⟩
  | none => exact ⟨(0, false, ()), rfl, mk ho h1 hs1⟩
theorem kind38 {Q : Value → Heap → Prop} (hq : Q (.int .i64 7) h) : HCalls Tryz.prog 199 #[.int .i64 38] h Q := by
  refine prop_KindOf_calls 38 h Q ?_
  unfold prop_KindOf
  simp [HM.bind_apply, HM.ite_apply, HM.pure_apply]
  exact hq
end Go.Proofs.YtfhalebbcbgbdaaGreatDoor
namespace Go.Proofs.YtfhalebbcbgbdaaGreatDoor
open Go.H Go.Proofs Go.Lib
open Go.RowKit (Below)
set_option linter.unusedSimpArgs false
set_option linter.unusedVariables false
set_option synthInstance.maxSize 100000
set_option synthInstance.maxHeartbeats 400000
set_option maxRecDepth 100000
abbrev ptrB (b : Nat) : Value := .pointer (some ⟨b, 0, none⟩)
def bldA (b : Nat) (xs : List Int) : Asn := exA fun x : Value × Slc => star (pr (x.1 = .pointer none ∨ x.1 = ptrB b)) (star (blk b (.cells #[x.1, .slice x.2.a x.2.len x.2.cap] 199 (0, 0))) (bufA 5 x.2 xs))
variable {h h0 : Heap} {R : List Asn}
theorem bldA_iff {b : Nat} {xs : List Int} : sat h (bldA b xs :: R) ↔ ∃ (p : Value) (s : Slc), (p = .pointer none ∨ p = ptrB b) ∧ sat h (blk b (.cells #[p, .slice s.a s.len s.cap] 199 (0, 0)) :: bufA 5 s xs :: R) := by
  unfold bldA
  rw [sat.ex_iff]
  constructor
  · rintro ⟨⟨p, s⟩, hs⟩
    rw [sat.star_iff, sat.pr_iff, sat.star_iff] at hs
    exact ⟨p, s, hs⟩
  · rintro ⟨p, s, hs⟩
    refine ⟨(p, s), ?_⟩
    rw [sat.star_iff, sat.pr_iff, sat.star_iff]
    exact hs
theorem copyCheck_spec {b : Nat} {xs : List Int} (hs : sat h (bldA b xs :: R)) {Q : Value → Heap → Prop}
    (hq : ∀ (s : Slc) h', sat h' (blk b (.cells #[ptrB b, .slice s.a s.len s.cap] 199 (0, 0)) :: bufA 5 s xs :: R) → Q (.tuple #[]) h') : HCalls Tryz.prog 143 #[ptrB b] h Q := fun w hw => by
  subst hw
  obtain ⟨p, s, hp, hs⟩ := bldA_iff.1 hs
  have hg := hs.get
  rcases hp with rfl | rfl
  · refine (Any.Builder_copyCheck_fresh { joinL with } joinX.toX72 b w (by simp [World.cell?, hg]) (by simp [World.shape?, hg]; rfl) (by simp [World.frozen?, hg])).mono ?_
    rintro e w' ⟨rfl, rfl⟩
    exact ⟨_, rfl, ⟨rfl, rfl, rfl⟩, hq s _ (blk_set hs 0 (ptrB b))⟩
  · refine (Any.Builder_copyCheck_used { joinL with } joinX.toX72 b w (by simp [World.cell?, hg])).mono ?_
    rintro e w' ⟨rfl, rfl⟩
    exact ⟨_, rfl, ⟨rfl, rfl, rfl⟩, hq s _ hs⟩
theorem Write_spec {b : Nat} {xs : List Int} {t : ByteArray} (hs : sat h (bldA b xs :: R)) (hb : xs.length + t.size ≤ 140737488355328) {Q : Value → Heap → Prop}
    (hq : ∀ h', sat h' (bldA b (xs ++ intsS t) :: R) → Q (.tuple #[.int .i64 ((t.size : Nat) : Int), .nilIface]) h') : HCalls Tryz.prog 100 #[ptrB b, .string t] h Q := by
  refine strings_Builder_WriteString_calls (some ⟨b, 0, none⟩) t h Q ?_
  unfold strings_Builder_WriteString
  refine bind_callN (copyCheck_spec hs fun s h1 hs1 => ⟨(), rfl, ?_⟩)
  have hg := hs1.get
  refine ⟨_, rfl, s, by rw [add_own]; simp [cellH, hg], ?_⟩
  (try dsimp only); rw [HM.bind_apply]
  refine append_buf hs1.p1 hb fun s' h2 hs2 => ?_
  have hg2 := hs2.p1.get
  refine ⟨_, rfl, ?_⟩
  (try dsimp only); rw [HM.bind_apply, add_own]
  refine ⟨by simp [cellH, hg2], by simp [frozenH, hg2], rfl, ?_⟩
  exact hq _ (bldA_iff.2 ⟨ptrB b, s', .inr rfl, blk_set hs2.p1 1 (.slice s'.a s'.len s'.cap)⟩)
theorem String_spec {b : Nat} {xs : List Int} {hB : Heap} (hs : sat h (bldA b xs :: old hB :: R)) (hbB : hB.size ≤ b) (hx : ∀ x ∈ xs, 0 ≤ x ∧ x < 256) {Q : Value → Heap → Prop}
    (hq : ∀ h', (∀ (k : Nat) o, hB[k]? = some o → h'[k]? = some o) → Q (.string (bytesOfInts xs)) h') : HCalls Tryz.prog 90 #[ptrB b] h Q := fun w hw => by
  subst hw
  obtain ⟨p, s, hp, hs⟩ := bldA_iff.1 hs
  have hg := hs.get
  have hcells : byteCells (xs.map fun x : Int => UInt8.ofNat x.toNat) = xs.map (Value.int .u8) := by
    unfold byteCells
    rw [List.map_map]
    refine List.map_congr_left fun x hxm => ?_
    obtain ⟨h1, h2⟩ := hx x hxm
    simp only [Function.comp_apply, UInt8.toNat_ofNat']
    congr 1
    omega
  have hat : BuilderAt 199 5 hB.size b p (byteCells (xs.map fun x : Int => UInt8.ofNat x.toNat)) w := by
    rw [hcells]
    rcases bufA_cases hs.p1 with ⟨rfl, rfl, -⟩ | ⟨g, cur, hf, hs1⟩
    · exact ⟨hbB, _, hg, ⟨rfl, .inl ⟨rfl, rfl⟩⟩, by simp [Value.ownBlock]⟩
    · have hgg := hs1.get
      have hle : hB.size ≤ g := fresh_old (hs1.re [0, 2, 1])
      refine ⟨hbB, _, hg, ⟨by simp, .inr ⟨g, s.cap, cur, by rw [hf.a, hf.len]; simp, hle, hgg, by rw [List.length_map, ← hf.len]; exact hf.le, hf.cap, by rw [hf.size, Nat.mul_one], ?_⟩⟩, ?_⟩
      · rw [List.length_map, Nat.mul_one, ← hf.len]
        exact hf.front
      · rw [hf.a]
        simp only [Value.ownBlock, ne_eq, Option.some.injEq]
        rintro rfl
        rw [hg] at hgg
        cases hgg
  have hisb : IsBuilder 199 5 hB.size b (byteCells (xs.map fun x : Int => UInt8.ofNat x.toNat)) w := by
    rcases hp with rfl | rfl
    · exact .inl hat
    · exact .inr hat
  have hBw : hB.size ≤ w.heap.size := Nat.le_trans hbB (Nat.le_of_lt hs.lt)
  refine (Any.Builder_String_any (ρ := joinL_ren) { joinL with } joinX hB.size b (xs.map fun x : Int => UInt8.ofNat x.toNat) w hisb hBw).mono ?_
  rintro e w' ⟨rfl, hbel⟩
  have e1 : (⟨(xs.map fun x : Int => UInt8.ofNat x.toNat).toArray⟩ : ByteArray) = bytesOfInts xs := data_inj (by rw [ints_data])
  rw [e1]
  refine ⟨_, rfl, below_same hbel, hq _ fun k o hk => ?_⟩
  have hlt := (Array.getElem?_eq_some_iff.1 hk).1
  rw [hbel.block k hlt]
  exact (hs.re [2, 0, 1]).old_get hk
end Go.Proofs.YtfhalebbcbgbdaaGreatDoor
namespace Go.Proofs.YtfhalebbcbgbdaaGreatDoor
open Go.H Go.Proofs Go.Lib
set_option linter.unusedSimpArgs false
set_option linter.unusedVariables false
set_option maxRecDepth 100000
variable {h h0 : Heap} {R : List Asn}
def tagX (t : ByteArray) : ByteArray := vB 38 ++ (datB tagS ++ datB t)
def propC (t : ByteArray) : Int := if t = e0S then 0 else textC t
def propB (t : ByteArray) : ByteArray := if t = e0S then vB 0 else if textC t = 0 then vB (tagX t).size ++ tagX t else e0S
theorem textC_tag : textC tagS = 0 := by decide
theorem textB_tag : textB tagS = datB tagS := by unfold textB; rw [if_pos textC_tag]
theorem textC_size {t : ByteArray} (h : textC t = 0) : t.size ≤ 65535 := by
  unfold textC at h
  split at h
  · cases h
  · split at h
    · cases h
    · omega
theorem datB_size (t : ByteArray) : (datB t).size = t.size + 2 := by
  unfold datB
  rw [ByteArray.size_append, fixB_size]
  omega
theorem tagX_size (t : ByteArray) : (tagX t).size = t.size + 8 := by
  unfold tagX
  rw [ByteArray.size_append, ByteArray.size_append, datB_size, datB_size, vB_size]
  show sizeV 38 + (3 + 2 + (t.size + 2)) = _
  have : sizeV 38 = 1 := by decide
  omega
theorem has_none (hs : sat h R) {a : Option Addr} {c : Nat} {Q : Value → Heap → Prop} (hq : ∀ h', sat h' R → Q (.bool false) h') : HCalls Tryz.prog 200 #[.slice a 0 c, .int .i64 38] h Q := by
  refine prop_has_calls ⟨a, 0, c⟩ 38 h Q ?_
  unfold prop_has
  refine bind_callN ?_
  refine prop_Find_calls ⟨a, 0, c⟩ 38 h _ ?_
  unfold prop_Find
  refine new_cells hs fun x1 h1 hs1 => ?_
  refine new_cells hs1 fun x2 h2 hs2 => ?_
  refine bind_call1 ?_
  refine slices_IndexFunc_Property_calls ⟨a, 0, c⟩ _ h2 _ ?_
  unfold slices_IndexFunc_Property
  (try dsimp only); rw [HM.bind_apply]
  refine loop_for 0 (fun i x h' => h' = h2 ∧ x.1 = (i : Int)) ⟨rfl, rfl⟩ (fun i x h1 hi hJ => by rw [hJ.2]; exact decide_eq_decide.2 (by omega)) (fun x h1 hJ K hd => ?_) (fun i x h1 hlt => absurd hlt (by omega))
  obtain ⟨rfl, hx⟩ := hJ
  refine hd _ _ ⟨-1, rfl, ?_⟩
  (try dsimp only); rw [HM.ite_apply, if_pos (by rfl)]
  refine storeN_all' hs2 rfl rfl fun h3 hs3 => ?_
  refine loadN_cells (ts := [.int .i64, .int .i64, .str, .str]) (0, 0, ByteArray.mk #[], ByteArray.mk #[], ()) hs3 rfl ?_
  refine ⟨((0, 0, ByteArray.mk #[], ByteArray.mk #[], ()), false, ()), rfl, ?_⟩
  refine new_cells hs3 fun x4 h4 hs4 => ?_
  (try dsimp only); rw [HM.bind_apply]
  refine storeN_all' hs4 rfl rfl fun h5 hs5 => ?_
  (try dsimp only); rw [HM.bind_apply, HM.ite_apply, if_neg (by simp)]
  exact hq _ hs5.drop.drop.drop
theorem pval_spec (hs : sat h (old h0 :: R)) (ht : U8 h0) {n : Int} {t : ByteArray} (hsz : t.size ≤ 9223372036854775000) {Q : Value → Heap → Prop}
    (hq : ∀ h', sat h' (old h0 :: R) → Q (.tuple #[.string (datB tagS ++ textB t), .int .u8 (textC t)]) h') :
    HCalls Tryz.prog 201 #[.agg #[.int .i64 38, .int .i64 n, .string tagS, .string t]] h Q := by
  refine prop_Property_value_calls (38, n, tagS, t, ()) h Q ?_
  unfold prop_Property_value
  refine new_cells hs fun x1 h1 hs1' => ?_
  have hs1 : sat h1 (cells x1 (encPr (38, n, tagS, t)).toArray :: old h0 :: R) := hs1'
  refine ⟨38, by rw [add_own]; exact hs1.cell 0, ?_⟩
  refine bind_call1 (kind38 ⟨7, rfl, ?_⟩)
  (try dsimp only); rw [HM.ite_apply, if_neg (by decide), HM.ite_apply, if_neg (by decide), HM.ite_apply, if_neg (by decide), HM.ite_apply, if_pos (by decide)]
  refine ⟨tagS, by rw [add_own]; exact hs1.cell 2, ?_⟩
  refine bind_callN (tput_spec hs1.p1 ht (by decide) fun h2 hs2 => ⟨(textB tagS, textC tagS, ()), rfl, ?_⟩)
  (try dsimp only); rw [textC_tag, textB_tag, HM.ite_apply, if_neg (by decide)]
  refine ⟨t, by rw [add_own]; exact hs2.p1.cell 3, ?_⟩
  refine bind_callN (tput_spec hs2 ht (by omega) fun h3 hs3 => ⟨(textB t, textC t, ()), rfl, ?_⟩)
  refine ⟨?_, hq h3 (hs3.p1).drop⟩
  have : (textB t).size ≤ t.size + 2 := by
    unfold textB
    split
    · rw [datB_size]; exact Nat.le_refl _
    · show 0 ≤ _; omega
  rw [datB_size]
  show 3 + 2 + (textB t).size ≤ _
  omega
theorem blen_spec {b : Nat} {xs : List Int} (hs : sat h (bldA b xs :: R)) {Q : Value → Heap → Prop} (hq : Q (.int .i64 ((xs.length : Nat) : Int)) h) : HCalls Tryz.prog 87 #[ptrB b] h Q := by
  refine strings_Builder_Len_calls (some ⟨b, 0, none⟩) h Q ?_
  unfold strings_Builder_Len
  obtain ⟨p, s, hp, hs⟩ := bldA_iff.1 hs
  have hg := hs.get
  have hl : s.len = xs.length := by
    rcases bufA_cases hs.p1 with ⟨rfl, rfl, -⟩ | ⟨g, cur, hf, -⟩
    · rfl
    · exact hf.len
  refine ⟨_, rfl, s, by rw [add_own]; simp [cellH, hg], ?_⟩
  have := hq
  rw [← hl] at this
  exact this
theorem bld_new {Q : Nat → Heap → Prop} (hq : sat (h.push (.cells #[.pointer none, .slice none 0 0] 199)) (bldA h.size [] :: old h :: []) → Q h.size (h.push (.cells #[.pointer none, .slice none 0 0] 199))) : HM.new (.cells #[.pointer none, .slice none 0 0] 199) h Q :=
  hq (bldA_iff.2 ⟨.pointer none, ⟨none, 0, 0⟩, .inl rfl, ((bufA_nil (T := 5) (sat_old h).push).p1)⟩)
theorem intsS_byte (t : ByteArray) : ∀ x ∈ intsS t, 0 ≤ x ∧ x < 256 := by
  intro x hx
  unfold intsS at hx
  obtain ⟨b, -, rfl⟩ := List.mem_map.1 hx
  have := b.toNat_lt
  omega
theorem ints_intsS (t : ByteArray) : bytesOfInts (intsS t) = t := by
  refine data_inj ?_
  rw [ints_data]
  unfold intsS
  rw [List.map_map]
  conv => rhs; rw [← List.map_id t.data.toList]
  refine List.map_congr_left fun b _ => ?_
  simp
theorem U8.up (ht : U8 h0) (hs : sat h (old h0 :: R)) : U8 h := ⟨fun c hc => hs.old_cell (ht.1 c hc), fun i hi => ⟨hs.old_cell (ht.2 i hi).1, hs.old_cell (ht.2 i hi).2⟩⟩
theorem pput_spec (hs : sat h (old h0 :: R)) (ht : U8 h0) {t : ByteArray} (hsz : t.size ≤ 9223372036854775000) {s : Slc} (hr : RowAt encPr 4 h s (tagP t)) {Q : Value → Heap → Prop}
    (hq : ∀ h', sat h' (old h0 :: R) → Q (.tuple #[.string (propB t), .int .u8 (propC t)]) h') :
    HCalls Tryz.prog 165 #[.slice s.a s.len s.cap] h Q := by
  refine prop_Put_calls s h Q ?_
  unfold prop_Put
  have hsl := hr.1
  have hl1 : (tagP t).length ≤ 1 := by unfold tagP; split <;> simp
  (try dsimp only); rw [HM.ite_apply, if_neg (by simp only [decide_eq_true_eq]; omega)]
  (try dsimp only); rw [HM.bind_apply]
  refine bld_new fun hb0 => ?_
  generalize h.push (.cells #[.pointer none, .slice none 0 0] 199) = h2 at hb0 ⊢
  generalize hbb : h.size = b at hb0 ⊢
  have fin : ∀ (x : ByteArray) (h3 : Heap), x.size ≤ 70000 → propC t = 0 → propB t = vB x.size ++ x → sat h3 (bldA b (intsS x) :: old h :: []) →
      (HM.bind (HM.call1 Tryz.prog (.one (.int .i64)) 87 #[.pointer (some ⟨b, 0, none⟩)]) fun x17 =>
        HM.bind (HM.callN Tryz.prog [.one .str, .one (.int .u8)] 89 #[.int .i64 x17]) fun x18 =>
        HM.ite (!(x18.2.1 == 0)) (HM.pure (ByteArray.mk #[], 149, ())) (
        HM.bind (HM.call1 Tryz.prog (.one .str) 90 #[.pointer (some ⟨b, 0, none⟩)]) fun x19 =>
        HM.req (ByteArray.size x18.1 + ByteArray.size x19 ≤ 9223372036854775807) <|
        HM.pure (x18.1 ++ x19, 0, ()))) h3 (fun (r : ByteArray × Int × Unit) h' => Q (.tuple #[.string r.1, .int .u8 r.2.1]) h') := by
    intro x h3 hx hc hB hs3
    refine bind_call1 (blen_spec hs3 ⟨_, rfl, ?_⟩)
    (try dsimp only); rw [intsS_len]
    refine bind_callN (vput_spec hs3 (n := x.size) (by omega) fun h4 hs4 => ⟨(vB x.size, 0, ()), rfl, ?_⟩)
    (try dsimp only); rw [HM.ite_apply, if_neg (by decide)]
    refine bind_call1 (String_spec hs4 (by omega) (intsS_byte x) fun h5 hk => ⟨_, rfl, ?_⟩)
    (try dsimp only); rw [ints_intsS]
    refine ⟨?_, ?_⟩
    · have := sizeV_pos x.size
      rw [vB_size]
      omega
    have := hq h5 (hs.grow hk)
    rw [hc, hB] at this
    exact this
  by_cases hte : t = e0S
  · have hnil : tagP t = [] := by unfold tagP; rw [if_pos hte]
    rw [hnil] at hr hsl
    (try dsimp only); rw [HM.bind_apply]
    refine loop_for 0 (fun i x h' => h' = h2 ∧ x.1 = (i : Int)) ⟨rfl, rfl⟩ (fun i x h1 hi hJ => by rw [hJ.2, hsl]; exact decide_eq_decide.2 (by simp)) (fun x h1 hJ K hd => ?_) (fun i x h1 hlt => absurd hlt (by omega))
    obtain ⟨rfl, hx⟩ := hJ
    refine hd _ _ ?_
    refine fin e0S _ (by decide) (by unfold propC; rw [if_pos hte]) ?_ hb0
    unfold propB
    rw [if_pos hte]
    rfl
  · have hone : tagP t = [(38, 0, tagS, t)] := by unfold tagP; rw [if_neg hte]
    rw [hone] at hr hsl
    have hp0 : propC t = textC t := by unfold propC; rw [if_neg hte]
    (try dsimp only); rw [HM.bind_apply]
    refine loop_for 1 (fun i x h' => x.1 = (i : Int) ∧ if i = 0 then h' = h2 else textC t = 0 ∧ sat h' (bldA b (intsS (tagX t)) :: old h :: [])) ⟨rfl, by rw [if_pos rfl]⟩ (fun i x h1 hi hJ => by rw [hJ.1, hsl]; exact decide_eq_decide.2 (by simp; omega)) (fun x h1 hJ K hd => ?_) (fun i x h1 hlt hJ K hnx hd => ?_)
    · obtain ⟨hx, hJ⟩ := hJ
      rw [if_neg (by decide)] at hJ
      refine hd _ _ ?_
      have hz := textC_size hJ.1
      refine fin (tagX t) _ (by rw [tagX_size]; omega) (by rw [hp0]; exact hJ.1) ?_ hJ.2
      unfold propB
      rw [if_neg hte, if_pos hJ.1]
    · have hi0 : i = 0 := by omega
      subst hi0
      obtain ⟨ci, ⟨⟩⟩ := x
      obtain ⟨hx, hJ⟩ := hJ
      rw [if_pos rfl] at hJ
      simp only at hx
      subst hx hJ
      (try dsimp only); rw [HM.bind_apply]
      refine idx_row (i := 0) (hr.old hb0.p1) (x := (38, 0, tagS, t)) rfl fun a ha => ?_
      refine loadN_of (ts := [.int .i64, .int .i64, .str, .str]) ((38, 0, tagS, t, ()) : Int × Int × ByteArray × ByteArray × Unit) ha ?_
      refine new_cells hb0 fun x6 h3 hs3 => ?_
      (try dsimp only); rw [HM.bind_apply]
      refine storeN_all' hs3 rfl rfl fun h4 hs4' => ?_
      have hs4 : sat h4 (cells x6 (encPr (38, 0, tagS, t)).toArray :: bldA b [] :: old h :: []) := hs4'
      clear hs4' hs3
      refine ⟨38, by rw [add_own]; exact hs4.cell 0, ?_⟩
      refine bind_call1 (kind38 ⟨7, rfl, ?_⟩)
      (try dsimp only); rw [HM.ite_apply, if_neg (by decide)]
      (try dsimp only); rw [HM.bind_apply]
      refine ⟨0, 0, s.cap, rfl, ⟨rfl, by omega⟩, rfl, ?_⟩
      refine ⟨38, by rw [add_own]; exact hs4.cell 0, ?_⟩
      refine bind_call1 (has_none hs4 fun h5 hs5 => ⟨false, rfl, ?_⟩)
      (try dsimp only); rw [HM.ite_apply, if_neg (by decide)]
      refine loadN_cells (ts := [.int .i64, .int .i64, .str, .str]) ((38, 0, tagS, t, ()) : Int × Int × ByteArray × ByteArray × Unit) hs5 rfl ?_
      refine bind_callN (pval_spec hs5.p2 (ht.up hs) (by omega) fun h6 hs6' => ⟨(datB tagS ++ textB t, textC t, ()), rfl, ?_⟩)
      have hs6 : sat h6 (cells x6 (encPr (38, 0, tagS, t)).toArray :: bldA b [] :: old h :: []) := hs6'.re [1, 2, 0]
      clear hs6' hs5 hs4
      (try dsimp only); rw [HM.ite_apply]
      by_cases hc : textC t = 0
      · rw [if_neg (by rw [hc]; decide)]
        have htb : textB t = datB t := by unfold textB; rw [if_pos hc]
        have hz := textC_size hc
        refine ⟨38, by rw [add_own]; exact hs6.cell 0, ?_⟩
        refine bind_callN (vput_spec hs6 (n := 38) (by decide) fun h7 hs7 => ⟨(vB 38, 0, ()), rfl, ?_⟩)
        (try dsimp only); rw [htb]
        have hsz2 : (vB 38 ++ (datB tagS ++ datB t)).size = t.size + 8 := tagX_size t
        refine ⟨?_, ?_⟩
        · rw [← ByteArray.size_append, hsz2]; omega
        refine bind_callN (Write_spec (t := tagX t) hs7.p1 (by rw [tagX_size]; simp only [List.length_nil]; omega) fun h8 hs8 => ⟨(_, .nilIface, ()), rfl, ?_⟩)
        refine hnx _ _ ⟨by decide, ?_⟩
        rw [if_neg (by decide)]
        rw [List.nil_append] at hs8
        exact ⟨hc, hs8.p1.drop.re [0, 1] |> fun hh => hs8.re [0, 2, 1] |> fun h2 => (hs8.p1.drop.re [0, 1])⟩
      · rw [if_pos (by simp [hc])]
        refine hd _ _ ?_
        have := hq h6 (hs.grow fun k o ho => (hs6.re [2, 0, 1]).old_get ho)
        rw [hp0] at this
        unfold propB at this
        rw [if_neg hte, if_neg hc] at this
        exact this
end Go.Proofs.YtfhalebbcbgbdaaGreatDoor
namespace Go.Proofs.YtfhalebbcbgbdaaGreatDoor
set_option linter.unusedSimpArgs false
open Go.H Go.Proofs
set_option linter.unusedVariables false
set_option synthInstance.maxSize 100000
set_option synthInstance.maxHeartbeats 400000
theorem eI_len (x : Int) : (eI x).length = 1 := rfl
end Go.Proofs.YtfhalebbcbgbdaaGreatDoor
namespace Go.Proofs.YtfhalebbcbgbdaaGreatDoor
open Go.H Go.Proofs Go.Lib
set_option linter.unusedSimpArgs false
set_option linter.unusedVariables false
set_option maxRecDepth 100000
variable {h h0 : Heap} {R : List Asn}
theorem row_cells {b n : Nat} {xs : List Int} {cs : Array Value} (hc : cs = (xs.flatMap eI).toArray) (hn : n = xs.length) (hs : sat h (cells b cs :: R)) : RowAt eI 1 h ⟨some ⟨b, 0, none⟩, n, n⟩ xs := by
  subst hc hn
  have : sat h (ownS eI 1 ⟨some ⟨b, 0, none⟩, xs.length, xs.length⟩ xs :: R) := by
    refine ownS_mk (o := 0) ⟨by simp, Nat.le_refl _, rfl, by simp [flat_len eI_len], ?_⟩ hs
    simp only [Nat.zero_mul, List.drop_zero, List.toList_toArray]
    rw [List.take_of_length_le (by rw [flat_len eI_len]; exact Nat.le_refl _)]
  exact this.own_row eI_len
end Go.Proofs.YtfhalebbcbgbdaaGreatDoor
namespace Go.Proofs.YtfhalebbcbgbdaaGreatDoor
open Go.H Go.Proofs
set_option linter.unusedSimpArgs false
set_option linter.unusedVariables false
set_option synthInstance.maxSize 100000
set_option synthInstance.maxHeartbeats 400000
theorem Index_spec {h : Heap} {s : Slc} {xs : List Int} {x : Int} (hx : RowAt eI 1 h s xs) (hb : xs.length ≤ 4611686018427387904) {Q : Value → Heap → Prop}
    (hno : x ∉ xs → Q (.int .i64 (-1)) h) (hyes : x ∈ xs → ∀ i : Nat, xs[i]? = some x → Q (.int .i64 i) h) :
    HCalls Tryz.prog 220 #[.slice s.a s.len s.cap, .int .i64 x] h Q := by
  refine slices_Index_calls s x h Q ?_
  unfold slices_Index
  simp
  have h1 := hx.1
  refine loop_gx (γ := Nat) (fun i c h' => h' = h ∧ c.1 = (i : Int) ∧ i ≤ xs.length ∧ x ∉ xs.take i) (fun i => xs.length - i) 0 ⟨rfl, rfl, Nat.zero_le _, by simp⟩ ?_
  rintro i ⟨c, ⟨⟩⟩ h' ⟨rfl, hc, hi, hn⟩
  simp only at hc
  subst hc
  have next : IntKind.wrap .i64 ((i : Int) + 1) = ((i + 1 : Nat) : Int) := by rw [wrap_id (by omega) (by omega)]; rfl
  simp
  by_cases hlt : i < xs.length
  · rw [if_pos (by omega)]
    refine idx_row hx (List.getElem?_eq_getElem hlt) fun a ha => ?_
    have c0 : cellH h' a = some (.int .i64 xs[i]) := by simpa [Go.H.add_zero] using ha 0 _ rfl
    simp [c0]
    by_cases he : x = xs[i]
    · rw [if_pos he]
      exact hyes (he ▸ List.getElem_mem hlt) i (by rw [he]; exact List.getElem?_eq_getElem hlt)
    · rw [if_neg he]
      refine .mk (i + 1) (by omega) ⟨rfl, next, by omega, fun hm => ?_⟩
      rw [List.take_succ_eq_append_getElem hlt, List.mem_append] at hm
      rcases hm with hm | hm
      · exact hn hm
      · exact he (List.mem_singleton.1 hm)
  · rw [if_neg (by omega)]
    rw [List.take_of_length_le (by omega)] at hn
    exact hno hn
end Go.Proofs.YtfhalebbcbgbdaaGreatDoor
namespace Go.Proofs.YtfhalebbcbgbdaaGreatDoor
open Go.H Go.Proofs Go.Lib
set_option linter.unusedSimpArgs false
set_option linter.unusedVariables false
set_option maxRecDepth 100000
variable {h h0 : Heap} {R : List Asn}
theorem first0 (c : Int) : firstC c 0 = c := by unfold firstC; split <;> simp_all
theorem textB_size (t : ByteArray) : (textB t).size ≤ t.size + 2 := by
  unfold textB
  split
  · rw [datB_size]; exact Nat.le_refl _
  · show 0 ≤ _; omega
theorem propB_size (t : ByteArray) : (propB t).size ≤ t.size + 12 := by
  unfold propB
  split
  · rw [vB_size]; have := sizeV_pos 0; omega
  · split
    · rw [ByteArray.size_append, vB_size, tagX_size]
      have := sizeV_pos (t.size + 8)
      omega
    · show 0 ≤ _; omega
theorem wtxt_spec {b : Nat} {xs : List Int} {c : Int} {t : ByteArray} (hs : sat h (wrA b xs c :: old h0 :: R)) (ht : U8 h0) (hb : xs.length + t.size ≤ 1000000000) {Q : Value → Heap → Prop}
    (hq : ∀ h', sat h' (wrA b (xs ++ intsS (textB t)) (firstC c (textC t)) :: old h0 :: R) → Q (.tuple #[]) h') : HCalls Tryz.prog 161 #[ptrW b, .string t] h Q := by
  refine packet_writer_text_calls (some ⟨b, 0, none⟩) t h Q ?_
  unfold packet_writer_text
  refine bind_callN (tput_spec hs.p1 ht (by omega) fun h1 hs1 => ⟨(textB t, textC t, ()), rfl, ?_⟩)
  have := textB_size t
  refine bind_callN (wpart_spec (t := textB t) hs1.p1 (by omega) fun h2 hs2 => ⟨(), rfl, ?_⟩)
  exact hq h2 hs2
theorem wid_spec {b : Nat} {xs : List Int} {c : Int} {id : Nat} (hs : sat h (wrA b xs c :: R)) (h1 : 1 ≤ id ∧ id ≤ 65535) (hb : xs.length ≤ 1000000000) {Q : Value → Heap → Prop}
    (hq : ∀ h', sat h' (wrA b (xs ++ intsS (fixB 2 id)) c :: R) → Q (.tuple #[]) h') : HCalls Tryz.prog 124 #[ptrW b, .int .i64 id] h Q := by
  refine packet_writer_id_calls (some ⟨b, 0, none⟩) id h Q ?_
  unfold packet_writer_id
  refine cut (fun z h' => h' = h ∧ z.1 = false) ?_ ?_
  · intro K hK
    (try dsimp only); rw [HM.ite_apply, if_neg (by simp; omega)]
    exact hK _ _ ⟨rfl, by simp; omega⟩
  rintro ⟨z, ⟨⟩⟩ h2 ⟨rfl, hz⟩
  simp only at hz
  subst hz
  (try dsimp only); rw [HM.ite_apply, if_neg (by decide)]
  refine bind_callN ?_
  refine packet_writer_two_calls (some ⟨b, 0, none⟩) id h2 _ ?_
  unfold packet_writer_two
  refine bind_callN (Fixed_spec (w := 2) hs (.inr (.inl rfl)) (by simpa using Nat.lt_succ_of_le h1.2) fun h3 hs3 => ⟨(fixB 2 id, 0, ()), rfl, ?_⟩)
  refine bind_callN (wpart_spec (d := 0) hs3 (by rw [fixB_size]; omega) fun h4 hs4 => ⟨(), rfl, (), rfl, ?_⟩)
  rw [first0] at hs4
  exact hq h4 hs4
theorem allowed3 (hs : sat h R) {Q : Value → Heap → Prop} (hq : ∀ h', sat h' R → Q (.bool true) h') : HCalls Tryz.prog 168 #[.int .i64 3, .int .i64 38] h Q := by
  refine packet_Allowed_calls 3 38 h Q ?_
  unfold packet_Allowed
  refine cut (fun z h' => ∃ x : Nat, z.1 = ⟨some ⟨x, 0, none⟩, 8, 8⟩ ∧ sat h' (cells x #[.int .i64 1, .int .i64 2, .int .i64 3, .int .i64 8, .int .i64 9, .int .i64 11, .int .i64 35, .int .i64 38] :: R)) ?_ ?_
  · intro K hK
    simp only [HM.bind_apply, HM.ite_apply]
    simp
    refine new_cells hs fun x h1 hs1 => ?_
    exact hK _ _ ⟨x, rfl, hs1⟩
  rintro ⟨z, ⟨⟩⟩ h2 ⟨x, hz, hs2⟩
  simp only at hz
  subst hz
  refine bind_call1 ?_
  refine slices_Contains_calls ⟨some ⟨x, 0, none⟩, 8, 8⟩ 38 h2 _ ?_
  unfold slices_Contains
  refine bind_call1 (Index_spec (s := ⟨some ⟨x, 0, none⟩, 8, 8⟩) (x := 38) (row_cells (xs := [1, 2, 3, 8, 9, 11, 35, 38]) rfl rfl hs2) (by decide) (fun hn => absurd hn (by decide)) (fun _ i _ => ⟨i, rfl, ?_⟩))
  refine ⟨true, by simp, ?_⟩
  exact hq h2 hs2.drop
theorem wprops_spec {b : Nat} {xs : List Int} {c : Int} {t : ByteArray} {s : Slc} (hs : sat h (wrA b xs c :: old h0 :: R)) (ht : U8 h0) (hr : RowAt encPr 4 h0 s (tagP t)) (hb : xs.length + t.size ≤ 1000000000) {Q : Value → Heap → Prop}
    (hq : ∀ h', sat h' (wrA b (xs ++ intsS (propB t)) (firstC c (propC t)) :: old h0 :: R) → Q (.tuple #[]) h') : HCalls Tryz.prog 122 #[ptrW b, .int .i64 3, .slice s.a s.len s.cap] h Q := by
  refine packet_writer_props_calls (some ⟨b, 0, none⟩) 3 s h Q ?_
  unfold packet_writer_props
  refine new_cells hs fun x1 h1 hs1 => ?_
  have hsl := hr.1
  have hpz := propB_size t
  refine bind_callN (pput_spec (hs1.re [2, 0, 1]) ht (by omega) (hr.old (hs1.re [2, 0, 1])) fun h2 hs2 => ⟨(propB t, propC t, ()), rfl, ?_⟩)
  refine bind_callN (wpart_spec (t := propB t) (hs2.re [2, 0, 1]) (by omega) fun h3 hs3 => ⟨(), rfl, ?_⟩)
  refine bind_call1 ?_
  refine slices_ContainsFunc_calls s _ h3 _ ?_
  unfold slices_ContainsFunc
  have hs4 : sat h3 (cells x1 #[.int .i64 3] :: wrA b (xs ++ intsS (propB t)) (firstC c (propC t)) :: old h0 :: R) := hs3.re [2, 0, 1]
  clear hs3 hs2 hs1 hs
  refine bind_call1 ?_
  refine slices_IndexFunc_Property_calls s _ h3 _ ?_
  unfold slices_IndexFunc_Property
  (try dsimp only); rw [HM.bind_apply]
  refine loop_for (tagP t).length (fun i x h' => x.1 = (i : Int) ∧ sat h' (cells x1 #[.int .i64 3] :: wrA b (xs ++ intsS (propB t)) (firstC c (propC t)) :: old h0 :: R)) ⟨rfl, hs4⟩ (fun i x h1 hi hJ => by rw [hJ.1, hsl]; exact decide_eq_decide.2 (by omega)) (fun x h1 hJ K hd => ?_) (fun i x h1 hlt hJ K hnx hd => ?_)
  · obtain ⟨hx, hs5⟩ := hJ
    refine hd _ _ ⟨-1, rfl, false, rfl, ?_⟩
    (try dsimp only); rw [HM.bind_apply, HM.ite_apply, if_neg (by decide)]
    exact hq h1 hs5.drop
  · obtain ⟨ci, ⟨⟩⟩ := x
    obtain ⟨hx, hs5⟩ := hJ
    simp only at hx
    subst hx
    have hte : ¬ t = e0S := fun e => by unfold tagP at hlt; rw [if_pos e] at hlt; exact absurd hlt (by simp)
    have hone : tagP t = [(38, 0, tagS, t)] := by unfold tagP; rw [if_neg hte]
    have hi0 : i = 0 := by rw [hone] at hlt; simpa using hlt
    subst hi0
    (try dsimp only); rw [HM.bind_apply]
    refine idx_row (i := 0) (hr.old hs5.p2) (x := (38, 0, tagS, t)) (by rw [hone]; rfl) fun a ha => ?_
    refine loadN_of (ts := [.int .i64, .int .i64, .str, .str]) ((38, 0, tagS, t, ()) : Int × Int × ByteArray × ByteArray × Unit) ha ?_
    refine ⟨_, _, _, rfl, Tryz.call167, ?_⟩
    refine packet_writer_props_f1_calls (38, 0, tagS, t, ()) ⟨x1, 0, none⟩ h1 _ ?_
    unfold packet_writer_props_f1
    refine new_cells hs5 fun x6 h6 hs6 => ?_
    refine ⟨3, hs6.p1.cell 0, 38, by rw [add_own]; exact hs6.cell 0, ?_⟩
    refine bind_call1 (allowed3 hs6 fun h7 hs7 => ⟨true, rfl, false, rfl, ?_⟩)
    (try dsimp only); rw [HM.ite_apply, if_neg (by decide)]
    exact hnx _ _ ⟨by (try dsimp only); decide, hs7.drop⟩
end Go.Proofs.YtfhalebbcbgbdaaGreatDoor
namespace Go.Proofs.YtfhalebbcbgbdaaGreatDoor
open Go.H Go.Proofs Go.Lib
set_option linter.unusedSimpArgs false
set_option linter.unusedVariables false
set_option maxRecDepth 100000
variable {h h0 : Heap} {R : List Asn}
structure PubOK (o : PkO) (t : ByteArray) : Prop where
  kind : o.kind = 3
  props : o.props = tagP t
  qos : o.qos = 0 ∨ o.qos = 1 ∨ o.qos = 2
  dup : o.dup = true → o.qos ≠ 0
  id : o.qos ≠ 0 → 1 ≤ o.id ∧ o.id ≤ 65535
  top : o.topic.size ≤ 100000000
  pay : o.payload.size ≤ 100000000
  tag : t.size ≤ 100000000
def idB (o : PkO) : List Int := if o.qos = 0 then [] else intsS (fixB 2 o.id.toNat)
def bodyB (o : PkO) (t : ByteArray) : List Int := intsS (textB o.topic) ++ idB o ++ intsS (propB t) ++ intsS o.payload
def bodyC (o : PkO) (t : ByteArray) : Int := firstC (textC o.topic) (propC t)
theorem firstC_0 (c : Int) : firstC 0 c = c := by unfold firstC; rw [if_pos rfl]
theorem idB_len (o : PkO) : (idB o).length ≤ 2 := by
  unfold idB
  split
  · simp
  · rw [intsS_len, fixB_size]; exact Nat.le_refl _
theorem wpub_spec {b : Nat} {o : PkO} {t : ByteArray} {c p : Slc} (hs : sat h (wrA b [] 0 :: old h0 :: R)) (ht : U8 h0) (hk : PubOK o t) (hr : RowAt encPr 4 h0 p (tagP t)) {Q : Value → Heap → Prop}
    (hq : ∀ h', sat h' (wrA b (bodyB o t) (bodyC o t) :: old h0 :: R) → Q (.tuple #[]) h') : HCalls Tryz.prog 123 #[ptrW b, vPkK .u8 (pkT o c p)] h Q := by
  refine packet_writer_publish_calls (some ⟨b, 0, none⟩) (pkT o c p) h Q ?_
  unfold packet_writer_publish
  have h1 := textB_size o.topic
  have h2 := propB_size t
  have h3 := idB_len o
  have g1 := hk.top; have g2 := hk.pay; have g3 := hk.tag
  refine new_cells hs fun x1 hh1 hs1' => ?_
  have hs1 : sat hh1 (cells x1 (encPkK .u8 (pkT o c p)).toArray :: wrA b [] 0 :: old h0 :: R) := hs1'
  clear hs1' hs
  refine ⟨o.topic, by rw [add_own]; exact hs1.cell 5, ?_⟩
  refine bind_callN (wtxt_spec (hs1.re [1, 2, 0]) ht (by simp only [List.length_nil]; omega) fun hh2 hs2' => ⟨(), rfl, ?_⟩)
  rw [List.nil_append, firstC_0] at hs2'
  have hs2 : sat hh2 (cells x1 (encPkK .u8 (pkT o c p)).toArray :: wrA b (intsS (textB o.topic)) (textC o.topic) :: old h0 :: R) := hs2'.re [2, 0, 1]
  clear hs2' hs1
  refine ⟨o.qos, by rw [add_own]; exact hs2.cell 3, ?_⟩
  refine Go.H.cut (fun z h' => sat h' (cells x1 (encPkK .u8 (pkT o c p)).toArray :: wrA b (intsS (textB o.topic) ++ idB o) (textC o.topic) :: old h0 :: R)) ?_ ?_
  · intro K hK
    unfold idB at hK
    (try dsimp only); rw [HM.ite_apply]
    by_cases hq0 : o.qos = 0
    · rw [if_neg (by simp [hq0])]
      rw [if_pos hq0, List.append_nil] at hK
      exact hK _ _ hs2
    · rw [if_pos (by have := hk.qos; simp; omega)]
      rw [if_neg hq0] at hK
      obtain ⟨i1, i2⟩ := hk.id hq0
      have hid : o.id = ((o.id.toNat : Nat) : Int) := by omega
      refine ⟨o.id, by rw [add_own]; exact hs2.cell 4, ?_⟩
      rw [hid]
      refine bind_callN (wid_spec (hs2.re [1, 2, 0]) (by omega) (by rw [intsS_len]; omega) fun hh3 hs3 => ⟨(), rfl, ?_⟩)
      exact hK _ _ (hs3.re [2, 0, 1])
  rintro ⟨⟩ hh3 hs3
  refine ⟨p, by rw [add_own]; exact hs3.cell 9, ?_⟩
  refine bind_callN (wprops_spec (hs3.re [1, 2, 0]) ht hr (by simp only [List.length_append, intsS_len]; omega) fun hh4 hs4' => ⟨(), rfl, ?_⟩)
  have hs4 : sat hh4 (cells x1 (encPkK .u8 (pkT o c p)).toArray :: wrA b (intsS (textB o.topic) ++ idB o ++ intsS (propB t)) (bodyC o t) :: old h0 :: R) := hs4'.re [2, 0, 1]
  clear hs4' hs3
  refine ⟨o.payload, by rw [add_own]; exact hs4.cell 6, ?_⟩
  refine bind_callN (wpart_spec (d := 0) (hs4.re [1, 2, 0]) (by simp only [List.length_append, intsS_len]; omega) fun hh5 hs5 => ⟨(), rfl, ?_⟩)
  rw [first0] at hs5
  exact hq hh5 (hs5.re [2, 0, 1]).drop
theorem wbody_spec {b : Nat} {o : PkO} {t : ByteArray} {c p : Slc} (hs : sat h (wrA b [] 0 :: old h0 :: R)) (ht : U8 h0) (hk : PubOK o t) (hr : RowAt encPr 4 h0 p (tagP t)) {Q : Value → Heap → Prop}
    (hq : ∀ h', sat h' (wrA b (bodyB o t) (bodyC o t) :: old h0 :: R) → Q (.tuple #[]) h') : HCalls Tryz.prog 86 #[ptrW b, vPkK .u8 (pkT o c p)] h Q := by
  refine packet_writer_body_calls (some ⟨b, 0, none⟩) (pkT o c p) h Q ?_
  unfold packet_writer_body
  refine new_cells hs fun x1 hh1 hs1' => ?_
  have hs1 : sat hh1 (cells x1 (encPkK .u8 (pkT o c p)).toArray :: wrA b [] 0 :: old h0 :: R) := hs1'
  clear hs1' hs
  refine ⟨o.kind, by rw [add_own]; exact hs1.cell 0, ?_⟩
  rw [hk.kind]
  simp only [HM.bind_apply, HM.ite_apply]
  rw [if_neg (by decide), if_neg (by decide), if_pos (by decide)]
  simp only [HM.pure_apply, Sum.elim_inl, Sum.elim_inr]
  refine loadN_cells (ts := Pk_tK .u8) (pkT o c p) hs1 rfl ?_
  refine bind_callN (wpub_spec (c := c) (p := p) (hs1.re [1, 2, 0]) ht hk hr fun hh2 hs2 => ⟨(), rfl, ?_⟩)
  exact hq hh2 (hs2.re [2, 0, 1]).drop
def flagN (o : PkO) : Nat := (if o.dup = true then 8 else 0) + 2 * o.qos.toNat + (if o.retain = true then 1 else 0)
def putC (o : PkO) (t : ByteArray) : Int := if bodyC o t ≠ 0 then bodyC o t else if 65536 < (bodyB o t).length then 149 else 0
def putB (o : PkO) (t : ByteArray) : ByteArray := if putC o t = 0 then fixB 1 (48 + flagN o) ++ vB (bodyB o t).length ++ bytesOfInts (bodyB o t) else e0S
theorem bodyB_byte (o : PkO) (t : ByteArray) : ∀ x ∈ bodyB o t, 0 ≤ x ∧ x < 256 := by
  intro x hx
  unfold bodyB at hx
  simp only [List.mem_append] at hx
  rcases hx with ((hx | hx) | hx) | hx
  · exact intsS_byte _ x hx
  · unfold idB at hx
    split at hx
    · simp at hx
    · exact intsS_byte _ x hx
  · exact intsS_byte _ x hx
  · exact intsS_byte _ x hx
theorem bodyB_ne {o : PkO} {t : ByteArray} (h : bodyC o t = 0) : bodyB o t ≠ [] := by
  intro e
  have h1 : textC o.topic = 0 := by
    unfold bodyC firstC at h
    split at h
    · assumption
    · exact absurd h (by assumption)
  have h2 : 2 ≤ (intsS (textB o.topic)).length := by
    rw [intsS_len]
    unfold textB
    rw [if_pos h1, datB_size]
    omega
  have h3 := congrArg List.length e
  unfold bodyB at h3
  simp only [List.length_append, List.length_nil] at h3
  omega
theorem flags3 {Q : Value → Heap → Prop} (hq : Q (.int .i64 0) h) : HCalls Tryz.prog 82 #[.int .i64 3] h Q := by
  refine packet_Kind_flags_calls 3 h _ ?_
  unfold packet_Kind_flags
  simp only [HM.bind_apply, HM.ite_apply]
  rw [if_neg (by decide), if_neg (by decide)]
  simp only [HM.pure_apply]
  rw [if_neg (by decide)]
  exact hq
set_option maxHeartbeats 1000000 in
theorem put_spec {o : PkO} {t : ByteArray} {c p : Slc} (hs : sat h (old h0 :: R)) (ht : U8 h0) (hk : PubOK o t) (hr : RowAt encPr 4 h p (tagP t)) {Q : Value → Heap → Prop}
    (hq : ∀ h', sat h' (old h0 :: R) → Q (.tuple #[.string (putB o t), .int .u8 (putC o t)]) h') : HCalls Tryz.prog 50 #[vPkK .u8 (pkT o c p)] h Q := by
  refine packet_Put_calls (pkT o c p) h Q ?_
  unfold packet_Put
  have hU := ht.up hs
  refine new_cells (sat_old h) fun x1 h1 hs1' => ?_
  have hs1 : sat h1 (cells x1 (encPkK .u8 (pkT o c p)).toArray :: old h :: []) := hs1'
  clear hs1'
  have back : ∀ {h' : Heap} {A : List Asn}, sat h' (old h :: A) → sat h' (old h0 :: R) := fun hh => hs.grow fun k o ho => hh.old_get ho
  refine ⟨o.kind, by rw [add_own]; exact hs1.cell 0, ?_⟩
  (try dsimp only); rw [hk.kind]
  refine bind_call1 (flags3 ⟨0, rfl, ?_⟩)
  refine wr_new hs1 fun b h2 hs2 => ?_
  refine Go.H.cut (fun z h' => h' = h2 ∧ z.1 = false) ?_ ?_
  · intro K hK
    refine ⟨3, by rw [add_own]; exact (hs2.p1.cell 0).trans (by show some (Value.int .i64 o.kind) = _; rw [hk.kind]; rfl), ?_⟩
    (try dsimp only); rw [HM.ite_apply, if_neg (by decide)]
    refine ⟨3, by rw [add_own]; exact (hs2.p1.cell 0).trans (by show some (Value.int .i64 o.kind) = _; rw [hk.kind]; rfl), ?_⟩
    exact hK _ _ ⟨rfl, rfl⟩
  rintro ⟨z, ⟨⟩⟩ h3 ⟨rfl, hz⟩
  simp only at hz
  subst hz
  (try dsimp only); rw [HM.ite_apply, if_neg (by decide)]
  refine ⟨3, by rw [add_own]; exact (hs2.p1.cell 0).trans (by show some (Value.int .i64 o.kind) = _; rw [hk.kind]; rfl), ?_⟩
  have c1 : ∀ {h' : Heap} {A : List Asn}, sat h' (cells x1 (encPkK .u8 (pkT o c p)).toArray :: A) → cellH h' ⟨x1, 1, none⟩ = some (.bool o.dup) := fun hh => hh.cell 1
  have c2 : ∀ {h' : Heap} {A : List Asn}, sat h' (cells x1 (encPkK .u8 (pkT o c p)).toArray :: A) → cellH h' ⟨x1, 2, none⟩ = some (.bool o.retain) := fun hh => hh.cell 2
  have c3 : ∀ {h' : Heap} {A : List Asn}, sat h' (cells x1 (encPkK .u8 (pkT o c p)).toArray :: A) → cellH h' ⟨x1, 3, none⟩ = some (.int .i64 o.qos) := fun hh => hh.cell 3
  have hqr : 0 ≤ o.qos ∧ o.qos ≤ 2 := by have := hk.qos; omega
  refine Go.H.cut (fun z h' => z.1 = (flagN o : Int) ∧ h' = h3) ?_ ?_
  · intro K hK
    (try dsimp only); rw [HM.ite_apply, if_pos (by decide)]
    refine ⟨o.qos, by rw [add_own]; exact c3 hs2.p1, ?_⟩
    refine bind_callN ?_
    refine packet_writer_qos_calls (some ⟨b, 0, none⟩) o.qos h3 _ ?_
    unfold packet_writer_qos
    refine Go.H.cut (fun z h' => h' = h3 ∧ z.1 = false) ?_ ?_
    · intro K2 hK2
      (try dsimp only); rw [HM.ite_apply, if_neg (by simp; omega)]
      exact hK2 _ _ ⟨rfl, by simp; omega⟩
    rintro ⟨z, ⟨⟩⟩ h4 ⟨rfl, hz⟩
    simp only at hz
    subst hz
    (try dsimp only); rw [HM.bind_apply, HM.ite_apply, if_neg (by decide)]
    refine ⟨(), rfl, ?_⟩
    refine Go.H.cut (fun z h' => h' = h4 ∧ z.1 = false) ?_ ?_
    · intro K2 hK2
      refine ⟨o.dup, by rw [add_own]; exact c1 hs2.p1, ?_⟩
      (try dsimp only); rw [HM.ite_apply]
      cases hd : o.dup with
      | false => rw [if_neg (by decide)]; exact hK2 _ _ ⟨rfl, rfl⟩
      | true =>
        rw [if_pos rfl]
        refine ⟨o.qos, by rw [add_own]; exact c3 hs2.p1, hK2 _ _ ⟨rfl, ?_⟩⟩
        simpa using hk.dup hd
    rintro ⟨z, ⟨⟩⟩ h5 ⟨rfl, hz⟩
    simp only at hz
    subst hz
    (try dsimp only); rw [HM.bind_apply, HM.ite_apply, if_neg (by decide)]
    refine ⟨o.dup, by rw [add_own]; exact c1 hs2.p1, o.qos, by rw [add_own]; exact c3 hs2.p1, by decide, o.retain, by rw [add_own]; exact c2 hs2.p1, ?_⟩
    have bit : ∀ (v : Bool) (n : Int) (Q' : Value → Heap → Prop), Q' (.int .i64 (if v = true then n else 0)) h5 → HCalls Tryz.prog 85 #[.bool v, .int .i64 n] h5 Q' := fun v n Q' hQ' => by
      refine packet_bit_calls v n h5 Q' ?_
      unfold packet_bit
      rw [HM.ite_apply]
      cases v with
      | false => exact hQ'
      | true => exact hQ'
    refine bind_call1 (bit _ _ _ ⟨_, rfl, ?_⟩)
    refine ⟨o.retain, by rw [add_own]; exact c2 hs2.p1, rfl, o.qos, by rw [add_own]; exact c3 hs2.p1, rfl, ?_⟩
    refine bind_call1 (bit _ _ _ ⟨_, rfl, ?_⟩)
    refine ⟨o.qos, by rw [add_own]; exact c3 hs2.p1, rfl, ?_⟩
    refine hK _ _ ⟨?_, rfl⟩
    (try dsimp only)
    unfold flagN
    rcases hk.qos with e | e | e <;> rw [e] <;> cases o.dup <;> cases o.retain <;> decide
  rintro ⟨z, ⟨⟩⟩ h4 ⟨hz, rfl⟩
  simp only at hz
  subst hz
  refine loadN_cells (ts := Pk_tK .u8) (pkT o c p) hs2.p1 rfl ?_
  refine bind_callN (wbody_spec (h0 := h) (c := c) (p := p) (hs2.re [0, 2, 1]) hU hk hr fun h5 hs5 => ⟨(), rfl, ?_⟩)
  have hput : ∀ {h' : Heap} {A : List Asn}, sat h' (old h :: A) → Q (.tuple #[.string (putB o t), .int .u8 (putC o t)]) h' := fun hh => hq _ (back hh)
  refine ⟨_, rfl, bodyC o t, by rw [add_own]; exact wcode hs5, ?_⟩
  (try dsimp only); rw [HM.ite_apply]
  by_cases hc : bodyC o t = 0
  case neg =>
    rw [if_pos (by simp [hc])]
    refine ⟨_, rfl, bodyC o t, by rw [add_own]; exact wcode hs5, ?_⟩
    have := hput hs5.p1
    have e : putC o t = bodyC o t := by unfold putC; rw [if_pos hc]
    unfold putB at this
    rw [e, if_neg hc] at this
    exact this
  rw [if_neg (by simp [hc])]
  refine ⟨_, rfl, ?_⟩
  refine bind_call1 (wlen_spec hs5 ⟨_, rfl, ?_⟩)
  (try dsimp only); rw [HM.ite_apply]
  by_cases hl : 65536 < (bodyB o t).length
  · rw [if_pos (by simp only [decide_eq_true_eq]; omega)]
    have := hput hs5.p1
    have e : putC o t = 149 := by unfold putC; rw [if_neg (by simp [hc]), if_pos hl]
    unfold putB at this
    rw [e, if_neg (by decide)] at this
    exact this
  rw [if_neg (by simp only [decide_eq_true_eq]; omega)]
  have hfl : flagN o ≤ 13 := by
    unfold flagN
    have := hk.qos
    split <;> split <;> omega
  have e0 : putC o t = 0 := by unfold putC; rw [if_neg (by simp [hc]), if_neg hl]
  have hne := bodyB_ne hc
  generalize hL : bodyB o t = L at hs5 hl hne
  have hLb : ∀ x ∈ L, 0 ≤ x ∧ x < 256 := by rw [← hL]; exact bodyB_byte o t
  have c0 : ∀ {h' : Heap}, sat h' (wrA b L (bodyC o t) :: old h :: cells x1 (encPkK .u8 (pkT o c p)).toArray :: []) → cellH h' ⟨x1, 0, none⟩ = some (.int .i64 3) := fun hh => (hh.p2.cell 0).trans (by show some (Value.int .i64 o.kind) = _; rw [hk.kind])
  refine ⟨3, by rw [add_own]; exact c0 hs5, by decide, ?_⟩
  have hb1 : IntKind.wrap .i64 (IntKind.wrap .i64 (3 * 2 ^ (min (Int.toNat 4) (IntKind.bits .i64))) + (flagN o : Int)) = ((48 + flagN o : Nat) : Int) := by
    rw [show IntKind.wrap .i64 (3 * 2 ^ (min (Int.toNat 4) (IntKind.bits .i64))) = 48 by decide, wrap_id (by omega) (by omega)]
    omega
  (try dsimp only); rw [hb1]
  refine bind_callN (Fixed_spec (w := 1) hs5 (.inl rfl) (by omega) fun h6 hs6 => ⟨(fixB 1 (48 + flagN o), 0, ()), rfl, ?_⟩)
  refine ⟨_, rfl, ?_⟩
  refine bind_call1 (wlen_spec hs6 ⟨_, rfl, ?_⟩)
  refine bind_callN (vput_spec hs6 (n := L.length) (by omega) fun h7 hs7 => ⟨(vB L.length, 0, ()), rfl, ?_⟩)
  have hv := sizeV_pos L.length
  (try dsimp only)
  refine ⟨by rw [fixB_size, vB_size]; omega, _, rfl, ?_⟩
  refine bind_call1 (wtext_spec hs7 hLb hne fun h8 hk8 => ⟨_, rfl, ?_⟩)
  (try dsimp only)
  refine ⟨by rw [ByteArray.size_append, fixB_size, vB_size, ints_size]; omega, ?_⟩
  have := hq h8 (hs.grow hk8)
  unfold putB at this
  rw [e0, if_pos rfl, hL] at this
  exact this
end Go.Proofs.YtfhalebbcbgbdaaGreatDoor
namespace Go.Proofs.YtfhalebbcbgbdaaGreatDoor
open Go.H Go.Proofs
set_option linter.unusedSimpArgs false
set_option linter.unusedVariables false
set_option maxRecDepth 100000
variable {h h0 : Heap} {R : List Asn}
abbrev msg1 (m : MsT) : MsT := (m.1, m.2.1, 1, m.2.2.2.1, m.2.2.2.2)
abbrev tryP (m : MsT) (r : Bool) : PkO := ⟨3, false, r, 1, 1, m.1, m.2.1, 0, tagP m.2.2.2.2, [], false⟩
noncomputable def bsendF (o : OutS) (m : MsT) : (OutS × List PkO) × Int := if putC (tryP m false) m.2.2.2.2 ≠ 0 then ((o, []), putC (tryP m false) m.2.2.2.2) else sendF o (msg1 m)
theorem tryP_ok {m : MsT} {r : Bool} (h1 : m.1.size ≤ 100000000) (h2 : m.2.1.size ≤ 100000000) (h3 : m.2.2.2.2.size ≤ 100000000) : PubOK (tryP m r) m.2.2.2.2 :=
  ⟨rfl, rfl, .inr (.inl rfl), fun e => absurd e (by simp), fun _ => ⟨by simp, by simp⟩, h1, h2, h3⟩
theorem bsend_spec {b : Nat} {rs : List RuleT} {o : OutS} {m : MsT} (hs : sat h (brgA b rs o :: old h0 :: R)) (ht : U8 h0) (hok : FlowOK o) (z1 : m.1.size ≤ 100000000) (z2 : m.2.1.size ≤ 100000000) (z3 : m.2.2.2.2.size ≤ 100000000) {Q : Value → Heap → Prop}
    (hq : ∀ S h', sat h' (brgA b rs (bsendF o m).1.1 :: pksA .u8 S (bsendF o m).1.2 :: old h0 :: R) → Q (.tuple #[.slice S.a S.len S.cap, .int .u8 (bsendF o m).2]) h') :
    HCalls Tryz.prog 23 #[at0 b, vMs m] h Q := by
  refine bridge_Bridge_Send_calls (some ⟨b, 0, none⟩) (toU m) h Q ?_
  unfold bridge_Bridge_Send
  refine new_cells hs fun x1 h1 hs1' => ?_
  have hs1 : sat h1 (cells x1 (encM m).toArray :: brgA b rs o :: old h0 :: R) := hs1'
  (try dsimp only); rw [HM.ite_apply, if_neg (by simp)]
  (try dsimp only); rw [HM.bind_apply, add_own]
  refine store1_cells hs1 (by simp) rfl fun h2 hs2' => ?_
  have hs2 : sat h2 (cells x1 (encM (msg1 m)).toArray :: brgA b rs o :: old h0 :: R) := hs2'
  clear hs2' hs1 hs1' hs
  refine ⟨m.1, by rw [add_own]; exact hs2.cell 0, m.2.1, by rw [add_own]; exact hs2.cell 1, ?_⟩
  refine new_cells hs2 fun x4 h3 hs3' => ?_
  (try dsimp only); rw [HM.bind_apply]
  refine storeN_all' hs3' rfl rfl fun h4 hs4' => ?_
  have hs4 : sat h4 (cells x4 (encPkK .u8 (pkT (tryP m false) ⟨none, 0, 0⟩ ⟨none, 0, 0⟩)).toArray :: cells x1 (encM (msg1 m)).toArray :: brgA b rs o :: old h0 :: R) := hs4'
  clear hs4' hs3' hs2
  refine ⟨m.2.2.2.2, by rw [add_own]; exact hs4.p1.cell 4, ?_⟩
  refine Go.H.cut (fun z h' => ∃ p : Slc, sat h' (cells x4 (encPkK .u8 (pkT (tryP m false) ⟨none, 0, 0⟩ p)).toArray :: ownS encPr 4 p (tagP m.2.2.2.2) :: cells x1 (encM (msg1 m)).toArray :: brgA b rs o :: old h0 :: R)) ?_ ?_
  · intro K hK
    (try dsimp only); rw [HM.ite_apply]
    by_cases hte : m.2.2.2.2 = ByteArray.mk #[]
    · rw [if_neg (by simp [hte])]
      refine hK _ _ ⟨⟨none, 0, 0⟩, ?_⟩
      have e : tagP m.2.2.2.2 = [] := if_pos hte
      rw [e]
      exact (ownS_nil hs4).p1
    · rw [if_pos (by simp [hte])]
      refine ⟨m.2.2.2.2, by rw [add_own]; exact hs4.p1.cell 4, ?_⟩
      refine new_cells hs4 fun x8 h5 hs5 => ?_
      (try dsimp only); rw [HM.bind_apply, add_own]
      refine store1_cells hs5.p1 (by simp) rfl fun h6 hs6 => ?_
      refine hK _ _ ⟨⟨some ⟨x8, 0, none⟩, 1, 1⟩, ?_⟩
      have e : tagP m.2.2.2.2 = [(38, 0, tagS, m.2.2.2.2)] := if_neg hte
      rw [e]
      have h7 := ownS_mk (enc := encPr) (size := 4) (s := ⟨some ⟨x8, 0, none⟩, 1, 1⟩) (xs := [(38, 0, tagS, m.2.2.2.2)]) (o := 0) (cs := (encPr (38, 0, tagS, m.2.2.2.2)).toArray) ⟨rfl, Nat.le_refl _, rfl, by simp, by simp⟩ hs6.p1
      exact h7.p1
  rintro ⟨⟩ h5 ⟨p, hs5⟩
  refine loadN_cells (ts := Pk_tK .u8) (pkT (tryP m false) ⟨none, 0, 0⟩ p) hs5 rfl ?_
  refine bind_callN (put_spec (o := tryP m false) (c := ⟨none, 0, 0⟩) (p := p) (hs5.re [4, 0, 1, 2, 3]) ht (tryP_ok z1 z2 z3) (hs5.p1.own_row ePr_len) fun h6 hs6' => ⟨(putB (tryP m false) m.2.2.2.2, putC (tryP m false) m.2.2.2.2, ()), rfl, ?_⟩)
  have hs6 : sat h6 (cells x1 (encM (msg1 m)).toArray :: brgA b rs o :: old h0 :: R) := (hs6'.re [1, 2, 3, 4, 0]).drop.drop
  clear hs6' hs5
  (try dsimp only); rw [HM.ite_apply]
  by_cases hc : putC (tryP m false) m.2.2.2.2 = 0
  case neg =>
    rw [if_pos (by simp [hc])]
    have := hq ⟨none, 0, 0⟩ h6
    have e : bsendF o m = ((o, []), putC (tryP m false) m.2.2.2.2) := if_pos hc
    rw [e] at this
    exact this ((pks_nil hs6.drop).p1)
  rw [if_neg (by simp [hc])]
  have e : bsendF o m = sendF o (msg1 m) := if_neg (by simp [hc])
  rw [e] at hq
  obtain ⟨S, ob, hs7⟩ := brgA_iff.1 hs6.p1
  refine ⟨_, rfl, some ⟨ob, 0, none⟩, by rw [add_own]; exact hs7.cell 1, ?_⟩
  refine loadN_cells (ts := [.str, .str, .int .i64, .bool, .str]) (toU (msg1 m)) hs7.p3 rfl ?_
  refine bind_callN (osend_spec (m := msg1 m) (hs7.re [2, 0, 1, 3, 4]) hok fun S' h' hs8 => ⟨(S', _, ()), rfl, ?_⟩)
  refine hq S' h' (brgA_iff.2 ⟨S, ob, (hs8.re [4, 2, 3, 0, 1]).drop⟩)
end Go.Proofs.YtfhalebbcbgbdaaGreatDoor
namespace Go.Proofs.YtfhalebbcbgbdaaGreatDoor
open Go.H Go.Proofs
set_option linter.unusedSimpArgs false
set_option linter.unusedVariables false
set_option maxRecDepth 100000
variable {h h0 : Heap} {R : List Asn}
def leftF (o : OutS) : List MsT := o.flights.map (·.2.1) ++ o.waiting
theorem bleft_spec {b : Nat} {rs : List RuleT} {o : OutS} (hs : sat h (brgA b rs o :: R)) (hok : FlowOK o) {Q : Value → Heap → Prop}
    (hq : ∀ (S : Slc) h', sat h' (ownS encM 5 S (leftF o) :: brgA b rs o :: R) → Q (.slice S.a S.len S.cap) h') : HCalls Tryz.prog 26 #[at0 b] h Q := by
  refine bridge_Bridge_Left_calls (some ⟨b, 0, none⟩) h Q ?_
  unfold bridge_Bridge_Left
  have hf64 := hok.f64
  have hwl := hok.wl
  obtain ⟨S, ob, hs1⟩ := brgA_iff.1 hs
  (try dsimp only); rw [HM.ite_apply, if_neg (by simp)]
  refine ⟨_, rfl, some ⟨ob, 0, none⟩, by rw [add_own]; exact hs1.cell 1, ?_⟩
  refine bind_call1 (oflights_spec (hs1.re [2, 0, 1]) (by omega) fun fl h1 hs2 => ⟨fl, rfl, ?_⟩)
  have hfl : fl.len = o.flights.length := hs2.own_len
  refine Go.H.cut (fun z h' => sat h' (ownS encM 5 z.1 (o.flights.map (·.2.1)) :: outA ob o :: cells b #[.slice S.a S.len S.cap, at0 ob] :: ownS encRu 5 S rs :: R)) ?_ ?_
  · intro K hK
    refine loop_for o.flights.length (fun i x h' => x.2.1 = (i : Int) ∧ sat h' (ownS encM 5 x.1 ((o.flights.take i).map (·.2.1)) :: ownS encF 7 fl o.flights :: outA ob o :: cells b #[.slice S.a S.len S.cap, at0 ob] :: ownS encRu 5 S rs :: R))
      ⟨rfl, by simpa using ownS_nil hs2⟩ (fun i x h hi hJ => by rw [hJ.1, hfl]; exact decide_eq_decide.2 (by omega)) (fun x h hJ K1 hd => ?_) (fun i x h hlt hJ K1 hnx hd => ?_)
    · obtain ⟨hx, hs3⟩ := hJ
      rw [List.take_length] at hs3
      exact hd _ _ (hK _ _ hs3.p1.drop)
    · obtain ⟨out, ci, ⟨⟩⟩ := x
      obtain ⟨hx, hs3⟩ := hJ
      simp only at hx hs3
      subst hx
      have hy := List.getElem?_eq_getElem hlt
      have htk : (o.flights.take (i + 1)).map (·.2.1) = (o.flights.take i).map (·.2.1) ++ [o.flights[i].2.1] := by rw [List.take_add_one, hy, List.map_append]; rfl
      have hbl : ((o.flights.take i).map (·.2.1)).length ≤ 64 := by rw [List.length_map, List.length_take]; omega
      generalize o.flights[i] = f at hy htk
      (try dsimp only); rw [HM.bind_apply]
      refine idx_row (hs3.p1.own_row eF_len) hy fun a ha => ?_
      refine loadN_of (ts := [.int .i64, .str, .str, .int .i64, .bool, .str, .bool]) (toFU f) ha ?_
      refine new_cells hs3 fun x8 h4 hs4 => ?_
      (try dsimp only); rw [HM.bind_apply]
      refine storeN_all' hs4 rfl rfl fun h5 hs5' => ?_
      have hs5 : sat h5 (cells x8 (encF f).toArray :: ownS encM 5 out ((o.flights.take i).map (·.2.1)) :: ownS encF 7 fl o.flights :: outA ob o :: cells b #[.slice S.a S.len S.cap, at0 ob] :: ownS encRu 5 S rs :: R) := hs5'
      refine loadN_of (ts := [.str, .str, .int .i64, .bool, .str]) (toU f.2.1) (fun j v hv => ?_) ?_
      · rw [add_own, Addr.add_at, hs5.cell]
        match j, hv with
        | 0, hv => exact hv
        | 1, hv => exact hv
        | 2, hv => exact hv
        | 3, hv => exact hv
        | 4, hv => exact hv
        | n + 5, hv => exact absurd hv (by show ¬ (encM f.2.1)[n + 5]? = some v; simp)
      refine app_new (x := f.2.1) eMs_len eMs_cell rfl hs5.p1 (by decide) (by decide) (by omega) fun out' h6 hs6 => ?_
      refine hnx _ _ ⟨by (try dsimp only); rw [wrap_id (by omega) (by omega)]; rfl, ?_⟩
      rw [htk]
      exact hs6.p1.drop
  rintro ⟨out, ⟨⟩⟩ h2 hs3
  refine ⟨_, rfl, some ⟨ob, 0, none⟩, by rw [add_own]; exact hs3.p2.cell 1, ?_⟩
  refine bind_call1 (owaiting_spec (hs3.re [1, 0, 2, 3]) (by omega) fun wt h3 hs4 => ⟨wt, rfl, ?_⟩)
  have hwt : wt.len = o.waiting.length := hs4.own_len
  have hsrc := own_srcs eMs_len hs4
  (try dsimp only); rw [HM.bind_apply]
  refine append_own (ys := o.waiting) eMs_len eMs_cell rfl hs4.p2 hwt.symm hsrc (by decide) (by decide) (by rw [List.length_map, hwt]; omega) fun out' h5 hs5 => ?_
  refine hq out' h5 ?_
  have h6 : sat h5 (brgA b rs o :: ownS encM 5 out' (leftF o) :: ownS encM 5 wt o.waiting :: R) := brgA_iff.2 ⟨S, ob, hs5.re [3, 4, 2, 0, 1]⟩
  exact (h6.re [2, 1, 0]).drop
end Go.Proofs.YtfhalebbcbgbdaaGreatDoor
namespace Go.Proofs.YtfhalebbcbgbdaaGreatDoor
open Go.H Go.Proofs
set_option linter.unusedSimpArgs false
set_option linter.unusedVariables false
set_option maxRecDepth 100000
variable {h h0 : Heap} {L L' L1 L2 R : List Asn} {Q : Value → Heap → Prop}
instance : Enc encM 5 := ⟨eMs_len, eMs_cell, by decide⟩
instance (k : IntKind) : Enc (encPkK k) 26 := ⟨ePkK_len k, ePkK_cell k, by decide⟩
instance : Enc encPr 4 := ⟨ePr_len, ePr_cell, by decide⟩
instance : Enc encRu 5 := ⟨eRu_len, eRu_cell, by decide⟩
abbrev encS1 (x : ByteArray) : List Value := [.string x]
instance : Enc encS1 1 := ⟨fun _ => rfl, fun x v hv => by rw [List.mem_singleton.1 hv]; rfl, by decide⟩
theorem wakes23_w (ht : TP h0) (hq : At (old h0 :: L') (Q (.bool true))) (hx : Has L (old h0) L' := by repeat (first | with_reducible exact Go.H.has0 | apply Go.H.hasS)) : FW Tryz.prog 10 #[] L Q :=
  fun h hs => wakes23_spec (hx.s hs) ht fun h' hs' => hq h' hs'
theorem brgNew_w {s : Slc} {rs : List RuleT} (ht : TP h0) (hz : ∀ r ∈ rs, szR r) (hl : rs.length ≤ 16) (hbad : codeRs rs ≠ 0 → At (ownS encRu 5 s rs :: old h0 :: L2) (Q (.tuple #[.pointer none, .int .u8 (codeRs rs)])))
    (hok : codeRs rs = 0 → ∀ b, At (brgA b rs freshO :: ownS encRu 5 s rs :: old h0 :: L2) (Q (.tuple #[at0 b, .int .u8 0]))) (hx : Has L (ownS encRu 5 s rs) L1 := by repeat (first | with_reducible exact Go.H.has0 | apply Go.H.hasS)) (hy : Has L1 (old h0) L2 := by repeat (first | with_reducible exact Go.H.has0 | apply Go.H.hasS)) :
    FW Tryz.prog 12 #[.slice s.a s.len s.cap] L Q :=
  fun h hs => brgNew_spec ((hx.then hy).s hs) ht hz hl (fun hc h' hs' => hbad hc h' hs') (fun hc h' b hs' => hok hc b h' hs')
theorem bbegin_w {b : Nat} {rs : List RuleT} {o : OutS} (hok : FlowOK o) (hq : ∀ S : Slc, At (brgA b rs (beginF o 64).1 :: pksA .u8 S (beginF o 64).2 :: L') (Q (.slice S.a S.len S.cap))) (hx : Has L (brgA b rs o) L' := by repeat (first | with_reducible exact Go.H.has0 | apply Go.H.hasS)) :
    FW Tryz.prog 20 #[at0 b] L Q := fun h hs => bbegin_spec (hx.s hs) hok fun S h' hs' => hq S h' hs'
theorem bend_w {b : Nat} {rs : List RuleT} {o : OutS} (hq : At (brgA b rs { o with on := false } :: L') (Q (.tuple #[]))) (hx : Has L (brgA b rs o) L' := by repeat (first | with_reducible exact Go.H.has0 | apply Go.H.hasS)) :
    FW Tryz.prog 22 #[at0 b] L Q := fun h hs => bend_spec (hx.s hs) fun h' hs' => hq h' hs'
theorem bans_w {b : Nat} {rs : List RuleT} {o : OutS} {p : Pk} (hok : FlowOK o)
    (hq : ∀ S : Slc, At (brgA b rs (ansF o p.1 p.2.2.2.2.1 p.2.2.2.2.2.2.2.1).1.1 :: pksA .u8 S (ansF o p.1 p.2.2.2.2.1 p.2.2.2.2.2.2.2.1).1.2 :: L') (Q (.tuple #[.slice S.a S.len S.cap, .int .u8 (ansF o p.1 p.2.2.2.2.1 p.2.2.2.2.2.2.2.1).2])))
    (hx : Has L (brgA b rs o) L' := by repeat (first | with_reducible exact Go.H.has0 | apply Go.H.hasS)) : FW Tryz.prog 18 #[at0 b, vPkK .u8 p] L Q := fun h hs => bans_spec (hx.s hs) hok fun S h' hs' => hq S h' hs'
theorem bsend_w {b : Nat} {rs : List RuleT} {o : OutS} {m : MsT} (ht : U8 h0) (hok : FlowOK o) (z1 : m.1.size ≤ 100000000) (z2 : m.2.1.size ≤ 100000000) (z3 : m.2.2.2.2.size ≤ 100000000)
    (hq : ∀ S : Slc, At (brgA b rs (bsendF o m).1.1 :: pksA .u8 S (bsendF o m).1.2 :: old h0 :: L2) (Q (.tuple #[.slice S.a S.len S.cap, .int .u8 (bsendF o m).2])))
    (hx : Has L (brgA b rs o) L1 := by repeat (first | with_reducible exact Go.H.has0 | apply Go.H.hasS)) (hy : Has L1 (old h0) L2 := by repeat (first | with_reducible exact Go.H.has0 | apply Go.H.hasS)) :
    FW Tryz.prog 23 #[at0 b, vMs m] L Q := fun h hs => bsend_spec ((hx.then hy).s hs) ht hok z1 z2 z3 fun S h' hs' => hq S h' hs'
theorem bleft_w {b : Nat} {rs : List RuleT} {o : OutS} (hok : FlowOK o) (hq : ∀ S : Slc, At (ownS encM 5 S (leftF o) :: brgA b rs o :: L') (Q (.slice S.a S.len S.cap))) (hx : Has L (brgA b rs o) L' := by repeat (first | with_reducible exact Go.H.has0 | apply Go.H.hasS)) :
    FW Tryz.prog 26 #[at0 b] L Q := fun h hs => bleft_spec (hx.s hs) hok fun S h' hs' => hq S h' hs'
end Go.Proofs.YtfhalebbcbgbdaaGreatDoor
namespace Go.Proofs.YtfhalebbcbgbdaaGreatDoor
open Go.H Go.Proofs
set_option linter.unusedSimpArgs false
set_option linter.unusedVariables false
set_option maxRecDepth 100000
def nameB (i : Nat) : ByteArray := ByteArray.mk #[116, UInt8.ofNat (48 + i / 10), UInt8.ofNat (48 + i % 10)]
theorem name_textC : ∀ i, i < 60 → textC (nameB i) = 0 := by decide +kernel
theorem name_inj : ∀ i, i < 60 → ∀ j, j < 60 → nameB i = nameB j → i = j := by decide +kernel
theorem name_made : ∀ i : Nat, i < 60 → ByteArray.mk #[116] ++ bytesOfInts [IntKind.wrap .u8 (IntKind.wrap .i64 (48 + (IntKind.wrap .i64 (Int.tdiv (i : Int) 10)))), IntKind.wrap .u8 (IntKind.wrap .i64 (48 + (Int.tmod (i : Int) 10)))] = nameB i := by decide +kernel
theorem name_put : ∀ i, i < 60 → putC (tryP (nameB i, e0S, 0, false, e0S) false) e0S = 0 := by
  intro i hi
  have h1 : textC (nameB i) = 0 := name_textC i hi
  have h2 : propC e0S = 0 := by unfold propC; rw [if_pos rfl]
  have hC : bodyC (tryP (nameB i, e0S, 0, false, e0S) false) e0S = 0 := by
    show firstC (textC (nameB i)) (propC e0S) = 0
    rw [h1, h2]; rfl
  have hL : (bodyB (tryP (nameB i, e0S, 0, false, e0S) false) e0S).length ≤ 65536 := by
    unfold bodyB
    simp only [List.length_append, intsS_len]
    have g1 := textB_size (nameB i)
    have g2 := propB_size e0S
    have g3 := idB_len (tryP (nameB i, e0S, 0, false, e0S) false)
    have g4 : (nameB i).size = 3 := rfl
    have g5 : e0S.size = 0 := rfl
    omega
  unfold putC
  rw [if_neg (by rw [hC]; simp), if_neg (by omega)]
abbrev msgJ (j : Nat) : MsT := (nameB j, e0S, 1, false, e0S)
def flJ (j : Nat) : FlT := ((j : Int) + 1, msgJ j, false)
def pkJ (d : Bool) (j : Nat) : PkO := pubO (msgJ j) ((j : Int) + 1) d
def oJ (n : Nat) (js : List Nat) (on : Bool) : OutS := ⟨⟨64, n, js.map fun j : Nat => (j : Int) + 1⟩, 64, on, js.map flJ, []⟩
theorem nodup_succ {js : List Nat} (h : js.Nodup) : (js.map fun j : Nat => (j : Int) + 1).Nodup := by
  rw [List.nodup_iff_pairwise_ne, List.pairwise_map]
  exact List.Pairwise.imp (fun hne e => hne (by omega)) (List.nodup_iff_pairwise_ne.1 h)
theorem nodup_lt : ∀ (js : List Nat) (n : Nat), js.Nodup → (∀ j ∈ js, j < n) → js.length ≤ n
  | js, 0, hd, hj => by
    cases js with
    | nil => simp
    | cons j js => exact absurd (hj j (List.mem_cons_self ..)) (by omega)
  | js, n + 1, hd, hj => by
    have h1 := nodup_lt (js.erase n) n (hd.erase n) (fun j hm => by
      have h2 := hj j (List.mem_of_mem_erase hm)
      have h3 : j ≠ n := fun e => by subst e; exact (List.Nodup.not_mem_erase hd) hm
      omega)
    have h4 := len1 js n
    omega
where
  len1 (js : List Nat) (n : Nat) : js.length ≤ (js.erase n).length + 1 := by
    rw [List.length_erase]; split <;> omega
theorem oJ_ok {n : Nat} {js : List Nat} (on : Bool) (hn : n ≤ 60) (hd : js.Nodup) (hj : ∀ j ∈ js, j < n) : FlowOK (oJ n js on) := by
  have hl : js.length ≤ n := by
    exact nodup_lt js n hd hj
  refine ⟨rfl, ⟨(by decide : (1 : Int) ≤ 64), (by decide : (64 : Int) ≤ 64), ?_, ?_, ?_, nodup_succ hd, ?_⟩, (by decide : (1 : Int) ≤ 64), (by decide : (64 : Int) ≤ 64), ?_, by simp [oJ], ?_, by simp [oJ]⟩
  · show (0 : Int) ≤ n; omega
  · show (n : Int) ≤ 65535; omega
  · show ((js.map fun j : Nat => (j : Int) + 1).length : Int) ≤ 64
    rw [List.length_map]; omega
  · intro k hk
    obtain ⟨j, hm, rfl⟩ := List.mem_map.1 hk
    have := hj j hm
    omega
  · show (js.map flJ).map (·.1) = _
    rw [List.map_map]; rfl
  · intro f hf
    obtain ⟨j, hm, rfl⟩ := List.mem_map.1 hf
    exact ⟨(by decide : (1 : Int) ≤ 1), (by decide : (1 : Int) ≤ 2), fun e => by cases e⟩
theorem oJ_begin (n : Nat) (js : List Nat) (on : Bool) : beginF (oJ n js on) 64 = (oJ n js true, js.map (pkJ true)) := by
  simp only [beginF, goOnF, oJ, goF, if_true, List.append_nil, List.map_map]
  refine Prod.ext ?_ ?_
  · rfl
  · exact List.map_congr_left fun j _ => rfl
theorem nxt_lt {n : Nat} (h : n ≤ 60) : nxt (n : Int) = (n : Int) + 1 := by unfold nxt; omega
theorem oJ_send {n : Nat} (h : n < 60) : bsendF (oJ n (List.range n) true) (nameB n, e0S, 0, false, e0S) = ((oJ (n + 1) (List.range (n + 1)) true, [pkJ false n]), 0) := by
  unfold bsendF
  rw [if_neg (by rw [name_put n h]; simp)]
  have hnx : nextI ((List.range n).map fun j : Nat => (j : Int) + 1) n = (n : Int) + 1 := by
    have hr : Reach ((List.range n).map fun j : Nat => (j : Int) + 1) 0 n (nxt n) := Reach.here (by
      rw [nxt_lt (Nat.le_of_lt h)]
      intro hm
      obtain ⟨j, hj, e⟩ := List.mem_map.1 hm
      have := List.mem_range.1 hj
      omega)
    rw [nextI_eq hr, nxt_lt (Nat.le_of_lt h)]
  unfold sendF
  rw [if_neg (show ¬ ((1 : Int) < 0 ∨ 2 < (1 : Int)) by decide), if_neg (show ¬ ((msg1 (nameB n, e0S, 0, false, e0S)).2.2.1 = 0 ∧ (oJ n (List.range n) true).on = false) from fun h => absurd h.1 (show ¬ ((1 : Int) = 0) by decide)), if_neg (by simp [oJ])]
  have : goF (oJ n (List.range n) true) [msgJ n] = (oJ (n + 1) (List.range (n + 1)) true, [pkJ false n]) := by
    have e1 : ¬ (0 < (msgJ n).2.2.1 ∧ (oJ n (List.range n) true).most ≤ ((oJ n (List.range n) true).flights.length : Int)) := by
      simp [oJ]; omega
    have e2 : 0 < (msgJ n).2.2.1 := (by decide : (0 : Int) < 1)
    unfold goF
    rw [if_neg e1, if_pos e2]
    simp only [goF]
    show (({ pool := ⟨64, nextI ((List.range n).map fun j : Nat => (j : Int) + 1) n, ((List.range n).map fun j : Nat => (j : Int) + 1) ++ [nextI ((List.range n).map fun j : Nat => (j : Int) + 1) n]⟩, most := 64, on := true, flights := (List.range n).map flJ ++ [(nextI ((List.range n).map fun j : Nat => (j : Int) + 1) n, msgJ n, false)], waiting := [] } : OutS), [pubO (msgJ n) (nextI ((List.range n).map fun j : Nat => (j : Int) + 1) n) false]) = _
    rw [hnx]
    simp only [oJ, List.range_succ, List.map_append, List.map_cons, List.map_nil]
    rfl
  have e : goOnF { oJ n (List.range n) true with waiting := (oJ n (List.range n) true).waiting ++ [msg1 (nameB n, e0S, 0, false, e0S)] } = (oJ (n + 1) (List.range (n + 1)) true, [pkJ false n]) := by
    unfold goOnF
    rw [if_pos (show (oJ n (List.range n) true).on = true from rfl)]
    show goF { oJ n (List.range n) true with waiting := [msgJ n] } [msgJ n] = _
    rw [← this]
    have e1 : ¬ (0 < (msgJ n).2.2.1 ∧ (oJ n (List.range n) true).most ≤ ((oJ n (List.range n) true).flights.length : Int)) := by
      simp [oJ]; omega
    have e2 : 0 < (msgJ n).2.2.1 := (by decide : (0 : Int) < 1)
    unfold goF
    rw [if_neg e1, if_pos e2, if_neg e1, if_pos e2]
    simp only [goF]
  rw [e]
theorem filter_erase : ∀ {js : List Nat} (hd : js.Nodup) (i : Nat) (hi : i < js.length), js.filter (fun j => decide (j ≠ js[i])) = js.eraseIdx i
  | x :: js, hd, 0, hi => by
    have h1 := (List.nodup_cons.1 hd).1
    simp only [List.getElem_cons_zero, List.eraseIdx_cons_zero]
    rw [List.filter_cons_of_neg (by simp)]
    refine List.filter_eq_self.2 fun y hy => ?_
    simp only [ne_eq, decide_not, Bool.not_eq_true', decide_eq_false_iff_not]
    exact fun e => h1 (e ▸ hy)
  | x :: js, hd, i + 1, hi => by
    have h1 := (List.nodup_cons.1 hd)
    have hi' : i < js.length := by simpa using hi
    have h2 := filter_erase h1.2 i hi'
    simp only [List.getElem_cons_succ, List.eraseIdx_cons_succ]
    rw [List.filter_cons_of_pos (by
      simp only [ne_eq, decide_not, Bool.not_eq_true', decide_eq_false_iff_not]
      exact fun e => h1.1 (e ▸ List.getElem_mem hi')), h2]
theorem oJ_ans {n : Nat} {js : List Nat} (hd : js.Nodup) {i : Nat} (hi : i < js.length) : ansF (oJ n js true) 4 ((js[i] : Int) + 1) 0 = ((oJ n (js.eraseIdx i) true, []), 0) := by
  unfold ansF
  rw [if_neg (by simp [oJ])]
  have hf : (oJ n js true).flights.find? (fun f => decide (f.1 = (js[i] : Int) + 1)) = some (flJ js[i]) := by
    show (js.map flJ).find? _ = _
    rw [List.find?_map]
    have : js.find? ((fun f : FlT => decide (f.1 = (js[i] : Int) + 1)) ∘ flJ) = some js[i] := by
      have hp : ((fun f : FlT => decide (f.1 = (js[i] : Int) + 1)) ∘ flJ) = fun j => decide (j = js[i]) := by
        funext j
        simp only [Function.comp_apply, flJ]
        exact decide_eq_decide.2 (by omega)
      rw [hp]
      cases hfd : js.find? (fun j => decide (j = js[i])) with
      | none =>
        have := List.find?_eq_none.1 hfd js[i] (List.getElem_mem hi)
        simp at this
      | some x =>
        have := List.find?_some hfd
        simp at this
        rw [this]
    rw [this]; rfl
  rw [hf]
  have e1 : overF (oJ n js true) ((js[i] : Int) + 1) = oJ n (js.eraseIdx i) true := by
    unfold overF oJ
    simp only [OutS.mk.injEq, PoolS.mk.injEq, true_and, and_true]
    have hfl : (js.map flJ).filter (fun f => decide (f.1 ≠ (js[i] : Int) + 1)) = (js.eraseIdx i).map flJ := by
      rw [List.filter_map, ← filter_erase hd i hi]
      congr 1
      refine List.filter_congr fun x _ => ?_
      simp only [Function.comp_apply, flJ]
      exact decide_eq_decide.2 (by omega)
    refine ⟨?_, hfl⟩
    have := erase_ids (l := js.map flJ) (u := js.map fun j : Nat => (j : Int) + 1) (by rw [List.map_map]; rfl) (nodup_succ hd) ((js[i] : Int) + 1)
    rw [← this, hfl, List.map_map]
    rfl
  show (if (4 : Int) = 4 then (if (1 : Int) ≠ 1 then _ else (goOnF (overF (oJ n js true) ((js[i] : Int) + 1)), (0 : Int))) else _) = _
  rw [if_pos rfl, if_neg (by simp), e1]
  rfl
def idsM (n : Nat) : List (ByteArray × Int) := (List.range n).map fun j : Nat => (nameB j, (j : Int) + 1)
theorem idsM_get {n j : Nat} (hn : n ≤ 60) (hj : j < n) : mget (idsM n) (nameB j) = some ((j : Int) + 1) := by
  unfold mget idsM
  rw [List.find?_map]
  have hp : (List.range n).find? ((fun p : ByteArray × Int => decide (p.1 = nameB j)) ∘ fun j : Nat => (nameB j, (j : Int) + 1)) = some j := by
    cases hfd : (List.range n).find? ((fun p : ByteArray × Int => decide (p.1 = nameB j)) ∘ fun j : Nat => (nameB j, (j : Int) + 1)) with
    | none =>
      have := List.find?_eq_none.1 hfd j (List.mem_range.2 hj)
      simp at this
    | some x =>
      have h1 := List.find?_some hfd
      have h2 := List.mem_range.1 (List.mem_of_find?_eq_some hfd)
      simp at h1
      rw [name_inj x (by omega) j (by omega) h1]
  rw [hp]; rfl
theorem idsM_set {n : Nat} (hn : n < 60) : mset (idsM n) (nameB n) ((n : Int) + 1) = idsM (n + 1) := by
  rw [mset_none]
  · simp [idsM, List.range_succ]
  · rw [mget_none_iff]
    intro hm
    simp only [idsM, List.map_map, List.mem_map, List.mem_range, Function.comp_apply] at hm
    obtain ⟨j, hj, e⟩ := hm
    have := name_inj j (by omega) n hn e
    omega
end Go.Proofs.YtfhalebbcbgbdaaGreatDoor
namespace Go.Proofs.YtfhalebbcbgbdaaGreatDoor
open Go.H Go.Proofs
set_option linter.unusedSimpArgs false
set_option linter.unusedVariables false
set_option maxRecDepth 100000
variable {h0 : Heap} {Q : Value → Heap → Prop}
theorem pks_open {k : IntKind} {s : Slc} {os : List PkO} : ∀ h R, sat h (pksA k s os :: R) → ∃ T : List (Slc × Slc × PkO), T.map (·.2.2) = os ∧ sat h (ownS (encPkK k) 26 s (T.map pkF) :: bigA (pkB k) T :: R) := fun h R => pks_iff.1
theorem BridgeAgain_w (ht : TP h0) (hu : U8 h0) {n : Int} {s : Slc} {xs : List Int} (hr : RowAt (fun x : Int => [Value.int .i64 x]) 1 h0 s xs) (hq : ∀ h' R, sat h' (old h0 :: R) → Q (.bool true) h') :
    FW Tryz.prog 5 #[.int .i64 n, .slice s.a s.len s.cap] [old h0] Q := by
  refine fun h hs => law23_BridgeAgain_calls n s h Q ((?_ : W [old h0] _ _) h hs)
  clear hs h
  unfold law23_BridgeAgain
  refine W.nils encRu 5 ?_
  refine W.callN (brgNew_w (s := ⟨none, 0, 0⟩) (rs := []) ht (by simp) (by simp) (fun hc => absurd rfl hc) fun _ b => At.unN ?_)
  refine W.bbind (W.call1 (wakes23_w ht (At.un ?_)))
  refine W.bf rfl (W.bpure (W.ff rfl (W.req ?_ (by decide))))
  refine W.call1 (bbegin_w FlowOK.new fun S => At.un ?_)
  have e0 : (beginF freshO 64).1 = oJ 0 (List.range 0) true := by
    have := oJ_begin 0 [] false
    exact congrArg Prod.fst this
  rw [e0]
  refine W.newm (ek := fun s : ByteArray => Value.string s) (ev := fun k : Int => Value.int .i64 k) fun mb => ?_
  obtain ⟨N, hN, hN60⟩ : ∃ N : Nat, Int.tmod (if 0 < (n : Int) then n else 0) 60 = (N : Int) ∧ N < 60 := by
    generalize hz : (if 0 < (n : Int) then n else 0) = z
    have h0 : 0 ≤ z := by split at hz <;> omega
    refine ⟨(Int.tmod z 60).toNat, ?_, ?_⟩
    · rw [Int.tmod_eq_emod_of_nonneg h0]; omega
    · rw [Int.tmod_eq_emod_of_nonneg h0]; omega
  rw [hN]
  refine W.nils encS1 1 ?_
  show W (ownS encS1 1 ⟨none, 0, 0⟩ ((List.range 0).map nameB) :: mapA (fun s : ByteArray => Value.string s) (Kind.val (.one (.int .i64))) mb (idsM 0) :: _) _ _
  refine W.for N (fun i x => x.2.1 = (i : Int)) (fun i x => [ownS encS1 1 x.1 ((List.range i).map nameB), mapA (fun s : ByteArray => Value.string s) (Kind.val (.one (.int .i64))) mb (idsM i), brgA b [] (oJ i (List.range i) true), old h0])
    rfl (by repeat (first | with_reducible exact Go.H.Sub.rfl | with_reducible exact Go.H.Sub.nil | refine Go.H.Sub.cons (by repeat (first | with_reducible exact Go.H.has0 | apply Go.H.hasS)) ?_ | refine Go.H.Sub.drop ?_)) (fun i x hi hI => by rw [hI]; exact decide_eq_decide.2 (by omega)) ?_ ?_
  case _ =>
    intro x hI K hd
    refine W.pure (hd _ _ (W.inl ?_))
    have hmn : (if 20 < ((s.len : Nat) : Int) then (20 : Int) else ((s.len : Nat) : Int)) = ((min 20 xs.length : Nat) : Int) := by rw [hr.1]; split <;> omega
    rw [hmn]
    refine W.slo hr (Nat.min_le_right _ _) fun s' hr' => ?_
    have hyl : (xs.take (min 20 xs.length)).length ≤ 20 := by rw [List.length_take]; omega
    generalize xs.take (min 20 xs.length) = ys at hr' hyl
    have hsl : s'.len = ys.length := hr'.1
    refine W.loop (γ := Nat × List Nat) (fun g y => y.2.1 = (g.1 : Int) ∧ g.1 ≤ ys.length ∧ g.2.Nodup ∧ ∀ j ∈ g.2, j < N) (fun g y => [ownS encS1 1 y.1 (g.2.map nameB), mapA (fun s : ByteArray => Value.string s) (Kind.val (.one (.int .i64))) mb (idsM N), brgA b [] (oJ N g.2 true), old h0])
      (fun g => ys.length - g.1) (0, List.range N) ⟨rfl, Nat.zero_le _, List.nodup_range, fun j hj => List.mem_range.1 hj⟩ Sub.rfl ?_
    clear hI x
    rintro ⟨i, js⟩ ⟨left, ci, ⟨⟩⟩ ⟨hI, hle, hnd, hjs⟩ K hnx hd
    simp only at hI hle hnd hjs
    subst hI
    dsimp only
    refine W.ite (fun hb => ?_) (fun hb => W.pure (hd _ _ (W.inl (W.pure fun h' hs' => hq h' _ (hs'.re [3, 0, 1, 2])))))
    have hlt : i < ys.length := by rw [hsl] at hb; simpa using hb
    refine W.idxo hr' hlt fun a ha => W.loado0 hr' ha (List.getElem?_eq_getElem hlt) ?_
    have hok : FlowOK (oJ N js true) := oJ_ok true (by omega) hnd hjs
    refine W.cutx (X := List Nat × Slc) (fun g z => z = .inl (g.2, ()) ∧ g.1.Nodup ∧ ∀ j ∈ g.1, j < N) (fun g z => [ownS encS1 1 g.2 (g.1.map nameB), mapA (fun s : ByteArray => Value.string s) (Kind.val (.one (.int .i64))) mb (idsM N), brgA b [] (oJ N g.1 true), old h0]) ?_ ?_
    · intro K hK
      refine W.fact (A := ownS encS1 1 left (js.map nameB)) own_len' fun hll => ?_
      rw [List.length_map] at hll
      refine W.ite (fun hb => ?_) (fun hb => W.pure ((hK (js, left) _ ⟨rfl, hnd, hjs⟩).sub))
      have hpos : 0 < js.length := by rw [← hll]; simpa using hb
      refine W.req ?_ (by omega)
      obtain ⟨at_, hat, hatl⟩ : ∃ k : Nat, Int.tmod (if 0 < (ys[i] : Int) then ys[i] else 0) ((left.len : Nat) : Int) = (k : Int) ∧ k < js.length := by
        generalize hz : (if 0 < (ys[i] : Int) then ys[i] else 0) = z
        have h0 : 0 ≤ z := by split at hz <;> omega
        refine ⟨(Int.tmod z left.len).toNat, ?_, ?_⟩
        · rw [Int.tmod_eq_emod_of_nonneg h0]
          have := Int.emod_nonneg z (show ((left.len : Nat) : Int) ≠ 0 by omega)
          omega
        · rw [Int.tmod_eq_emod_of_nonneg h0]
          have := Int.emod_nonneg z (show ((left.len : Nat) : Int) ≠ 0 by omega)
          have := Int.emod_lt_of_pos z (show 0 < ((left.len : Nat) : Int) by omega)
          omega
      rw [hat]
      have hjat := hjs _ (List.getElem_mem hatl)
      have hx2 : (js.map nameB)[at_]? = some (nameB js[at_]) := by rw [List.getElem?_map, List.getElem?_eq_getElem hatl]; rfl
      have hatm : at_ < (js.map nameB).length := by rw [List.length_map]; exact hatl
      refine W.idx hatm fun a ha => ?_
      refine W.loade0 ha hx2 ?_
      refine W.lookup key_str (nameB js[at_]) ?_
      rw [idsM_get (by omega) hjat]
      refine W.callN (bans_w (p := Pk_a 4 ((js[at_] : Int) + 1) 0) hok fun S => At.unN ?_)
      rw [show ansF (oJ N js true) (Pk_a 4 ((js[at_] : Int) + 1) 0).1 (Pk_a 4 ((js[at_] : Int) + 1) 0).2.2.2.2.1 (Pk_a 4 ((js[at_] : Int) + 1) 0).2.2.2.2.2.2.2.1 = _ from oJ_ans hnd hatl]
      refine W.ff rfl ?_
      have herase : (js.eraseIdx at_).Nodup := hnd.sublist (List.eraseIdx_sublist ..)
      have hsub : ∀ j ∈ js.eraseIdx at_, j < N := fun j hj => hjs j ((List.eraseIdx_sublist ..).subset hj)
      have hjl : js.length ≤ 64 := by have := hok.f64; rw [show (oJ N js true).flights = js.map flJ from rfl, List.length_map] at this; omega
      have hb3 : (js.map nameB).length * 16 ≤ 140737488355328 := by rw [List.length_map]; omega
      refine W.out1 (xs := js.map nameB) (n := at_) hatm (fun s3 => ?_) hb3 rfl rfl (by rw [wrap_id (by omega) (by omega)]; rfl)
      rw [show (js.map nameB).eraseIdx at_ = (js.eraseIdx at_).map nameB from by rw [List.eraseIdx_eq_take_drop_succ, List.eraseIdx_eq_take_drop_succ, List.map_append, List.map_take, List.map_drop]]
      exact W.pure ((hK (js.eraseIdx at_, s3) _ ⟨rfl, herase, hsub⟩).sub)
    · rintro ⟨js', left'⟩ z ⟨rfl, hnd', hjs'⟩
      have hok' : FlowOK (oJ N js' true) := oJ_ok true (by omega) hnd' hjs'
      refine W.inl ?_
      refine W.callN (bend_w (At.unN ?_))
      refine W.call1 (bbegin_w (hok'.off false) fun S => At.un ?_)
      rw [show beginF { oJ N js' true with on := false } 64 = _ from oJ_begin N js' false]
      refine W.fact (fun h R => pks_len) fun hSl => ?_
      refine W.fact (A := ownS encS1 1 left' (js'.map nameB)) own_len' fun hll => ?_
      rw [List.length_map] at hll hSl
      refine W.bf (by simp only [hSl, hll]; simp) ?_
      refine W.bbind (W.call1 (bleft_w hok' fun S2 => At.un ?_))
      refine W.fact (A := ownS encM 5 S2 (leftF (oJ N js' true))) own_len' fun hl2 => ?_
      have hl3 : S2.len = js'.length := by rw [hl2]; simp [leftF, oJ]
      refine W.bpure (W.ff (by simp only [hl3, hll]; simp) ?_)
      refine W.opnp pks_open fun T hT => ?_
      have hjl' : js'.length ≤ 64 := by have := hok'.f64; rw [show (oJ N js' true).flights = js'.map flJ from rfl, List.length_map] at this; omega
      have hTl : T.length = js'.length := by have := congrArg List.length hT; simpa using this
      have hTi : ∀ i (h1 : i < T.length) (h2 : i < js'.length), T[i].2.2 = pkJ true js'[i] := by
        intro i h1 h2
        have := congrArg (fun l => l[i]?) hT
        simpa [h1, h2] using this
      refine W.for js'.length (fun i x => x.1 = (i : Int)) (fun i x => [ownS (encPkK .u8) 26 S (T.map pkF), ownS encS1 1 left' (js'.map nameB), mapA (fun s : ByteArray => Value.string s) (Kind.val (.one (.int .i64))) mb (idsM N), brgA b [] (oJ N js' true), old h0])
        rfl (by repeat (first | with_reducible exact Go.H.Sub.rfl | with_reducible exact Go.H.Sub.nil | refine Go.H.Sub.cons (by repeat (first | with_reducible exact Go.H.has0 | apply Go.H.hasS)) ?_ | refine Go.H.Sub.drop ?_)) (fun i x hi hI => by rw [hI, hSl]; exact decide_eq_decide.2 (by omega)) ?_ ?_
      · rintro ⟨_, ⟨⟩⟩ hI K2 hd2
        refine W.pure (hd2 _ _ (W.inl (W.pure ?_)))
        exact (hnx (i + 1, js') (left', IntKind.wrap .i64 ((i : Int) + 1), ()) (by simp only; omega) ⟨by simp only; rw [wrap_id (by omega) (by omega)]; rfl, hlt, hnd', hjs'⟩).sub
      · rintro k ⟨_, ⟨⟩⟩ hkl hI K2 hnx2 hd2
        simp only at hI
        subst hI
        dsimp only
        have hkT : k < T.length := by omega
        have hk1 : (T.map pkF)[k]? = some (pkF T[k]) := by rw [List.getElem?_map, List.getElem?_eq_getElem hkT]; rfl
        have hk2 : (js'.map nameB)[k]? = some (nameB js'[k]) := by rw [List.getElem?_map, List.getElem?_eq_getElem hkl]; rfl
        have htk := hTi k hkT hkl
        have hjk := hjs' _ (List.getElem_mem hkl)
        generalize js'[k] = j at hk2 htk hjk
        generalize T[k] = t at hk1 htk
        have hm1 : k < (T.map pkF).length := by rw [List.length_map]; exact hkT
        have hm2 : k < (js'.map nameB).length := by rw [List.length_map]; exact hkl
        refine W.bbind (W.idx hm1 fun a ha => ?_)
        refine W.bbind (W.loade ha hk1 ?_)
        refine W.bbind (W.idx hm2 fun a2 ha2 => ?_)
        refine W.bbind (W.loade0 ha2 hk2 ?_)
        refine W.bf (by show (!(decide (t.2.2.topic = nameB j))) = false; rw [htk]; simp [pkJ, pubO]) ?_
        refine W.bbind (W.idx hm1 fun a ha => ?_)
        refine W.bbind (W.loade ha hk1 ?_)
        refine W.bf (by show (!t.2.2.dup) = false; rw [htk]; rfl) ?_
        refine W.bbind (W.idx hm1 fun a ha => ?_)
        refine W.bbind (W.loade ha hk1 ?_)
        refine W.bbind (W.idx hm2 fun a2 ha2 => ?_)
        refine W.bbind (W.loade0 ha2 hk2 ?_)
        refine W.bbind (W.lookup key_str (nameB j) ?_)
        rw [idsM_get (by omega) hjk]
        refine W.bpure (W.ff (by show (!(t.2.2.id == (j : Int) + 1)) = false; rw [htk]; simp [pkJ, pubO]) ?_)
        exact W.pure ((hnx2 (IntKind.wrap .i64 ((k : Int) + 1), ()) (by simp only; rw [wrap_id (by omega) (by omega)]; rfl)).sub)
  · rintro i ⟨left, ci, ⟨⟩⟩ hlt hI K hnx hd
    simp only at hI
    subst hI
    dsimp only
    refine W.req (W.req ?_ (by decide)) (by decide)
    refine W.newc fun x8 => W.str ?_
    refine W.req ?_ (Nat.le_of_ble_eq_true rfl)
    rw [name_made i (by omega)]
    have hok : FlowOK (oJ i (List.range i) true) := oJ_ok true (by omega) List.nodup_range (fun j hj => List.mem_range.1 hj)
    refine W.callN (bsend_w (m := (nameB i, e0S, 0, false, e0S)) hu hok (by show 3 ≤ _; decide) (by show 0 ≤ _; decide) (by show 0 ≤ _; decide) fun S => At.unN ?_)
    rw [oJ_send (by omega)]
    refine W.fact (fun h R => pks_len) fun hSl => ?_
    refine W.opnp pks_open fun T hT => ?_
    obtain ⟨t, rfl, htt⟩ := List.map_eq_singleton_iff.1 hT
    refine W.bf rfl ?_
    refine W.bf (by rw [show S.len = 1 from hSl]; rfl) ?_
    refine W.bbind (W.idx (i := 0) (xs := [t].map pkF) (Nat.zero_lt_succ _) fun a ha => ?_)
    refine W.bbind (W.loade ha rfl ?_)
    refine W.bpure (W.ff (by show t.2.2.dup = false; rw [htt]; rfl) ?_)
    refine W.idx (i := 0) (xs := [t].map pkF) (Nat.zero_lt_succ _) fun a ha => ?_
    refine W.loade ha rfl ?_
    refine W.mset key_str inj_str (nameB i) t.2.2.id ?_
    rw [htt, show (pkJ false i).id = (i : Int) + 1 from rfl, idsM_set (by omega)]
    have hb4 : (((List.range i).map nameB).length + 1) * 16 ≤ 140737488355328 := by rw [List.length_map, List.length_range]; omega
    refine W.app1 (xs := (List.range i).map nameB) (nameB i) (fun s' => ?_) hb4
    rw [show (List.range i).map nameB ++ [nameB i] = (List.range (i + 1)).map nameB from by simp [List.range_succ]]
    exact W.pure ((hnx (s', IntKind.wrap .i64 ((i : Int) + 1), ()) (by simp only; rw [wrap_id (by omega) (by omega)]; rfl)).sub)
end Go.Proofs.YtfhalebbcbgbdaaGreatDoor
namespace Go.H
set_option linter.unusedSimpArgs false
set_option linter.unusedVariables false
section
variable {H : Type} (ec : TypeId × Value → H) (P : Program) (w : World) (base : Nat) (sp : Nat → Bool) (held : Bool)
end
section
variable {H : Type} {ec : TypeId × Value → H} {P : Program} {w : World} {base : Nat} {sp : Nat → Bool} {held : Bool}
theorem list_of {α : Type} {p : Nat → α → Prop} : ∀ (n : Nat), (∀ i, i < n → ∃ x, p i x) → ∃ xs : List α, xs.length = n ∧ ∀ (i : Nat) x, xs[i]? = some x → p i x
  | 0, _ => ⟨[], rfl, fun i x hx => by simp at hx⟩
  | n + 1, hp => by
    obtain ⟨xs, h1, h2⟩ := list_of n (fun i hi => hp i (by omega))
    obtain ⟨x, hx⟩ := hp n (by omega)
    refine ⟨xs ++ [x], by simp [h1], fun i y hy => ?_⟩
    rw [List.getElem?_append] at hy
    split at hy
    · exact h2 i y hy
    · rename_i hi
      have h3 := (List.getElem?_eq_some_iff.1 hy).1
      simp only [List.length_cons, List.length_nil] at h3
      have hin : i = n := by omega
      subst hin
      rw [h1, Nat.sub_self] at hy
      cases hy
      exact hx
end
end Go.H
namespace Go.H
set_option linter.unusedSimpArgs false
set_option linter.unusedVariables false
theorem weightsAll_mem {H : Type} {P : Program} {e : TypeId} : ∀ {l : List (DataW H)} {d : DataW H}, d ∈ l → ∀ n ∈ d.weights P e, n ∈ DataW.weightsAll P e l
  | [], _, h, _, _ => by simp at h
  | x :: l, d, h, n, hn => by
    simp only [DataW.weightsAll, List.mem_append]
    rcases List.mem_cons.1 h with rfl | h
    · exact .inl hn
    · exact .inr (weightsAll_mem h n hn)
end Go.H
namespace Go.H
set_option linter.unusedSimpArgs false
set_option linter.unusedVariables false
open Go.RowKit
end Go.H
namespace Go.H
set_option linter.unusedSimpArgs false
set_option linter.unusedVariables false
section
variable {H : Type} (ec : TypeId × Value → H) (P : Program) (w : World) (base : Nat) (sp : Nat → Bool) (held : Bool)
end
section
variable {H : Type} {ec : TypeId × Value → H} {P : Program} {w : World} {base : Nat} {sp : Nat → Bool} {held : Bool}
end
end Go.H
namespace Go.Proofs
variable {H : Type} {enc : TypeId × Value → H}
end Go.Proofs
namespace Go.Proofs.YtfhalebbcbgbdaaGreatDoor
open Go.ChangeShapes Go.WideShapes Go.ChangeAt Go.RowKit Go.Proofs Go.Lib Go.H
set_option linter.unusedSimpArgs false
set_option linter.unusedVariables false
set_option maxRecDepth 100000
def laid23 : List (String × DataW Unit) := Rows.bridgeNilRow.laid
noncomputable def laidWorld (os : Os) : World :=
  let w0 := World.doorLaid Tryz.prog 400 os
  { w0 with heap := w0.heap.modify 6 fun
      | .cells _ t frozen => .cells ((List.range 256).map fun c => Value.int .u8 (firstT c)).toArray t frozen
      | o => o }
theorem laid_met23 (os : Os) (args : Array Value) : laidMetH Tryz.prog laid23 ((laidWorld os).forCall (fun _ _ => 0) ⟨#[], args, []⟩).memory :=
  laidMetH_of_parts3 (fuel := 8) (laidMet_of_run' 8 (by kernel_rfl) (by kernel_rfl)) (by kernel_rfl) (by kernel_rfl)
theorem u8_extra : U8Extra Tryz.prog u8_ren where
  n3 := by kernel_rfl
  n4 := by kernel_rfl
  y3 := by kernel_rfl
  y4 := by kernel_rfl
  c5 := by kernel_rfl
  c119 := by kernel_rfl
  c138 := by kernel_rfl
theorem accept_eq : (Rows.laid_unicode_utf8_acceptRanges : DataW Unit) = acceptData := by kernel_rfl
theorem first_eq : (Rows.laid_unicode_utf8_first : DataW Unit) = firstData := Pinned.utf8First_eq
theorem u8_of_laid23 {W : World} (h : laidMetH Tryz.prog laid23 W) : U8 W.heap := by
  rw [MakeChecks.laidMetH_plain _ _ _ (by kernel_rfl)] at h
  have h4 := laidMet.reads h (n := "unicode/utf8.acceptRanges") (d := Rows.laid_unicode_utf8_acceptRanges) (by unfold laid23 Rows.bridgeNilRow; simp)
  have h3 := laidMet.reads h (n := "unicode/utf8.first") (d := Rows.laid_unicode_utf8_first) (by unfold laid23 Rows.bridgeNilRow; simp)
  rw [accept_eq] at h4
  rw [first_eq] at h3
  have ht := utf8Tabs_of_readsT (L := { u8 with }) u8_extra h3 h4
  exact ⟨fun c hc => ht.1 c hc, fun i hi => ht.2 i hi⟩
theorem tp_of_laid23 {W : World} (h : laidMetH Tryz.prog laid23 W) (hsh : W.ShapedOpen Tryz.prog) : TP W.heap :=
  ⟨u8_of_laid23 h, cell_of_shapedOpen_int (t := 3) (zero := #[.int .i64 0]) hsh (of_decide_eq_true (by kernel_rfl)) (by kernel_rfl) rfl (by kernel_rfl) (by kernel_rfl) Tryz.underlying3⟩
end Go.Proofs.YtfhalebbcbgbdaaGreatDoor
namespace Go.Proofs.YtfhalebbcbgbdaaGreatDoor
open Go.ChangeShapes Go.WideShapes Go.ChangeAt Go.RowKit Go.Proofs Go.Lib Go.H
set_option linter.unusedSimpArgs false
set_option linter.unusedVariables false
set_option maxRecDepth 100000
section
variable {H : Type} {ec : TypeId × Value → H} {w : World} {base : Nat} {sp : Nat → Bool} {held : Bool} {ok : TypeId → DataW H → Prop} {top : Nat} {wt : TypeId → Nat}
theorem rd_Ints23 (hk : Go.R.OkLaw Tryz.prog ok top wt) : Go.R.RdG ec Tryz.prog w base sp held ok 35 (fun x : Slc × List Int => [.slice x.1.a x.1.len x.1.cap]) (Go.R.GoodG (fun x : Int => [Value.int .i64 x]) 1 (wt 3) top w.heap (fun x => (Lit.int .i64 x).wf = true)) :=
  Go.R.rg_slice hk Tryz.underlying35 (by kernel_rfl) rfl (Go.R.rg_int Tryz.underlying3)
end
end Go.Proofs.YtfhalebbcbgbdaaGreatDoor
