/-
  Cses: contracts: sessions and their table.
-/
import Derived.Test.YtnmighfcpeifeaaDoorCu8
import Derived.Test.YtnmighfcpeifeaaDoorCflo
import Derived.Test.YtnmighfcpeifeaaDoorCout
namespace Go.Proofs.YtnmighfcpeifeaaDoor
open Go.H Go.Proofs
set_option linter.unusedSimpArgs false
set_option linter.unusedVariables false
set_option synthInstance.maxSize 100000
set_option synthInstance.maxHeartbeats 400000

/-! ### sessions -/

structure SesS where
  id : Int
  client : ByteArray
  keep : Bool
  on : Bool
  out : OutS
  inn : PoolS

def sesA (b : Nat) (s : SesS) : Asn := exA fun x : Nat × Nat =>
  star (cells b #[.int .i64 s.id, .string s.client, .bool s.keep, .bool s.on, at0 x.1, at0 x.2]) (star (outA x.1 s.out) (flowA x.2 s.inn))

theorem sesA_iff {h : Heap} {b : Nat} {s : SesS} {R : List Asn} : sat h (sesA b s :: R) ↔ ∃ ob ib : Nat,
    sat h (cells b #[.int .i64 s.id, .string s.client, .bool s.keep, .bool s.on, at0 ob, at0 ib] :: outA ob s.out :: flowA ib s.inn :: R) := by
  unfold sesA
  rw [sat.ex_iff]
  constructor
  · rintro ⟨⟨ob, ib⟩, hs⟩
    rw [sat.star_iff] at hs
    exact ⟨ob, ib, (sat.star_iff.1 hs.p1).p2⟩
  · rintro ⟨ob, ib, hs⟩
    refine ⟨(ob, ib), ?_⟩
    rw [sat.star_iff]
    exact (sat.star_iff.2 (hs.re [1, 2, 0])).p1

/-- a session's entry in the table's map -/
def sesE (p : Nat × SesS) : Int × Option Addr := (p.2.id, some ⟨p.1, 0, none⟩)
abbrev eKI : Int → Value := fun n => .int .i64 n
abbrev eVP : Option Addr → Value := Kind.val (.one .ptr)

def tabA (b : Nat) (last : Int) (L : List (Nat × SesS)) : Asn := exA fun m : Nat =>
  star (cells b #[.int .i64 last, .map (some m)]) (star (mapA eKI eVP m (L.map sesE)) (bigA (fun p => sesA p.1 p.2) L))

theorem tabA_iff {h : Heap} {b : Nat} {last : Int} {L : List (Nat × SesS)} {R : List Asn} : sat h (tabA b last L :: R) ↔ ∃ m : Nat,
    sat h (cells b #[.int .i64 last, .map (some m)] :: mapA eKI eVP m (L.map sesE) :: bigA (fun p => sesA p.1 p.2) L :: R) := by
  unfold tabA
  rw [sat.ex_iff]
  constructor
  · rintro ⟨m, hs⟩
    rw [sat.star_iff] at hs
    exact ⟨m, (sat.star_iff.1 hs.p1).p2⟩
  · rintro ⟨m, hs⟩
    refine ⟨m, ?_⟩
    rw [sat.star_iff]
    exact (sat.star_iff.2 (hs.re [1, 2, 0])).p1

theorem sesNew_spec {h : Heap} {R : List Asn} (hs : sat h R) {Q : Value → Heap → Prop} (hq : ∀ b h', sat h' (tabA b 0 [] :: R) → Q (at0 b) h') : HCalls Tryd.prog 10 #[] h Q := by
  refine session_New_calls h Q ?_
  unfold session_New
  refine new_map (ek := eKI) (ev := eVP) hs fun m h1 hs1 => ?_
  refine new_cells hs1 fun b h2 hs2 => ?_
  exact hq b h2 (tabA_iff.2 ⟨m, (bigA_nil.2 hs2).b2⟩)

theorem ses_client {h : Heap} {L : List (Nat × SesS)} {R : List Asn} {p : Nat × SesS} (hp : p ∈ L) (hs : sat h (bigA (fun p => sesA p.1 p.2) L :: R)) : cellH h ⟨p.1, 1, none⟩ = some (.string p.2.client) := by
  obtain ⟨R', hs⟩ := bigA_mem hp hs
  obtain ⟨ob, ib, hs⟩ := sesA_iff.1 hs
  exact hs.cell 1

theorem of_spec {h : Heap} {R : List Asn} {b : Nat} {last : Int} {L : List (Nat × SesS)} {c : ByteArray} (hs : sat h (tabA b last L :: R)) {Q : Value → Heap → Prop}
    (hno : (∀ p ∈ L, p.2.client ≠ c) → ∀ h', sat h' (tabA b last L :: R) → Q (.pointer none) h')
    (hyes : ∀ p ∈ L, p.2.client = c → ∀ h', sat h' (tabA b last L :: R) → Q (at0 p.1) h') : HCalls Tryd.prog 42 #[at0 b, .string c] h Q := by
  refine session_Table_of_calls _ c h Q ?_
  obtain ⟨m, hs⟩ := tabA_iff.1 hs
  have c1 : cellH h ⟨b, 1, none⟩ = some (.map (some m)) := hs.cell 1
  unfold session_Table_of
  simp [c1]
  refine range_map hs.p1 fun it h1 hs1 => ?_
  refine loop_gx (γ := List (Int × Option Addr) × List (Int × Option Addr))
    (fun g _ h' => (g.1 ++ g.2).Perm (L.map sesE) ∧ (∀ p ∈ L, sesE p ∈ g.1 → p.2.client ≠ c) ∧
      sat h' (itA eKI eVP m (L.map sesE) it g.1 g.2 :: cells b #[.int .i64 last, .map (some m)] :: bigA (fun p => sesA p.1 p.2) L :: R)) (fun g => g.2.length) ([], L.map sesE) ⟨List.Perm.refl _, by simp, hs1⟩ ?_
  rintro ⟨done, todo⟩ ⟨⟩ h2 ⟨hp, hd, hs2⟩
  simp only at hp hd hs2
  simp
  refine next_map hs2 (fun h0 => ?_) (fun q t1 t2 ht h3 hs3 => ?_)
  · subst h0
    simp
    refine hno (fun p hpL => hd p hpL ?_) h2 (tabA_iff.2 ⟨m, (itA_map hs2).p1⟩)
    rw [List.append_nil] at hp
    exact hp.mem_iff.2 (List.mem_map_of_mem hpL)
  · subst ht
    simp
    have hqm : q ∈ L.map sesE := hp.mem_iff.1 (by simp)
    obtain ⟨p, hpL, rfl⟩ := List.mem_map.1 hqm
    refine entry_map (kk := .one .any) (kv := .one .ptr) (ek := eKI) (ev := eVP) (p := sesE p) (x := Value.int .i64 p.2.id) (y := some ⟨p.1, 0, none⟩) rfl rfl hs3 ?_
    have cc : cellH h3 ⟨p.1, 1, none⟩ = some (.string p.2.client) := ses_client hpL hs3.p2
    simp [sesE, cc]
    by_cases hc : p.2.client = c
    · simp [hc]
      exact hyes p hpL hc h3 (tabA_iff.2 ⟨m, (itA_map hs3).p1⟩)
    · simp [hc]
      refine .mk (done ++ [sesE p], t1 ++ t2) (by simp) ⟨?_, fun a b hp' hm => ?_, hs3⟩
      · refine List.Perm.trans ?_ hp
        simp only [List.append_assoc]
        refine List.Perm.append_left done ?_
        show (sesE p :: (t1 ++ t2)).Perm _
        exact List.perm_middle.symm
      · rcases List.mem_append.1 hm with hm | hm
        · exact hd (a, b) hp' hm
        · have he := List.mem_singleton.1 hm
          have : a = p.1 := by
            have := congrArg Prod.snd he
            simpa [sesE] using this
          have c2 := ses_client hp' hs3.p2
          simp only at c2
          rw [this, cc] at c2
          have e2 : p.2.client = b.client := by simpa using c2
          exact fun e3 => hc (e2.trans e3)

/-! ### Begin, End -/

/-- a name that a client may have -/
def goodName (c : ByteArray) : Prop := faultOf c = none ∧ c ≠ ByteArray.mk #[] ∧ c.size ≤ 64

/-- the session of a number -/
theorem at_spec {h : Heap} {R : List Asn} {b : Nat} {last : Int} {L : List (Nat × SesS)} {k : Int} (hs : sat h (tabA b last L :: R)) {Q : Value → Heap → Prop}
    (hno : (∀ p ∈ L, p.2.id ≠ k) → Q (.pointer none) h) (hyes : ∀ p ∈ L, p.2.id = k → Q (at0 p.1) h) : HCalls Tryd.prog 45 #[at0 b, .int .i64 k] h Q := by
  refine session_Table_at_calls _ k h Q ?_
  obtain ⟨m, hs⟩ := tabA_iff.1 hs
  have c1 : cellH h ⟨b, 1, none⟩ = some (.map (some m)) := hs.cell 1
  unfold session_Table_at
  simp [c1]
  refine lookup_map kI (kind := .one .ptr) (z := none) rfl hs.p1 ?_
  cases hg : mget (L.map sesE) k with
  | none =>
    simp
    refine hno fun p hp e => ?_
    have := (mget_none_iff _ _).1 hg
    exact this (by rw [List.map_map]; exact List.mem_map.2 ⟨p, hp, e⟩)
  | some v =>
    obtain ⟨p, hp, e⟩ := List.mem_map.1 (mget_mem hg)
    have e1 : p.2.id = k := congrArg Prod.fst e
    have e2 : some ⟨p.1, 0, none⟩ = v := congrArg Prod.snd e
    subst e2
    simpa using hyes p hp e1

theorem tab_key {h : Heap} {R : List Asn} {m : Nat} {l1 l2 : List (Nat × SesS)} {p : Nat × SesS} (hs : sat h (mapA eKI eVP m ((l1 ++ p :: l2).map sesE) :: R)) : p.2.id ∉ (l1.map sesE).map (·.1) := by
  have hn := hs.map_nodup
  rw [List.map_append, List.map_cons, List.map_append, List.map_cons, List.nodup_append] at hn
  intro hm
  exact hn.2.2 p.2.id hm p.2.id (List.mem_cons_self ..) rfl

theorem End_spec {h : Heap} {R : List Asn} {b : Nat} {last : Int} {L : List (Nat × SesS)} {k : Int} (hs : sat h (tabA b last L :: R)) {Q : Value → Heap → Prop}
    (hno : (∀ p ∈ L, p.2.id ≠ k) → Q (.bool false) h) (hoff : ∀ p ∈ L, p.2.id = k → p.2.on = false → Q (.bool false) h)
    (hkeep : ∀ l1 p l2, L = l1 ++ p :: l2 → p.2.id = k → p.2.on = true → p.2.keep = true → ∀ h', sat h' (tabA b last (l1 ++ (p.1, { p.2 with on := false, out := { p.2.out with on := false } }) :: l2) :: R) → Q (.bool false) h')
    (hdel : ∀ l1 p l2, L = l1 ++ p :: l2 → p.2.id = k → p.2.on = true → p.2.keep = false → ∀ h', sat h' (tabA b last (l1 ++ l2) :: R) → Q (.bool true) h') :
    HCalls Tryd.prog 15 #[at0 b, .int .i64 k] h Q := by
  refine session_Table_End_calls _ k h Q ?_
  unfold session_Table_End
  simp only [HM.bind_apply, HM.call1_apply]
  refine at_spec hs (fun hn => ?_) (fun p hp he => ?_)
  · simp
    exact hno hn
  · obtain ⟨l1, l2, rfl⟩ := List.append_of_mem hp
    obtain ⟨m, hs⟩ := tabA_iff.1 hs
    have hs1 := bigA_pick.1 (hs.re [2, 0, 1])
    obtain ⟨ob, ib, hs2⟩ := sesA_iff.1 hs1
    have c2 : cellH h ⟨p.1, 2, none⟩ = some (.bool p.2.keep) := hs2.cell 2
    have c3 : cellH h ⟨p.1, 3, none⟩ = some (.bool p.2.on) := hs2.cell 3
    by_cases hon : p.2.on = true
    · rw [hon] at c3
      simp [add_own, c3]
      refine store1_cells hs2 (by simp) rfl fun h1 hs3 => ?_
      have d4 : cellH h1 ⟨p.1, 4, none⟩ = some (at0 ob) := by rw [hs3.cell]; rfl
      simp [d4]
      refine outEnd_spec hs3.p1 fun h2 hs4 => ?_
      have e2 : cellH h2 ⟨p.1, 2, none⟩ = some (.bool p.2.keep) := by rw [hs4.p1.cell]; rfl
      simp [e2]
      have fin : ∀ {h' : Heap} {R' : List Asn}, sat h' (outA ob { p.2.out with on := false } :: cells p.1 (#[.int .i64 p.2.id, .string p.2.client, .bool p.2.keep, .bool p.2.on, at0 ob, at0 ib].setIfInBounds 3 (.bool false)) :: flowA ib p.2.inn :: bigA (fun p => sesA p.1 p.2) (l1 ++ l2) :: R') →
          sat h' (bigA (fun p => sesA p.1 p.2) (l1 ++ (p.1, { p.2 with on := false, out := { p.2.out with on := false } }) :: l2) :: R') := fun hs' => by
        refine bigA_pick.2 (sesA_iff.2 ⟨ob, ib, ?_⟩)
        exact hs'.re [1, 0, 2]
      by_cases hk : p.2.keep = true
      · simp [hk, e2]
        refine hkeep l1 p l2 rfl he hon hk h2 (tabA_iff.2 ⟨m, ?_⟩)
        have e : (l1 ++ (p.1, { p.2 with on := false, out := { p.2.out with on := false } }) :: l2).map sesE = (l1 ++ p :: l2).map sesE := by simp [sesE]
        rw [e]
        exact (fin hs4).re [1, 2, 0]
      · have hk' : p.2.keep = false := by simpa using hk
        have hs5 := hs4.re [4, 5, 0, 1, 2, 3]
        have f1 : cellH h2 ⟨b, 1, none⟩ = some (.map (some m)) := by rw [hs5.cell]; rfl
        simp [hk', f1]
        refine del_map kI (ev := eVP) hs5.p1 fun h3 hs6 => ?_
        have g2 : cellH h3 ⟨p.1, 2, none⟩ = some (.bool p.2.keep) := by rw [(hs6.re [3, 0, 1, 2]).cell]; rfl
        rw [hk'] at g2
        simp [g2]
        refine hdel l1 p l2 rfl he hon hk' h3 (tabA_iff.2 ⟨m, ?_⟩)
        have hkey := tab_key hs.p1
        have hdl : mdel ((l1 ++ p :: l2).map sesE) k = (l1 ++ l2).map sesE := by
          rw [List.map_append, List.map_cons, show sesE p = (k, (sesE p).2) from by rw [← he]; rfl, mdel_mid (by rw [← he]; exact hkey), List.map_append]
        rw [hdl] at hs6
        have hs7 := hs6.re [1, 0, 5, 2, 3, 4]
        exact (hs7.re [3, 4, 5, 0, 1, 2]).drop.drop.drop
    · have hon' : p.2.on = false := by simpa using hon
      rw [hon'] at c3
      simp [add_own, c3]
      exact hoff p hp he hon'

/-- a session that has just begun -/
def newS (id : Int) (c : ByteArray) (keep : Bool) : SesS := ⟨id, c, keep, true, ⟨⟨64, 0, []⟩, 64, false, [], []⟩, ⟨64, 0, []⟩⟩

theorem Begin_nil {h h0 : Heap} {R : List Asn} (hs : sat h (old h0 :: R)) (ht : U8 h0) {c : ByteArray} (hsz : c.size ≤ 9223372036854775807) {clean keep : Bool} {Q : Value → Heap → Prop}
    (hq : ∀ h', sat h' (old h0 :: R) → Q (.tuple #[.int .i64 0, .bool false, .int .u8 128]) h') :
    HCalls Tryd.prog 11 #[.pointer none, .string c, .bool clean, .bool keep] h Q := by
  refine session_Table_Begin_calls none c clean keep h Q ?_
  unfold session_Table_Begin
  simp only [HM.bind_apply, HM.callN_apply]
  refine Fault_spec hs ht c hsz fun h1 hs1 => ?_
  cases faultOf c with
  | none => simpa [faultV] using hq h1 hs1
  | some n => simpa [faultV] using hq h1 hs1

theorem Begin_spec {h h0 : Heap} {R : List Asn} {b : Nat} {last : Int} {L : List (Nat × SesS)} (hs : sat h (tabA b last L :: old h0 :: R)) (ht : U8 h0) {c : ByteArray} (hsz : c.size ≤ 9223372036854775807) {clean keep : Bool}
    (hl0 : 0 ≤ last) (hl1 : last < 4611686018427387904) (hid : ∀ p ∈ L, p.2.id ≤ last) {Q : Value → Heap → Prop}
    (hbad : ¬ goodName c → ∀ h', sat h' (tabA b last L :: old h0 :: R) → Q (.tuple #[.int .i64 0, .bool false, .int .u8 133]) h')
    (hfull : goodName c → (∀ p ∈ L, p.2.client ≠ c) → 32 ≤ L.length → ∀ h', sat h' (tabA b last L :: old h0 :: R) → Q (.tuple #[.int .i64 0, .bool false, .int .u8 151]) h')
    (hon : goodName c → clean = false → ∀ l1 p l2, L = l1 ++ p :: l2 → p.2.client = c → ∀ h', sat h' (tabA b last (l1 ++ (p.1, { p.2 with on := true, keep := keep }) :: l2) :: old h0 :: R) → Q (.tuple #[.int .i64 p.2.id, .bool true, .int .u8 0]) h')
    (hnew : goodName c → ∀ L0, ((∀ p ∈ L, p.2.client ≠ c) ∧ L.length < 32 ∧ L0 = L) ∨ (clean = true ∧ ∃ l1 p l2, L = l1 ++ p :: l2 ∧ p.2.client = c ∧ L0 = l1 ++ l2) →
      ∀ nb h', sat h' (tabA b (last + 1) (L0 ++ [(nb, newS (last + 1) c keep)]) :: old h0 :: R) → Q (.tuple #[.int .i64 (last + 1), .bool false, .int .u8 0]) h') :
    HCalls Tryd.prog 11 #[at0 b, .string c, .bool clean, .bool keep] h Q := by
  refine session_Table_Begin_calls _ c clean keep h Q ?_
  unfold session_Table_Begin
  refine bind_callN (Fault_spec hs.p1 ht c hsz fun h1 hs1' => ⟨(match faultOf c with | some n => ((n : Int), true, ()) | none => (0, false, ())), by cases faultOf c <;> rfl, ?_⟩)
  have hs1 := hs1'.p1
  clear hs1' hs
  have hx : (match faultOf c with | some n => ((n : Int), true, ()) | none => (0, false, ()) : Int × Bool × Unit).2.1 = (faultOf c).isSome := by cases faultOf c <;> rfl
  simp only [hx, HM.ite_apply, Option.isNone_some, Bool.false_eq_true, if_false]
  clear hx
  refine bind_cut (fun x h' => h' = h1 ∧ (x.1 = true ↔ ¬ goodName c)) ?_ ?_
  · unfold goodName
    cases hf : faultOf c with
    | some n => simp
    | none =>
      by_cases g1 : c = ByteArray.mk #[]
      · simp [g1]
      · by_cases g2 : 64 < ((c.size : Nat) : Int)
        · simp [g1, g2]; omega
        · simp [g1, g2]; omega
  rintro ⟨x, ⟨⟩⟩ h2 ⟨rfl, hb⟩
  simp only at hb ⊢
  by_cases hg : goodName c
  case neg =>
    rw [HM.ite_apply, if_pos (hb.2 hg)]
    exact hbad hg h2 hs1
  rw [HM.ite_apply, if_neg (fun hh => (hb.1 hh) hg)]
  clear hb hbad
  refine bind_cut (fun x h' => (x = none ∧ (∀ p ∈ L, p.2.client ≠ c) ∧ sat h' (tabA b last L :: old h0 :: R)) ∨ (∃ p, p ∈ L ∧ x = some ⟨p.1, 0, none⟩ ∧ p.2.client = c ∧ sat h' (tabA b last L :: old h0 :: R))) ?_ ?_
  · exact of_spec hs1 (fun hn h' hs' => ⟨none, rfl, .inl ⟨rfl, hn, hs'⟩⟩) (fun p hp hc h' hs' => ⟨some ⟨p.1, 0, none⟩, rfl, .inr ⟨p, hp, rfl, hc, hs'⟩⟩)
  intro x h3 hx
  refine bind_cut (fun y h' => h' = h3 ∧ y.1 = (x.isSome && !clean)) ?_ ?_
  · cases x <;> simp
  rintro ⟨y, ⟨⟩⟩ h4 ⟨rfl, hy⟩
  simp only at hy ⊢
  by_cases hon' : y = true
  · -- it goes on
    rw [HM.ite_apply, if_pos hon']
    rw [hon'] at hy
    obtain ⟨hxs, hcl⟩ : x.isSome = true ∧ clean = false := by
      cases x <;> cases clean <;> simp at hy ⊢
    rcases hx with ⟨rfl, -, -⟩ | ⟨p, hp, rfl, hc, hs4⟩
    · cases hxs
    obtain ⟨l1, l2, rfl⟩ := List.append_of_mem hp
    obtain ⟨m, hs5⟩ := tabA_iff.1 hs4
    have hs6 := bigA_pick.1 (hs5.re [2, 0, 1])
    obtain ⟨ob, ib, hs7⟩ := sesA_iff.1 hs6
    simp [add_own]
    refine store1_cells hs7 (by simp) rfl fun h5 hs8 => ?_
    refine store1_cells hs8 (by simp) rfl fun h6 hs9 => ?_
    have c0 : cellH h6 ⟨p.1, 0, none⟩ = some (.int .i64 p.2.id) := by rw [hs9.cell]; rfl
    simp [c0]
    refine hon hg hcl l1 p l2 rfl hc h6 (tabA_iff.2 ⟨m, ?_⟩)
    have e : (l1 ++ (p.1, { p.2 with on := true, keep := keep }) :: l2).map sesE = (l1 ++ p :: l2).map sesE := by simp [sesE]
    rw [e]
    have hb1 : sat h6 (bigA (fun p => sesA p.1 p.2) (l1 ++ (p.1, { p.2 with on := true, keep := keep }) :: l2) :: cells b #[.int .i64 last, .map (some m)] :: mapA eKI eVP m ((l1 ++ p :: l2).map sesE) :: old h0 :: R) :=
      bigA_pick.2 (sesA_iff.2 ⟨ob, ib, hs9⟩)
    exact hb1.re [1, 2, 0]
  rw [HM.ite_apply, if_neg hon']
  obtain ⟨P, hP1, hP2, hP3⟩ : ∃ P : Unit ⊕ (Int × Bool × Int × Unit) → Heap → Prop,
      (∀ h', (∀ p ∈ L, p.2.client ≠ c) → 32 ≤ L.length → sat h' (tabA b last L :: old h0 :: R) → P (Sum.inr (0, false, 151, ())) h') ∧
      (∀ L0 h', (((∀ p ∈ L, p.2.client ≠ c) ∧ L.length < 32 ∧ L0 = L) ∨ (clean = true ∧ ∃ l1 p l2, L = l1 ++ p :: l2 ∧ p.2.client = c ∧ L0 = l1 ++ l2)) → (∀ p ∈ L0, p.2.id ≤ last) → sat h' (tabA b last L0 :: old h0 :: R) → P (Sum.inl ()) h') ∧
      (∀ z h', P z h' → (z = Sum.inr (0, false, 151, ()) ∧ (∀ p ∈ L, p.2.client ≠ c) ∧ 32 ≤ L.length ∧ sat h' (tabA b last L :: old h0 :: R)) ∨
        (z = Sum.inl () ∧ ∃ L0, (((∀ p ∈ L, p.2.client ≠ c) ∧ L.length < 32 ∧ L0 = L) ∨ (clean = true ∧ ∃ l1 p l2, L = l1 ++ p :: l2 ∧ p.2.client = c ∧ L0 = l1 ++ l2)) ∧ (∀ p ∈ L0, p.2.id ≤ last) ∧ sat h' (tabA b last L0 :: old h0 :: R))) :=
    ⟨fun z h' => (z = Sum.inr (0, false, 151, ()) ∧ (∀ p ∈ L, p.2.client ≠ c) ∧ 32 ≤ L.length ∧ sat h' (tabA b last L :: old h0 :: R)) ∨
        (z = Sum.inl () ∧ ∃ L0, (((∀ p ∈ L, p.2.client ≠ c) ∧ L.length < 32 ∧ L0 = L) ∨ (clean = true ∧ ∃ l1 p l2, L = l1 ++ p :: l2 ∧ p.2.client = c ∧ L0 = l1 ++ l2)) ∧ (∀ p ∈ L0, p.2.id ≤ last) ∧ sat h' (tabA b last L0 :: old h0 :: R)),
      fun h' a1 a2 a3 => .inl ⟨rfl, a1, a2, a3⟩, fun L0 h' a1 a2 a3 => .inr ⟨rfl, L0, a1, a2, a3⟩, fun z h' hz => hz⟩
  refine bind_cut P ?_ ?_
  · rcases hx with ⟨rfl, hnc, hs4⟩ | ⟨p, hp, rfl, hc, hs4⟩
    · obtain ⟨m, hs5⟩ := tabA_iff.1 hs4
      have c1 : cellH h4 ⟨b, 1, none⟩ = some (.map (some m)) := hs5.cell 1
      simp [c1]
      refine len_map hs5.p1 ?_
      by_cases hlen : 32 ≤ L.length
      · have : (32 : Int) ≤ (((L.map sesE).length : Nat) : Int) := by simp; omega
        rw [if_pos this]
        exact hP1 h4 hnc hlen hs4
      · have : ¬ (32 : Int) ≤ (((L.map sesE).length : Nat) : Int) := by simp; omega
        rw [if_neg this]
        exact hP2 L h4 (.inl ⟨hnc, by omega, rfl⟩) hid hs4
    · have hcl : clean = true := by
        cases clean with
        | true => rfl
        | false => simp at hy; exact absurd hy hon'
      obtain ⟨l1, l2, rfl⟩ := List.append_of_mem hp
      obtain ⟨m, hs5⟩ := tabA_iff.1 hs4
      have c1 : cellH h4 ⟨b, 1, none⟩ = some (.map (some m)) := hs5.cell 1
      have hs6 := bigA_pick.1 (hs5.re [2, 0, 1])
      obtain ⟨ob, ib, hs7⟩ := sesA_iff.1 hs6
      have c0 : cellH h4 ⟨p.1, 0, none⟩ = some (.int .i64 p.2.id) := hs7.cell 0
      have hkey := tab_key hs5.p1
      have hdl : mdel ((l1 ++ p :: l2).map sesE) p.2.id = (l1 ++ l2).map sesE := by
        rw [List.map_append, List.map_cons, show sesE p = (p.2.id, (sesE p).2) from rfl, mdel_mid hkey, List.map_append]
      simp [c1, add_own, c0]
      refine del_map kI (ev := eVP) (hs6.re [3, 0, 1, 2]) fun h5 hs8 => ?_
      rw [hdl] at hs8
      refine hP2 (l1 ++ l2) h5 (.inr ⟨hcl, l1, p, l2, rfl, hc, rfl⟩) (fun p' hp' => hid p' ?_) (tabA_iff.2 ⟨m, ?_⟩)
      · rcases List.mem_append.1 hp' with h | h
        · exact List.mem_append_left _ h
        · exact List.mem_append_right _ (List.mem_cons_of_mem _ h)
      · exact (hs8.re [1, 3, 0, 2]).drop
  intro z h5 hz
  rcases hP3 z h5 hz with ⟨rfl, hnc, hlen, hs5⟩ | ⟨rfl, L0, hL0, hid0, hs5⟩
  · exact hfull hg hnc hlen h5 hs5
  simp only [Sum.elim_inl]
  obtain ⟨m, hs6⟩ := tabA_iff.1 hs5
  have w1 : IntKind.wrap .i64 (last + 1) = last + 1 := wrap_id (by omega) (by omega)
  have c0 : cellH h5 ⟨b, 0, none⟩ = some (.int .i64 last) := hs6.cell 0
  simp [c0, w1]
  refine store1_cells hs6 (by simp) rfl fun h6 hs7 => ?_
  have hs7' : sat h6 (cells b #[.int .i64 (last + 1), .map (some m)] :: mapA eKI eVP m (L0.map sesE) :: bigA (fun p => sesA p.1 p.2) L0 :: old h0 :: R) := hs7
  clear hs7
  have d0 : cellH h6 ⟨b, 0, none⟩ = some (.int .i64 (last + 1)) := hs7'.cell 0
  have d1 : cellH h6 ⟨b, 1, none⟩ = some (.map (some m)) := hs7'.cell 1
  simp [d0, d1]
  refine outNew_spec hs7' 64 fun ob h7 hs8 => ?_
  have e0 : cellH h7 ⟨b, 0, none⟩ = some (.int .i64 (last + 1)) := hs8.p1.cell 0
  have e1 : cellH h7 ⟨b, 1, none⟩ = some (.map (some m)) := hs8.p1.cell 1
  simp [e0, e1]
  refine infNew_spec hs8 64 fun ib h8 hs9 => ?_
  have f0 : cellH h8 ⟨b, 0, none⟩ = some (.int .i64 (last + 1)) := hs9.p2.cell 0
  have f1 : cellH h8 ⟨b, 1, none⟩ = some (.map (some m)) := hs9.p2.cell 1
  simp [f0, f1]
  refine new_cells hs9 fun nb h9 hs10 => ?_
  have g0 : cellH h9 ⟨b, 0, none⟩ = some (.int .i64 (last + 1)) := hs10.p3.cell 0
  have g1 : cellH h9 ⟨b, 1, none⟩ = some (.map (some m)) := hs10.p3.cell 1
  simp [g0, g1]
  refine set_map kI (inj_int .i64) (ev := eVP) (x := some ⟨nb, 0, none⟩) (hs10.re [4, 0, 1, 2, 3]) fun h10 hs11 => ?_
  have hnk : mget (L0.map sesE) (last + 1) = none := by
    rw [mget_none_iff]
    intro hm
    rw [List.map_map] at hm
    obtain ⟨p, hp, he⟩ := List.mem_map.1 hm
    have := hid0 p hp
    have he' : p.2.id = last + 1 := he
    omega
  rw [mset_none _ _ _ hnk] at hs11
  have k0 : cellH h10 ⟨b, 0, none⟩ = some (.int .i64 (last + 1)) := by rw [(hs11.re [4, 0, 1, 2, 3]).cell]; rfl
  simp [k0]
  refine hnew hg L0 hL0 nb h10 (tabA_iff.2 ⟨m, ?_⟩)
  have hses : sat h10 (sesA nb (newS (last + 1) c keep) :: bigA (fun p => sesA p.1 p.2) L0 :: cells b #[.int .i64 (last + 1), .map (some m)] :: mapA eKI eVP m (L0.map sesE ++ [(last + 1, some ⟨nb, 0, none⟩)]) :: old h0 :: R) :=
    sesA_iff.2 ⟨ob, ib, hs11.re [1, 3, 2, 5, 4, 0]⟩
  have hbig : sat h10 (bigA (fun p => sesA p.1 p.2) (L0 ++ [(nb, newS (last + 1) c keep)]) :: cells b #[.int .i64 (last + 1), .map (some m)] :: mapA eKI eVP m (L0.map sesE ++ [(last + 1, some ⟨nb, 0, none⟩)]) :: old h0 :: R) := by
    refine bigA_pick.2 ?_
    rw [List.append_nil]
    exact hses
  have e : (L0 ++ [(nb, newS (last + 1) c keep)]).map sesE = L0.map sesE ++ [(last + 1, some ⟨nb, 0, none⟩)] := by simp [sesE, newS]
  rw [e]
  exact hbig.re [1, 2, 0]

end Go.Proofs.YtnmighfcpeifeaaDoor
