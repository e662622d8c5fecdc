/-
  Ctri: contracts: tries: branches on the heap; find, prune.
-/
import Derived.Test.YtnpgpijkofbknaaGreatDoorLtri
import Derived.Test.YtnpgpijkofbknaaGreatDoorCtop
namespace Go.Proofs.YtnpgpijkofbknaaGreatDoor
open Go.H Go.Proofs
set_option linter.unusedSimpArgs false
set_option linter.unusedVariables false
set_option synthInstance.maxSize 100000
set_option synthInstance.maxHeartbeats 400000
set_option maxRecDepth 100000

variable {h h0 : Heap} {R : List Asn}

abbrev kI9 := key_int .i64
abbrev kS9 := key_str
abbrev eKI9 : Int → Value := fun n => .int .i64 n
abbrev eVI9 : Int → Value := Kind.val (.one (.int .i64))
abbrev eKS9 : ByteArray → Value := fun s => .string s
abbrev eVP9 : Option Addr → Value := Kind.val (.one .ptr)

abbrev at9 (b : Nat) : Value := .pointer (some ⟨b, 0, none⟩)
def ndA (x : Nd) : Asn := star (cells x.b #[.map (some x.qm), .map (some x.nm)]) (star (mapA eKI9 eVI9 x.qm x.q) (mapA eKS9 eVP9 x.nm x.nx))
def ndsA (N : Nds) : Asn := bigA (fun p : Path × Nd => ndA p.2) N

theorem ndA_iff {x : Nd} : sat h (ndA x :: R) ↔ sat h (cells x.b #[.map (some x.qm), .map (some x.nm)] :: mapA eKI9 eVI9 x.qm x.q :: mapA eKS9 eVP9 x.nm x.nx :: R) := by
  unfold ndA
  constructor
  · intro hs
    exact (sat.star_iff.1 (sat.star_iff.1 hs).p1).p2
  · intro hs
    exact sat.star_iff.2 (sat.star_iff.2 (hs.re [1, 2, 0])).p1

/-- a branch apart from the others -/
theorem nds_open {N : Nds} {p : Path} {nd : Nd} (hp : mget N p = some nd) (hs : sat h (ndsA N :: R)) : ∃ l1 l2, N = l1 ++ (p, nd) :: l2 ∧ p ∉ l1.map (·.1) ∧
    sat h (cells nd.b #[.map (some nd.qm), .map (some nd.nm)] :: mapA eKI9 eVI9 nd.qm nd.q :: mapA eKS9 eVP9 nd.nm nd.nx :: bigA (fun p : Path × Nd => ndA p.2) (l1 ++ l2) :: R) := by
  obtain ⟨l1, l2, rfl, hn⟩ := mget_split hp
  exact ⟨l1, l2, rfl, hn, ndA_iff.1 (bigA_pick.1 hs)⟩
theorem nds_shut {l1 l2 : Nds} {p : Path} {nd nd' : Nd} (hn : p ∉ l1.map (·.1))
    (hs : sat h (cells nd'.b #[.map (some nd'.qm), .map (some nd'.nm)] :: mapA eKI9 eVI9 nd'.qm nd'.q :: mapA eKS9 eVP9 nd'.nm nd'.nx :: bigA (fun p : Path × Nd => ndA p.2) (l1 ++ l2) :: R)) :
    sat h (ndsA (mset (l1 ++ (p, nd) :: l2) p nd') :: R) := by
  rw [mset_mid hn]
  exact bigA_pick.2 (ndA_iff.2 hs)
/-- what is seen of a branch -/
theorem nds_cell {N : Nds} {p : Path} {nd : Nd} (hp : mget N p = some nd) (hs : sat h (ndsA N :: R)) : cellH h ⟨nd.b, 0, none⟩ = some (.map (some nd.qm)) ∧ cellH h ⟨nd.b, 1, none⟩ = some (.map (some nd.nm)) := by
  obtain ⟨l1, l2, -, -, hs⟩ := nds_open hp hs
  exact ⟨hs.cell 0, hs.cell 1⟩
theorem nds_next {N : Nds} {p : Path} {nd : Nd} {x : ByteArray} (hp : mget N p = some nd) (hs : sat h (ndsA N :: R)) {Q : Option Addr × Bool → Heap → Prop} (hq : Q ((mget nd.nx x).getD none, (mget nd.nx x).isSome) h) :
    HM.lookup (Instr.sameNow .string) (.pointer none) (.one .ptr) (some nd.nm) (.string x) h Q := by
  obtain ⟨l1, l2, -, -, hs⟩ := nds_open hp hs
  exact lookup_map kS9 (ek := eKS9) (kind := .one .ptr) (z := none) rfl hs.p2 hq
theorem nds_q {N : Nds} {p : Path} {nd : Nd} {x : Int} (hp : mget N p = some nd) (hs : sat h (ndsA N :: R)) {Q : Int × Bool → Heap → Prop} (hq : Q ((mget nd.q x).getD 0, (mget nd.q x).isSome) h) :
    HM.lookup (Instr.sameNow (.int .i64)) (.int .i64 0) (.one (.int .i64)) (some nd.qm) (.int .i64 x) h Q := by
  obtain ⟨l1, l2, -, -, hs⟩ := nds_open hp hs
  exact lookup_map kI9 (ek := eKI9) (kind := .one (.int .i64)) (z := 0) rfl hs.p1 hq
theorem nds_nodup {N : Nds} {p : Path} {nd : Nd} (hp : mget N p = some nd) (hs : sat h (ndsA N :: R)) : (nd.q.map (·.1)).Nodup ∧ (nd.nx.map (·.1)).Nodup := by
  obtain ⟨l1, l2, -, -, hs⟩ := nds_open hp hs
  exact ⟨hs.p1.map_nodup, hs.p2.map_nodup⟩
/-- a map of a branch is changed -/
theorem nds_setq {N : Nds} {p : Path} {nd : Nd} {k v : Int} (hp : mget N p = some nd) (hs : sat h (ndsA N :: R)) {Q : Unit → Heap → Prop} (hq : ∀ h', sat h' (ndsA (mset N p { nd with q := mset nd.q k v }) :: R) → Q () h') :
    HM.mapSet (Instr.sameNow (.int .i64)) (some nd.qm) (.int .i64 k) (.int .i64 v) h Q := by
  obtain ⟨l1, l2, rfl, hn, hs⟩ := nds_open hp hs
  refine set_map kI9 (ek := eKI9) (inj_int .i64) (ev := eVI9) (x := v) hs.p1 fun h1 hs1 => hq h1 ?_
  exact nds_shut (nd' := { nd with q := mset nd.q k v }) hn hs1.p1
theorem nds_delq {N : Nds} {p : Path} {nd : Nd} {k : Int} (hp : mget N p = some nd) (hs : sat h (ndsA N :: R)) {Q : Unit → Heap → Prop} (hq : ∀ h', sat h' (ndsA (mset N p { nd with q := mdel nd.q k }) :: R) → Q () h') :
    HM.mapDel (Instr.sameNow (.int .i64)) (some nd.qm) (.int .i64 k) h Q := by
  obtain ⟨l1, l2, rfl, hn, hs⟩ := nds_open hp hs
  refine del_map kI9 (ek := eKI9) (ev := eVI9) hs.p1 fun h1 hs1 => hq h1 ?_
  exact nds_shut (nd' := { nd with q := mdel nd.q k }) hn hs1.p1
theorem nds_setn {N : Nds} {p : Path} {nd : Nd} {k : ByteArray} {v : Option Addr} (hp : mget N p = some nd) (hs : sat h (ndsA N :: R)) {Q : Unit → Heap → Prop} (hq : ∀ h', sat h' (ndsA (mset N p { nd with nx := mset nd.nx k v }) :: R) → Q () h') :
    HM.mapSet (Instr.sameNow .string) (some nd.nm) (.string k) (.pointer v) h Q := by
  obtain ⟨l1, l2, rfl, hn, hs⟩ := nds_open hp hs
  refine set_map kS9 (ek := eKS9) inj_str (ev := eVP9) (x := v) hs.p2 fun h1 hs1 => hq h1 ?_
  exact nds_shut (nd' := { nd with nx := mset nd.nx k v }) hn (hs1.re [1, 2, 0])
theorem nds_deln {N : Nds} {p : Path} {nd : Nd} {k : ByteArray} (hp : mget N p = some nd) (hs : sat h (ndsA N :: R)) {Q : Unit → Heap → Prop} (hq : ∀ h', sat h' (ndsA (mset N p { nd with nx := mdel nd.nx k }) :: R) → Q () h') :
    HM.mapDel (Instr.sameNow .string) (some nd.nm) (.string k) h Q := by
  obtain ⟨l1, l2, rfl, hn, hs⟩ := nds_open hp hs
  refine del_map kS9 (ek := eKS9) (ev := eVP9) hs.p2 fun h1 hs1 => hq h1 ?_
  exact nds_shut (nd' := { nd with nx := mdel nd.nx k }) hn (hs1.re [1, 2, 0])
theorem nds_lenq {N : Nds} {p : Path} {nd : Nd} (hp : mget N p = some nd) (hs : sat h (ndsA N :: R)) {Q : Int → Heap → Prop} (hq : Q (nd.q.length : Int) h) : HM.mapLen (some nd.qm) h Q := by
  obtain ⟨l1, l2, rfl, hn, hs⟩ := nds_open hp hs
  exact len_map hs.p1 hq
theorem nds_lenn {N : Nds} {p : Path} {nd : Nd} (hp : mget N p = some nd) (hs : sat h (ndsA N :: R)) {Q : Int → Heap → Prop} (hq : Q (nd.nx.length : Int) h) : HM.mapLen (some nd.nm) h Q := by
  obtain ⟨l1, l2, rfl, hn, hs⟩ := nds_open hp hs
  exact len_map hs.p2 hq
/-- a branch is forgotten -/
theorem nds_drop {N : Nds} {p : Path} {nd : Nd} (hp : mget N p = some nd) (hs : sat h (ndsA N :: R)) : sat h (ndsA (mdel N p) :: R) := by
  obtain ⟨l1, l2, rfl, hn⟩ := mget_split hp
  rw [mdel_mid hn]
  exact (bigA_pick.1 hs).drop
/-- a branch is added -/
theorem nds_add {N : Nds} {p : Path} {nd : Nd} (hs : sat h (ndA nd :: ndsA N :: R)) : sat h (ndsA (N ++ [(p, nd)]) :: R) := by
  refine bigA_pick.2 ?_
  rw [List.append_nil]
  exact hs

/-! ### a branch; the branch of a filter -/

theorem sprout_spec (hs : sat h R) {Q : Value → Heap → Prop} (hq : ∀ b qm nm h', sat h' (ndA ⟨b, qm, nm, [], []⟩ :: R) → Q (at9 b) h') : HCalls Tryz.prog 32 #[] h Q := by
  refine trie_sprout_calls h Q ?_
  unfold trie_sprout
  refine new_map (ek := eKI9) (ev := eVI9) hs fun qm h1 hs1 => ?_
  refine new_map (ek := eKS9) (ev := eVP9) hs1 fun nm h2 hs2 => ?_
  refine new_cells hs2 fun b h3 hs3 => ?_
  exact hq b qm nm h3 (ndA_iff.2 (hs3.re [0, 2, 1]))

/-- the trie's own cells: the root's block, the block of the counts -/
abbrev trC (rb cm : Nat) : Array Value := #[at9 rb, .map (some cm)]

theorem Levels9_spec (hs : sat h (old h0 :: R)) (ht : TP h0) {s : ByteArray} (hsz : s.size ≤ 16777216) {Q : Value → Heap → Prop}
    (hq : ∀ (sl : Slc) h', sat h' (ownS eS 1 sl (levels s) :: old h0 :: R) → Q (.slice sl.a sl.len sl.cap) h') :
    HCalls Tryz.prog 29 #[.string s] h Q := by
  refine topic_Levels_calls s h Q ?_
  unfold topic_Levels
  refine bind_call1 (fun w hw => ?_)
  subst hw
  obtain ⟨m, hm⟩ := ht.maxl
  refine (Any.strings_Split splitS (by kernel_rfl) s (ByteArray.mk #[47]) m w (by omega) (hs.old_cell hm) (by decide)).mono ?_
  rintro e w' ⟨rfl, rfl⟩
  have hl : (levels s).length = Go.Lib.countB s slash + 1 := Go.Lib.splitB_all slash (by decide) 0 _ s rfl
  have := hq ⟨some ⟨w.heap.size, 0, none⟩, (levels s).length, (levels s).length⟩ _ (own_full (hs.push_cells (T := splitS_ren.t 9)))
  rw [hl] at this
  exact ⟨_, rfl, ⟨rfl, rfl, rfl⟩, ⟨some ⟨w.heap.size, 0, none⟩, Go.Lib.countB s slash + 1, Go.Lib.countB s slash + 1⟩, rfl, this⟩

theorem take_snoc {xs : Path} {i : Nat} {x : ByteArray} (hx : xs[i]? = some x) : xs.take (i + 1) = xs.take i ++ [x] := by
  rw [List.take_add_one, hx]
  rfl

theorem find_spec {t rb cm : Nat} {N : Nds} (ht : TP h0) (hT : TreeOK rb N) {f : ByteArray} (hsz : f.size ≤ 16777216) (hs : sat h (cells t (trC rb cm) :: ndsA N :: old h0 :: R)) {Q : Value → Heap → Prop}
    (hno : mget N (levels f) = none → ∀ h', sat h' (cells t (trC rb cm) :: ndsA N :: old h0 :: R) → Q (.pointer none) h')
    (hyes : ∀ nd, mget N (levels f) = some nd → ∀ h', sat h' (cells t (trC rb cm) :: ndsA N :: old h0 :: R) → Q (.pointer (ptrOf nd)) h') :
    HCalls Tryz.prog 31 #[at9 t, .string f] h Q := by
  refine trie_Trie_find_calls (some ⟨t, 0, none⟩) f h Q ?_
  unfold trie_Trie_find
  refine ⟨_, rfl, some ⟨rb, 0, none⟩, by rw [add_own]; exact hs.cell 0, ?_⟩
  refine bind_call1 (Levels9_spec hs.p2 ht hsz fun sl h1 hs1' => ⟨sl, rfl, ?_⟩)
  have hs1 : sat h1 (ownS eS 1 sl (levels f) :: cells t (trC rb cm) :: ndsA N :: old h0 :: R) := hs1'.re [0, 2, 3, 1]
  clear hs1' hs
  have hlen := hs1.own_len
  have hl32 : (levels f).length < 1000000000 := by
    have := levels_len f
    have h2 := List.count_le_length (a := (47 : UInt8)) (l := f.data.toList)
    have h3 : f.data.toList.length = f.size := by simp
    omega
  obtain ⟨r, hr1, hr2⟩ := hT.root
  (try dsimp only); rw [HM.bind_apply]
  refine loop_gx (γ := Nat) (hb := fun s => by
      repeat' with_reducible first
        | refine @mono_bind _ _ _ _ ?_ (fun _ => ?_)
        | refine @mono_ite _ _ _ _ ?_ ?_
        | refine @mono_req _ _ _ ?_
      all_goals infer_instance)
    (fun g x h' => g ≤ (levels f).length ∧ x.2.1 = (g : Int) ∧ (∃ nd, mget N ((levels f).take g) = some nd ∧ x.1 = ptrOf nd) ∧ sat h' (ownS eS 1 sl (levels f) :: cells t (trC rb cm) :: ndsA N :: old h0 :: R)) (fun g => (levels f).length - g) 0
    ⟨Nat.zero_le _, rfl, ⟨r, by simpa using hr1, by rw [← hr2]⟩, hs1⟩ ?_
  clear hs1 hr1 hr2 r
  rintro i ⟨pt, ci, ⟨⟩⟩ h2 ⟨hi, hci, ⟨nd, hnd, hpt⟩, hs2⟩
  simp only at hi hci hpt hs2
  subst hci
  subst hpt
  have next : IntKind.wrap .i64 ((i : Int) + 1) = ((i + 1 : Nat) : Int) := by rw [wrap_id (by omega) (by omega)]; rfl
  simp only [HM.ite_apply, decide_eq_true_eq]
  by_cases hlt : i < (levels f).length
  · rw [if_pos (by omega), HM.bind_apply]
    have hx := List.getElem?_eq_getElem hlt
    generalize (levels f)[i] = x at hx
    refine idx_row (hs2.own_row eS_len) hx fun a ha => ?_
    refine ⟨x, ha 0 _ rfl, ?_⟩
    refine ⟨_, rfl, some nd.nm, by rw [add_own]; exact (nds_cell hnd hs2.p2).2, ?_⟩
    (try dsimp only); rw [HM.bind_apply]
    refine nds_next hnd hs2.p2 ?_
    (try dsimp only); rw [HM.ite_apply]
    have htk := take_snoc hx
    cases hg : mget nd.nx x with
    | none =>
      rw [if_pos (by rfl)]
      simp only [Sum.elim_inl, Sum.elim_inr, HM.pure_apply]
      refine hno ?_ h2 hs2.drop
      cases hh : mget N (levels f) with
      | none => rfl
      | some nd' =>
        have e : levels f = (levels f).take (i + 1) ++ (levels f).drop (i + 1) := (List.take_append_drop _ _).symm
        rw [e] at hh
        obtain ⟨c, hc⟩ := hT.pre _ _ _ hh
        rw [htk] at hc
        obtain ⟨n0, h3, h4⟩ := hT.up _ _ _ hc
        rw [hnd] at h3
        cases h3
        rw [hg] at h4
        cases h4
    | some v =>
      obtain ⟨c, hc, rfl⟩ := hT.down _ _ _ _ hnd hg
      rw [if_neg (by simp)]
      simp only [Sum.elim_inl, Sum.elim_inr, HM.pure_apply]
      exact .mk (i + 1) (by omega) ⟨by omega, next, ⟨c, by rw [htk]; exact hc, rfl⟩, hs2⟩
  · rw [if_neg (by omega)]
    have : i = (levels f).length := by omega
    subst this
    rw [List.take_length] at hnd
    simp only [Sum.elim_inl, Sum.elim_inr, HM.pure_apply]
    exact hyes nd hnd h2 hs2.drop

end Go.Proofs.YtnpgpijkofbknaaGreatDoor
