/-
  Cusr: contracts: what users say of a packet; the message that a peer hands on.
-/
import Derived.Test.YtfhalebbcbgbdaaGreatDoorCpks
import Derived.Test.YtfhalebbcbgbdaaGreatDoorCrpa
namespace Go.Proofs.YtfhalebbcbgbdaaGreatDoor
open Go.H Go.Proofs
set_option linter.unusedSimpArgs false
set_option linter.unusedVariables false
set_option maxRecDepth 100000

variable {h h0 : Heap} {R : List Asn}

/-- the values of the properties of that name -/
def usersL (n : ByteArray) (l : List PropT) : List ByteArray := (l.filter fun p => decide (p.1 = 38 ∧ p.2.2.1 = n)).map (·.2.2.2)
abbrev PrU := Int × Int × ByteArray × ByteArray × Unit

theorem usersL_snoc {n : ByteArray} {l : List PropT} {p : PropT} : usersL n (l ++ [p]) = usersL n l ++ (if p.1 = 38 ∧ p.2.2.1 = n then [p.2.2.2] else []) := by
  unfold usersL
  rw [List.filter_append, List.map_append]
  congr 1
  by_cases e : p.1 = 38 ∧ p.2.2.1 = n
  · rw [if_pos e, List.filter_cons_of_pos (by simpa using e)]; rfl
  · rw [if_neg e, List.filter_cons_of_neg (by simpa using e)]; rfl
theorem usersL_len (n : ByteArray) (l : List PropT) : (usersL n l).length ≤ l.length := by
  unfold usersL
  rw [List.length_map]
  exact List.length_filter_le _ _

abbrev eS1 (x : ByteArray) : List Value := [.string x]
theorem eS1_len (x : ByteArray) : (eS1 x).length = 1 := rfl
theorem eS1_cell (x : ByteArray) : ∀ v ∈ eS1 x, v.oneCell' = true := by intro v hv; rw [List.mem_singleton.1 hv]; rfl

theorem users_spec {s : Slc} {ps : List PropT} {n : ByteArray} (hs : sat h (ownS encPr 4 s ps :: R)) (hl : ps.length ≤ 100000) {Q : Value → Heap → Prop}
    (hq : ∀ (s' : Slc) h', sat h' (ownS eS1 1 s' (usersL n ps) :: ownS encPr 4 s ps :: R) → Q (.slice s'.a s'.len s'.cap) h') :
    HCalls Tryz.prog 30 #[.slice s.a s.len s.cap, .string n] h Q := by
  refine prop_Users_calls s n h Q ?_
  unfold prop_Users
  have hsl := hs.own_len
  (try dsimp only); rw [HM.bind_apply]
  refine loop_for ps.length (fun i x h' => x.2.1 = (i : Int) ∧ sat h' (ownS eS1 1 x.1 (usersL n (ps.take i)) :: ownS encPr 4 s ps :: R))
    ⟨rfl, by simpa [usersL] using ownS_nil hs⟩ (fun i x h hi hJ => by rw [hJ.1, hsl]; exact decide_eq_decide.2 (by omega)) (fun x h hJ K hd => ?_) (fun i x h hlt hJ K hnx hd => ?_)
  · obtain ⟨hx, hs1⟩ := hJ
    rw [List.take_length] at hs1
    exact hd _ _ (hq _ _ hs1)
  · obtain ⟨out, ci, ⟨⟩⟩ := x
    obtain ⟨hx, hs1⟩ := hJ
    simp only at hx hs1
    subst hx
    have hy := List.getElem?_eq_getElem hlt
    have htk : ps.take (i + 1) = ps.take i ++ [ps[i]] := by rw [List.take_add_one, hy]; rfl
    generalize ps[i] = p at hy htk
    have hul : (usersL n (ps.take i)).length ≤ 100000 := by
      have := usersL_len n (ps.take i)
      rw [List.length_take] at this
      omega
    (try dsimp only); rw [HM.bind_apply]
    refine idx_row (hs1.p1.own_row ePr_len) hy fun a ha => ?_
    refine loadN_of (ts := [.int .i64, .int .i64, .str, .str]) ((p.1, p.2.1, p.2.2.1, p.2.2.2, ()) : PrU) ha ?_
    refine new_cells hs1 fun x5 h2 hs2 => ?_
    (try dsimp only); rw [HM.bind_apply]
    refine storeN_all' hs2 rfl rfl fun h3 hs3' => ?_
    have hs3 : sat h3 (cells x5 (encPr p).toArray :: ownS eS1 1 out (usersL n (ps.take i)) :: ownS encPr 4 s ps :: R) := hs3'
    clear hs3' hs2
    refine cut (fun z h' => h' = h3 ∧ z.1 = decide (p.1 = 38 ∧ p.2.2.1 = n)) ?_ ?_
    · intro K2 hK2
      refine ⟨p.1, by rw [add_own]; exact hs3.cell 0, ?_⟩
      (try dsimp only); rw [HM.ite_apply]
      by_cases e : p.1 = 38
      · rw [if_pos (by simpa using e)]
        refine ⟨p.2.2.1, by rw [add_own]; exact hs3.cell 2, hK2 _ _ ⟨rfl, ?_⟩⟩
        simp [e]
      · rw [if_neg (by simpa using e)]
        exact hK2 _ _ ⟨rfl, by simp [e]⟩
    rintro ⟨z, ⟨⟩⟩ h4 ⟨rfl, hz⟩
    simp only at hz
    subst hz
    refine cut (fun z h' => sat h' (ownS eS1 1 z.1 (usersL n (ps.take (i + 1))) :: ownS encPr 4 s ps :: R)) ?_ ?_
    · intro K2 hK2
      rw [htk, usersL_snoc] at hK2
      (try dsimp only); rw [HM.ite_apply]
      by_cases e : p.1 = 38 ∧ p.2.2.1 = n
      · rw [if_pos (decide_eq_true e)]
        rw [if_pos e] at hK2
        refine ⟨p.2.2.2, by rw [add_own]; exact hs3.cell 3, ?_⟩
        refine app_new (x := p.2.2.2) eS1_len eS1_cell rfl (hs3.re [1, 0, 2]) (by decide) (by decide) (by omega) fun out' h5 hs5 => ?_
        exact hK2 _ _ hs5.p1.drop
      · rw [if_neg (by rw [decide_eq_true_eq]; exact e)]
        rw [if_neg e, List.append_nil] at hK2
        exact hK2 _ _ hs3.drop
    rintro ⟨out', ⟨⟩⟩ h5 hs5
    exact hnx _ _ ⟨by (try dsimp only); rw [wrap_id (by omega) (by omega)]; rfl, hs5⟩

theorem rusers_spec {s : Slc} {ps : List PropT} {n : ByteArray} (hs : sat h (ownS encPr 4 s ps :: R)) (hl : ps.length ≤ 100000) {Q : Value → Heap → Prop}
    (hq : ∀ (s' : Slc) h', sat h' (ownS eS1 1 s' (usersL n ps) :: ownS encPr 4 s ps :: R) → Q (.slice s'.a s'.len s'.cap) h') :
    HCalls Tryz.prog 32 #[.slice s.a s.len s.cap, .string n] h Q := by
  refine ref04_Users_calls s n h Q ?_
  unfold ref04_Users
  have hsl := hs.own_len
  (try dsimp only); rw [HM.bind_apply]
  refine loop_for ps.length (fun i x h' => x.2.1 = (i : Int) ∧ sat h' (ownS eS1 1 x.1 (usersL n (ps.take i)) :: ownS encPr 4 s ps :: R))
    ⟨rfl, by simpa [usersL] using ownS_nil hs⟩ (fun i x h hi hJ => by rw [hJ.1, hsl]; exact decide_eq_decide.2 (by omega)) (fun x h hJ K hd => ?_) (fun i x h hlt hJ K hnx hd => ?_)
  · obtain ⟨hx, hs1⟩ := hJ
    rw [List.take_length] at hs1
    exact hd _ _ (hq _ _ hs1)
  · obtain ⟨out, ci, ⟨⟩⟩ := x
    obtain ⟨hx, hs1⟩ := hJ
    simp only at hx hs1
    subst hx
    have hy := List.getElem?_eq_getElem hlt
    have htk : ps.take (i + 1) = ps.take i ++ [ps[i]] := by rw [List.take_add_one, hy]; rfl
    generalize ps[i] = p at hy htk
    have hul : (usersL n (ps.take i)).length ≤ 100000 := by
      have := usersL_len n (ps.take i)
      rw [List.length_take] at this
      omega
    refine cut (fun z h' => h' = h ∧ z.1 = decide (p.1 = 38 ∧ p.2.2.1 = n)) ?_ ?_
    · intro K2 hK2
      (try dsimp only); rw [HM.bind_apply]
      refine idx_row (hs1.p1.own_row ePr_len) hy fun a ha => ?_
      refine ⟨p.1, ha 0 _ rfl, ?_⟩
      (try dsimp only); rw [HM.ite_apply]
      by_cases e : p.1 = 38
      · rw [if_pos (by simpa using e)]
        (try dsimp only); rw [HM.bind_apply]
        refine idx_row (hs1.p1.own_row ePr_len) hy fun a ha => ?_
        refine ⟨p.2.2.1, ha 2 _ rfl, hK2 _ _ ⟨rfl, ?_⟩⟩
        simp [e]
      · rw [if_neg (by simpa using e)]
        exact hK2 _ _ ⟨rfl, by simp [e]⟩
    rintro ⟨z, ⟨⟩⟩ h4 ⟨rfl, hz⟩
    simp only at hz
    subst hz
    refine cut (fun z h' => sat h' (ownS eS1 1 z.1 (usersL n (ps.take (i + 1))) :: ownS encPr 4 s ps :: R)) ?_ ?_
    · intro K2 hK2
      rw [htk, usersL_snoc] at hK2
      (try dsimp only); rw [HM.ite_apply]
      by_cases e : p.1 = 38 ∧ p.2.2.1 = n
      · rw [if_pos (decide_eq_true e)]
        rw [if_pos e] at hK2
        (try dsimp only); rw [HM.bind_apply]
        refine idx_row (hs1.p1.own_row ePr_len) hy fun a ha => ?_
        refine ⟨p.2.2.2, ha 3 _ rfl, ?_⟩
        refine app_new (x := p.2.2.2) eS1_len eS1_cell rfl hs1 (by decide) (by decide) (by omega) fun out' h5 hs5 => ?_
        exact hK2 _ _ hs5
      · rw [if_neg (by rw [decide_eq_true_eq]; exact e)]
        rw [if_neg e, List.append_nil] at hK2
        exact hK2 _ _ hs1
    rintro ⟨out', ⟨⟩⟩ h5 hs5
    exact hnx _ _ ⟨by (try dsimp only); rw [wrap_id (by omega) (by omega)]; rfl, hs5⟩

end Go.Proofs.YtfhalebbcbgbdaaGreatDoor
