/-
  Cbld: contracts: the library's builder of texts.
-/
import Derived.Test.YtmdagnoknmfhcaaDoorSh
import Derived.Test.YtmdagnoknmfhcaaDoorHbt
import Derived.Test.YtmdagnoknmfhcaaDoorKjoin
import Derived.Test.YtmdagnoknmfhcaaDoorCnum
import Derived.Test.YtmdagnoknmfhcaaDoorHk
namespace Go.Proofs.YtmdagnoknmfhcaaDoor
open Go.H Go.Proofs Go.Lib
open Go.RowKit (Below)
set_option linter.unusedSimpArgs false
set_option linter.unusedVariables false
set_option synthInstance.maxSize 100000
set_option synthInstance.maxHeartbeats 400000
set_option maxRecDepth 100000

abbrev ptrB (b : Nat) : Value := .pointer (some ⟨b, 0, none⟩)
def bldA (b : Nat) (xs : List Int) : Asn := exA fun x : Value × Slc => star (pr (x.1 = .pointer none ∨ x.1 = ptrB b)) (star (blk b (.cells #[x.1, .slice x.2.a x.2.len x.2.cap] 128 (0, 0))) (bufA 5 x.2 xs))

variable {h h0 : Heap} {R : List Asn}

theorem bldA_iff {b : Nat} {xs : List Int} : sat h (bldA b xs :: R) ↔ ∃ (p : Value) (s : Slc), (p = .pointer none ∨ p = ptrB b) ∧ sat h (blk b (.cells #[p, .slice s.a s.len s.cap] 128 (0, 0)) :: bufA 5 s xs :: R) := by
  unfold bldA
  rw [sat.ex_iff]
  constructor
  · rintro ⟨⟨p, s⟩, hs⟩
    rw [sat.star_iff, sat.pr_iff, sat.star_iff] at hs
    exact ⟨p, s, hs⟩
  · rintro ⟨p, s, hs⟩
    refine ⟨(p, s), ?_⟩
    rw [sat.star_iff, sat.pr_iff, sat.star_iff]
    exact hs

theorem copyCheck_spec {b : Nat} {xs : List Int} (hs : sat h (bldA b xs :: R)) {Q : Value → Heap → Prop}
    (hq : ∀ (s : Slc) h', sat h' (blk b (.cells #[ptrB b, .slice s.a s.len s.cap] 128 (0, 0)) :: bufA 5 s xs :: R) → Q (.tuple #[]) h') : HCalls Tryd.prog 86 #[ptrB b] h Q := fun w hw => by
  subst hw
  obtain ⟨p, s, hp, hs⟩ := bldA_iff.1 hs
  have hg := hs.get
  rcases hp with rfl | rfl
  · refine (Any.Builder_copyCheck_fresh { joinL with } joinX.toX72 b w (by simp [World.cell?, hg]) (by simp [World.shape?, hg]; rfl) (by simp [World.frozen?, hg])).mono ?_
    rintro e w' ⟨rfl, rfl⟩
    exact ⟨_, rfl, ⟨rfl, rfl, rfl⟩, hq s _ (blk_set hs 0 (ptrB b))⟩
  · refine (Any.Builder_copyCheck_used { joinL with } joinX.toX72 b w (by simp [World.cell?, hg])).mono ?_
    rintro e w' ⟨rfl, rfl⟩
    exact ⟨_, rfl, ⟨rfl, rfl, rfl⟩, hq s _ hs⟩

theorem Write_spec {b : Nat} {xs : List Int} {t : ByteArray} (hs : sat h (bldA b xs :: R)) (hb : xs.length + t.size ≤ 140737488355328) {Q : Value → Heap → Prop}
    (hq : ∀ h', sat h' (bldA b (xs ++ intsS t) :: R) → Q (.tuple #[.int .i64 ((t.size : Nat) : Int), .nilIface]) h') : HCalls Tryd.prog 52 #[ptrB b, .string t] h Q := by
  refine strings_Builder_WriteString_calls (some ⟨b, 0, none⟩) t h Q ?_
  unfold strings_Builder_WriteString
  refine bind_callN (copyCheck_spec hs fun s h1 hs1 => ⟨(), rfl, ?_⟩)
  have hg := hs1.get
  refine ⟨_, rfl, s, by rw [add_own]; simp [cellH, hg], ?_⟩
  (try dsimp only); rw [HM.bind_apply]
  refine append_buf hs1.p1 hb fun s' h2 hs2 => ?_
  have hg2 := hs2.p1.get
  refine ⟨_, rfl, ?_⟩
  (try dsimp only); rw [HM.bind_apply, add_own]
  refine ⟨by simp [cellH, hg2], by simp [frozenH, hg2], rfl, ?_⟩
  exact hq _ (bldA_iff.2 ⟨ptrB b, s', .inr rfl, blk_set hs2.p1 1 (.slice s'.a s'.len s'.cap)⟩)

theorem String_spec {b : Nat} {xs : List Int} {hB : Heap} (hs : sat h (bldA b xs :: old hB :: R)) (hbB : hB.size ≤ b) (hx : ∀ x ∈ xs, 0 ≤ x ∧ x < 256) {Q : Value → Heap → Prop}
    (hq : ∀ h', (∀ (k : Nat) o, hB[k]? = some o → h'[k]? = some o) → Q (.string (bytesOfInts xs)) h') : HCalls Tryd.prog 55 #[ptrB b] h Q := fun w hw => by
  subst hw
  obtain ⟨p, s, hp, hs⟩ := bldA_iff.1 hs
  have hg := hs.get
  have hcells : byteCells (xs.map fun x : Int => UInt8.ofNat x.toNat) = xs.map (Value.int .u8) := by
    unfold byteCells
    rw [List.map_map]
    refine List.map_congr_left fun x hxm => ?_
    obtain ⟨h1, h2⟩ := hx x hxm
    simp only [Function.comp_apply, UInt8.toNat_ofNat']
    congr 1
    omega
  have hat : BuilderAt 128 5 hB.size b p (byteCells (xs.map fun x : Int => UInt8.ofNat x.toNat)) w := by
    rw [hcells]
    rcases bufA_cases hs.p1 with ⟨rfl, rfl, -⟩ | ⟨g, cur, hf, hs1⟩
    · exact ⟨hbB, _, hg, ⟨rfl, .inl ⟨rfl, rfl⟩⟩, by simp [Value.ownBlock]⟩
    · have hgg := hs1.get
      have hle : hB.size ≤ g := fresh_old (hs1.re [0, 2, 1])
      refine ⟨hbB, _, hg, ⟨by simp, .inr ⟨g, s.cap, cur, by rw [hf.a, hf.len]; simp, hle, hgg, by rw [List.length_map, ← hf.len]; exact hf.le, hf.cap, by rw [hf.size, Nat.mul_one], ?_⟩⟩, ?_⟩
      · rw [List.length_map, Nat.mul_one, ← hf.len]
        exact hf.front
      · rw [hf.a]
        simp only [Value.ownBlock, ne_eq, Option.some.injEq]
        rintro rfl
        rw [hg] at hgg
        cases hgg
  have hisb : IsBuilder 128 5 hB.size b (byteCells (xs.map fun x : Int => UInt8.ofNat x.toNat)) w := by
    rcases hp with rfl | rfl
    · exact .inl hat
    · exact .inr hat
  have hBw : hB.size ≤ w.heap.size := Nat.le_trans hbB (Nat.le_of_lt hs.lt)
  refine (Any.Builder_String_any (ρ := joinL_ren) { joinL with } joinX hB.size b (xs.map fun x : Int => UInt8.ofNat x.toNat) w hisb hBw).mono ?_
  rintro e w' ⟨rfl, hbel⟩
  have e1 : (⟨(xs.map fun x : Int => UInt8.ofNat x.toNat).toArray⟩ : ByteArray) = bytesOfInts xs := data_inj (by rw [ints_data])
  rw [e1]
  refine ⟨_, rfl, below_same hbel, hq _ fun k o hk => ?_⟩
  have hlt := (Array.getElem?_eq_some_iff.1 hk).1
  rw [hbel.block k hlt]
  exact (hs.re [2, 0, 1]).old_get hk

end Go.Proofs.YtmdagnoknmfhcaaDoor
