/-
  Cpks: packets that are sent, in memory: with the slices that they have; for the program's packets (k = .u8) and the document's (k = .i64).
-/
import Derived.Test.YtfhalebbcbgbdaaGreatDoorLflo
import Derived.Test.YtfhalebbcbgbdaaGreatDoorHlp
namespace Go.Proofs.YtfhalebbcbgbdaaGreatDoor
open Go.H Go.Proofs
set_option linter.unusedSimpArgs false
set_option linter.unusedVariables false
set_option maxRecDepth 100000

variable {h : Heap} {R : List Asn}

abbrev encPr (x : PropT) : List Value := [.int .i64 x.1, .int .i64 x.2.1, .string x.2.2.1, .string x.2.2.2]
theorem ePr_len (x : PropT) : (encPr x).length = 4 := rfl
theorem ePr_cell (x : PropT) : ∀ v ∈ encPr x, v.oneCell' = true := by
  intro v hv; simp at hv; rcases hv with rfl | rfl | rfl | rfl <;> rfl
abbrev eKd (k : IntKind) (n : Int) : List Value := [.int k n]
theorem eKd_len (k : IntKind) (n : Int) : (eKd k n).length = 1 := rfl
theorem eKd_cell (k : IntKind) (n : Int) : ∀ v ∈ eKd k n, v.oneCell' = true := by intro v hv; rw [List.mem_singleton.1 hv]; rfl

abbrev pkT (o : PkO) (c p : Slc) : Pk := (o.kind, o.dup, o.retain, o.qos, o.id, o.topic, o.payload, o.code, c, p, ByteArray.mk #[], false, 0, false, ByteArray.mk #[], ByteArray.mk #[], 0, false, ⟨none, 0, 0⟩, false, false, ByteArray.mk #[], ByteArray.mk #[], o.session, ⟨none, 0, 0⟩, ⟨none, 0, 0⟩, ())
abbrev encPkK (k : IntKind) (p : Pk) : List Value := [.int .i64 p.1, .bool p.2.1, .bool p.2.2.1, .int .i64 p.2.2.2.1, .int .i64 p.2.2.2.2.1, .string p.2.2.2.2.2.1, .string p.2.2.2.2.2.2.1, .int k p.2.2.2.2.2.2.2.1, .slice p.2.2.2.2.2.2.2.2.1.a p.2.2.2.2.2.2.2.2.1.len p.2.2.2.2.2.2.2.2.1.cap, .slice p.2.2.2.2.2.2.2.2.2.1.a p.2.2.2.2.2.2.2.2.2.1.len p.2.2.2.2.2.2.2.2.2.1.cap, .string p.2.2.2.2.2.2.2.2.2.2.1, .bool p.2.2.2.2.2.2.2.2.2.2.2.1, .int .i64 p.2.2.2.2.2.2.2.2.2.2.2.2.1, .bool p.2.2.2.2.2.2.2.2.2.2.2.2.2.1, .string p.2.2.2.2.2.2.2.2.2.2.2.2.2.2.1, .string p.2.2.2.2.2.2.2.2.2.2.2.2.2.2.2.1, .int .i64 p.2.2.2.2.2.2.2.2.2.2.2.2.2.2.2.2.1, .bool p.2.2.2.2.2.2.2.2.2.2.2.2.2.2.2.2.2.1, .slice p.2.2.2.2.2.2.2.2.2.2.2.2.2.2.2.2.2.2.1.a p.2.2.2.2.2.2.2.2.2.2.2.2.2.2.2.2.2.2.1.len p.2.2.2.2.2.2.2.2.2.2.2.2.2.2.2.2.2.2.1.cap, .bool p.2.2.2.2.2.2.2.2.2.2.2.2.2.2.2.2.2.2.2.1, .bool p.2.2.2.2.2.2.2.2.2.2.2.2.2.2.2.2.2.2.2.2.1, .string p.2.2.2.2.2.2.2.2.2.2.2.2.2.2.2.2.2.2.2.2.2.1, .string p.2.2.2.2.2.2.2.2.2.2.2.2.2.2.2.2.2.2.2.2.2.2.1, .bool p.2.2.2.2.2.2.2.2.2.2.2.2.2.2.2.2.2.2.2.2.2.2.2.1, .slice p.2.2.2.2.2.2.2.2.2.2.2.2.2.2.2.2.2.2.2.2.2.2.2.2.1.a p.2.2.2.2.2.2.2.2.2.2.2.2.2.2.2.2.2.2.2.2.2.2.2.2.1.len p.2.2.2.2.2.2.2.2.2.2.2.2.2.2.2.2.2.2.2.2.2.2.2.2.1.cap, .slice p.2.2.2.2.2.2.2.2.2.2.2.2.2.2.2.2.2.2.2.2.2.2.2.2.2.1.a p.2.2.2.2.2.2.2.2.2.2.2.2.2.2.2.2.2.2.2.2.2.2.2.2.2.1.len p.2.2.2.2.2.2.2.2.2.2.2.2.2.2.2.2.2.2.2.2.2.2.2.2.2.1.cap]
abbrev Pk_tK (k : IntKind) : List Tag := [.int .i64, .bool, .bool, .int .i64, .int .i64, .str, .str, .int k, .slc, .slc, .str, .bool, .int .i64, .bool, .str, .str, .int .i64, .bool, .slc, .bool, .bool, .str, .str, .bool, .slc, .slc]
abbrev vPkK (k : IntKind) (p : Pk) : Value := .agg (encPkK k p).toArray
theorem ePkK_len (k : IntKind) (p : Pk) : (encPkK k p).length = 26 := rfl
theorem ePkK_cell (k : IntKind) (p : Pk) : ∀ v ∈ encPkK k p, v.oneCell' = true := by
  intro v hv
  have : (encPkK k p).all (fun v => v.oneCell') = true := rfl
  exact List.all_eq_true.1 this v hv

/-- the slices of a packet -/
def pkB (k : IntKind) (t : Slc × Slc × PkO) : Asn := star (ownS (eKd k) 1 t.1 t.2.2.codes) (ownS encPr 4 t.2.1 t.2.2.props)
theorem pkB_iff {k : IntKind} {t : Slc × Slc × PkO} : sat h (pkB k t :: R) ↔ sat h (ownS (eKd k) 1 t.1 t.2.2.codes :: ownS encPr 4 t.2.1 t.2.2.props :: R) := sat.star_iff
theorem pkB_none {k : IntKind} {o : PkO} (hc : o.codes = []) (hp : o.props = []) (hs : sat h R) : sat h (pkB k (⟨none, 0, 0⟩, ⟨none, 0, 0⟩, o) :: R) := by
  refine pkB_iff.2 ?_
  show sat h (ownS (eKd k) 1 ⟨none, 0, 0⟩ o.codes :: ownS encPr 4 ⟨none, 0, 0⟩ o.props :: R)
  rw [hc, hp]
  exact ownS_nil (ownS_nil hs)

abbrev pkF (t : Slc × Slc × PkO) : Pk := pkT t.2.2 t.1 t.2.1
def pksA (k : IntKind) (s : Slc) (os : List PkO) : Asn := exA fun T : List (Slc × Slc × PkO) => star (pr (T.map (·.2.2) = os)) (star (ownS (encPkK k) 26 s (T.map pkF)) (bigA (pkB k) T))

theorem pks_iff {k : IntKind} {s : Slc} {os : List PkO} : sat h (pksA k s os :: R) ↔ ∃ T : List (Slc × Slc × PkO), T.map (·.2.2) = os ∧ sat h (ownS (encPkK k) 26 s (T.map pkF) :: bigA (pkB k) T :: R) := by
  unfold pksA
  rw [sat.ex_iff]
  simp only [sat.star_iff, sat.pr_iff]

theorem pks_nil {k : IntKind} (hs : sat h R) : sat h (pksA k ⟨none, 0, 0⟩ [] :: R) := pks_iff.2 ⟨[], rfl, ownS_nil (bigA_nil.2 hs)⟩

theorem pks_len {k : IntKind} {s : Slc} {os : List PkO} (hs : sat h (pksA k s os :: R)) : s.len = os.length := by
  obtain ⟨T, rfl, hs1⟩ := pks_iff.1 hs
  rw [hs1.own_len, List.length_map, List.length_map]

theorem bigA_cat {α : Type} {f : α → Asn} : ∀ {a b : List α} {R : List Asn}, sat h (bigA f (a ++ b) :: R) ↔ sat h (bigA f a :: bigA f b :: R)
  | [], b, R => by
    rw [List.nil_append]
    exact ⟨fun hs => bigA_nil.2 hs, fun hs => bigA_nil.1 hs⟩
  | x :: a, b, R => by
    rw [List.cons_append, bigA_cons]
    constructor
    · intro hs
      exact bigA_cons.2 ((bigA_cat.1 hs.p1).re [2, 0, 1])
    · intro hs
      exact (bigA_cat.2 ((bigA_cons.1 hs).re [1, 2, 0])).p1
theorem bigA_sing {α : Type} {f : α → Asn} {x : α} : sat h (bigA f [x] :: R) ↔ sat h (f x :: R) := by
  rw [bigA_cons]
  exact ⟨fun hs => bigA_nil.1 hs.p1, fun hs => (bigA_nil.2 hs).p1⟩

/-- one packet more -/
theorem pks_push {k : IntKind} {s : Slc} {os : List PkO} {t : Slc × Slc × PkO} (hs : sat h (pksA k s os :: pkB k t :: R)) {elem T : TypeId} {bytes : Nat} {zero : Array Value} (hz : zero.size = 26) (hb0 : 0 < bytes) (hb : (os.length + 1) * bytes ≤ 140737488355328) {Q : Slc → Heap → Prop}
    (hq : ∀ s' h', sat h' (pksA k s' (os ++ [t.2.2]) :: R) → Q s' h') : HM.new (.cells (encPkK k (pkF t)).toArray T) h fun b h' => HM.append elem 26 bytes zero s 1 (srcSlc 26 ⟨some ⟨b, 0, none⟩, 1, 1⟩) h' Q := by
  obtain ⟨L, rfl, hs1⟩ := pks_iff.1 hs
  refine app_new (x := pkF t) (ePkK_len k) (ePkK_cell k) hz hs1 (by decide) hb0 (by simpa using hb) fun s' h' hs2 => ?_
  refine hq s' h' (pks_iff.2 ⟨L ++ [t], by simp, ?_⟩)
  rw [List.map_append]
  exact (bigA_cat.2 ((bigA_sing.2 (hs2.re [2, 1, 0])).p1)).p1

end Go.Proofs.YtfhalebbcbgbdaaGreatDoor
