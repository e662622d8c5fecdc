/-
  Kord: the order of a trie's entries, walked as the kit does (it is what the library's sort calls).
-/
import Derived.Test.YtnpgpijkofbknaaGreatDoorProg
import Derived.KernelRfl
import Derived.WalkKit
import Derived.StillTailTactics
import Derived.Deep.QuietTactic
import Derived.Shelf.SlicesG.Cmp
import Derived.Shelf.Small.Strs
import Derived.Sort.Row
import Derived.Sort.Grow
namespace Go.Proofs.YtnpgpijkofbknaaGreatDoor
open Go.Proofs Go.Shelf Go.RowKit Go.Sort
set_option maxRecDepth 100000

def cmpS9_ren : Go.Shelf.Ren := ⟨fun n => match n with | 106 => 42 | 213 => 64 | 265 => 78 | n => n, fun n => match n with | 9 => 9 | 3 => 3 | n => n, fun n => n⟩
theorem cmpS9 : Lays.n106 Tryz.prog cmpS9_ren where
  mixed := by kernel_rfl
  f106 := Tryz.func42.trans (congrArg some (by kernel_rfl))
  f213 := Tryz.func64.trans (congrArg some (by kernel_rfl))
  f265 := Tryz.func78.trans (congrArg some (by kernel_rfl))
  t3 := Tryz.underlying3
  a3 := Tryz.isAgg3
  z3 := Tryz.sizeOf3
  v3 := Tryz.zeroValue3
  t9 := Tryz.underlying9
  a9 := Tryz.isAgg9
  z9 := Tryz.sizeOf9
  v9 := Tryz.zeroValue9

def cmpI9_ren : Go.Shelf.Ren := ⟨fun n => match n with | 5 => 41 | 7 => 63 | n => n, fun n => match n with | 22 => 3 | 3 => 3 | 4 => 4 | n => n, fun n => n⟩
theorem cmpI9 : SlLaysC2.n5 Tryz.prog cmpI9_ren where
  mixed := by kernel_rfl
  f5 := ⟨Tryz.f41.name, by kernel_rfl, Tryz.func41.trans (congrArg some (by kernel_rfl))⟩
  f7 := ⟨Tryz.f63.name, by kernel_rfl, Tryz.func63.trans (congrArg some (by kernel_rfl))⟩
  t3 := Tryz.underlying3
  a3 := Tryz.isAgg3
  z3 := Tryz.sizeOf3
  v3 := Tryz.zeroValue3
  t4 := Tryz.underlying4
  a4 := Tryz.isAgg4
  z4 := Tryz.sizeOf4
  v4 := Tryz.zeroValue4
  t22 := Tryz.underlying3
  a22 := Tryz.isAgg3
  z22 := Tryz.sizeOf3
  v22 := Tryz.zeroValue3


/-- the first that isn't zero -/
theorem cmpOr9 (b : Nat) (x y : Int) (w : World) (h0 : w.cell? ⟨b, 0, none⟩ = some (.int .i64 x)) (h1 : w.cell? ⟨b, 1, none⟩ = some (.int .i64 y)) :
    Calls Tryz.prog 40 #[.slice (some ⟨b, 0, none⟩) 2 2] w fun e w' => e = .returned (.int .i64 (if x = 0 then y else x)) ∧ w' = w := by
  generalize hr : (if x = 0 then y else x) = r
  go_enter Tryz.func40, Tryz.ntmps40
  go_wp2
  go_loop [5, 8] (fun _ i => (i = .int .i64 0) ∨ (i = .int .i64 1 ∧ x = 0) ∨ (i = .int .i64 2 ∧ x = 0 ∧ y = 0)) (fun _ i => 2 - (intOf i).toNat)
  case atStart => exact .inl rfl
  case round =>
    rcases hrel with rfl | ⟨rfl, hx⟩ | ⟨rfl, hx, hy⟩
    · by_cases hx : x = 0
      · subst hx
        go_wp2
        go_round
        case rel => exact .inr (.inl ⟨by go_num, by first | trivial | rfl⟩)
        case measure => simp [intOf]
      · have hx' : (x == 0) = false := by simpa using hx
        have hx2 : (x != 0) = true := by simpa using hx
        go_wp2
        go_ret
        rw [if_neg hx] at hr
        subst hr
        exact ⟨rfl, rfl⟩
    · by_cases hy : y = 0
      · subst hy
        go_wp2
        go_round
        case rel => exact .inr (.inr ⟨by go_num, hx, by first | trivial | rfl⟩)
        case measure => simp [intOf]
      · have hy' : (y == 0) = false := by simpa using hy
        have hy2 : (y != 0) = true := by simpa using hy
        go_wp2
        go_ret
        rw [if_pos hx] at hr
        subst hr
        exact ⟨rfl, rfl⟩
    · go_wp2
      go_ret
      rw [if_pos hx, hy] at hr
      subst hr
      exact ⟨rfl, rfl⟩

theorem two0 (W : World) (c1 c2 : Obj) : ((W.alloc c1).alloc c2).heap[W.heap.size]? = some c1 := by
  show ((W.heap.push c1).push c2)[W.heap.size]? = some c1
  rw [Array.getElem?_push, if_neg (by simp), Array.getElem?_push, if_pos rfl]
theorem two1 (W : World) (c1 c2 : Obj) : ((W.alloc c1).alloc c2).heap[W.heap.size + 1]? = some c2 := by
  show ((W.heap.push c1).push c2)[W.heap.size + 1]? = some c2
  rw [Array.getElem?_push, if_pos (by simp)]
theorem one9 (W : World) (c1 : Obj) : (W.alloc c1).heap[W.heap.size]? = some c1 := by
  show (W.heap.push c1)[W.heap.size]? = some c1
  rw [Array.getElem?_push, if_pos rfl]
theorem cell_at {w : World} {b : Nat} {cs : Array Value} {t : TypeId} {f : Nat × Nat} (h : w.heap[b]? = some (.cells cs t f)) (j : Nat) : w.cell? ⟨b, j, none⟩ = cs[j]? := by
  unfold World.cell?
  simp only
  rw [h]
  rfl

/-- how entries stand -/
def cmpE (x y : Int × ByteArray × Int) : Int := if Lib.compareInt x.1 y.1 = 0 then Lib.compareBytes x.2.1.data.toList y.2.1.data.toList else Lib.compareInt x.1 y.1

set_option maxHeartbeats 4000000 in
theorem order9 (x y : Int × ByteArray × Int) (W : World) : Calls Tryz.prog 23 #[.agg #[.int .i64 x.1, .string x.2.1, .int .i64 x.2.2], .agg #[.int .i64 y.1, .string y.2.1, .int .i64 y.2.2]] W fun e w' => e = .returned (.int .i64 (cmpE x y)) ∧ ∃ q os', w' = grow (W.drewN q) os' := by
  have hI := fun W' => AnyG.cmp_Compare_int cmpI9 x.1 y.1 W'
  have hS := fun W' => Any.strings_Compare cmpS9 x.2.1 y.2.1 W'
  change ∀ W', Calls Tryz.prog 41 _ _ _ at hI
  change ∀ W', Calls Tryz.prog 42 _ _ _ at hS
  unfold cmpE
  generalize Lib.compareInt x.1 y.1 = r1 at hI ⊢
  generalize Lib.compareBytes x.2.1.data.toList y.2.1.data.toList = r2 at hS ⊢
  have hO := fun b w => cmpOr9 b r1 r2 w
  generalize (if r1 = 0 then r2 else r1) = r at hO ⊢
  obtain ⟨x1, x2, x3⟩ := x
  obtain ⟨y1, y2, y3⟩ := y
  go_enter Tryz.func23, Tryz.ntmps23
  go_wp2_with fail
  obtain ⟨W1, hW1⟩ : ∃ W1, (W.alloc (.cells #[.int .i64 x1, .string x2, .int .i64 x3] 41)).alloc (.cells #[.int .i64 y1, .string y2, .int .i64 y3] 41) = W1 := ⟨_, rfl⟩
  obtain ⟨A, hA⟩ : ∃ A, W.heap.size = A := ⟨_, rfl⟩
  obtain ⟨B, hB⟩ : ∃ B, W.heap.size + 1 = B := ⟨_, rfl⟩
  rw [hW1, hB, hA]
  refine wp_region_still_tail 10 (by kernel_rfl) (by kernel_rfl) ?_
  obtain ⟨W2, hW2⟩ : ∃ W2, { W1 with drawn := W1.drawn + 1 } = W2 := ⟨_, rfl⟩
  rw [hW2]
  have d0 : W2.cell? ⟨A, 0, none⟩ = some (.int .i64 x1) := by
    refine (cell_at (w := W2) (b := A) (by rw [← hW2, ← hW1, ← hA]; exact two0 _ _ _) _).trans rfl
  have d1 : W2.cell? ⟨A, 1, none⟩ = some (.string x2) := by
    refine (cell_at (w := W2) (b := A) (by rw [← hW2, ← hW1, ← hA]; exact two0 _ _ _) _).trans rfl
  have e0 : W2.cell? ⟨B, 0, none⟩ = some (.int .i64 y1) := by
    refine (cell_at (w := W2) (b := B) (by rw [← hW2, ← hW1, ← hB]; exact two1 _ _ _) _).trans rfl
  have e1 : W2.cell? ⟨B, 1, none⟩ = some (.string y2) := by
    refine (cell_at (w := W2) (b := B) (by rw [← hW2, ← hW1, ← hB]; exact two1 _ _ _) _).trans rfl
  simp only [List.take_succ_cons, List.take_zero, List.drop_succ_cons, List.drop_zero]
  repeat still_step
  still_call (hI _)
  repeat still_step
  still_call (hS _)
  refine wpStill_nil ?_
  go_wp2_with (go_at_call 40; refine (hO _ _ ((cell_at (one9 _ _) 0).trans rfl) ((cell_at (one9 _ _) 1).trans rfl)).mono ?_; rintro e w' ⟨rfl, rfl⟩)
  go_ret
  refine ⟨rfl, 1, #[.cells #[.int .i64 x1, .string x2, .int .i64 x3] 41] ++ #[.cells #[.int .i64 y1, .string y2, .int .i64 y3] 41] ++ #[.cells #[.int .i64 r1, .int .i64 r2] 3], ?_⟩
  rw [← hW2, ← hW1]
  unfold grow World.drewN World.alloc
  simp only [World.mk.injEq, true_and, and_true]
  apply Array.ext'
  simp

end Go.Proofs.YtnpgpijkofbknaaGreatDoor
