/-
  Kfil: the shelf's contracts of slices.Sorted(maps.Keys(m)) laid at this seat, for sets of texts. Written by program (wip/tools/lay.py).
-/
import Derived.Test.YtnpgpijkofbknaaGreatDoorProg
import Derived.KernelRfl
import Derived.Test.YtnpgpijkofbknaaGreatDoorKsrt
namespace Go.Proofs.YtnpgpijkofbknaaGreatDoor
set_option linter.unusedSimpArgs false
set_option linter.unusedVariables false
open Go.Proofs Go.Shelf

def keysSF_ren : Go.Shelf.Ren := ⟨fun n => match n with | 7 => 26 | 10 => 45 | n => n, fun n => match n with | 23 => 64 | 26 => 9 | 3 => 4 | 28 => 67 | 0 => 0 | 27 => 66 | 33 => 90 | 4 => 4 | n => n, fun n => n⟩
theorem keysSF : SlLaysZ.n7 Tryz.prog keysSF_ren where
  mixed := by kernel_rfl
  f7 := ⟨Tryz.f26.name, by kernel_rfl, Tryz.func26.trans (congrArg some (by kernel_rfl))⟩
  f10 := ⟨Tryz.f45.name, by kernel_rfl, Tryz.func45.trans (congrArg some (by kernel_rfl))⟩
  t0 := Tryz.underlying0
  a0 := Tryz.isAgg0
  z0 := Tryz.sizeOf0
  v0 := Tryz.zeroValue0
  t4 := Tryz.underlying4
  a4 := Tryz.isAgg4
  z4 := Tryz.sizeOf4
  v4 := Tryz.zeroValue4
  t23 := Tryz.underlying64
  a23 := Tryz.isAgg64
  z23 := Tryz.sizeOf64
  v23 := Tryz.zeroValue64
  t26 := Tryz.underlying9
  a26 := Tryz.isAgg9
  z26 := Tryz.sizeOf9
  v26 := Tryz.zeroValue9
  t27 := Tryz.underlying66
  a27 := Tryz.isAgg66
  z27 := Tryz.sizeOf66
  v27 := Tryz.zeroValue66
  t28 := Tryz.underlying67
  a28 := Tryz.isAgg67
  z28 := Tryz.sizeOf67
  v28 := Tryz.zeroValue67
  t33 := Tryz.underlying90
  a33 := Tryz.isAgg90
  z33 := Tryz.sizeOf90
  v33 := Tryz.zeroValue90

end Go.Proofs.YtnpgpijkofbknaaGreatDoor
