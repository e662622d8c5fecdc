/-
  Kses: the shelf's contract of maps.Keys laid at this seat, for the table of sessions. Written by program (wip/tools/lay.py).
-/
import Derived.Test.YtlgddhcbiioefaaDoorHk
import Derived.Test.YtlgddhcbiioefaaDoorProg
import Derived.KernelRfl
namespace Go.Proofs.YtlgddhcbiioefaaDoor
set_option linter.unusedSimpArgs false
set_option linter.unusedVariables false
open Go.H Go.Proofs Go.Shelf

def keysS_ren : Go.Shelf.Ren := ⟨fun n => match n with | 7 => 56 | 10 => 86 | n => n, fun n => match n with | 23 => 139 | 26 => 3 | 3 => 144 | 28 => 161 | 0 => 0 | 27 => 160 | 33 => 37 | 4 => 4 | n => n, fun n => n⟩
theorem keysS : SlLaysZI.n7 Tryd.prog keysS_ren where
  mixed := by kernel_rfl
  f7 := ⟨Tryd.f56.name, by kernel_rfl, Tryd.func56.trans (congrArg some (by kernel_rfl))⟩
  f10 := ⟨Tryd.f86.name, by kernel_rfl, Tryd.func86.trans (congrArg some (by kernel_rfl))⟩
  t0 := Tryd.underlying0
  a0 := Tryd.isAgg0
  z0 := Tryd.sizeOf0
  v0 := Tryd.zeroValue0
  t4 := Tryd.underlying4
  a4 := Tryd.isAgg4
  z4 := Tryd.sizeOf4
  v4 := Tryd.zeroValue4
  t23 := Tryd.underlying139
  a23 := Tryd.isAgg139
  z23 := Tryd.sizeOf139
  v23 := Tryd.zeroValue139
  t26 := Tryd.underlying3
  a26 := Tryd.isAgg3
  z26 := Tryd.sizeOf3
  v26 := Tryd.zeroValue3
  t27 := Tryd.underlying160
  a27 := Tryd.isAgg160
  z27 := Tryd.sizeOf160
  v27 := Tryd.zeroValue160
  t28 := Tryd.underlying161
  a28 := Tryd.isAgg161
  z28 := Tryd.sizeOf161
  v28 := Tryd.zeroValue161
  t33 := Tryd.underlying37
  a33 := Tryd.isAgg37
  z33 := Tryd.sizeOf37
  v33 := Tryd.zeroValue37

end Go.Proofs.YtlgddhcbiioefaaDoor
