/-
  Ku8: the shelf's contract of utf8.DecodeRuneInString laid at this seat. Written by program (wip/tools/lay.py).
-/
import Derived.Test.YtnmighfcpeifeaaDoorProg
import Derived.KernelRfl
import Derived.Shelf.Unicode.DecodeAny
namespace Go.Proofs.YtnmighfcpeifeaaDoor
set_option linter.unusedSimpArgs false
set_option linter.unusedVariables false
open Go.Proofs Go.Shelf

def u8_ren : Go.Shelf.Ren := ⟨fun n => match n with | 197 => 114 | 260 => 144 | n => n, fun n => match n with | 9 => 9 | 21 => 21 | 3 => 3 | 4 => 4 | 5 => 5 | 105 => 213 | 119 => 268 | 0 => 0 | 46 => 210 | 139 => 271 | 138 => 270 | n => n, fun n => match n with | 3 => 1 | 4 => 2 | n => n⟩
theorem u8 : Lays.n197 Tryd.prog u8_ren where
  mixed := by kernel_rfl
  f197 := Tryd.func114.trans (congrArg some (by kernel_rfl))
  f260 := Tryd.func144.trans (congrArg some (by kernel_rfl))
  t0 := Tryd.underlying0
  a0 := Tryd.isAgg0
  z0 := Tryd.sizeOf0
  v0 := Tryd.zeroValue0
  t3 := Tryd.underlying3
  a3 := Tryd.isAgg3
  z3 := Tryd.sizeOf3
  v3 := Tryd.zeroValue3
  t4 := Tryd.underlying4
  a4 := Tryd.isAgg4
  z4 := Tryd.sizeOf4
  v4 := Tryd.zeroValue4
  t5 := Tryd.underlying5
  a5 := Tryd.isAgg5
  z5 := Tryd.sizeOf5
  v5 := Tryd.zeroValue5
  t9 := Tryd.underlying9
  a9 := Tryd.isAgg9
  z9 := Tryd.sizeOf9
  v9 := Tryd.zeroValue9
  t21 := Tryd.underlying21
  a21 := Tryd.isAgg21
  z21 := Tryd.sizeOf21
  v21 := Tryd.zeroValue21
  t46 := Tryd.underlying210
  a46 := Tryd.isAgg210
  z46 := Tryd.sizeOf210
  v46 := Tryd.zeroValue210
  t105 := Tryd.underlying213
  a105 := Tryd.isAgg213
  z105 := Tryd.sizeOf213
  v105 := Tryd.zeroValue213
  t119 := Tryd.underlying268
  a119 := Tryd.isAgg268
  z119 := Tryd.sizeOf268
  t138 := Tryd.underlying270
  a138 := Tryd.isAgg270
  z138 := Tryd.sizeOf270
  v138 := Tryd.zeroValue270
  t139 := Tryd.underlying271
  a139 := Tryd.isAgg271
  z139 := Tryd.sizeOf271
  v139 := Tryd.zeroValue271
  g3 := by kernel_rfl
  g4 := by kernel_rfl

end Go.Proofs.YtnmighfcpeifeaaDoor
