/-
  Kjoin: the shelf's contract of strings.Join laid at this seat. Written by program (wip/tools/lay.py).
-/
import Derived.Test.YtnmighfcpeifeaaDoorProg
import Derived.KernelRfl
import Derived.Shelf.Strings.OnBuilder
namespace Go.Proofs.YtnmighfcpeifeaaDoor
set_option linter.unusedSimpArgs false
set_option linter.unusedVariables false
open Go.Proofs Go.Shelf

def joinL_ren : Go.Shelf.Ren := ⟨fun n => match n with | 156 => 88 | 165 => 116 | 166 => 117 | 169 => 118 | 240 => 145 | 241 => 146 | 276 => 180 | 277 => 181 | n => n, fun n => match n with | 31 => 47 | 9 => 9 | 3 => 3 | 4 => 4 | 0 => 0 | 20 => 20 | 72 => 219 | 76 => 223 | 70 => 217 | 37 => 34 | 75 => 222 | 127 => 244 | 164 => 272 | 5 => 5 | 80 => 131 | n => n, fun n => n⟩
theorem joinL : Lays.n156 Tryd.prog joinL_ren where
  mixed := by kernel_rfl
  f156 := Tryd.func88.trans (congrArg some (by kernel_rfl))
  f165 := Tryd.func116.trans (congrArg some (by kernel_rfl))
  f166 := Tryd.func117.trans (congrArg some (by kernel_rfl))
  f169 := Tryd.func118.trans (congrArg some (by kernel_rfl))
  f240 := Tryd.func145.trans (congrArg some (by kernel_rfl))
  f241 := Tryd.func146.trans (congrArg some (by kernel_rfl))
  f276 := Tryd.func180.trans (congrArg some (by kernel_rfl))
  f277 := Tryd.func181.trans (congrArg some (by kernel_rfl))
  t0 := Tryd.underlying0
  a0 := Tryd.isAgg0
  z0 := Tryd.sizeOf0
  v0 := Tryd.zeroValue0
  t3 := Tryd.underlying3
  a3 := Tryd.isAgg3
  z3 := Tryd.sizeOf3
  v3 := Tryd.zeroValue3
  t4 := Tryd.underlying4
  a4 := Tryd.isAgg4
  z4 := Tryd.sizeOf4
  v4 := Tryd.zeroValue4
  t9 := Tryd.underlying9
  a9 := Tryd.isAgg9
  z9 := Tryd.sizeOf9
  v9 := Tryd.zeroValue9
  t20 := Tryd.underlying20
  a20 := Tryd.isAgg20
  z20 := Tryd.sizeOf20
  v20 := Tryd.zeroValue20
  t31 := Tryd.underlying47
  a31 := Tryd.isAgg47
  z31 := Tryd.sizeOf47
  v31 := Tryd.zeroValue47
  t37 := Tryd.underlying34
  a37 := Tryd.isAgg34
  z37 := Tryd.sizeOf34
  v37 := Tryd.zeroValue34
  t70 := Tryd.underlying217
  a70 := Tryd.isAgg217
  z70 := Tryd.sizeOf217
  v70 := Tryd.zeroValue217
  t72 := Tryd.underlying219
  a72 := Tryd.isAgg219
  z72 := Tryd.sizeOf219
  v72 := Tryd.zeroValue219
  t75 := Tryd.underlying222
  a75 := Tryd.isAgg222
  z75 := Tryd.sizeOf222
  v75 := Tryd.zeroValue222
  t76 := Tryd.underlying223
  a76 := Tryd.isAgg223
  z76 := Tryd.sizeOf223
  v76 := Tryd.zeroValue223
  t127 := Tryd.underlying244
  a127 := Tryd.isAgg244
  z127 := Tryd.sizeOf244
  v127 := Tryd.zeroValue244
  t164 := Tryd.underlying272
  a164 := Tryd.isAgg272
  z164 := Tryd.sizeOf272
  v164 := Tryd.zeroValue272

theorem joinX : Builder.Extra Tryd.prog joinL_ren where
  sizeBuilder := by kernel_rfl
  liesBuilder := by kernel_rfl
  t5 := Tryd.underlying5
  a5 := Tryd.isAgg5
  z5 := Tryd.sizeOf5
  v5 := Tryd.zeroValue5
  infoByte := by kernel_rfl
  cellsByte := by kernel_rfl
  sizeByte := by kernel_rfl
  neB5 := by decide

end Go.Proofs.YtnmighfcpeifeaaDoor
