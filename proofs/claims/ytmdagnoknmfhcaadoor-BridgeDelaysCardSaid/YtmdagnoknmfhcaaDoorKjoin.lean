/-
  Kjoin: the shelf's contract of strings.Join laid at this seat. Written by program (wip/tools/lay.py).
-/
import Derived.Test.YtmdagnoknmfhcaaDoorProg
import Derived.KernelRfl
import Derived.Shelf.Strings.OnBuilder
namespace Go.Proofs.YtmdagnoknmfhcaaDoor
set_option linter.unusedSimpArgs false
set_option linter.unusedVariables false
open Go.Proofs Go.Shelf

def joinL_ren : Go.Shelf.Ren := ⟨fun n => match n with | 156 => 121 | 165 => 152 | 166 => 52 | 169 => 55 | 240 => 86 | 241 => 172 | 276 => 114 | 277 => 183 | n => n, fun n => match n with | 31 => 23 | 9 => 9 | 3 => 3 | 4 => 4 | 0 => 0 | 20 => 20 | 72 => 128 | 76 => 132 | 70 => 125 | 37 => 126 | 75 => 131 | 127 => 180 | 164 => 214 | 5 => 5 | 80 => 138 | n => n, fun n => n⟩
theorem joinL : Lays.n156 Tryd.prog joinL_ren where
  mixed := by kernel_rfl
  f156 := Tryd.func121.trans (congrArg some (by kernel_rfl))
  f165 := Tryd.func152.trans (congrArg some (by kernel_rfl))
  f166 := Tryd.func52.trans (congrArg some (by kernel_rfl))
  f169 := Tryd.func55.trans (congrArg some (by kernel_rfl))
  f240 := Tryd.func86.trans (congrArg some (by kernel_rfl))
  f241 := Tryd.func172.trans (congrArg some (by kernel_rfl))
  f276 := Tryd.func114.trans (congrArg some (by kernel_rfl))
  f277 := Tryd.func183.trans (congrArg some (by kernel_rfl))
  t0 := Tryd.underlying0
  a0 := Tryd.isAgg0
  z0 := Tryd.sizeOf0
  v0 := Tryd.zeroValue0
  t3 := Tryd.underlying3
  a3 := Tryd.isAgg3
  z3 := Tryd.sizeOf3
  v3 := Tryd.zeroValue3
  t4 := Tryd.underlying4
  a4 := Tryd.isAgg4
  z4 := Tryd.sizeOf4
  v4 := Tryd.zeroValue4
  t9 := Tryd.underlying9
  a9 := Tryd.isAgg9
  z9 := Tryd.sizeOf9
  v9 := Tryd.zeroValue9
  t20 := Tryd.underlying20
  a20 := Tryd.isAgg20
  z20 := Tryd.sizeOf20
  v20 := Tryd.zeroValue20
  t31 := Tryd.underlying23
  a31 := Tryd.isAgg23
  z31 := Tryd.sizeOf23
  v31 := Tryd.zeroValue23
  t37 := Tryd.underlying126
  a37 := Tryd.isAgg126
  z37 := Tryd.sizeOf126
  v37 := Tryd.zeroValue126
  t70 := Tryd.underlying125
  a70 := Tryd.isAgg125
  z70 := Tryd.sizeOf125
  v70 := Tryd.zeroValue125
  t72 := Tryd.underlying128
  a72 := Tryd.isAgg128
  z72 := Tryd.sizeOf128
  v72 := Tryd.zeroValue128
  t75 := Tryd.underlying131
  a75 := Tryd.isAgg131
  z75 := Tryd.sizeOf131
  v75 := Tryd.zeroValue131
  t76 := Tryd.underlying132
  a76 := Tryd.isAgg132
  z76 := Tryd.sizeOf132
  v76 := Tryd.zeroValue132
  t127 := Tryd.underlying180
  a127 := Tryd.isAgg180
  z127 := Tryd.sizeOf180
  v127 := Tryd.zeroValue180
  t164 := Tryd.underlying214
  a164 := Tryd.isAgg214
  z164 := Tryd.sizeOf214
  v164 := Tryd.zeroValue214

theorem joinX : Builder.Extra Tryd.prog joinL_ren where
  sizeBuilder := by kernel_rfl
  liesBuilder := by kernel_rfl
  t5 := Tryd.underlying5
  a5 := Tryd.isAgg5
  z5 := Tryd.sizeOf5
  v5 := Tryd.zeroValue5
  infoByte := by kernel_rfl
  cellsByte := by kernel_rfl
  sizeByte := by kernel_rfl
  neB5 := by decide

end Go.Proofs.YtmdagnoknmfhcaaDoor
