/-
  Kjoin: the shelf's contract of strings.Join laid at this seat. Written by program (wip/tools/lay.py).
-/
import Derived.Test.YtlgddhcbiioefaaDoorProg
import Derived.KernelRfl
import Derived.Shelf.Strings.OnBuilder
namespace Go.Proofs.YtlgddhcbiioefaaDoor
set_option linter.unusedSimpArgs false
set_option linter.unusedVariables false
open Go.Proofs Go.Shelf

def joinL_ren : Go.Shelf.Ren := ⟨fun n => match n with | 156 => 77 | 165 => 101 | 166 => 102 | 169 => 103 | 240 => 125 | 241 => 126 | 276 => 158 | 277 => 159 | n => n, fun n => match n with | 31 => 47 | 9 => 9 | 3 => 3 | 4 => 4 | 0 => 0 | 20 => 20 | 72 => 226 | 76 => 228 | 70 => 224 | 37 => 34 | 75 => 185 | 127 => 251 | 164 => 279 | 5 => 5 | 80 => 136 | n => n, fun n => n⟩
theorem joinL : Lays.n156 Tryd.prog joinL_ren where
  mixed := by kernel_rfl
  f156 := Tryd.func77.trans (congrArg some (by kernel_rfl))
  f165 := Tryd.func101.trans (congrArg some (by kernel_rfl))
  f166 := Tryd.func102.trans (congrArg some (by kernel_rfl))
  f169 := Tryd.func103.trans (congrArg some (by kernel_rfl))
  f240 := Tryd.func125.trans (congrArg some (by kernel_rfl))
  f241 := Tryd.func126.trans (congrArg some (by kernel_rfl))
  f276 := Tryd.func158.trans (congrArg some (by kernel_rfl))
  f277 := Tryd.func159.trans (congrArg some (by kernel_rfl))
  t0 := Tryd.underlying0
  a0 := Tryd.isAgg0
  z0 := Tryd.sizeOf0
  v0 := Tryd.zeroValue0
  t3 := Tryd.underlying3
  a3 := Tryd.isAgg3
  z3 := Tryd.sizeOf3
  v3 := Tryd.zeroValue3
  t4 := Tryd.underlying4
  a4 := Tryd.isAgg4
  z4 := Tryd.sizeOf4
  v4 := Tryd.zeroValue4
  t9 := Tryd.underlying9
  a9 := Tryd.isAgg9
  z9 := Tryd.sizeOf9
  v9 := Tryd.zeroValue9
  t20 := Tryd.underlying20
  a20 := Tryd.isAgg20
  z20 := Tryd.sizeOf20
  v20 := Tryd.zeroValue20
  t31 := Tryd.underlying47
  a31 := Tryd.isAgg47
  z31 := Tryd.sizeOf47
  v31 := Tryd.zeroValue47
  t37 := Tryd.underlying34
  a37 := Tryd.isAgg34
  z37 := Tryd.sizeOf34
  v37 := Tryd.zeroValue34
  t70 := Tryd.underlying224
  a70 := Tryd.isAgg224
  z70 := Tryd.sizeOf224
  v70 := Tryd.zeroValue224
  t72 := Tryd.underlying226
  a72 := Tryd.isAgg226
  z72 := Tryd.sizeOf226
  v72 := Tryd.zeroValue226
  t75 := Tryd.underlying185
  a75 := Tryd.isAgg185
  z75 := Tryd.sizeOf185
  v75 := Tryd.zeroValue185
  t76 := Tryd.underlying228
  a76 := Tryd.isAgg228
  z76 := Tryd.sizeOf228
  v76 := Tryd.zeroValue228
  t127 := Tryd.underlying251
  a127 := Tryd.isAgg251
  z127 := Tryd.sizeOf251
  v127 := Tryd.zeroValue251
  t164 := Tryd.underlying279
  a164 := Tryd.isAgg279
  z164 := Tryd.sizeOf279
  v164 := Tryd.zeroValue279

theorem joinX : Builder.Extra Tryd.prog joinL_ren where
  sizeBuilder := by kernel_rfl
  liesBuilder := by kernel_rfl
  t5 := Tryd.underlying5
  a5 := Tryd.isAgg5
  z5 := Tryd.sizeOf5
  v5 := Tryd.zeroValue5
  infoByte := by kernel_rfl
  cellsByte := by kernel_rfl
  sizeByte := by kernel_rfl
  neB5 := by decide

end Go.Proofs.YtlgddhcbiioefaaDoor
