/-
  Kitoa: the shelf's contracts of strconv.Itoa and FormatInt laid at this seat. Written by program (wip/tools/lay.py).
-/
import Derived.Test.YtlgddhcbiioefaaDoorProg
import Derived.KernelRfl
import Derived.Shelf.Strconv.Itoa4
namespace Go.Proofs.YtlgddhcbiioefaaDoor
set_option linter.unusedSimpArgs false
set_option linter.unusedVariables false
open Go.Proofs Go.Shelf

def itoaL_ren : Go.Shelf.Ren := ⟨fun n => match n with | 171 => 78 | 243 => 104 | 246 => 105 | 283 => 127 | 284 => 128 | 285 => 129 | 286 => 130 | 129 => 142 | 317 => 160 | 318 => 161 | 319 => 162 | 320 => 163 | 337 => 176 | 338 => 177 | n => n, fun n => match n with | 3 => 3 | 9 => 9 | 2 => 2 | 4 => 4 | 171 => 252 | 0 => 0 | 53 => 245 | 37 => 34 | 5 => 5 | 173 => 255 | 212 => 283 | 51 => 266 | 20 => 20 | 213 => 284 | 46 => 235 | 232 => 305 | 233 => 306 | n => n, fun n => match n with | 17 => 2 | 18 => 6 | 19 => 7 | n => n⟩
theorem itoaL : Lays.n171 Tryd.prog itoaL_ren where
  mixed := by kernel_rfl
  f129 := Tryd.func142.trans (congrArg some (by kernel_rfl))
  f171 := Tryd.func78.trans (congrArg some (by kernel_rfl))
  f243 := Tryd.func104.trans (congrArg some (by kernel_rfl))
  f246 := Tryd.func105.trans (congrArg some (by kernel_rfl))
  f283 := Tryd.func127.trans (congrArg some (by kernel_rfl))
  f284 := Tryd.func128.trans (congrArg some (by kernel_rfl))
  f285 := Tryd.func129.trans (congrArg some (by kernel_rfl))
  f286 := Tryd.func130.trans (congrArg some (by kernel_rfl))
  f317 := Tryd.func160.trans (congrArg some (by kernel_rfl))
  f318 := Tryd.func161.trans (congrArg some (by kernel_rfl))
  f319 := Tryd.func162.trans (congrArg some (by kernel_rfl))
  f320 := Tryd.func163.trans (congrArg some (by kernel_rfl))
  f337 := Tryd.func176.trans (congrArg some (by kernel_rfl))
  f338 := Tryd.func177.trans (congrArg some (by kernel_rfl))
  t0 := Tryd.underlying0
  a0 := Tryd.isAgg0
  z0 := Tryd.sizeOf0
  v0 := Tryd.zeroValue0
  t2 := Tryd.underlying2
  a2 := Tryd.isAgg2
  z2 := Tryd.sizeOf2
  v2 := Tryd.zeroValue2
  t3 := Tryd.underlying3
  a3 := Tryd.isAgg3
  z3 := Tryd.sizeOf3
  v3 := Tryd.zeroValue3
  t4 := Tryd.underlying4
  a4 := Tryd.isAgg4
  z4 := Tryd.sizeOf4
  v4 := Tryd.zeroValue4
  t5 := Tryd.underlying5
  a5 := Tryd.isAgg5
  z5 := Tryd.sizeOf5
  v5 := Tryd.zeroValue5
  t9 := Tryd.underlying9
  a9 := Tryd.isAgg9
  z9 := Tryd.sizeOf9
  v9 := Tryd.zeroValue9
  t20 := Tryd.underlying20
  a20 := Tryd.isAgg20
  z20 := Tryd.sizeOf20
  v20 := Tryd.zeroValue20
  t37 := Tryd.underlying34
  a37 := Tryd.isAgg34
  z37 := Tryd.sizeOf34
  v37 := Tryd.zeroValue34
  t46 := Tryd.underlying235
  a46 := Tryd.isAgg235
  z46 := Tryd.sizeOf235
  v46 := Tryd.zeroValue235
  t51 := Tryd.underlying266
  a51 := Tryd.isAgg266
  z51 := Tryd.sizeOf266
  v51 := Tryd.zeroValue266
  t53 := Tryd.underlying245
  a53 := Tryd.isAgg245
  z53 := Tryd.sizeOf245
  v53 := Tryd.zeroValue245
  t171 := Tryd.underlying252
  a171 := Tryd.isAgg252
  z171 := Tryd.sizeOf252
  v171 := Tryd.zeroValue252
  t173 := Tryd.underlying255
  a173 := Tryd.isAgg255
  z173 := Tryd.sizeOf255
  v173 := Tryd.zeroValue255
  t212 := Tryd.underlying283
  a212 := Tryd.isAgg283
  z212 := Tryd.sizeOf283
  v212 := Tryd.zeroValue283
  t213 := Tryd.underlying284
  a213 := Tryd.isAgg284
  z213 := Tryd.sizeOf284
  t232 := Tryd.underlying305
  a232 := Tryd.isAgg305
  z232 := Tryd.sizeOf305
  v232 := Tryd.zeroValue305
  t233 := Tryd.underlying306
  a233 := Tryd.isAgg306
  z233 := Tryd.sizeOf306
  v233 := Tryd.zeroValue306
  g17 := by kernel_rfl
  g18 := by kernel_rfl
  g19 := by kernel_rfl

def formatL_ren : Go.Shelf.Ren := ⟨fun n => match n with | 173 => 79 | 246 => 105 | 283 => 127 | 284 => 128 | 285 => 129 | 286 => 130 | 129 => 142 | 317 => 160 | 318 => 161 | 319 => 162 | 320 => 163 | 337 => 176 | 338 => 177 | n => n, fun n => match n with | 2 => 2 | 3 => 3 | 9 => 9 | 4 => 4 | 171 => 252 | 0 => 0 | 53 => 245 | 37 => 34 | 5 => 5 | 173 => 255 | 212 => 283 | 51 => 266 | 20 => 20 | 213 => 284 | 46 => 235 | 232 => 305 | 233 => 306 | n => n, fun n => match n with | 17 => 2 | 18 => 6 | 19 => 7 | n => n⟩
theorem formatL : Lays.n173 Tryd.prog formatL_ren where
  mixed := by kernel_rfl
  f129 := Tryd.func142.trans (congrArg some (by kernel_rfl))
  f173 := Tryd.func79.trans (congrArg some (by kernel_rfl))
  f246 := Tryd.func105.trans (congrArg some (by kernel_rfl))
  f283 := Tryd.func127.trans (congrArg some (by kernel_rfl))
  f284 := Tryd.func128.trans (congrArg some (by kernel_rfl))
  f285 := Tryd.func129.trans (congrArg some (by kernel_rfl))
  f286 := Tryd.func130.trans (congrArg some (by kernel_rfl))
  f317 := Tryd.func160.trans (congrArg some (by kernel_rfl))
  f318 := Tryd.func161.trans (congrArg some (by kernel_rfl))
  f319 := Tryd.func162.trans (congrArg some (by kernel_rfl))
  f320 := Tryd.func163.trans (congrArg some (by kernel_rfl))
  f337 := Tryd.func176.trans (congrArg some (by kernel_rfl))
  f338 := Tryd.func177.trans (congrArg some (by kernel_rfl))
  t0 := Tryd.underlying0
  a0 := Tryd.isAgg0
  z0 := Tryd.sizeOf0
  v0 := Tryd.zeroValue0
  t2 := Tryd.underlying2
  a2 := Tryd.isAgg2
  z2 := Tryd.sizeOf2
  v2 := Tryd.zeroValue2
  t3 := Tryd.underlying3
  a3 := Tryd.isAgg3
  z3 := Tryd.sizeOf3
  v3 := Tryd.zeroValue3
  t4 := Tryd.underlying4
  a4 := Tryd.isAgg4
  z4 := Tryd.sizeOf4
  v4 := Tryd.zeroValue4
  t5 := Tryd.underlying5
  a5 := Tryd.isAgg5
  z5 := Tryd.sizeOf5
  v5 := Tryd.zeroValue5
  t9 := Tryd.underlying9
  a9 := Tryd.isAgg9
  z9 := Tryd.sizeOf9
  v9 := Tryd.zeroValue9
  t20 := Tryd.underlying20
  a20 := Tryd.isAgg20
  z20 := Tryd.sizeOf20
  v20 := Tryd.zeroValue20
  t37 := Tryd.underlying34
  a37 := Tryd.isAgg34
  z37 := Tryd.sizeOf34
  v37 := Tryd.zeroValue34
  t46 := Tryd.underlying235
  a46 := Tryd.isAgg235
  z46 := Tryd.sizeOf235
  v46 := Tryd.zeroValue235
  t51 := Tryd.underlying266
  a51 := Tryd.isAgg266
  z51 := Tryd.sizeOf266
  v51 := Tryd.zeroValue266
  t53 := Tryd.underlying245
  a53 := Tryd.isAgg245
  z53 := Tryd.sizeOf245
  v53 := Tryd.zeroValue245
  t171 := Tryd.underlying252
  a171 := Tryd.isAgg252
  z171 := Tryd.sizeOf252
  v171 := Tryd.zeroValue252
  t173 := Tryd.underlying255
  a173 := Tryd.isAgg255
  z173 := Tryd.sizeOf255
  v173 := Tryd.zeroValue255
  t212 := Tryd.underlying283
  a212 := Tryd.isAgg283
  z212 := Tryd.sizeOf283
  v212 := Tryd.zeroValue283
  t213 := Tryd.underlying284
  a213 := Tryd.isAgg284
  z213 := Tryd.sizeOf284
  t232 := Tryd.underlying305
  a232 := Tryd.isAgg305
  z232 := Tryd.sizeOf305
  v232 := Tryd.zeroValue305
  t233 := Tryd.underlying306
  a233 := Tryd.isAgg306
  z233 := Tryd.sizeOf306
  v233 := Tryd.zeroValue306
  g17 := by kernel_rfl
  g18 := by kernel_rfl
  g19 := by kernel_rfl

end Go.Proofs.YtlgddhcbiioefaaDoor
