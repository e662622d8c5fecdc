/-
  Kitoa: the shelf's contracts of strconv.Itoa and FormatInt laid at this seat. Written by program (wip/tools/lay.py).
-/
import Derived.Test.YtmdagnoknmfhcaaDoorProg
import Derived.KernelRfl
import Derived.Shelf.Strconv.Itoa4
namespace Go.Proofs.YtmdagnoknmfhcaaDoor
set_option linter.unusedSimpArgs false
set_option linter.unusedVariables false
open Go.Proofs Go.Shelf

def itoaL_ren : Go.Shelf.Ren := ⟨fun n => match n with | 171 => 122 | 243 => 153 | 246 => 154 | 283 => 173 | 284 => 174 | 285 => 175 | 286 => 176 | 129 => 140 | 317 => 184 | 318 => 185 | 319 => 186 | 320 => 187 | 337 => 189 | 338 => 190 | n => n, fun n => match n with | 3 => 3 | 9 => 9 | 2 => 2 | 4 => 4 | 171 => 263 | 0 => 0 | 53 => 98 | 37 => 126 | 5 => 5 | 173 => 265 | 212 => 276 | 51 => 238 | 20 => 20 | 213 => 277 | 46 => 137 | 232 => 282 | 233 => 283 | n => n, fun n => match n with | 17 => 1 | 18 => 4 | 19 => 5 | n => n⟩
theorem itoaL : Lays.n171 Tryd.prog itoaL_ren where
  mixed := by kernel_rfl
  f129 := Tryd.func140.trans (congrArg some (by kernel_rfl))
  f171 := Tryd.func122.trans (congrArg some (by kernel_rfl))
  f243 := Tryd.func153.trans (congrArg some (by kernel_rfl))
  f246 := Tryd.func154.trans (congrArg some (by kernel_rfl))
  f283 := Tryd.func173.trans (congrArg some (by kernel_rfl))
  f284 := Tryd.func174.trans (congrArg some (by kernel_rfl))
  f285 := Tryd.func175.trans (congrArg some (by kernel_rfl))
  f286 := Tryd.func176.trans (congrArg some (by kernel_rfl))
  f317 := Tryd.func184.trans (congrArg some (by kernel_rfl))
  f318 := Tryd.func185.trans (congrArg some (by kernel_rfl))
  f319 := Tryd.func186.trans (congrArg some (by kernel_rfl))
  f320 := Tryd.func187.trans (congrArg some (by kernel_rfl))
  f337 := Tryd.func189.trans (congrArg some (by kernel_rfl))
  f338 := Tryd.func190.trans (congrArg some (by kernel_rfl))
  t0 := Tryd.underlying0
  a0 := Tryd.isAgg0
  z0 := Tryd.sizeOf0
  v0 := Tryd.zeroValue0
  t2 := Tryd.underlying2
  a2 := Tryd.isAgg2
  z2 := Tryd.sizeOf2
  v2 := Tryd.zeroValue2
  t3 := Tryd.underlying3
  a3 := Tryd.isAgg3
  z3 := Tryd.sizeOf3
  v3 := Tryd.zeroValue3
  t4 := Tryd.underlying4
  a4 := Tryd.isAgg4
  z4 := Tryd.sizeOf4
  v4 := Tryd.zeroValue4
  t5 := Tryd.underlying5
  a5 := Tryd.isAgg5
  z5 := Tryd.sizeOf5
  v5 := Tryd.zeroValue5
  t9 := Tryd.underlying9
  a9 := Tryd.isAgg9
  z9 := Tryd.sizeOf9
  v9 := Tryd.zeroValue9
  t20 := Tryd.underlying20
  a20 := Tryd.isAgg20
  z20 := Tryd.sizeOf20
  v20 := Tryd.zeroValue20
  t37 := Tryd.underlying126
  a37 := Tryd.isAgg126
  z37 := Tryd.sizeOf126
  v37 := Tryd.zeroValue126
  t46 := Tryd.underlying137
  a46 := Tryd.isAgg137
  z46 := Tryd.sizeOf137
  v46 := Tryd.zeroValue137
  t51 := Tryd.underlying238
  a51 := Tryd.isAgg238
  z51 := Tryd.sizeOf238
  v51 := Tryd.zeroValue238
  t53 := Tryd.underlying98
  a53 := Tryd.isAgg98
  z53 := Tryd.sizeOf98
  v53 := Tryd.zeroValue98
  t171 := Tryd.underlying263
  a171 := Tryd.isAgg263
  z171 := Tryd.sizeOf263
  v171 := Tryd.zeroValue263
  t173 := Tryd.underlying265
  a173 := Tryd.isAgg265
  z173 := Tryd.sizeOf265
  v173 := Tryd.zeroValue265
  t212 := Tryd.underlying276
  a212 := Tryd.isAgg276
  z212 := Tryd.sizeOf276
  v212 := Tryd.zeroValue276
  t213 := Tryd.underlying277
  a213 := Tryd.isAgg277
  z213 := Tryd.sizeOf277
  t232 := Tryd.underlying282
  a232 := Tryd.isAgg282
  z232 := Tryd.sizeOf282
  v232 := Tryd.zeroValue282
  t233 := Tryd.underlying283
  a233 := Tryd.isAgg283
  z233 := Tryd.sizeOf283
  v233 := Tryd.zeroValue283
  g17 := by kernel_rfl
  g18 := by kernel_rfl
  g19 := by kernel_rfl

def formatL_ren : Go.Shelf.Ren := ⟨fun n => match n with | 173 => 123 | 246 => 154 | 283 => 173 | 284 => 174 | 285 => 175 | 286 => 176 | 129 => 140 | 317 => 184 | 318 => 185 | 319 => 186 | 320 => 187 | 337 => 189 | 338 => 190 | n => n, fun n => match n with | 2 => 2 | 3 => 3 | 9 => 9 | 4 => 4 | 171 => 263 | 0 => 0 | 53 => 98 | 37 => 126 | 5 => 5 | 173 => 265 | 212 => 276 | 51 => 238 | 20 => 20 | 213 => 277 | 46 => 137 | 232 => 282 | 233 => 283 | n => n, fun n => match n with | 17 => 1 | 18 => 4 | 19 => 5 | n => n⟩
theorem formatL : Lays.n173 Tryd.prog formatL_ren where
  mixed := by kernel_rfl
  f129 := Tryd.func140.trans (congrArg some (by kernel_rfl))
  f173 := Tryd.func123.trans (congrArg some (by kernel_rfl))
  f246 := Tryd.func154.trans (congrArg some (by kernel_rfl))
  f283 := Tryd.func173.trans (congrArg some (by kernel_rfl))
  f284 := Tryd.func174.trans (congrArg some (by kernel_rfl))
  f285 := Tryd.func175.trans (congrArg some (by kernel_rfl))
  f286 := Tryd.func176.trans (congrArg some (by kernel_rfl))
  f317 := Tryd.func184.trans (congrArg some (by kernel_rfl))
  f318 := Tryd.func185.trans (congrArg some (by kernel_rfl))
  f319 := Tryd.func186.trans (congrArg some (by kernel_rfl))
  f320 := Tryd.func187.trans (congrArg some (by kernel_rfl))
  f337 := Tryd.func189.trans (congrArg some (by kernel_rfl))
  f338 := Tryd.func190.trans (congrArg some (by kernel_rfl))
  t0 := Tryd.underlying0
  a0 := Tryd.isAgg0
  z0 := Tryd.sizeOf0
  v0 := Tryd.zeroValue0
  t2 := Tryd.underlying2
  a2 := Tryd.isAgg2
  z2 := Tryd.sizeOf2
  v2 := Tryd.zeroValue2
  t3 := Tryd.underlying3
  a3 := Tryd.isAgg3
  z3 := Tryd.sizeOf3
  v3 := Tryd.zeroValue3
  t4 := Tryd.underlying4
  a4 := Tryd.isAgg4
  z4 := Tryd.sizeOf4
  v4 := Tryd.zeroValue4
  t5 := Tryd.underlying5
  a5 := Tryd.isAgg5
  z5 := Tryd.sizeOf5
  v5 := Tryd.zeroValue5
  t9 := Tryd.underlying9
  a9 := Tryd.isAgg9
  z9 := Tryd.sizeOf9
  v9 := Tryd.zeroValue9
  t20 := Tryd.underlying20
  a20 := Tryd.isAgg20
  z20 := Tryd.sizeOf20
  v20 := Tryd.zeroValue20
  t37 := Tryd.underlying126
  a37 := Tryd.isAgg126
  z37 := Tryd.sizeOf126
  v37 := Tryd.zeroValue126
  t46 := Tryd.underlying137
  a46 := Tryd.isAgg137
  z46 := Tryd.sizeOf137
  v46 := Tryd.zeroValue137
  t51 := Tryd.underlying238
  a51 := Tryd.isAgg238
  z51 := Tryd.sizeOf238
  v51 := Tryd.zeroValue238
  t53 := Tryd.underlying98
  a53 := Tryd.isAgg98
  z53 := Tryd.sizeOf98
  v53 := Tryd.zeroValue98
  t171 := Tryd.underlying263
  a171 := Tryd.isAgg263
  z171 := Tryd.sizeOf263
  v171 := Tryd.zeroValue263
  t173 := Tryd.underlying265
  a173 := Tryd.isAgg265
  z173 := Tryd.sizeOf265
  v173 := Tryd.zeroValue265
  t212 := Tryd.underlying276
  a212 := Tryd.isAgg276
  z212 := Tryd.sizeOf276
  v212 := Tryd.zeroValue276
  t213 := Tryd.underlying277
  a213 := Tryd.isAgg277
  z213 := Tryd.sizeOf277
  t232 := Tryd.underlying282
  a232 := Tryd.isAgg282
  z232 := Tryd.sizeOf282
  v232 := Tryd.zeroValue282
  t233 := Tryd.underlying283
  a233 := Tryd.isAgg283
  z233 := Tryd.sizeOf283
  v233 := Tryd.zeroValue283
  g17 := by kernel_rfl
  g18 := by kernel_rfl
  g19 := by kernel_rfl

end Go.Proofs.YtmdagnoknmfhcaaDoor
