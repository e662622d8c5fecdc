/-
  Kitoa: the shelf's contracts of strconv.Itoa and FormatInt laid at this seat. Written by program (wip/tools/lay.py).
-/
import Derived.Test.YtfhalebbcbgbdaaGreatDoorProg
import Derived.KernelRfl
import Derived.Shelf.Strconv.Itoa4
namespace Go.Proofs.YtfhalebbcbgbdaaGreatDoor
set_option linter.unusedSimpArgs false
set_option linter.unusedVariables false
open Go.Proofs Go.Shelf

def itoaL_ren : Go.Shelf.Ren := ⟨fun n => match n with | 171 => 59 | 243 => 101 | 246 => 102 | 283 => 145 | 284 => 146 | 285 => 147 | 286 => 148 | 129 => 183 | 317 => 182 | 318 => 184 | 319 => 185 | 320 => 186 | 337 => 210 | 338 => 211 | n => n, fun n => match n with | 3 => 3 | 9 => 9 | 2 => 2 | 4 => 4 | 171 => 242 | 0 => 0 | 53 => 125 | 37 => 106 | 5 => 5 | 173 => 245 | 212 => 274 | 51 => 275 | 20 => 20 | 213 => 276 | 46 => 204 | 232 => 306 | 233 => 307 | n => n, fun n => match n with | 17 => 0 | 18 => 4 | 19 => 5 | n => n⟩
theorem itoaL : Lays.n171 Tryz.prog itoaL_ren where
  mixed := by kernel_rfl
  f129 := Tryz.func183.trans (congrArg some (by kernel_rfl))
  f171 := Tryz.func59.trans (congrArg some (by kernel_rfl))
  f243 := Tryz.func101.trans (congrArg some (by kernel_rfl))
  f246 := Tryz.func102.trans (congrArg some (by kernel_rfl))
  f283 := Tryz.func145.trans (congrArg some (by kernel_rfl))
  f284 := Tryz.func146.trans (congrArg some (by kernel_rfl))
  f285 := Tryz.func147.trans (congrArg some (by kernel_rfl))
  f286 := Tryz.func148.trans (congrArg some (by kernel_rfl))
  f317 := Tryz.func182.trans (congrArg some (by kernel_rfl))
  f318 := Tryz.func184.trans (congrArg some (by kernel_rfl))
  f319 := Tryz.func185.trans (congrArg some (by kernel_rfl))
  f320 := Tryz.func186.trans (congrArg some (by kernel_rfl))
  f337 := Tryz.func210.trans (congrArg some (by kernel_rfl))
  f338 := Tryz.func211.trans (congrArg some (by kernel_rfl))
  t0 := Tryz.underlying0
  a0 := Tryz.isAgg0
  z0 := Tryz.sizeOf0
  v0 := Tryz.zeroValue0
  t2 := Tryz.underlying2
  a2 := Tryz.isAgg2
  z2 := Tryz.sizeOf2
  v2 := Tryz.zeroValue2
  t3 := Tryz.underlying3
  a3 := Tryz.isAgg3
  z3 := Tryz.sizeOf3
  v3 := Tryz.zeroValue3
  t4 := Tryz.underlying4
  a4 := Tryz.isAgg4
  z4 := Tryz.sizeOf4
  v4 := Tryz.zeroValue4
  t5 := Tryz.underlying5
  a5 := Tryz.isAgg5
  z5 := Tryz.sizeOf5
  v5 := Tryz.zeroValue5
  t9 := Tryz.underlying9
  a9 := Tryz.isAgg9
  z9 := Tryz.sizeOf9
  v9 := Tryz.zeroValue9
  t20 := Tryz.underlying20
  a20 := Tryz.isAgg20
  z20 := Tryz.sizeOf20
  v20 := Tryz.zeroValue20
  t37 := Tryz.underlying106
  a37 := Tryz.isAgg106
  z37 := Tryz.sizeOf106
  v37 := Tryz.zeroValue106
  t46 := Tryz.underlying204
  a46 := Tryz.isAgg204
  z46 := Tryz.sizeOf204
  v46 := Tryz.zeroValue204
  t51 := Tryz.underlying275
  a51 := Tryz.isAgg275
  z51 := Tryz.sizeOf275
  v51 := Tryz.zeroValue275
  t53 := Tryz.underlying125
  a53 := Tryz.isAgg125
  z53 := Tryz.sizeOf125
  v53 := Tryz.zeroValue125
  t171 := Tryz.underlying242
  a171 := Tryz.isAgg242
  z171 := Tryz.sizeOf242
  v171 := Tryz.zeroValue242
  t173 := Tryz.underlying245
  a173 := Tryz.isAgg245
  z173 := Tryz.sizeOf245
  v173 := Tryz.zeroValue245
  t212 := Tryz.underlying274
  a212 := Tryz.isAgg274
  z212 := Tryz.sizeOf274
  v212 := Tryz.zeroValue274
  t213 := Tryz.underlying276
  a213 := Tryz.isAgg276
  z213 := Tryz.sizeOf276
  t232 := Tryz.underlying306
  a232 := Tryz.isAgg306
  z232 := Tryz.sizeOf306
  v232 := Tryz.zeroValue306
  t233 := Tryz.underlying307
  a233 := Tryz.isAgg307
  z233 := Tryz.sizeOf307
  v233 := Tryz.zeroValue307
  g17 := by kernel_rfl
  g18 := by kernel_rfl
  g19 := by kernel_rfl

def formatL_ren : Go.Shelf.Ren := ⟨fun n => match n with | 173 => 60 | 246 => 102 | 283 => 145 | 284 => 146 | 285 => 147 | 286 => 148 | 129 => 183 | 317 => 182 | 318 => 184 | 319 => 185 | 320 => 186 | 337 => 210 | 338 => 211 | n => n, fun n => match n with | 2 => 2 | 3 => 3 | 9 => 9 | 4 => 4 | 171 => 242 | 0 => 0 | 53 => 125 | 37 => 106 | 5 => 5 | 173 => 245 | 212 => 274 | 51 => 275 | 20 => 20 | 213 => 276 | 46 => 204 | 232 => 306 | 233 => 307 | n => n, fun n => match n with | 17 => 0 | 18 => 4 | 19 => 5 | n => n⟩
theorem formatL : Lays.n173 Tryz.prog formatL_ren where
  mixed := by kernel_rfl
  f129 := Tryz.func183.trans (congrArg some (by kernel_rfl))
  f173 := Tryz.func60.trans (congrArg some (by kernel_rfl))
  f246 := Tryz.func102.trans (congrArg some (by kernel_rfl))
  f283 := Tryz.func145.trans (congrArg some (by kernel_rfl))
  f284 := Tryz.func146.trans (congrArg some (by kernel_rfl))
  f285 := Tryz.func147.trans (congrArg some (by kernel_rfl))
  f286 := Tryz.func148.trans (congrArg some (by kernel_rfl))
  f317 := Tryz.func182.trans (congrArg some (by kernel_rfl))
  f318 := Tryz.func184.trans (congrArg some (by kernel_rfl))
  f319 := Tryz.func185.trans (congrArg some (by kernel_rfl))
  f320 := Tryz.func186.trans (congrArg some (by kernel_rfl))
  f337 := Tryz.func210.trans (congrArg some (by kernel_rfl))
  f338 := Tryz.func211.trans (congrArg some (by kernel_rfl))
  t0 := Tryz.underlying0
  a0 := Tryz.isAgg0
  z0 := Tryz.sizeOf0
  v0 := Tryz.zeroValue0
  t2 := Tryz.underlying2
  a2 := Tryz.isAgg2
  z2 := Tryz.sizeOf2
  v2 := Tryz.zeroValue2
  t3 := Tryz.underlying3
  a3 := Tryz.isAgg3
  z3 := Tryz.sizeOf3
  v3 := Tryz.zeroValue3
  t4 := Tryz.underlying4
  a4 := Tryz.isAgg4
  z4 := Tryz.sizeOf4
  v4 := Tryz.zeroValue4
  t5 := Tryz.underlying5
  a5 := Tryz.isAgg5
  z5 := Tryz.sizeOf5
  v5 := Tryz.zeroValue5
  t9 := Tryz.underlying9
  a9 := Tryz.isAgg9
  z9 := Tryz.sizeOf9
  v9 := Tryz.zeroValue9
  t20 := Tryz.underlying20
  a20 := Tryz.isAgg20
  z20 := Tryz.sizeOf20
  v20 := Tryz.zeroValue20
  t37 := Tryz.underlying106
  a37 := Tryz.isAgg106
  z37 := Tryz.sizeOf106
  v37 := Tryz.zeroValue106
  t46 := Tryz.underlying204
  a46 := Tryz.isAgg204
  z46 := Tryz.sizeOf204
  v46 := Tryz.zeroValue204
  t51 := Tryz.underlying275
  a51 := Tryz.isAgg275
  z51 := Tryz.sizeOf275
  v51 := Tryz.zeroValue275
  t53 := Tryz.underlying125
  a53 := Tryz.isAgg125
  z53 := Tryz.sizeOf125
  v53 := Tryz.zeroValue125
  t171 := Tryz.underlying242
  a171 := Tryz.isAgg242
  z171 := Tryz.sizeOf242
  v171 := Tryz.zeroValue242
  t173 := Tryz.underlying245
  a173 := Tryz.isAgg245
  z173 := Tryz.sizeOf245
  v173 := Tryz.zeroValue245
  t212 := Tryz.underlying274
  a212 := Tryz.isAgg274
  z212 := Tryz.sizeOf274
  v212 := Tryz.zeroValue274
  t213 := Tryz.underlying276
  a213 := Tryz.isAgg276
  z213 := Tryz.sizeOf276
  t232 := Tryz.underlying306
  a232 := Tryz.isAgg306
  z232 := Tryz.sizeOf306
  v232 := Tryz.zeroValue306
  t233 := Tryz.underlying307
  a233 := Tryz.isAgg307
  z233 := Tryz.sizeOf307
  v233 := Tryz.zeroValue307
  g17 := by kernel_rfl
  g18 := by kernel_rfl
  g19 := by kernel_rfl

end Go.Proofs.YtfhalebbcbgbdaaGreatDoor
