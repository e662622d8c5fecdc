/-
  Kcnt: the shelf's contracts of strings.Count, strings.Contains and strings.Split laid at this seat. Written by program (wip/tools/lay.py).
-/
import Derived.Test.YtfhalebbcbgbdaaGreatDoorProg
import Derived.KernelRfl
import Derived.Shelf.Strings.Split
import Derived.Shelf.Strings.Count
namespace Go.Proofs.YtfhalebbcbgbdaaGreatDoor
set_option linter.unusedSimpArgs false
set_option linter.unusedVariables false
open Go.Proofs Go.Shelf

def countL_ren : Go.Shelf.Ren := ⟨fun n => match n with | 138 => 150 | 195 => 187 | 218 => 189 | 143 => 151 | 219 => 190 | 217 => 213 | 225 => 214 | 224 => 215 | 267 => 216 | 266 => 224 | 314 => 225 | n => n, fun n => match n with | 9 => 9 | 3 => 3 | 4 => 4 | 5 => 5 | 0 => 0 | 46 => 204 | 146 => 312 | 51 => 275 | n => n, fun n => match n with | 1 => 3 | n => n⟩
theorem countL : Lays.n138 Tryz.prog countL_ren where
  mixed := by kernel_rfl
  f138 := Tryz.func150.trans (congrArg some (by kernel_rfl))
  f143 := Tryz.func151.trans (congrArg some (by kernel_rfl))
  f195 := Tryz.func187.trans (congrArg some (by kernel_rfl))
  f217 := Tryz.func213.trans (congrArg some (by kernel_rfl))
  f218 := Tryz.func189.trans (congrArg some (by kernel_rfl))
  f219 := Tryz.func190.trans (congrArg some (by kernel_rfl))
  f224 := Tryz.func215.trans (congrArg some (by kernel_rfl))
  f225 := Tryz.func214.trans (congrArg some (by kernel_rfl))
  f266 := Tryz.func224.trans (congrArg some (by kernel_rfl))
  f267 := Tryz.func216.trans (congrArg some (by kernel_rfl))
  f314 := Tryz.func225.trans (congrArg some (by kernel_rfl))
  t0 := Tryz.underlying0
  a0 := Tryz.isAgg0
  z0 := Tryz.sizeOf0
  v0 := Tryz.zeroValue0
  t3 := Tryz.underlying3
  a3 := Tryz.isAgg3
  z3 := Tryz.sizeOf3
  v3 := Tryz.zeroValue3
  t4 := Tryz.underlying4
  a4 := Tryz.isAgg4
  z4 := Tryz.sizeOf4
  v4 := Tryz.zeroValue4
  t5 := Tryz.underlying5
  a5 := Tryz.isAgg5
  z5 := Tryz.sizeOf5
  v5 := Tryz.zeroValue5
  t9 := Tryz.underlying9
  a9 := Tryz.isAgg9
  z9 := Tryz.sizeOf9
  v9 := Tryz.zeroValue9
  t46 := Tryz.underlying204
  a46 := Tryz.isAgg204
  z46 := Tryz.sizeOf204
  v46 := Tryz.zeroValue204
  t51 := Tryz.underlying275
  a51 := Tryz.isAgg275
  z51 := Tryz.sizeOf275
  v51 := Tryz.zeroValue275
  t146 := Tryz.underlying312
  a146 := Tryz.isAgg312
  z146 := Tryz.sizeOf312
  v146 := Tryz.zeroValue312
  g1 := by kernel_rfl

def contL_ren : Go.Shelf.Ren := ⟨fun n => match n with | 144 => 109 | 143 => 151 | 219 => 190 | 217 => 213 | 225 => 214 | 224 => 215 | 267 => 216 | 266 => 224 | 314 => 225 | n => n, fun n => match n with | 9 => 9 | 4 => 4 | 3 => 3 | 5 => 5 | 46 => 204 | 146 => 312 | 51 => 275 | n => n, fun n => match n with | 1 => 3 | n => n⟩
theorem contL : Lays.n144 Tryz.prog contL_ren where
  mixed := by kernel_rfl
  f143 := Tryz.func151.trans (congrArg some (by kernel_rfl))
  f144 := Tryz.func109.trans (congrArg some (by kernel_rfl))
  f217 := Tryz.func213.trans (congrArg some (by kernel_rfl))
  f219 := Tryz.func190.trans (congrArg some (by kernel_rfl))
  f224 := Tryz.func215.trans (congrArg some (by kernel_rfl))
  f225 := Tryz.func214.trans (congrArg some (by kernel_rfl))
  f266 := Tryz.func224.trans (congrArg some (by kernel_rfl))
  f267 := Tryz.func216.trans (congrArg some (by kernel_rfl))
  f314 := Tryz.func225.trans (congrArg some (by kernel_rfl))
  t3 := Tryz.underlying3
  a3 := Tryz.isAgg3
  z3 := Tryz.sizeOf3
  v3 := Tryz.zeroValue3
  t4 := Tryz.underlying4
  a4 := Tryz.isAgg4
  z4 := Tryz.sizeOf4
  v4 := Tryz.zeroValue4
  t5 := Tryz.underlying5
  a5 := Tryz.isAgg5
  z5 := Tryz.sizeOf5
  v5 := Tryz.zeroValue5
  t9 := Tryz.underlying9
  a9 := Tryz.isAgg9
  z9 := Tryz.sizeOf9
  v9 := Tryz.zeroValue9
  t46 := Tryz.underlying204
  a46 := Tryz.isAgg204
  z46 := Tryz.sizeOf204
  v46 := Tryz.zeroValue204
  t51 := Tryz.underlying275
  a51 := Tryz.isAgg275
  z51 := Tryz.sizeOf275
  v51 := Tryz.zeroValue275
  t146 := Tryz.underlying312
  a146 := Tryz.isAgg312
  z146 := Tryz.sizeOf312
  v146 := Tryz.zeroValue312
  g1 := by kernel_rfl

def splitS_ren : Go.Shelf.Ren := ⟨fun n => match n with | 146 => 61 | 221 => 103 | 268 => 149 | 138 => 150 | 143 => 151 | 195 => 187 | 197 => 188 | 218 => 189 | 219 => 190 | 260 => 212 | 217 => 213 | 225 => 214 | 224 => 215 | 267 => 216 | 266 => 224 | 314 => 225 | n => n, fun n => match n with | 9 => 9 | 31 => 32 | 3 => 3 | 4 => 4 | 0 => 0 | 105 => 278 | 21 => 21 | 5 => 5 | 46 => 204 | 119 => 308 | 139 => 311 | 138 => 310 | 146 => 312 | 51 => 275 | n => n, fun n => match n with | 1 => 3 | 3 => 6 | 4 => 7 | n => n⟩
theorem splitS : Lays.n146 Tryz.prog splitS_ren where
  mixed := by kernel_rfl
  f138 := Tryz.func150.trans (congrArg some (by kernel_rfl))
  f143 := Tryz.func151.trans (congrArg some (by kernel_rfl))
  f146 := Tryz.func61.trans (congrArg some (by kernel_rfl))
  f195 := Tryz.func187.trans (congrArg some (by kernel_rfl))
  f197 := Tryz.func188.trans (congrArg some (by kernel_rfl))
  f217 := Tryz.func213.trans (congrArg some (by kernel_rfl))
  f218 := Tryz.func189.trans (congrArg some (by kernel_rfl))
  f219 := Tryz.func190.trans (congrArg some (by kernel_rfl))
  f221 := Tryz.func103.trans (congrArg some (by kernel_rfl))
  f224 := Tryz.func215.trans (congrArg some (by kernel_rfl))
  f225 := Tryz.func214.trans (congrArg some (by kernel_rfl))
  f260 := Tryz.func212.trans (congrArg some (by kernel_rfl))
  f266 := Tryz.func224.trans (congrArg some (by kernel_rfl))
  f267 := Tryz.func216.trans (congrArg some (by kernel_rfl))
  f268 := Tryz.func149.trans (congrArg some (by kernel_rfl))
  f314 := Tryz.func225.trans (congrArg some (by kernel_rfl))
  t0 := Tryz.underlying0
  a0 := Tryz.isAgg0
  z0 := Tryz.sizeOf0
  v0 := Tryz.zeroValue0
  t3 := Tryz.underlying3
  a3 := Tryz.isAgg3
  z3 := Tryz.sizeOf3
  v3 := Tryz.zeroValue3
  t4 := Tryz.underlying4
  a4 := Tryz.isAgg4
  z4 := Tryz.sizeOf4
  v4 := Tryz.zeroValue4
  t5 := Tryz.underlying5
  a5 := Tryz.isAgg5
  z5 := Tryz.sizeOf5
  v5 := Tryz.zeroValue5
  t9 := Tryz.underlying9
  a9 := Tryz.isAgg9
  z9 := Tryz.sizeOf9
  v9 := Tryz.zeroValue9
  t21 := Tryz.underlying21
  a21 := Tryz.isAgg21
  z21 := Tryz.sizeOf21
  v21 := Tryz.zeroValue21
  t31 := Tryz.underlying32
  a31 := Tryz.isAgg32
  z31 := Tryz.sizeOf32
  v31 := Tryz.zeroValue32
  t46 := Tryz.underlying204
  a46 := Tryz.isAgg204
  z46 := Tryz.sizeOf204
  v46 := Tryz.zeroValue204
  t51 := Tryz.underlying275
  a51 := Tryz.isAgg275
  z51 := Tryz.sizeOf275
  v51 := Tryz.zeroValue275
  t105 := Tryz.underlying278
  a105 := Tryz.isAgg278
  z105 := Tryz.sizeOf278
  v105 := Tryz.zeroValue278
  t119 := Tryz.underlying308
  a119 := Tryz.isAgg308
  z119 := Tryz.sizeOf308
  t138 := Tryz.underlying310
  a138 := Tryz.isAgg310
  z138 := Tryz.sizeOf310
  v138 := Tryz.zeroValue310
  t139 := Tryz.underlying311
  a139 := Tryz.isAgg311
  z139 := Tryz.sizeOf311
  v139 := Tryz.zeroValue311
  t146 := Tryz.underlying312
  a146 := Tryz.isAgg312
  z146 := Tryz.sizeOf312
  v146 := Tryz.zeroValue312
  g1 := by kernel_rfl
  g3 := by kernel_rfl
  g4 := by kernel_rfl


end Go.Proofs.YtfhalebbcbgbdaaGreatDoor
