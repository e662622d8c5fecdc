/-
  Kcnt: the shelf's contracts of strings.Count, strings.Contains and strings.Split laid at this seat. Written by program (wip/tools/lay.py).
-/
import Derived.Test.YtmdagnoknmfhcaaDoorProg
import Derived.KernelRfl
import Derived.Shelf.Strings.Split
import Derived.Shelf.Strings.Count
namespace Go.Proofs.YtmdagnoknmfhcaaDoor
set_option linter.unusedSimpArgs false
set_option linter.unusedVariables false
open Go.Proofs Go.Shelf

def countL_ren : Go.Shelf.Ren := ⟨fun n => match n with | 138 => 104 | 195 => 126 | 218 => 127 | 143 => 105 | 219 => 128 | 217 => 157 | 225 => 158 | 224 => 159 | 267 => 160 | 266 => 179 | 314 => 180 | n => n, fun n => match n with | 9 => 9 | 3 => 3 | 4 => 4 | 5 => 5 | 0 => 0 | 46 => 137 | 146 => 268 | 51 => 238 | n => n, fun n => match n with | 1 => 0 | n => n⟩
theorem countL : Lays.n138 Tryd.prog countL_ren where
  mixed := by kernel_rfl
  f138 := Tryd.func104.trans (congrArg some (by kernel_rfl))
  f143 := Tryd.func105.trans (congrArg some (by kernel_rfl))
  f195 := Tryd.func126.trans (congrArg some (by kernel_rfl))
  f217 := Tryd.func157.trans (congrArg some (by kernel_rfl))
  f218 := Tryd.func127.trans (congrArg some (by kernel_rfl))
  f219 := Tryd.func128.trans (congrArg some (by kernel_rfl))
  f224 := Tryd.func159.trans (congrArg some (by kernel_rfl))
  f225 := Tryd.func158.trans (congrArg some (by kernel_rfl))
  f266 := Tryd.func179.trans (congrArg some (by kernel_rfl))
  f267 := Tryd.func160.trans (congrArg some (by kernel_rfl))
  f314 := Tryd.func180.trans (congrArg some (by kernel_rfl))
  t0 := Tryd.underlying0
  a0 := Tryd.isAgg0
  z0 := Tryd.sizeOf0
  v0 := Tryd.zeroValue0
  t3 := Tryd.underlying3
  a3 := Tryd.isAgg3
  z3 := Tryd.sizeOf3
  v3 := Tryd.zeroValue3
  t4 := Tryd.underlying4
  a4 := Tryd.isAgg4
  z4 := Tryd.sizeOf4
  v4 := Tryd.zeroValue4
  t5 := Tryd.underlying5
  a5 := Tryd.isAgg5
  z5 := Tryd.sizeOf5
  v5 := Tryd.zeroValue5
  t9 := Tryd.underlying9
  a9 := Tryd.isAgg9
  z9 := Tryd.sizeOf9
  v9 := Tryd.zeroValue9
  t46 := Tryd.underlying137
  a46 := Tryd.isAgg137
  z46 := Tryd.sizeOf137
  v46 := Tryd.zeroValue137
  t51 := Tryd.underlying238
  a51 := Tryd.isAgg238
  z51 := Tryd.sizeOf238
  v51 := Tryd.zeroValue238
  t146 := Tryd.underlying268
  a146 := Tryd.isAgg268
  z146 := Tryd.sizeOf268
  v146 := Tryd.zeroValue268
  g1 := by kernel_rfl

def contL_ren : Go.Shelf.Ren := ⟨fun n => match n with | 144 => 70 | 143 => 105 | 219 => 128 | 217 => 157 | 225 => 158 | 224 => 159 | 267 => 160 | 266 => 179 | 314 => 180 | n => n, fun n => match n with | 9 => 9 | 4 => 4 | 3 => 3 | 5 => 5 | 46 => 137 | 146 => 268 | 51 => 238 | n => n, fun n => match n with | 1 => 0 | n => n⟩
theorem contL : Lays.n144 Tryd.prog contL_ren where
  mixed := by kernel_rfl
  f143 := Tryd.func105.trans (congrArg some (by kernel_rfl))
  f144 := Tryd.func70.trans (congrArg some (by kernel_rfl))
  f217 := Tryd.func157.trans (congrArg some (by kernel_rfl))
  f219 := Tryd.func128.trans (congrArg some (by kernel_rfl))
  f224 := Tryd.func159.trans (congrArg some (by kernel_rfl))
  f225 := Tryd.func158.trans (congrArg some (by kernel_rfl))
  f266 := Tryd.func179.trans (congrArg some (by kernel_rfl))
  f267 := Tryd.func160.trans (congrArg some (by kernel_rfl))
  f314 := Tryd.func180.trans (congrArg some (by kernel_rfl))
  t3 := Tryd.underlying3
  a3 := Tryd.isAgg3
  z3 := Tryd.sizeOf3
  v3 := Tryd.zeroValue3
  t4 := Tryd.underlying4
  a4 := Tryd.isAgg4
  z4 := Tryd.sizeOf4
  v4 := Tryd.zeroValue4
  t5 := Tryd.underlying5
  a5 := Tryd.isAgg5
  z5 := Tryd.sizeOf5
  v5 := Tryd.zeroValue5
  t9 := Tryd.underlying9
  a9 := Tryd.isAgg9
  z9 := Tryd.sizeOf9
  v9 := Tryd.zeroValue9
  t46 := Tryd.underlying137
  a46 := Tryd.isAgg137
  z46 := Tryd.sizeOf137
  v46 := Tryd.zeroValue137
  t51 := Tryd.underlying238
  a51 := Tryd.isAgg238
  z51 := Tryd.sizeOf238
  v51 := Tryd.zeroValue238
  t146 := Tryd.underlying268
  a146 := Tryd.isAgg268
  z146 := Tryd.sizeOf268
  v146 := Tryd.zeroValue268
  g1 := by kernel_rfl

def splitS_ren : Go.Shelf.Ren := ⟨fun n => match n with | 146 => 78 | 221 => 110 | 268 => 141 | 138 => 104 | 143 => 105 | 195 => 126 | 197 => 156 | 218 => 127 | 219 => 128 | 260 => 178 | 217 => 157 | 225 => 158 | 224 => 159 | 267 => 160 | 266 => 179 | 314 => 180 | n => n, fun n => match n with | 9 => 9 | 31 => 23 | 3 => 3 | 4 => 4 | 0 => 0 | 105 => 252 | 21 => 21 | 5 => 5 | 46 => 137 | 119 => 278 | 139 => 281 | 138 => 280 | 146 => 268 | 51 => 238 | n => n, fun n => match n with | 1 => 0 | 3 => 2 | 4 => 3 | n => n⟩
theorem splitS : Lays.n146 Tryd.prog splitS_ren where
  mixed := by kernel_rfl
  f138 := Tryd.func104.trans (congrArg some (by kernel_rfl))
  f143 := Tryd.func105.trans (congrArg some (by kernel_rfl))
  f146 := Tryd.func78.trans (congrArg some (by kernel_rfl))
  f195 := Tryd.func126.trans (congrArg some (by kernel_rfl))
  f197 := Tryd.func156.trans (congrArg some (by kernel_rfl))
  f217 := Tryd.func157.trans (congrArg some (by kernel_rfl))
  f218 := Tryd.func127.trans (congrArg some (by kernel_rfl))
  f219 := Tryd.func128.trans (congrArg some (by kernel_rfl))
  f221 := Tryd.func110.trans (congrArg some (by kernel_rfl))
  f224 := Tryd.func159.trans (congrArg some (by kernel_rfl))
  f225 := Tryd.func158.trans (congrArg some (by kernel_rfl))
  f260 := Tryd.func178.trans (congrArg some (by kernel_rfl))
  f266 := Tryd.func179.trans (congrArg some (by kernel_rfl))
  f267 := Tryd.func160.trans (congrArg some (by kernel_rfl))
  f268 := Tryd.func141.trans (congrArg some (by kernel_rfl))
  f314 := Tryd.func180.trans (congrArg some (by kernel_rfl))
  t0 := Tryd.underlying0
  a0 := Tryd.isAgg0
  z0 := Tryd.sizeOf0
  v0 := Tryd.zeroValue0
  t3 := Tryd.underlying3
  a3 := Tryd.isAgg3
  z3 := Tryd.sizeOf3
  v3 := Tryd.zeroValue3
  t4 := Tryd.underlying4
  a4 := Tryd.isAgg4
  z4 := Tryd.sizeOf4
  v4 := Tryd.zeroValue4
  t5 := Tryd.underlying5
  a5 := Tryd.isAgg5
  z5 := Tryd.sizeOf5
  v5 := Tryd.zeroValue5
  t9 := Tryd.underlying9
  a9 := Tryd.isAgg9
  z9 := Tryd.sizeOf9
  v9 := Tryd.zeroValue9
  t21 := Tryd.underlying21
  a21 := Tryd.isAgg21
  z21 := Tryd.sizeOf21
  v21 := Tryd.zeroValue21
  t31 := Tryd.underlying23
  a31 := Tryd.isAgg23
  z31 := Tryd.sizeOf23
  v31 := Tryd.zeroValue23
  t46 := Tryd.underlying137
  a46 := Tryd.isAgg137
  z46 := Tryd.sizeOf137
  v46 := Tryd.zeroValue137
  t51 := Tryd.underlying238
  a51 := Tryd.isAgg238
  z51 := Tryd.sizeOf238
  v51 := Tryd.zeroValue238
  t105 := Tryd.underlying252
  a105 := Tryd.isAgg252
  z105 := Tryd.sizeOf252
  v105 := Tryd.zeroValue252
  t119 := Tryd.underlying278
  a119 := Tryd.isAgg278
  z119 := Tryd.sizeOf278
  t138 := Tryd.underlying280
  a138 := Tryd.isAgg280
  z138 := Tryd.sizeOf280
  v138 := Tryd.zeroValue280
  t139 := Tryd.underlying281
  a139 := Tryd.isAgg281
  z139 := Tryd.sizeOf281
  v139 := Tryd.zeroValue281
  t146 := Tryd.underlying268
  a146 := Tryd.isAgg268
  z146 := Tryd.sizeOf268
  v146 := Tryd.zeroValue268
  g1 := by kernel_rfl
  g3 := by kernel_rfl
  g4 := by kernel_rfl


end Go.Proofs.YtmdagnoknmfhcaaDoor
