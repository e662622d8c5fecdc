/-
  Kcnt: the shelf's contracts of strings.Count, strings.Contains and strings.Split laid at this seat. Written by program (wip/tools/lay.py).
-/
import Derived.Test.YtnmighfcpeifeaaDoorProg
import Derived.KernelRfl
import Derived.Shelf.Strings.Split
import Derived.Shelf.Strings.Count
namespace Go.Proofs.YtnmighfcpeifeaaDoor
set_option linter.unusedSimpArgs false
set_option linter.unusedVariables false
open Go.Proofs Go.Shelf

def countL_ren : Go.Shelf.Ren := ⟨fun n => match n with | 138 => 127 | 195 => 161 | 218 => 162 | 143 => 128 | 219 => 163 | 217 => 191 | 225 => 192 | 224 => 193 | 267 => 194 | 266 => 205 | 314 => 206 | n => n, fun n => match n with | 9 => 9 | 3 => 3 | 4 => 4 | 5 => 5 | 0 => 0 | 46 => 210 | 146 => 289 | 51 => 240 | n => n, fun n => match n with | 1 => 0 | n => n⟩
theorem countL : Lays.n138 Tryd.prog countL_ren where
  mixed := by kernel_rfl
  f138 := Tryd.func127.trans (congrArg some (by kernel_rfl))
  f143 := Tryd.func128.trans (congrArg some (by kernel_rfl))
  f195 := Tryd.func161.trans (congrArg some (by kernel_rfl))
  f217 := Tryd.func191.trans (congrArg some (by kernel_rfl))
  f218 := Tryd.func162.trans (congrArg some (by kernel_rfl))
  f219 := Tryd.func163.trans (congrArg some (by kernel_rfl))
  f224 := Tryd.func193.trans (congrArg some (by kernel_rfl))
  f225 := Tryd.func192.trans (congrArg some (by kernel_rfl))
  f266 := Tryd.func205.trans (congrArg some (by kernel_rfl))
  f267 := Tryd.func194.trans (congrArg some (by kernel_rfl))
  f314 := Tryd.func206.trans (congrArg some (by kernel_rfl))
  t0 := Tryd.underlying0
  a0 := Tryd.isAgg0
  z0 := Tryd.sizeOf0
  v0 := Tryd.zeroValue0
  t3 := Tryd.underlying3
  a3 := Tryd.isAgg3
  z3 := Tryd.sizeOf3
  v3 := Tryd.zeroValue3
  t4 := Tryd.underlying4
  a4 := Tryd.isAgg4
  z4 := Tryd.sizeOf4
  v4 := Tryd.zeroValue4
  t5 := Tryd.underlying5
  a5 := Tryd.isAgg5
  z5 := Tryd.sizeOf5
  v5 := Tryd.zeroValue5
  t9 := Tryd.underlying9
  a9 := Tryd.isAgg9
  z9 := Tryd.sizeOf9
  v9 := Tryd.zeroValue9
  t46 := Tryd.underlying210
  a46 := Tryd.isAgg210
  z46 := Tryd.sizeOf210
  v46 := Tryd.zeroValue210
  t51 := Tryd.underlying240
  a51 := Tryd.isAgg240
  z51 := Tryd.sizeOf240
  v51 := Tryd.zeroValue240
  t146 := Tryd.underlying289
  a146 := Tryd.isAgg289
  z146 := Tryd.sizeOf289
  v146 := Tryd.zeroValue289
  g1 := by kernel_rfl

def contL_ren : Go.Shelf.Ren := ⟨fun n => match n with | 144 => 102 | 143 => 128 | 219 => 163 | 217 => 191 | 225 => 192 | 224 => 193 | 267 => 194 | 266 => 205 | 314 => 206 | n => n, fun n => match n with | 9 => 9 | 4 => 4 | 3 => 3 | 5 => 5 | 46 => 210 | 146 => 289 | 51 => 240 | n => n, fun n => match n with | 1 => 0 | n => n⟩
theorem contL : Lays.n144 Tryd.prog contL_ren where
  mixed := by kernel_rfl
  f143 := Tryd.func128.trans (congrArg some (by kernel_rfl))
  f144 := Tryd.func102.trans (congrArg some (by kernel_rfl))
  f217 := Tryd.func191.trans (congrArg some (by kernel_rfl))
  f219 := Tryd.func163.trans (congrArg some (by kernel_rfl))
  f224 := Tryd.func193.trans (congrArg some (by kernel_rfl))
  f225 := Tryd.func192.trans (congrArg some (by kernel_rfl))
  f266 := Tryd.func205.trans (congrArg some (by kernel_rfl))
  f267 := Tryd.func194.trans (congrArg some (by kernel_rfl))
  f314 := Tryd.func206.trans (congrArg some (by kernel_rfl))
  t3 := Tryd.underlying3
  a3 := Tryd.isAgg3
  z3 := Tryd.sizeOf3
  v3 := Tryd.zeroValue3
  t4 := Tryd.underlying4
  a4 := Tryd.isAgg4
  z4 := Tryd.sizeOf4
  v4 := Tryd.zeroValue4
  t5 := Tryd.underlying5
  a5 := Tryd.isAgg5
  z5 := Tryd.sizeOf5
  v5 := Tryd.zeroValue5
  t9 := Tryd.underlying9
  a9 := Tryd.isAgg9
  z9 := Tryd.sizeOf9
  v9 := Tryd.zeroValue9
  t46 := Tryd.underlying210
  a46 := Tryd.isAgg210
  z46 := Tryd.sizeOf210
  v46 := Tryd.zeroValue210
  t51 := Tryd.underlying240
  a51 := Tryd.isAgg240
  z51 := Tryd.sizeOf240
  v51 := Tryd.zeroValue240
  t146 := Tryd.underlying289
  a146 := Tryd.isAgg289
  z146 := Tryd.sizeOf289
  v146 := Tryd.zeroValue289
  g1 := by kernel_rfl

def splitS_ren : Go.Shelf.Ren := ⟨fun n => match n with | 146 => 105 | 221 => 130 | 268 => 164 | 138 => 127 | 143 => 128 | 195 => 161 | 197 => 114 | 218 => 162 | 219 => 163 | 260 => 144 | 217 => 191 | 225 => 192 | 224 => 193 | 267 => 194 | 266 => 205 | 314 => 206 | n => n, fun n => match n with | 9 => 9 | 31 => 47 | 3 => 3 | 4 => 4 | 0 => 0 | 105 => 213 | 21 => 21 | 5 => 5 | 46 => 210 | 119 => 268 | 139 => 271 | 138 => 270 | 146 => 289 | 51 => 240 | n => n, fun n => match n with | 1 => 0 | 3 => 1 | 4 => 2 | n => n⟩
theorem splitS : Lays.n146 Tryd.prog splitS_ren where
  mixed := by kernel_rfl
  f138 := Tryd.func127.trans (congrArg some (by kernel_rfl))
  f143 := Tryd.func128.trans (congrArg some (by kernel_rfl))
  f146 := Tryd.func105.trans (congrArg some (by kernel_rfl))
  f195 := Tryd.func161.trans (congrArg some (by kernel_rfl))
  f197 := Tryd.func114.trans (congrArg some (by kernel_rfl))
  f217 := Tryd.func191.trans (congrArg some (by kernel_rfl))
  f218 := Tryd.func162.trans (congrArg some (by kernel_rfl))
  f219 := Tryd.func163.trans (congrArg some (by kernel_rfl))
  f221 := Tryd.func130.trans (congrArg some (by kernel_rfl))
  f224 := Tryd.func193.trans (congrArg some (by kernel_rfl))
  f225 := Tryd.func192.trans (congrArg some (by kernel_rfl))
  f260 := Tryd.func144.trans (congrArg some (by kernel_rfl))
  f266 := Tryd.func205.trans (congrArg some (by kernel_rfl))
  f267 := Tryd.func194.trans (congrArg some (by kernel_rfl))
  f268 := Tryd.func164.trans (congrArg some (by kernel_rfl))
  f314 := Tryd.func206.trans (congrArg some (by kernel_rfl))
  t0 := Tryd.underlying0
  a0 := Tryd.isAgg0
  z0 := Tryd.sizeOf0
  v0 := Tryd.zeroValue0
  t3 := Tryd.underlying3
  a3 := Tryd.isAgg3
  z3 := Tryd.sizeOf3
  v3 := Tryd.zeroValue3
  t4 := Tryd.underlying4
  a4 := Tryd.isAgg4
  z4 := Tryd.sizeOf4
  v4 := Tryd.zeroValue4
  t5 := Tryd.underlying5
  a5 := Tryd.isAgg5
  z5 := Tryd.sizeOf5
  v5 := Tryd.zeroValue5
  t9 := Tryd.underlying9
  a9 := Tryd.isAgg9
  z9 := Tryd.sizeOf9
  v9 := Tryd.zeroValue9
  t21 := Tryd.underlying21
  a21 := Tryd.isAgg21
  z21 := Tryd.sizeOf21
  v21 := Tryd.zeroValue21
  t31 := Tryd.underlying47
  a31 := Tryd.isAgg47
  z31 := Tryd.sizeOf47
  v31 := Tryd.zeroValue47
  t46 := Tryd.underlying210
  a46 := Tryd.isAgg210
  z46 := Tryd.sizeOf210
  v46 := Tryd.zeroValue210
  t51 := Tryd.underlying240
  a51 := Tryd.isAgg240
  z51 := Tryd.sizeOf240
  v51 := Tryd.zeroValue240
  t105 := Tryd.underlying213
  a105 := Tryd.isAgg213
  z105 := Tryd.sizeOf213
  v105 := Tryd.zeroValue213
  t119 := Tryd.underlying268
  a119 := Tryd.isAgg268
  z119 := Tryd.sizeOf268
  t138 := Tryd.underlying270
  a138 := Tryd.isAgg270
  z138 := Tryd.sizeOf270
  v138 := Tryd.zeroValue270
  t139 := Tryd.underlying271
  a139 := Tryd.isAgg271
  z139 := Tryd.sizeOf271
  v139 := Tryd.zeroValue271
  t146 := Tryd.underlying289
  a146 := Tryd.isAgg289
  z146 := Tryd.sizeOf289
  v146 := Tryd.zeroValue289
  g1 := by kernel_rfl
  g3 := by kernel_rfl
  g4 := by kernel_rfl


end Go.Proofs.YtnmighfcpeifeaaDoor
