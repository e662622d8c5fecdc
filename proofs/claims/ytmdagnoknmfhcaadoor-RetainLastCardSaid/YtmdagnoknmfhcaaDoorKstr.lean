/-
  Kstr: the shelf's contracts of slices.Sorted(maps.Keys(m)) laid at this seat, for the messages of a store. Written by program (wip/tools/lay.py).
-/
import Derived.Test.YtmdagnoknmfhcaaDoorProg
import Derived.KernelRfl
import Derived.Test.YtmdagnoknmfhcaaDoorHl
namespace Go.Proofs.YtmdagnoknmfhcaaDoor
set_option linter.unusedSimpArgs false
set_option linter.unusedVariables false
open Go.Proofs Go.Shelf

def keysSM_ren : Go.Shelf.Ren := ⟨fun n => match n with | 7 => 42 | 10 => 75 | n => n, fun n => match n with | 23 => 102 | 26 => 9 | 3 => 33 | 28 => 112 | 0 => 0 | 27 => 111 | 33 => 171 | 4 => 4 | n => n, fun n => n⟩
theorem keysSM : SlLaysZ.n7 Tryd.prog keysSM_ren where
  mixed := by kernel_rfl
  f7 := ⟨Tryd.f42.name, by kernel_rfl, Tryd.func42.trans (congrArg some (by kernel_rfl))⟩
  f10 := ⟨Tryd.f75.name, by kernel_rfl, Tryd.func75.trans (congrArg some (by kernel_rfl))⟩
  t0 := Tryd.underlying0
  a0 := Tryd.isAgg0
  z0 := Tryd.sizeOf0
  v0 := Tryd.zeroValue0
  t4 := Tryd.underlying4
  a4 := Tryd.isAgg4
  z4 := Tryd.sizeOf4
  v4 := Tryd.zeroValue4
  t23 := Tryd.underlying102
  a23 := Tryd.isAgg102
  z23 := Tryd.sizeOf102
  v23 := Tryd.zeroValue102
  t26 := Tryd.underlying9
  a26 := Tryd.isAgg9
  z26 := Tryd.sizeOf9
  v26 := Tryd.zeroValue9
  t27 := Tryd.underlying111
  a27 := Tryd.isAgg111
  z27 := Tryd.sizeOf111
  v27 := Tryd.zeroValue111
  t28 := Tryd.underlying112
  a28 := Tryd.isAgg112
  z28 := Tryd.sizeOf112
  v28 := Tryd.zeroValue112
  t33 := Tryd.underlying171
  a33 := Tryd.isAgg171
  z33 := Tryd.sizeOf171
  v33 := Tryd.zeroValue171

def sortedS_ren : Go.Shelf.Ren := ⟨fun n => match n with | 6 => 41 | 8 => 73 | 9 => 74 | 11 => 107 | 13 => 109 | 12 => 108 | 23 => 139 | 24 => 140 | 14 => 130 | 15 => 131 | 16 => 132 | 17 => 133 | 18 => 134 | 19 => 135 | 20 => 136 | 21 => 137 | 22 => 138 | 25 => 162 | 26 => 163 | 27 => 164 | 28 => 165 | 29 => 166 | 30 => 167 | 31 => 181 | n => n, fun n => match n with | 26 => 9 | 28 => 112 | 24 => 23 | 0 => 0 | 3 => 3 | 37 => 137 | 48 => 238 | 50 => 98 | 4 => 4 | 40 => 232 | 39 => 231 | 45 => 205 | 5 => 5 | 9 => 9 | 51 => 255 | 55 => 259 | 57 => 270 | 58 => 271 | 33 => 171 | n => n, fun n => n⟩
theorem sortedS : SlLaysZ.n6 Tryd.prog sortedS_ren where
  mixed := by kernel_rfl
  f6 := ⟨Tryd.f41.name, by kernel_rfl, Tryd.func41.trans (congrArg some (by kernel_rfl))⟩
  f8 := ⟨Tryd.f73.name, by kernel_rfl, Tryd.func73.trans (congrArg some (by kernel_rfl))⟩
  f11 := ⟨Tryd.f107.name, by kernel_rfl, Tryd.func107.trans (congrArg some (by kernel_rfl))⟩
  t0 := Tryd.underlying0
  a0 := Tryd.isAgg0
  z0 := Tryd.sizeOf0
  v0 := Tryd.zeroValue0
  t24 := Tryd.underlying23
  a24 := Tryd.isAgg23
  z24 := Tryd.sizeOf23
  v24 := Tryd.zeroValue23
  t26 := Tryd.underlying9
  a26 := Tryd.isAgg9
  z26 := Tryd.sizeOf9
  v26 := Tryd.zeroValue9
  t28 := Tryd.underlying112
  a28 := Tryd.isAgg112
  z28 := Tryd.sizeOf112
  v28 := Tryd.zeroValue112
  i26 := by kernel_rfl

def sortMS_ren : Go.Shelf.Ren := ⟨fun n => match n with | 6 => 74 | 8 => 109 | 9 => 108 | 19 => 139 | 20 => 140 | 21 => 130 | 22 => 131 | 23 => 132 | 24 => 133 | 25 => 134 | 26 => 135 | 27 => 136 | 28 => 137 | 29 => 138 | 36 => 162 | 31 => 163 | 32 => 164 | 37 => 165 | 38 => 166 | 39 => 167 | 41 => 181 | n => n, fun n => match n with | 27 => 23 | 29 => 9 | 3 => 3 | 32 => 137 | 26 => 23 | 0 => 0 | 44 => 238 | 46 => 98 | 4 => 4 | 36 => 232 | 35 => 231 | 41 => 205 | 5 => 5 | 9 => 9 | 53 => 255 | 57 => 259 | 63 => 270 | 64 => 271 | n => n, fun n => n⟩
theorem sortMS : SlLaysM.n6 Tryd.prog sortMS_ren where
  mixed := by kernel_rfl
  f6 := ⟨Tryd.f74.name, by kernel_rfl, Tryd.func74.trans (congrArg some (by kernel_rfl))⟩
  f8 := Tryd.func109.trans (congrArg some (by kernel_rfl))
  f9 := ⟨Tryd.f108.name, by kernel_rfl, Tryd.func108.trans (congrArg some (by kernel_rfl))⟩
  f19 := Tryd.func139.trans (congrArg some (by kernel_rfl))
  f20 := Tryd.func140.trans (congrArg some (by kernel_rfl))
  f21 := ⟨Tryd.f130.name, by kernel_rfl, Tryd.func130.trans (congrArg some (by kernel_rfl))⟩
  f22 := ⟨Tryd.f131.name, by kernel_rfl, Tryd.func131.trans (congrArg some (by kernel_rfl))⟩
  f23 := ⟨Tryd.f132.name, by kernel_rfl, Tryd.func132.trans (congrArg some (by kernel_rfl))⟩
  f24 := ⟨Tryd.f133.name, by kernel_rfl, Tryd.func133.trans (congrArg some (by kernel_rfl))⟩
  f25 := ⟨Tryd.f134.name, by kernel_rfl, Tryd.func134.trans (congrArg some (by kernel_rfl))⟩
  f26 := ⟨Tryd.f135.name, by kernel_rfl, Tryd.func135.trans (congrArg some (by kernel_rfl))⟩
  f27 := ⟨Tryd.f136.name, by kernel_rfl, Tryd.func136.trans (congrArg some (by kernel_rfl))⟩
  f28 := ⟨Tryd.f137.name, by kernel_rfl, Tryd.func137.trans (congrArg some (by kernel_rfl))⟩
  f29 := ⟨Tryd.f138.name, by kernel_rfl, Tryd.func138.trans (congrArg some (by kernel_rfl))⟩
  f31 := Tryd.func163.trans (congrArg some (by kernel_rfl))
  f32 := Tryd.func164.trans (congrArg some (by kernel_rfl))
  f36 := ⟨Tryd.f162.name, by kernel_rfl, Tryd.func162.trans (congrArg some (by kernel_rfl))⟩
  f37 := ⟨Tryd.f165.name, by kernel_rfl, Tryd.func165.trans (congrArg some (by kernel_rfl))⟩
  f38 := ⟨Tryd.f166.name, by kernel_rfl, Tryd.func166.trans (congrArg some (by kernel_rfl))⟩
  f39 := ⟨Tryd.f167.name, by kernel_rfl, Tryd.func167.trans (congrArg some (by kernel_rfl))⟩
  f41 := ⟨Tryd.f181.name, by kernel_rfl, Tryd.func181.trans (congrArg some (by kernel_rfl))⟩
  t0 := Tryd.underlying0
  a0 := Tryd.isAgg0
  z0 := Tryd.sizeOf0
  v0 := Tryd.zeroValue0
  t3 := Tryd.underlying3
  a3 := Tryd.isAgg3
  z3 := Tryd.sizeOf3
  v3 := Tryd.zeroValue3
  t4 := Tryd.underlying4
  a4 := Tryd.isAgg4
  z4 := Tryd.sizeOf4
  v4 := Tryd.zeroValue4
  t5 := Tryd.underlying5
  a5 := Tryd.isAgg5
  z5 := Tryd.sizeOf5
  v5 := Tryd.zeroValue5
  t9 := Tryd.underlying9
  a9 := Tryd.isAgg9
  z9 := Tryd.sizeOf9
  v9 := Tryd.zeroValue9
  t26 := Tryd.underlying23
  a26 := Tryd.isAgg23
  z26 := Tryd.sizeOf23
  v26 := Tryd.zeroValue23
  t27 := Tryd.underlying23
  a27 := Tryd.isAgg23
  z27 := Tryd.sizeOf23
  v27 := Tryd.zeroValue23
  t29 := Tryd.underlying9
  a29 := Tryd.isAgg9
  z29 := Tryd.sizeOf9
  v29 := Tryd.zeroValue9
  t32 := Tryd.underlying137
  a32 := Tryd.isAgg137
  z32 := Tryd.sizeOf137
  v32 := Tryd.zeroValue137
  t35 := Tryd.underlying231
  a35 := Tryd.isAgg231
  z35 := Tryd.sizeOf231
  v35 := Tryd.zeroValue231
  t36 := Tryd.underlying232
  a36 := Tryd.isAgg232
  z36 := Tryd.sizeOf232
  v36 := Tryd.zeroValue232
  t41 := Tryd.underlying205
  a41 := Tryd.isAgg205
  z41 := Tryd.sizeOf205
  v41 := Tryd.zeroValue205
  t44 := Tryd.underlying238
  a44 := Tryd.isAgg238
  z44 := Tryd.sizeOf238
  v44 := Tryd.zeroValue238
  t46 := Tryd.underlying98
  a46 := Tryd.isAgg98
  z46 := Tryd.sizeOf98
  v46 := Tryd.zeroValue98
  t53 := Tryd.underlying255
  a53 := Tryd.isAgg255
  z53 := Tryd.sizeOf255
  v53 := Tryd.zeroValue255
  t57 := Tryd.underlying259
  a57 := Tryd.isAgg259
  z57 := Tryd.sizeOf259
  v57 := Tryd.zeroValue259
  t63 := Tryd.underlying270
  a63 := Tryd.isAgg270
  z63 := Tryd.sizeOf270
  v63 := Tryd.zeroValue270
  t64 := Tryd.underlying271
  a64 := Tryd.isAgg271
  z64 := Tryd.sizeOf271
  v64 := Tryd.zeroValue271


end Go.Proofs.YtmdagnoknmfhcaaDoor
