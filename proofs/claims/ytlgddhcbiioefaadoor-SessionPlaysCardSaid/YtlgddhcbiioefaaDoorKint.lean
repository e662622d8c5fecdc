/-
  Kint: the shelf's contracts laid at this seat: slices.Sorted(maps.Keys(m)), keys of type int, values of type bool. Written by program (wip/tools/lay.py).
-/
import Derived.Test.YtlgddhcbiioefaaDoorHk
import Derived.Test.YtlgddhcbiioefaaDoorProg
import Derived.KernelRfl
namespace Go.Proofs.YtlgddhcbiioefaaDoor
set_option linter.unusedSimpArgs false
set_option linter.unusedVariables false
open Go.H Go.Proofs Go.Shelf

def keysI_ren : Go.Shelf.Ren := ⟨fun n => match n with | 7 => 89 | 10 => 113 | n => n, fun n => match n with | 23 => 214 | 26 => 3 | 3 => 4 | 28 => 161 | 0 => 0 | 27 => 160 | 33 => 37 | 4 => 4 | n => n, fun n => n⟩
theorem keysI : SlLaysZI.n7 Tryd.prog keysI_ren where
  mixed := by kernel_rfl
  f7 := ⟨Tryd.f89.name, by kernel_rfl, Tryd.func89.trans (congrArg some (by kernel_rfl))⟩
  f10 := ⟨Tryd.f113.name, by kernel_rfl, Tryd.func113.trans (congrArg some (by kernel_rfl))⟩
  t0 := Tryd.underlying0
  a0 := Tryd.isAgg0
  z0 := Tryd.sizeOf0
  v0 := Tryd.zeroValue0
  t4 := Tryd.underlying4
  a4 := Tryd.isAgg4
  z4 := Tryd.sizeOf4
  v4 := Tryd.zeroValue4
  t23 := Tryd.underlying214
  a23 := Tryd.isAgg214
  z23 := Tryd.sizeOf214
  v23 := Tryd.zeroValue214
  t26 := Tryd.underlying3
  a26 := Tryd.isAgg3
  z26 := Tryd.sizeOf3
  v26 := Tryd.zeroValue3
  t27 := Tryd.underlying160
  a27 := Tryd.isAgg160
  z27 := Tryd.sizeOf160
  v27 := Tryd.zeroValue160
  t28 := Tryd.underlying161
  a28 := Tryd.isAgg161
  z28 := Tryd.sizeOf161
  v28 := Tryd.zeroValue161
  t33 := Tryd.underlying37
  a33 := Tryd.isAgg37
  z33 := Tryd.sizeOf37
  v33 := Tryd.zeroValue37

def sortedI_ren : Go.Shelf.Ren := ⟨fun n => match n with | 6 => 55 | 8 => 84 | 9 => 85 | 11 => 108 | 13 => 110 | 12 => 109 | 23 => 141 | 24 => 142 | 14 => 132 | 15 => 133 | 16 => 134 | 17 => 135 | 18 => 136 | 19 => 137 | 20 => 138 | 21 => 139 | 22 => 140 | 25 => 164 | 26 => 165 | 27 => 166 | 28 => 167 | 29 => 168 | 30 => 96 | 31 => 178 | n => n, fun n => match n with | 26 => 3 | 28 => 161 | 24 => 88 | 0 => 0 | 3 => 3 | 37 => 235 | 48 => 266 | 50 => 245 | 4 => 4 | 40 => 259 | 39 => 258 | 45 => 142 | 5 => 5 | 9 => 9 | 51 => 289 | 55 => 293 | 57 => 300 | 58 => 209 | 33 => 37 | n => n, fun n => n⟩
theorem sortedI : SlLaysZI.n6 Tryd.prog sortedI_ren where
  mixed := by kernel_rfl
  f6 := ⟨Tryd.f55.name, by kernel_rfl, Tryd.func55.trans (congrArg some (by kernel_rfl))⟩
  f8 := ⟨Tryd.f84.name, by kernel_rfl, Tryd.func84.trans (congrArg some (by kernel_rfl))⟩
  f11 := ⟨Tryd.f108.name, by kernel_rfl, Tryd.func108.trans (congrArg some (by kernel_rfl))⟩
  t0 := Tryd.underlying0
  a0 := Tryd.isAgg0
  z0 := Tryd.sizeOf0
  v0 := Tryd.zeroValue0
  t24 := Tryd.underlying88
  a24 := Tryd.isAgg88
  z24 := Tryd.sizeOf88
  v24 := Tryd.zeroValue88
  t26 := Tryd.underlying3
  a26 := Tryd.isAgg3
  z26 := Tryd.sizeOf3
  v26 := Tryd.zeroValue3
  t28 := Tryd.underlying161
  a28 := Tryd.isAgg161
  z28 := Tryd.sizeOf161
  v28 := Tryd.zeroValue161
  i26 := by kernel_rfl

def sortMI_ren : Go.Shelf.Ren := ⟨fun n => match n with | 5 => 85 | 8 => 110 | 7 => 109 | 19 => 141 | 20 => 142 | 10 => 132 | 11 => 133 | 12 => 134 | 13 => 135 | 14 => 136 | 15 => 137 | 16 => 138 | 17 => 139 | 18 => 140 | 30 => 164 | 31 => 165 | 32 => 166 | 33 => 167 | 34 => 168 | 35 => 96 | 40 => 178 | n => n, fun n => match n with | 23 => 88 | 25 => 3 | 3 => 3 | 32 => 235 | 22 => 88 | 0 => 0 | 44 => 266 | 46 => 245 | 4 => 4 | 36 => 259 | 35 => 258 | 41 => 142 | 5 => 5 | 9 => 9 | 53 => 289 | 57 => 293 | 63 => 300 | 64 => 209 | n => n, fun n => n⟩
theorem sortMI : SlLaysM.n5 Tryd.prog sortMI_ren where
  mixed := by kernel_rfl
  f5 := ⟨Tryd.f85.name, by kernel_rfl, Tryd.func85.trans (congrArg some (by kernel_rfl))⟩
  f7 := ⟨Tryd.f109.name, by kernel_rfl, Tryd.func109.trans (congrArg some (by kernel_rfl))⟩
  f8 := Tryd.func110.trans (congrArg some (by kernel_rfl))
  f10 := ⟨Tryd.f132.name, by kernel_rfl, Tryd.func132.trans (congrArg some (by kernel_rfl))⟩
  f11 := ⟨Tryd.f133.name, by kernel_rfl, Tryd.func133.trans (congrArg some (by kernel_rfl))⟩
  f12 := ⟨Tryd.f134.name, by kernel_rfl, Tryd.func134.trans (congrArg some (by kernel_rfl))⟩
  f13 := ⟨Tryd.f135.name, by kernel_rfl, Tryd.func135.trans (congrArg some (by kernel_rfl))⟩
  f14 := ⟨Tryd.f136.name, by kernel_rfl, Tryd.func136.trans (congrArg some (by kernel_rfl))⟩
  f15 := ⟨Tryd.f137.name, by kernel_rfl, Tryd.func137.trans (congrArg some (by kernel_rfl))⟩
  f16 := ⟨Tryd.f138.name, by kernel_rfl, Tryd.func138.trans (congrArg some (by kernel_rfl))⟩
  f17 := ⟨Tryd.f139.name, by kernel_rfl, Tryd.func139.trans (congrArg some (by kernel_rfl))⟩
  f18 := ⟨Tryd.f140.name, by kernel_rfl, Tryd.func140.trans (congrArg some (by kernel_rfl))⟩
  f19 := Tryd.func141.trans (congrArg some (by kernel_rfl))
  f20 := Tryd.func142.trans (congrArg some (by kernel_rfl))
  f30 := ⟨Tryd.f164.name, by kernel_rfl, Tryd.func164.trans (congrArg some (by kernel_rfl))⟩
  f31 := Tryd.func165.trans (congrArg some (by kernel_rfl))
  f32 := Tryd.func166.trans (congrArg some (by kernel_rfl))
  f33 := ⟨Tryd.f167.name, by kernel_rfl, Tryd.func167.trans (congrArg some (by kernel_rfl))⟩
  f34 := ⟨Tryd.f168.name, by kernel_rfl, Tryd.func168.trans (congrArg some (by kernel_rfl))⟩
  f35 := ⟨Tryd.f96.name, by kernel_rfl, Tryd.func96.trans (congrArg some (by kernel_rfl))⟩
  f40 := ⟨Tryd.f178.name, by kernel_rfl, Tryd.func178.trans (congrArg some (by kernel_rfl))⟩
  t0 := Tryd.underlying0
  a0 := Tryd.isAgg0
  z0 := Tryd.sizeOf0
  v0 := Tryd.zeroValue0
  t3 := Tryd.underlying3
  a3 := Tryd.isAgg3
  z3 := Tryd.sizeOf3
  v3 := Tryd.zeroValue3
  t4 := Tryd.underlying4
  a4 := Tryd.isAgg4
  z4 := Tryd.sizeOf4
  v4 := Tryd.zeroValue4
  t5 := Tryd.underlying5
  a5 := Tryd.isAgg5
  z5 := Tryd.sizeOf5
  v5 := Tryd.zeroValue5
  t9 := Tryd.underlying9
  a9 := Tryd.isAgg9
  z9 := Tryd.sizeOf9
  v9 := Tryd.zeroValue9
  t22 := Tryd.underlying88
  a22 := Tryd.isAgg88
  z22 := Tryd.sizeOf88
  v22 := Tryd.zeroValue88
  t23 := Tryd.underlying88
  a23 := Tryd.isAgg88
  z23 := Tryd.sizeOf88
  v23 := Tryd.zeroValue88
  t25 := Tryd.underlying3
  a25 := Tryd.isAgg3
  z25 := Tryd.sizeOf3
  v25 := Tryd.zeroValue3
  t32 := Tryd.underlying235
  a32 := Tryd.isAgg235
  z32 := Tryd.sizeOf235
  v32 := Tryd.zeroValue235
  t35 := Tryd.underlying258
  a35 := Tryd.isAgg258
  z35 := Tryd.sizeOf258
  v35 := Tryd.zeroValue258
  t36 := Tryd.underlying259
  a36 := Tryd.isAgg259
  z36 := Tryd.sizeOf259
  v36 := Tryd.zeroValue259
  t41 := Tryd.underlying142
  a41 := Tryd.isAgg142
  z41 := Tryd.sizeOf142
  v41 := Tryd.zeroValue142
  t44 := Tryd.underlying266
  a44 := Tryd.isAgg266
  z44 := Tryd.sizeOf266
  v44 := Tryd.zeroValue266
  t46 := Tryd.underlying245
  a46 := Tryd.isAgg245
  z46 := Tryd.sizeOf245
  v46 := Tryd.zeroValue245
  t53 := Tryd.underlying289
  a53 := Tryd.isAgg289
  z53 := Tryd.sizeOf289
  v53 := Tryd.zeroValue289
  t57 := Tryd.underlying293
  a57 := Tryd.isAgg293
  z57 := Tryd.sizeOf293
  v57 := Tryd.zeroValue293
  t63 := Tryd.underlying300
  a63 := Tryd.isAgg300
  z63 := Tryd.sizeOf300
  v63 := Tryd.zeroValue300
  t64 := Tryd.underlying209
  a64 := Tryd.isAgg209
  z64 := Tryd.sizeOf209
  v64 := Tryd.zeroValue209

end Go.Proofs.YtlgddhcbiioefaaDoor
