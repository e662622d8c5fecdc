/-
  Kia: the shelf's contracts laid at this seat: slices.Sorted(maps.Keys(m)), keys of type int, values: adverts. Written by program (wip/tools/lay.py).
-/
import Derived.Test.YtmdagnoknmfhcaaDoorHk
import Derived.Test.YtmdagnoknmfhcaaDoorProg
import Derived.KernelRfl
namespace Go.Proofs.YtmdagnoknmfhcaaDoor
set_option linter.unusedSimpArgs false
set_option linter.unusedVariables false
open Go.H Go.Proofs Go.Shelf

def keysIA_ren : Go.Shelf.Ren := ⟨fun n => match n with | 7 => 65 | 10 => 98 | n => n, fun n => match n with | 23 => 151 | 26 => 3 | 3 => 54 | 28 => 157 | 0 => 0 | 27 => 156 | 33 => 175 | 4 => 4 | n => n, fun n => n⟩
theorem keysIA : SlLaysZI.n7 Tryd.prog keysIA_ren where
  mixed := by kernel_rfl
  f7 := ⟨Tryd.f65.name, by kernel_rfl, Tryd.func65.trans (congrArg some (by kernel_rfl))⟩
  f10 := ⟨Tryd.f98.name, by kernel_rfl, Tryd.func98.trans (congrArg some (by kernel_rfl))⟩
  t0 := Tryd.underlying0
  a0 := Tryd.isAgg0
  z0 := Tryd.sizeOf0
  v0 := Tryd.zeroValue0
  t4 := Tryd.underlying4
  a4 := Tryd.isAgg4
  z4 := Tryd.sizeOf4
  v4 := Tryd.zeroValue4
  t23 := Tryd.underlying151
  a23 := Tryd.isAgg151
  z23 := Tryd.sizeOf151
  v23 := Tryd.zeroValue151
  t26 := Tryd.underlying3
  a26 := Tryd.isAgg3
  z26 := Tryd.sizeOf3
  v26 := Tryd.zeroValue3
  t27 := Tryd.underlying156
  a27 := Tryd.isAgg156
  z27 := Tryd.sizeOf156
  v27 := Tryd.zeroValue156
  t28 := Tryd.underlying157
  a28 := Tryd.isAgg157
  z28 := Tryd.sizeOf157
  v28 := Tryd.zeroValue157
  t33 := Tryd.underlying175
  a33 := Tryd.isAgg175
  z33 := Tryd.sizeOf175
  v33 := Tryd.zeroValue175

def sortedI_ren : Go.Shelf.Ren := ⟨fun n => match n with | 6 => 64 | 8 => 96 | 9 => 97 | 11 => 116 | 13 => 109 | 12 => 117 | 23 => 139 | 24 => 140 | 14 => 142 | 15 => 143 | 16 => 144 | 17 => 145 | 18 => 146 | 19 => 147 | 20 => 148 | 21 => 149 | 22 => 150 | 25 => 168 | 26 => 163 | 27 => 164 | 28 => 169 | 29 => 170 | 30 => 171 | 31 => 182 | n => n, fun n => match n with | 26 => 3 | 28 => 157 | 24 => 72 | 0 => 0 | 3 => 3 | 37 => 137 | 48 => 238 | 50 => 98 | 4 => 4 | 40 => 232 | 39 => 231 | 45 => 205 | 5 => 5 | 9 => 9 | 51 => 255 | 55 => 259 | 57 => 270 | 58 => 271 | 33 => 175 | n => n, fun n => n⟩
theorem sortedI : SlLaysZI.n6 Tryd.prog sortedI_ren where
  mixed := by kernel_rfl
  f6 := ⟨Tryd.f64.name, by kernel_rfl, Tryd.func64.trans (congrArg some (by kernel_rfl))⟩
  f8 := ⟨Tryd.f96.name, by kernel_rfl, Tryd.func96.trans (congrArg some (by kernel_rfl))⟩
  f11 := ⟨Tryd.f116.name, by kernel_rfl, Tryd.func116.trans (congrArg some (by kernel_rfl))⟩
  t0 := Tryd.underlying0
  a0 := Tryd.isAgg0
  z0 := Tryd.sizeOf0
  v0 := Tryd.zeroValue0
  t24 := Tryd.underlying72
  a24 := Tryd.isAgg72
  z24 := Tryd.sizeOf72
  v24 := Tryd.zeroValue72
  t26 := Tryd.underlying3
  a26 := Tryd.isAgg3
  z26 := Tryd.sizeOf3
  v26 := Tryd.zeroValue3
  t28 := Tryd.underlying157
  a28 := Tryd.isAgg157
  z28 := Tryd.sizeOf157
  v28 := Tryd.zeroValue157
  i26 := by kernel_rfl

def sortMI_ren : Go.Shelf.Ren := ⟨fun n => match n with | 5 => 97 | 8 => 109 | 7 => 117 | 19 => 139 | 20 => 140 | 10 => 142 | 11 => 143 | 12 => 144 | 13 => 145 | 14 => 146 | 15 => 147 | 16 => 148 | 17 => 149 | 18 => 150 | 30 => 168 | 31 => 163 | 32 => 164 | 33 => 169 | 34 => 170 | 35 => 171 | 40 => 182 | n => n, fun n => match n with | 23 => 72 | 25 => 3 | 3 => 3 | 32 => 137 | 22 => 72 | 0 => 0 | 44 => 238 | 46 => 98 | 4 => 4 | 36 => 232 | 35 => 231 | 41 => 205 | 5 => 5 | 9 => 9 | 53 => 255 | 57 => 259 | 63 => 270 | 64 => 271 | n => n, fun n => n⟩
theorem sortMI : SlLaysM.n5 Tryd.prog sortMI_ren where
  mixed := by kernel_rfl
  f5 := ⟨Tryd.f97.name, by kernel_rfl, Tryd.func97.trans (congrArg some (by kernel_rfl))⟩
  f7 := ⟨Tryd.f117.name, by kernel_rfl, Tryd.func117.trans (congrArg some (by kernel_rfl))⟩
  f8 := Tryd.func109.trans (congrArg some (by kernel_rfl))
  f10 := ⟨Tryd.f142.name, by kernel_rfl, Tryd.func142.trans (congrArg some (by kernel_rfl))⟩
  f11 := ⟨Tryd.f143.name, by kernel_rfl, Tryd.func143.trans (congrArg some (by kernel_rfl))⟩
  f12 := ⟨Tryd.f144.name, by kernel_rfl, Tryd.func144.trans (congrArg some (by kernel_rfl))⟩
  f13 := ⟨Tryd.f145.name, by kernel_rfl, Tryd.func145.trans (congrArg some (by kernel_rfl))⟩
  f14 := ⟨Tryd.f146.name, by kernel_rfl, Tryd.func146.trans (congrArg some (by kernel_rfl))⟩
  f15 := ⟨Tryd.f147.name, by kernel_rfl, Tryd.func147.trans (congrArg some (by kernel_rfl))⟩
  f16 := ⟨Tryd.f148.name, by kernel_rfl, Tryd.func148.trans (congrArg some (by kernel_rfl))⟩
  f17 := ⟨Tryd.f149.name, by kernel_rfl, Tryd.func149.trans (congrArg some (by kernel_rfl))⟩
  f18 := ⟨Tryd.f150.name, by kernel_rfl, Tryd.func150.trans (congrArg some (by kernel_rfl))⟩
  f19 := Tryd.func139.trans (congrArg some (by kernel_rfl))
  f20 := Tryd.func140.trans (congrArg some (by kernel_rfl))
  f30 := ⟨Tryd.f168.name, by kernel_rfl, Tryd.func168.trans (congrArg some (by kernel_rfl))⟩
  f31 := Tryd.func163.trans (congrArg some (by kernel_rfl))
  f32 := Tryd.func164.trans (congrArg some (by kernel_rfl))
  f33 := ⟨Tryd.f169.name, by kernel_rfl, Tryd.func169.trans (congrArg some (by kernel_rfl))⟩
  f34 := ⟨Tryd.f170.name, by kernel_rfl, Tryd.func170.trans (congrArg some (by kernel_rfl))⟩
  f35 := ⟨Tryd.f171.name, by kernel_rfl, Tryd.func171.trans (congrArg some (by kernel_rfl))⟩
  f40 := ⟨Tryd.f182.name, by kernel_rfl, Tryd.func182.trans (congrArg some (by kernel_rfl))⟩
  t0 := Tryd.underlying0
  a0 := Tryd.isAgg0
  z0 := Tryd.sizeOf0
  v0 := Tryd.zeroValue0
  t3 := Tryd.underlying3
  a3 := Tryd.isAgg3
  z3 := Tryd.sizeOf3
  v3 := Tryd.zeroValue3
  t4 := Tryd.underlying4
  a4 := Tryd.isAgg4
  z4 := Tryd.sizeOf4
  v4 := Tryd.zeroValue4
  t5 := Tryd.underlying5
  a5 := Tryd.isAgg5
  z5 := Tryd.sizeOf5
  v5 := Tryd.zeroValue5
  t9 := Tryd.underlying9
  a9 := Tryd.isAgg9
  z9 := Tryd.sizeOf9
  v9 := Tryd.zeroValue9
  t22 := Tryd.underlying72
  a22 := Tryd.isAgg72
  z22 := Tryd.sizeOf72
  v22 := Tryd.zeroValue72
  t23 := Tryd.underlying72
  a23 := Tryd.isAgg72
  z23 := Tryd.sizeOf72
  v23 := Tryd.zeroValue72
  t25 := Tryd.underlying3
  a25 := Tryd.isAgg3
  z25 := Tryd.sizeOf3
  v25 := Tryd.zeroValue3
  t32 := Tryd.underlying137
  a32 := Tryd.isAgg137
  z32 := Tryd.sizeOf137
  v32 := Tryd.zeroValue137
  t35 := Tryd.underlying231
  a35 := Tryd.isAgg231
  z35 := Tryd.sizeOf231
  v35 := Tryd.zeroValue231
  t36 := Tryd.underlying232
  a36 := Tryd.isAgg232
  z36 := Tryd.sizeOf232
  v36 := Tryd.zeroValue232
  t41 := Tryd.underlying205
  a41 := Tryd.isAgg205
  z41 := Tryd.sizeOf205
  v41 := Tryd.zeroValue205
  t44 := Tryd.underlying238
  a44 := Tryd.isAgg238
  z44 := Tryd.sizeOf238
  v44 := Tryd.zeroValue238
  t46 := Tryd.underlying98
  a46 := Tryd.isAgg98
  z46 := Tryd.sizeOf98
  v46 := Tryd.zeroValue98
  t53 := Tryd.underlying255
  a53 := Tryd.isAgg255
  z53 := Tryd.sizeOf255
  v53 := Tryd.zeroValue255
  t57 := Tryd.underlying259
  a57 := Tryd.isAgg259
  z57 := Tryd.sizeOf259
  v57 := Tryd.zeroValue259
  t63 := Tryd.underlying270
  a63 := Tryd.isAgg270
  z63 := Tryd.sizeOf270
  v63 := Tryd.zeroValue270
  t64 := Tryd.underlying271
  a64 := Tryd.isAgg271
  z64 := Tryd.sizeOf271
  v64 := Tryd.zeroValue271

end Go.Proofs.YtmdagnoknmfhcaaDoor
