/-
  K13: the shelf's contracts laid at this seat: slices.Sorted(maps.Keys(m)), keys of type int, values of type bool. Written by program (wip/tools/lay.py).
-/
import Derived.Test.YthedaikdfhopoaaHk
import Derived.Test.YthedaikdfhopoaaProg
import Derived.KernelRfl
namespace Go.Proofs.Ythedaikdfhopoaa
open Go.H Go.Proofs Go.Shelf

def keysI_ren : Go.Shelf.Ren := ⟨fun n => match n with | 7 => 22 | 10 => 25 | n => n, fun n => match n with | 23 => 25 | 26 => 3 | 3 => 4 | 28 => 53 | 0 => 0 | 27 => 52 | 33 => 32 | 4 => 4 | n => n, fun n => n⟩
theorem keysI : SlLaysZI.n7 Try.prog keysI_ren where
  mixed := by kernel_rfl
  f7 := ⟨Try.f22.name, by kernel_rfl, Try.func22.trans (congrArg some (by kernel_rfl))⟩
  f10 := ⟨Try.f25.name, by kernel_rfl, Try.func25.trans (congrArg some (by kernel_rfl))⟩
  t0 := Try.underlying0
  a0 := Try.isAgg0
  z0 := Try.sizeOf0
  v0 := Try.zeroValue0
  t4 := Try.underlying4
  a4 := Try.isAgg4
  z4 := Try.sizeOf4
  v4 := Try.zeroValue4
  t23 := Try.underlying25
  a23 := Try.isAgg25
  z23 := Try.sizeOf25
  v23 := Try.zeroValue25
  t26 := Try.underlying3
  a26 := Try.isAgg3
  z26 := Try.sizeOf3
  v26 := Try.zeroValue3
  t27 := Try.underlying52
  a27 := Try.isAgg52
  z27 := Try.sizeOf52
  v27 := Try.zeroValue52
  t28 := Try.underlying53
  a28 := Try.isAgg53
  z28 := Try.sizeOf53
  v28 := Try.zeroValue53
  t33 := Try.underlying32
  a33 := Try.isAgg32
  z33 := Try.sizeOf32
  v33 := Try.zeroValue32

def sortedI_ren : Go.Shelf.Ren := ⟨fun n => match n with | 6 => 21 | 8 => 23 | 9 => 24 | 11 => 26 | 13 => 28 | 12 => 27 | 23 => 38 | 24 => 39 | 14 => 29 | 15 => 30 | 16 => 31 | 17 => 32 | 18 => 33 | 19 => 34 | 20 => 35 | 21 => 36 | 22 => 37 | 25 => 40 | 26 => 41 | 27 => 42 | 28 => 43 | 29 => 44 | 30 => 45 | 31 => 46 | n => n, fun n => match n with | 26 => 3 | 28 => 53 | 24 => 22 | 0 => 0 | 3 => 3 | 37 => 59 | 48 => 70 | 50 => 72 | 4 => 4 | 40 => 62 | 39 => 61 | 45 => 67 | 5 => 5 | 9 => 9 | 51 => 73 | 55 => 77 | 57 => 79 | 58 => 41 | 33 => 32 | n => n, fun n => n⟩
theorem sortedI : SlLaysZI.n6 Try.prog sortedI_ren where
  mixed := by kernel_rfl
  f6 := ⟨Try.f21.name, by kernel_rfl, Try.func21.trans (congrArg some (by kernel_rfl))⟩
  f8 := ⟨Try.f23.name, by kernel_rfl, Try.func23.trans (congrArg some (by kernel_rfl))⟩
  f11 := ⟨Try.f26.name, by kernel_rfl, Try.func26.trans (congrArg some (by kernel_rfl))⟩
  t0 := Try.underlying0
  a0 := Try.isAgg0
  z0 := Try.sizeOf0
  v0 := Try.zeroValue0
  t24 := Try.underlying22
  a24 := Try.isAgg22
  z24 := Try.sizeOf22
  v24 := Try.zeroValue22
  t26 := Try.underlying3
  a26 := Try.isAgg3
  z26 := Try.sizeOf3
  v26 := Try.zeroValue3
  t28 := Try.underlying53
  a28 := Try.isAgg53
  z28 := Try.sizeOf53
  v28 := Try.zeroValue53
  i26 := by kernel_rfl

def sortMI_ren : Go.Shelf.Ren := ⟨fun n => match n with | 5 => 24 | 8 => 28 | 7 => 27 | 19 => 38 | 20 => 39 | 10 => 29 | 11 => 30 | 12 => 31 | 13 => 32 | 14 => 33 | 15 => 34 | 16 => 35 | 17 => 36 | 18 => 37 | 30 => 40 | 31 => 41 | 32 => 42 | 33 => 43 | 34 => 44 | 35 => 45 | 40 => 46 | n => n, fun n => match n with | 23 => 22 | 25 => 3 | 3 => 3 | 32 => 59 | 22 => 22 | 0 => 0 | 44 => 70 | 46 => 72 | 4 => 4 | 36 => 62 | 35 => 61 | 41 => 67 | 5 => 5 | 9 => 9 | 53 => 73 | 57 => 77 | 63 => 79 | 64 => 41 | n => n, fun n => n⟩
theorem sortMI : SlLaysM.n5 Try.prog sortMI_ren where
  mixed := by kernel_rfl
  f5 := ⟨Try.f24.name, by kernel_rfl, Try.func24.trans (congrArg some (by kernel_rfl))⟩
  f7 := ⟨Try.f27.name, by kernel_rfl, Try.func27.trans (congrArg some (by kernel_rfl))⟩
  f8 := Try.func28.trans (congrArg some (by kernel_rfl))
  f10 := ⟨Try.f29.name, by kernel_rfl, Try.func29.trans (congrArg some (by kernel_rfl))⟩
  f11 := ⟨Try.f30.name, by kernel_rfl, Try.func30.trans (congrArg some (by kernel_rfl))⟩
  f12 := ⟨Try.f31.name, by kernel_rfl, Try.func31.trans (congrArg some (by kernel_rfl))⟩
  f13 := ⟨Try.f32.name, by kernel_rfl, Try.func32.trans (congrArg some (by kernel_rfl))⟩
  f14 := ⟨Try.f33.name, by kernel_rfl, Try.func33.trans (congrArg some (by kernel_rfl))⟩
  f15 := ⟨Try.f34.name, by kernel_rfl, Try.func34.trans (congrArg some (by kernel_rfl))⟩
  f16 := ⟨Try.f35.name, by kernel_rfl, Try.func35.trans (congrArg some (by kernel_rfl))⟩
  f17 := ⟨Try.f36.name, by kernel_rfl, Try.func36.trans (congrArg some (by kernel_rfl))⟩
  f18 := ⟨Try.f37.name, by kernel_rfl, Try.func37.trans (congrArg some (by kernel_rfl))⟩
  f19 := Try.func38.trans (congrArg some (by kernel_rfl))
  f20 := Try.func39.trans (congrArg some (by kernel_rfl))
  f30 := ⟨Try.f40.name, by kernel_rfl, Try.func40.trans (congrArg some (by kernel_rfl))⟩
  f31 := Try.func41.trans (congrArg some (by kernel_rfl))
  f32 := Try.func42.trans (congrArg some (by kernel_rfl))
  f33 := ⟨Try.f43.name, by kernel_rfl, Try.func43.trans (congrArg some (by kernel_rfl))⟩
  f34 := ⟨Try.f44.name, by kernel_rfl, Try.func44.trans (congrArg some (by kernel_rfl))⟩
  f35 := ⟨Try.f45.name, by kernel_rfl, Try.func45.trans (congrArg some (by kernel_rfl))⟩
  f40 := ⟨Try.f46.name, by kernel_rfl, Try.func46.trans (congrArg some (by kernel_rfl))⟩
  t0 := Try.underlying0
  a0 := Try.isAgg0
  z0 := Try.sizeOf0
  v0 := Try.zeroValue0
  t3 := Try.underlying3
  a3 := Try.isAgg3
  z3 := Try.sizeOf3
  v3 := Try.zeroValue3
  t4 := Try.underlying4
  a4 := Try.isAgg4
  z4 := Try.sizeOf4
  v4 := Try.zeroValue4
  t5 := Try.underlying5
  a5 := Try.isAgg5
  z5 := Try.sizeOf5
  v5 := Try.zeroValue5
  t9 := Try.underlying9
  a9 := Try.isAgg9
  z9 := Try.sizeOf9
  v9 := Try.zeroValue9
  t22 := Try.underlying22
  a22 := Try.isAgg22
  z22 := Try.sizeOf22
  v22 := Try.zeroValue22
  t23 := Try.underlying22
  a23 := Try.isAgg22
  z23 := Try.sizeOf22
  v23 := Try.zeroValue22
  t25 := Try.underlying3
  a25 := Try.isAgg3
  z25 := Try.sizeOf3
  v25 := Try.zeroValue3
  t32 := Try.underlying59
  a32 := Try.isAgg59
  z32 := Try.sizeOf59
  v32 := Try.zeroValue59
  t35 := Try.underlying61
  a35 := Try.isAgg61
  z35 := Try.sizeOf61
  v35 := Try.zeroValue61
  t36 := Try.underlying62
  a36 := Try.isAgg62
  z36 := Try.sizeOf62
  v36 := Try.zeroValue62
  t41 := Try.underlying67
  a41 := Try.isAgg67
  z41 := Try.sizeOf67
  v41 := Try.zeroValue67
  t44 := Try.underlying70
  a44 := Try.isAgg70
  z44 := Try.sizeOf70
  v44 := Try.zeroValue70
  t46 := Try.underlying72
  a46 := Try.isAgg72
  z46 := Try.sizeOf72
  v46 := Try.zeroValue72
  t53 := Try.underlying73
  a53 := Try.isAgg73
  z53 := Try.sizeOf73
  v53 := Try.zeroValue73
  t57 := Try.underlying77
  a57 := Try.isAgg77
  z57 := Try.sizeOf77
  v57 := Try.zeroValue77
  t63 := Try.underlying79
  a63 := Try.isAgg79
  z63 := Try.sizeOf79
  v63 := Try.zeroValue79
  t64 := Try.underlying41
  a64 := Try.isAgg41
  z64 := Try.sizeOf41
  v64 := Try.zeroValue41

end Go.Proofs.Ythedaikdfhopoaa
