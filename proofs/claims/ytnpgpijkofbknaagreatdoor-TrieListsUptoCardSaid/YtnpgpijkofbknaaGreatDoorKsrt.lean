/-
  Ksrt: the shelf's contracts of slices.Sorted(maps.Keys(m)) laid at this seat: the sorting of texts. Written by program (wip/tools/lay.py).
-/
import Derived.Test.YtnpgpijkofbknaaGreatDoorProg
import Derived.KernelRfl
import Derived.Test.YtnpgpijkofbknaaGreatDoorHl
namespace Go.Proofs.YtnpgpijkofbknaaGreatDoor
set_option linter.unusedSimpArgs false
set_option linter.unusedVariables false
open Go.Proofs Go.Shelf

def sortedS_ren : Go.Shelf.Ren := ⟨fun n => match n with | 6 => 25 | 8 => 43 | 9 => 44 | 11 => 65 | 13 => 39 | 12 => 66 | 23 => 61 | 24 => 62 | 14 => 79 | 15 => 80 | 16 => 81 | 17 => 82 | 18 => 83 | 19 => 84 | 20 => 85 | 21 => 86 | 22 => 87 | 25 => 98 | 26 => 74 | 27 => 75 | 28 => 99 | 29 => 100 | 30 => 101 | 31 => 110 | n => n, fun n => match n with | 26 => 9 | 28 => 67 | 24 => 37 | 0 => 0 | 3 => 3 | 37 => 85 | 48 => 103 | 50 => 105 | 4 => 4 | 40 => 97 | 39 => 96 | 45 => 73 | 5 => 5 | 9 => 9 | 51 => 113 | 55 => 117 | 57 => 137 | 58 => 138 | 33 => 90 | n => n, fun n => n⟩
theorem sortedS : SlLaysZ.n6 Tryz.prog sortedS_ren where
  mixed := by kernel_rfl
  f6 := ⟨Tryz.f25.name, by kernel_rfl, Tryz.func25.trans (congrArg some (by kernel_rfl))⟩
  f8 := ⟨Tryz.f43.name, by kernel_rfl, Tryz.func43.trans (congrArg some (by kernel_rfl))⟩
  f11 := ⟨Tryz.f65.name, by kernel_rfl, Tryz.func65.trans (congrArg some (by kernel_rfl))⟩
  t0 := Tryz.underlying0
  a0 := Tryz.isAgg0
  z0 := Tryz.sizeOf0
  v0 := Tryz.zeroValue0
  t24 := Tryz.underlying37
  a24 := Tryz.isAgg37
  z24 := Tryz.sizeOf37
  v24 := Tryz.zeroValue37
  t26 := Tryz.underlying9
  a26 := Tryz.isAgg9
  z26 := Tryz.sizeOf9
  v26 := Tryz.zeroValue9
  t28 := Tryz.underlying67
  a28 := Tryz.isAgg67
  z28 := Tryz.sizeOf67
  v28 := Tryz.zeroValue67
  i26 := by kernel_rfl

def sortMS_ren : Go.Shelf.Ren := ⟨fun n => match n with | 6 => 44 | 8 => 39 | 9 => 66 | 19 => 61 | 20 => 62 | 21 => 79 | 22 => 80 | 23 => 81 | 24 => 82 | 25 => 83 | 26 => 84 | 27 => 85 | 28 => 86 | 29 => 87 | 36 => 98 | 31 => 74 | 32 => 75 | 37 => 99 | 38 => 100 | 39 => 101 | 41 => 110 | n => n, fun n => match n with | 27 => 37 | 29 => 9 | 3 => 3 | 32 => 85 | 26 => 37 | 0 => 0 | 44 => 103 | 46 => 105 | 4 => 4 | 36 => 97 | 35 => 96 | 41 => 73 | 5 => 5 | 9 => 9 | 53 => 113 | 57 => 117 | 63 => 137 | 64 => 138 | n => n, fun n => n⟩
theorem sortMS : SlLaysM.n6 Tryz.prog sortMS_ren where
  mixed := by kernel_rfl
  f6 := ⟨Tryz.f44.name, by kernel_rfl, Tryz.func44.trans (congrArg some (by kernel_rfl))⟩
  f8 := Tryz.func39.trans (congrArg some (by kernel_rfl))
  f9 := ⟨Tryz.f66.name, by kernel_rfl, Tryz.func66.trans (congrArg some (by kernel_rfl))⟩
  f19 := Tryz.func61.trans (congrArg some (by kernel_rfl))
  f20 := Tryz.func62.trans (congrArg some (by kernel_rfl))
  f21 := ⟨Tryz.f79.name, by kernel_rfl, Tryz.func79.trans (congrArg some (by kernel_rfl))⟩
  f22 := ⟨Tryz.f80.name, by kernel_rfl, Tryz.func80.trans (congrArg some (by kernel_rfl))⟩
  f23 := ⟨Tryz.f81.name, by kernel_rfl, Tryz.func81.trans (congrArg some (by kernel_rfl))⟩
  f24 := ⟨Tryz.f82.name, by kernel_rfl, Tryz.func82.trans (congrArg some (by kernel_rfl))⟩
  f25 := ⟨Tryz.f83.name, by kernel_rfl, Tryz.func83.trans (congrArg some (by kernel_rfl))⟩
  f26 := ⟨Tryz.f84.name, by kernel_rfl, Tryz.func84.trans (congrArg some (by kernel_rfl))⟩
  f27 := ⟨Tryz.f85.name, by kernel_rfl, Tryz.func85.trans (congrArg some (by kernel_rfl))⟩
  f28 := ⟨Tryz.f86.name, by kernel_rfl, Tryz.func86.trans (congrArg some (by kernel_rfl))⟩
  f29 := ⟨Tryz.f87.name, by kernel_rfl, Tryz.func87.trans (congrArg some (by kernel_rfl))⟩
  f31 := Tryz.func74.trans (congrArg some (by kernel_rfl))
  f32 := Tryz.func75.trans (congrArg some (by kernel_rfl))
  f36 := ⟨Tryz.f98.name, by kernel_rfl, Tryz.func98.trans (congrArg some (by kernel_rfl))⟩
  f37 := ⟨Tryz.f99.name, by kernel_rfl, Tryz.func99.trans (congrArg some (by kernel_rfl))⟩
  f38 := ⟨Tryz.f100.name, by kernel_rfl, Tryz.func100.trans (congrArg some (by kernel_rfl))⟩
  f39 := ⟨Tryz.f101.name, by kernel_rfl, Tryz.func101.trans (congrArg some (by kernel_rfl))⟩
  f41 := ⟨Tryz.f110.name, by kernel_rfl, Tryz.func110.trans (congrArg some (by kernel_rfl))⟩
  t0 := Tryz.underlying0
  a0 := Tryz.isAgg0
  z0 := Tryz.sizeOf0
  v0 := Tryz.zeroValue0
  t3 := Tryz.underlying3
  a3 := Tryz.isAgg3
  z3 := Tryz.sizeOf3
  v3 := Tryz.zeroValue3
  t4 := Tryz.underlying4
  a4 := Tryz.isAgg4
  z4 := Tryz.sizeOf4
  v4 := Tryz.zeroValue4
  t5 := Tryz.underlying5
  a5 := Tryz.isAgg5
  z5 := Tryz.sizeOf5
  v5 := Tryz.zeroValue5
  t9 := Tryz.underlying9
  a9 := Tryz.isAgg9
  z9 := Tryz.sizeOf9
  v9 := Tryz.zeroValue9
  t26 := Tryz.underlying37
  a26 := Tryz.isAgg37
  z26 := Tryz.sizeOf37
  v26 := Tryz.zeroValue37
  t27 := Tryz.underlying37
  a27 := Tryz.isAgg37
  z27 := Tryz.sizeOf37
  v27 := Tryz.zeroValue37
  t29 := Tryz.underlying9
  a29 := Tryz.isAgg9
  z29 := Tryz.sizeOf9
  v29 := Tryz.zeroValue9
  t32 := Tryz.underlying85
  a32 := Tryz.isAgg85
  z32 := Tryz.sizeOf85
  v32 := Tryz.zeroValue85
  t35 := Tryz.underlying96
  a35 := Tryz.isAgg96
  z35 := Tryz.sizeOf96
  v35 := Tryz.zeroValue96
  t36 := Tryz.underlying97
  a36 := Tryz.isAgg97
  z36 := Tryz.sizeOf97
  v36 := Tryz.zeroValue97
  t41 := Tryz.underlying73
  a41 := Tryz.isAgg73
  z41 := Tryz.sizeOf73
  v41 := Tryz.zeroValue73
  t44 := Tryz.underlying103
  a44 := Tryz.isAgg103
  z44 := Tryz.sizeOf103
  v44 := Tryz.zeroValue103
  t46 := Tryz.underlying105
  a46 := Tryz.isAgg105
  z46 := Tryz.sizeOf105
  v46 := Tryz.zeroValue105
  t53 := Tryz.underlying113
  a53 := Tryz.isAgg113
  z53 := Tryz.sizeOf113
  v53 := Tryz.zeroValue113
  t57 := Tryz.underlying117
  a57 := Tryz.isAgg117
  z57 := Tryz.sizeOf117
  v57 := Tryz.zeroValue117
  t63 := Tryz.underlying137
  a63 := Tryz.isAgg137
  z63 := Tryz.sizeOf137
  v63 := Tryz.zeroValue137
  t64 := Tryz.underlying138
  a64 := Tryz.isAgg138
  z64 := Tryz.sizeOf138
  v64 := Tryz.zeroValue138

end Go.Proofs.YtnpgpijkofbknaaGreatDoor
