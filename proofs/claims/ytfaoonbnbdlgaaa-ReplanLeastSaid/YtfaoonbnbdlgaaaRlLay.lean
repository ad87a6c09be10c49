/- The layings of the sorts in this program. -/
import Derived.Shelf.SortM.Plain
import Derived.Shelf.SortM.SortNone
import Derived.Shelf.SlLaysF0
import Derived.Ground.SlgmProg
import Derived.Ground.SlsfProg
import Derived.Test.YtfaoonbnbdlgaaaProg
namespace Go.Proofs
open Go.Shelf
def Try.sortF_ren : Go.Shelf.Ren := ⟨fun | 6 => 33 | 15 => 59 | 14 => 58 | 28 => 76 | 29 => 77 | 20 => 68 | 21 => 69 | 22 => 70 | 23 => 71 | 24 => 72 | 25 => 73 | 26 => 74 | 27 => 75 | 46 => 87 | 47 => 88 | 48 => 89 | 49 => 90 | 50 => 91 | 57 => 98 | n => n, fun | 22 => 28 | 24 => 44 | 25 => 80 | 3 => 3 | 39 => 98 | 0 => 0 | 53 => 111 | 55 => 113 | 4 => 4 | 46 => 105 | 45 => 104 | 50 => 47 | 5 => 5 | 9 => 9 | 66 => 120 | 70 => 124 | 76 => 128 | 77 => 50 | n => n, fun | n => n⟩
theorem Try.sortF : Go.Proofs.SlLaysF0.n6 Try.prog Try.sortF_ren := {
  mixed := by kernel_rfl
  f6 := ⟨Try.f33.name, by decide, Try.func33.trans (congrArg some (by kernel_rfl))⟩
  f14 := ⟨Try.f58.name, by decide, Try.func58.trans (congrArg some (by kernel_rfl))⟩
  f15 := Try.func59.trans (congrArg some (by kernel_rfl))
  f20 := ⟨Try.f68.name, by decide, Try.func68.trans (congrArg some (by kernel_rfl))⟩
  f21 := ⟨Try.f69.name, by decide, Try.func69.trans (congrArg some (by kernel_rfl))⟩
  f22 := ⟨Try.f70.name, by decide, Try.func70.trans (congrArg some (by kernel_rfl))⟩
  f23 := ⟨Try.f71.name, by decide, Try.func71.trans (congrArg some (by kernel_rfl))⟩
  f24 := ⟨Try.f72.name, by decide, Try.func72.trans (congrArg some (by kernel_rfl))⟩
  f25 := ⟨Try.f73.name, by decide, Try.func73.trans (congrArg some (by kernel_rfl))⟩
  f26 := ⟨Try.f74.name, by decide, Try.func74.trans (congrArg some (by kernel_rfl))⟩
  f27 := ⟨Try.f75.name, by decide, Try.func75.trans (congrArg some (by kernel_rfl))⟩
  f28 := Try.func76.trans (congrArg some (by kernel_rfl))
  f29 := Try.func77.trans (congrArg some (by kernel_rfl))
  f46 := ⟨Try.f87.name, by decide, Try.func87.trans (congrArg some (by kernel_rfl))⟩
  f47 := Try.func88.trans (congrArg some (by kernel_rfl))
  f48 := Try.func89.trans (congrArg some (by kernel_rfl))
  f49 := ⟨Try.f90.name, by decide, Try.func90.trans (congrArg some (by kernel_rfl))⟩
  f50 := ⟨Try.f91.name, by decide, Try.func91.trans (congrArg some (by kernel_rfl))⟩
  f57 := ⟨Try.f98.name, by decide, Try.func98.trans (congrArg some (by kernel_rfl))⟩
  t0 := Try.underlying0
  a0 := Try.isAgg0
  z0 := Try.sizeOf0
  v0 := Try.zeroValue0
  t3 := Try.underlying3
  a3 := Try.isAgg3
  z3 := Try.sizeOf3
  v3 := Try.zeroValue3
  t4 := Try.underlying4
  a4 := Try.isAgg4
  z4 := Try.sizeOf4
  v4 := Try.zeroValue4
  t5 := Try.underlying5
  a5 := Try.isAgg5
  z5 := Try.sizeOf5
  v5 := Try.zeroValue5
  t9 := Try.underlying9
  a9 := Try.isAgg9
  z9 := Try.sizeOf9
  v9 := Try.zeroValue9
  t22 := Try.underlying28
  a22 := Try.isAgg28
  z22 := Try.sizeOf28
  v22 := Try.zeroValue28
  t25 := Try.underlying80
  a25 := Try.isAgg80
  z25 := Try.sizeOf80
  v25 := Try.zeroValue80
  t39 := Try.underlying98
  a39 := Try.isAgg98
  z39 := Try.sizeOf98
  v39 := Try.zeroValue98
  t45 := Try.underlying104
  a45 := Try.isAgg104
  z45 := Try.sizeOf104
  v45 := Try.zeroValue104
  t46 := Try.underlying105
  a46 := Try.isAgg105
  z46 := Try.sizeOf105
  v46 := Try.zeroValue105
  t50 := Try.underlying47
  a50 := Try.isAgg47
  z50 := Try.sizeOf47
  v50 := Try.zeroValue47
  t53 := Try.underlying111
  a53 := Try.isAgg111
  z53 := Try.sizeOf111
  v53 := Try.zeroValue111
  t55 := Try.underlying113
  a55 := Try.isAgg113
  z55 := Try.sizeOf113
  v55 := Try.zeroValue113
  t66 := Try.underlying120
  a66 := Try.isAgg120
  z66 := Try.sizeOf120
  v66 := Try.zeroValue120
  t70 := Try.underlying124
  a70 := Try.isAgg124
  z70 := Try.sizeOf124
  v70 := Try.zeroValue124
  t76 := Try.underlying128
  a76 := Try.isAgg128
  z76 := Try.sizeOf128
  v76 := Try.zeroValue128
  t77 := Try.underlying50
  a77 := Try.isAgg50
  z77 := Try.sizeOf50
  v77 := Try.zeroValue50 }
end Go.Proofs
