/- Part. -/
import Derived.Test.YtabadacjbkhmkaaGreatDoorEvSimp
import Derived.Shelf.SortM.Plain
import Derived.Shelf.SortM.SortNone
import Derived.Ground.SlgmProg
import Derived.Test.YtabadacjbkhmkaaGreatDoorProg
namespace Go.Proofs
open Go.Shelf
def Tryz.sortA_ren : Go.Shelf.Ren := ⟨fun | 5 => 105 | 8 => 129 | 7 => 128 | 19 => 147 | 20 => 148 | 10 => 138 | 11 => 139 | 12 => 140 | 13 => 141 | 14 => 142 | 15 => 143 | 16 => 144 | 17 => 145 | 18 => 146 | 30 => 153 | 31 => 154 | 32 => 155 | 33 => 156 | 34 => 157 | 35 => 158 | 40 => 162 | n => n, fun | 23 => 22 | 25 => 3 | 3 => 3 | 32 => 160 | 22 => 22 | 0 => 0 | 44 => 176 | 46 => 178 | 4 => 4 | 36 => 169 | 35 => 168 | 41 => 139 | 5 => 5 | 9 => 9 | 53 => 183 | 57 => 187 | 63 => 192 | 64 => 193 | n => n, fun | n => n⟩
theorem Tryz.sortA : Go.Proofs.SlLaysM.n5 Tryz.prog Tryz.sortA_ren := {
  mixed := by kernel_rfl
  f5 := ⟨Tryz.f105.name, by decide, Go.Ev.lqT Tryz.func105 (by kernel_rfl)⟩
  f7 := ⟨Tryz.f128.name, by decide, Go.Ev.lqT Tryz.func128 (by kernel_rfl)⟩
  f8 := Go.Ev.lqT Tryz.func129 (by kernel_rfl)
  f10 := ⟨Tryz.f138.name, by decide, Go.Ev.lqT Tryz.func138 (by kernel_rfl)⟩
  f11 := ⟨Tryz.f139.name, by decide, Go.Ev.lqT Tryz.func139 (by kernel_rfl)⟩
  f12 := ⟨Tryz.f140.name, by decide, Go.Ev.lqT Tryz.func140 (by kernel_rfl)⟩
  f13 := ⟨Tryz.f141.name, by decide, Go.Ev.lqT Tryz.func141 (by kernel_rfl)⟩
  f14 := ⟨Tryz.f142.name, by decide, Go.Ev.lqT Tryz.func142 (by kernel_rfl)⟩
  f15 := ⟨Tryz.f143.name, by decide, Go.Ev.lqT Tryz.func143 (by kernel_rfl)⟩
  f16 := ⟨Tryz.f144.name, by decide, Go.Ev.lqT Tryz.func144 (by kernel_rfl)⟩
  f17 := ⟨Tryz.f145.name, by decide, Go.Ev.lqT Tryz.func145 (by kernel_rfl)⟩
  f18 := ⟨Tryz.f146.name, by decide, Go.Ev.lqT Tryz.func146 (by kernel_rfl)⟩
  f19 := Go.Ev.lqT Tryz.func147 (by kernel_rfl)
  f20 := Go.Ev.lqT Tryz.func148 (by kernel_rfl)
  f30 := ⟨Tryz.f153.name, by decide, Go.Ev.lqT Tryz.func153 (by kernel_rfl)⟩
  f31 := Go.Ev.lqT Tryz.func154 (by kernel_rfl)
  f32 := Go.Ev.lqT Tryz.func155 (by kernel_rfl)
  f33 := ⟨Tryz.f156.name, by decide, Go.Ev.lqT Tryz.func156 (by kernel_rfl)⟩
  f34 := ⟨Tryz.f157.name, by decide, Go.Ev.lqT Tryz.func157 (by kernel_rfl)⟩
  f35 := ⟨Tryz.f158.name, by decide, Go.Ev.lqT Tryz.func158 (by kernel_rfl)⟩
  f40 := ⟨Tryz.f162.name, by decide, Go.Ev.lqT Tryz.func162 (by kernel_rfl)⟩
  t0 := Tryz.underlying0
  a0 := Tryz.isAgg0
  z0 := Tryz.sizeOf0
  v0 := Tryz.zeroValue0
  t3 := Tryz.underlying3
  a3 := Tryz.isAgg3
  z3 := Tryz.sizeOf3
  v3 := Tryz.zeroValue3
  t4 := Tryz.underlying4
  a4 := Tryz.isAgg4
  z4 := Tryz.sizeOf4
  v4 := Tryz.zeroValue4
  t5 := Tryz.underlying5
  a5 := Tryz.isAgg5
  z5 := Tryz.sizeOf5
  v5 := Tryz.zeroValue5
  t9 := Tryz.underlying9
  a9 := Tryz.isAgg9
  z9 := Tryz.sizeOf9
  v9 := Tryz.zeroValue9
  t22 := Tryz.underlying22
  a22 := Tryz.isAgg22
  z22 := Tryz.sizeOf22
  v22 := Tryz.zeroValue22
  t23 := Tryz.underlying22
  a23 := Tryz.isAgg22
  z23 := Tryz.sizeOf22
  v23 := Tryz.zeroValue22
  t25 := Tryz.underlying3
  a25 := Tryz.isAgg3
  z25 := Tryz.sizeOf3
  v25 := Tryz.zeroValue3
  t32 := Tryz.underlying160
  a32 := Tryz.isAgg160
  z32 := Tryz.sizeOf160
  v32 := Tryz.zeroValue160
  t35 := Tryz.underlying168
  a35 := Tryz.isAgg168
  z35 := Tryz.sizeOf168
  v35 := Tryz.zeroValue168
  t36 := Tryz.underlying169
  a36 := Tryz.isAgg169
  z36 := Tryz.sizeOf169
  v36 := Tryz.zeroValue169
  t41 := Tryz.underlying139
  a41 := Tryz.isAgg139
  z41 := Tryz.sizeOf139
  v41 := Tryz.zeroValue139
  t44 := Tryz.underlying176
  a44 := Tryz.isAgg176
  z44 := Tryz.sizeOf176
  v44 := Tryz.zeroValue176
  t46 := Tryz.underlying178
  a46 := Tryz.isAgg178
  z46 := Tryz.sizeOf178
  v46 := Tryz.zeroValue178
  t53 := Tryz.underlying183
  a53 := Tryz.isAgg183
  z53 := Tryz.sizeOf183
  v53 := Tryz.zeroValue183
  t57 := Tryz.underlying187
  a57 := Tryz.isAgg187
  z57 := Tryz.sizeOf187
  v57 := Tryz.zeroValue187
  t63 := Tryz.underlying192
  a63 := Tryz.isAgg192
  z63 := Tryz.sizeOf192
  v63 := Tryz.zeroValue192
  t64 := Tryz.underlying193
  a64 := Tryz.isAgg193
  z64 := Tryz.sizeOf193
  v64 := Tryz.zeroValue193 }
end Go.Proofs
