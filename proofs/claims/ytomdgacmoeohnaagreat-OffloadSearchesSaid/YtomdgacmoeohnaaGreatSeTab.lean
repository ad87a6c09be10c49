/- A part. -/
import Derived.Test.YtomdgacmoeohnaaGreatEvTab
import Derived.Test.YtomdgacmoeohnaaGreatRows
namespace Go.Proofs.YtomdgacmoeohnaaGreat
open Go.Ev
abbrev ySR : Ty := .pair (.sl (.int .i64)) (.int .i64)
abbrev yPL : Ty := .pair (.int .i64) (.pair (.int .i64) (.int .i64))
abbrev yFL : Ty := .pair .str (.pair (.int .i64) (.pair .str (.int .i64)))
abbrev yPC : Ty := .pair yPL (.pair (.int .i64) (.int .i64))
abbrev yBR : Ty := .pair (.int .i64) (.pair (.int .i64) yPL)
abbrev yTK : Ty := .pair (.int .i64) (.sl yPL)
abbrev yPM : Ty := .pair yPC (.pair (.int .i64) (.sl (.int .i64)))
abbrev yOP : Ty := .pair (.int .i64) (.pair (.int .i64) (.pair (.int .i64) (.pair (.int .i64) (.pair (.int .i64) yPC))))
abbrev yCT : Ty := .pair (.int .i64) (.pair yFL (.pair (.int .i64) (.pair (.int .i64) (.pair (.int .i64) (.pair (.int .i64) (.pair (.int .i64) (.sl yPC)))))))
def tab : Tab := [
  (3, ⟨.int, 1, 8, false, some (.int .i64), [.c (.int .i64 0)], [.i .i64], true⟩),
  (4, ⟨.bool, 1, 1, false, some .bool, [.c (.bool false)], [.b], true⟩),
  (5, ⟨.int, 1, 1, false, some (.int .u8), [.c (.int .u8 0)], [.i .u8], true⟩),
  (9, ⟨.str, 1, 16, false, some .str, [.c (.str ByteArray.empty)], [.s], true⟩),
  (22, ⟨(.slice 61), 1, 24, false, some (.sl yCT), [.s 61 yCT], [], true⟩),
  (23, ⟨(.slice 65), 1, 24, false, some (.sl yPM), [.s 65 yPM], [], true⟩),
  (24, ⟨(.slice 3), 1, 24, false, some (.sl (.int .i64)), [.s 3 (.int .i64)], [], true⟩),
  (25, ⟨(.slice 41), 1, 24, false, some (.sl yPL), [.s 41 yPL], [], true⟩),
  (27, ⟨(.struct [(0, 1, false), (1, 1, false)]), 2, 32, true, some yTK, [.c (.int .i64 0), .s 41 yPL], [], true⟩),
  (30, ⟨(.ptr 67), 1, 8, false, .none, [.c .nilp], [], false⟩),
  (34, ⟨(.slice 77), 1, 24, false, some (.sl yOP), [.s 77 yOP], [], true⟩),
  (37, ⟨(.slice 22), 1, 24, false, some (.sl (.sl yCT)), [.s 22 (.sl yCT)], [], true⟩),
  (38, ⟨(.slice 23), 1, 24, false, some (.sl (.sl yPM)), [.s 23 (.sl yPM)], [], true⟩),
  (41, ⟨(.struct [(0, 1, false), (1, 1, false), (2, 1, false)]), 3, 24, true, some yPL, [.c (.int .i64 0), .c (.int .i64 0), .c (.int .i64 0)], [.i .i64, .i .i64, .i .i64], true⟩),
  (43, ⟨(.slice 25), 1, 24, false, some (.sl (.sl yPL)), [.s 25 (.sl yPL)], [], true⟩),
  (44, ⟨(.slice 27), 1, 24, false, some (.sl yTK), [.s 27 yTK], [], true⟩),
  (45, ⟨.int, 1, 8, false, some (.int .i64), [.c (.int .i64 0)], [.i .i64], true⟩),
  (58, ⟨(.struct [(0, 1, false), (1, 1, false), (2, 1, false), (3, 1, false)]), 4, 48, true, some yFL, [.c (.str ByteArray.empty), .c (.int .i64 0), .c (.str ByteArray.empty), .c (.int .i64 0)], [.s, .i .i64, .s, .i .i64], true⟩),
  (59, ⟨(.slice 63), 1, 24, false, some (.sl yPC), [.s 63 yPC], [], true⟩),
  (61, ⟨(.struct [(0, 1, false), (1, 4, true), (5, 1, false), (6, 1, false), (7, 1, false), (8, 1, false), (9, 1, false), (10, 1, false)]), 11, 120, true, some yCT, [.c (.int .i64 0), .c (.str ByteArray.empty), .c (.int .i64 0), .c (.str ByteArray.empty), .c (.int .i64 0), .c (.int .i64 0), .c (.int .i64 0), .c (.int .i64 0), .c (.int .i64 0), .c (.int .i64 0), .s 63 yPC], [], true⟩),
  (63, ⟨(.struct [(0, 3, true), (3, 1, false), (4, 1, false)]), 5, 40, true, some yPC, [.c (.int .i64 0), .c (.int .i64 0), .c (.int .i64 0), .c (.int .i64 0), .c (.int .i64 0)], [.i .i64, .i .i64, .i .i64, .i .i64, .i .i64], true⟩),
  (65, ⟨(.struct [(0, 5, true), (5, 1, false), (6, 1, false)]), 7, 72, true, some yPM, [.c (.int .i64 0), .c (.int .i64 0), .c (.int .i64 0), .c (.int .i64 0), .c (.int .i64 0), .c (.int .i64 0), .s 3 (.int .i64)], [], true⟩),
  (67, ⟨(.struct [(0, 1, false), (1, 1, false)]), 2, 32, true, some ySR, [.s 3 (.int .i64), .c (.int .i64 0)], [], true⟩),
  (74, ⟨(.array 5 3 (.int .i64)), 5, 40, true, some yBR, [.c (.int .i64 0), .c (.int .i64 0), .c (.int .i64 0), .c (.int .i64 0), .c (.int .i64 0)], [], false⟩),
  (77, ⟨(.struct [(0, 1, false), (1, 1, false), (2, 1, false), (3, 1, false), (4, 1, false), (5, 5, true)]), 10, 80, true, some yOP, [.c (.int .i64 0), .c (.int .i64 0), .c (.int .i64 0), .c (.int .i64 0), .c (.int .i64 0), .c (.int .i64 0), .c (.int .i64 0), .c (.int .i64 0), .c (.int .i64 0), .c (.int .i64 0)], [.i .i64, .i .i64, .i .i64, .i .i64, .i .i64, .i .i64, .i .i64, .i .i64, .i .i64, .i .i64], true⟩),
  (81, ⟨.other, 1, 8, false, .none, [], [], false⟩),
  (82, ⟨.other, 1, 8, false, .none, [], [], false⟩),
  (84, ⟨.other, 1, 8, false, .none, [], [], false⟩),
  (87, ⟨(.ptr 27), 1, 8, false, .none, [.c .nilp], [], false⟩),
  (92, ⟨.other, 1, 8, false, .none, [], [], false⟩),
  (93, ⟨.other, 1, 8, false, .none, [], [], false⟩),
  (99, ⟨.other, 1, 8, false, .none, [], [], false⟩),
  (109, ⟨(.slice 9), 1, 24, false, some (.sl .str), [.s 9 .str], [], true⟩),
  (113, ⟨(.map 117 4), 1, 8, false, .none, [.c .undef], [], false⟩),
  (114, ⟨(.map 41 4), 1, 8, false, .none, [.c .undef], [], false⟩),
  (117, ⟨(.struct [(0, 4, true), (4, 1, false)]), 5, 56, true, some (.pair yFL (.int .i64)), [.c (.str ByteArray.empty), .c (.int .i64 0), .c (.str ByteArray.empty), .c (.int .i64 0), .c (.int .i64 0)], [.s, .i .i64, .s, .i .i64, .i .i64], true⟩),
  (122, ⟨.other, 1, 8, false, .none, [], [], false⟩),
  (126, ⟨.int, 1, 8, false, some (.int .u64), [.c (.int .u64 0)], [.i .u64], true⟩),
  (132, ⟨.other, 1, 8, false, .none, [], [], false⟩),
  (136, ⟨.int, 1, 8, false, some (.int .i64), [.c (.int .i64 0)], [.i .i64], true⟩),
  (143, ⟨.int, 1, 4, false, some (.int .u32), [.c (.int .u32 0)], [.i .u32], true⟩),
  (145, ⟨.int, 1, 8, false, some (.int .u64), [.c (.int .u64 0)], [.i .u64], true⟩),
  (147, ⟨.other, 1, 8, false, .none, [], [], false⟩),
  (156, ⟨.int, 1, 8, false, some (.int .u64), [.c (.int .u64 0)], [.i .u64], true⟩),
  (160, ⟨(.ptr 3), 1, 8, false, .none, [.c .nilp], [], false⟩),
  (167, ⟨(.ptr 156), 1, 8, false, .none, [.c .nilp], [], false⟩),
  (175, ⟨.other, 1, 8, false, .none, [], [], false⟩)]
theorem tab_ok : TabOK Tryz.prog tab := tabB_ok (by kernel_rfl)
theorem tab_3 : TI.of tab 3 = ⟨.int, 1, 8, false, some (.int .i64), [.c (.int .i64 0)], [.i .i64], true⟩ := rfl
theorem tab_4 : TI.of tab 4 = ⟨.bool, 1, 1, false, some .bool, [.c (.bool false)], [.b], true⟩ := rfl
theorem tab_5 : TI.of tab 5 = ⟨.int, 1, 1, false, some (.int .u8), [.c (.int .u8 0)], [.i .u8], true⟩ := rfl
theorem tab_9 : TI.of tab 9 = ⟨.str, 1, 16, false, some .str, [.c (.str ByteArray.empty)], [.s], true⟩ := rfl
theorem tab_22 : TI.of tab 22 = ⟨(.slice 61), 1, 24, false, some (.sl yCT), [.s 61 yCT], [], true⟩ := rfl
theorem tab_23 : TI.of tab 23 = ⟨(.slice 65), 1, 24, false, some (.sl yPM), [.s 65 yPM], [], true⟩ := rfl
theorem tab_24 : TI.of tab 24 = ⟨(.slice 3), 1, 24, false, some (.sl (.int .i64)), [.s 3 (.int .i64)], [], true⟩ := rfl
theorem tab_25 : TI.of tab 25 = ⟨(.slice 41), 1, 24, false, some (.sl yPL), [.s 41 yPL], [], true⟩ := rfl
theorem tab_27 : TI.of tab 27 = ⟨(.struct [(0, 1, false), (1, 1, false)]), 2, 32, true, some yTK, [.c (.int .i64 0), .s 41 yPL], [], true⟩ := rfl
theorem tab_30 : TI.of tab 30 = ⟨(.ptr 67), 1, 8, false, .none, [.c .nilp], [], false⟩ := rfl
theorem tab_34 : TI.of tab 34 = ⟨(.slice 77), 1, 24, false, some (.sl yOP), [.s 77 yOP], [], true⟩ := rfl
theorem tab_37 : TI.of tab 37 = ⟨(.slice 22), 1, 24, false, some (.sl (.sl yCT)), [.s 22 (.sl yCT)], [], true⟩ := rfl
theorem tab_38 : TI.of tab 38 = ⟨(.slice 23), 1, 24, false, some (.sl (.sl yPM)), [.s 23 (.sl yPM)], [], true⟩ := rfl
theorem tab_41 : TI.of tab 41 = ⟨(.struct [(0, 1, false), (1, 1, false), (2, 1, false)]), 3, 24, true, some yPL, [.c (.int .i64 0), .c (.int .i64 0), .c (.int .i64 0)], [.i .i64, .i .i64, .i .i64], true⟩ := rfl
theorem tab_43 : TI.of tab 43 = ⟨(.slice 25), 1, 24, false, some (.sl (.sl yPL)), [.s 25 (.sl yPL)], [], true⟩ := rfl
theorem tab_44 : TI.of tab 44 = ⟨(.slice 27), 1, 24, false, some (.sl yTK), [.s 27 yTK], [], true⟩ := rfl
theorem tab_45 : TI.of tab 45 = ⟨.int, 1, 8, false, some (.int .i64), [.c (.int .i64 0)], [.i .i64], true⟩ := rfl
theorem tab_58 : TI.of tab 58 = ⟨(.struct [(0, 1, false), (1, 1, false), (2, 1, false), (3, 1, false)]), 4, 48, true, some yFL, [.c (.str ByteArray.empty), .c (.int .i64 0), .c (.str ByteArray.empty), .c (.int .i64 0)], [.s, .i .i64, .s, .i .i64], true⟩ := rfl
theorem tab_59 : TI.of tab 59 = ⟨(.slice 63), 1, 24, false, some (.sl yPC), [.s 63 yPC], [], true⟩ := rfl
theorem tab_61 : TI.of tab 61 = ⟨(.struct [(0, 1, false), (1, 4, true), (5, 1, false), (6, 1, false), (7, 1, false), (8, 1, false), (9, 1, false), (10, 1, false)]), 11, 120, true, some yCT, [.c (.int .i64 0), .c (.str ByteArray.empty), .c (.int .i64 0), .c (.str ByteArray.empty), .c (.int .i64 0), .c (.int .i64 0), .c (.int .i64 0), .c (.int .i64 0), .c (.int .i64 0), .c (.int .i64 0), .s 63 yPC], [], true⟩ := rfl
theorem tab_63 : TI.of tab 63 = ⟨(.struct [(0, 3, true), (3, 1, false), (4, 1, false)]), 5, 40, true, some yPC, [.c (.int .i64 0), .c (.int .i64 0), .c (.int .i64 0), .c (.int .i64 0), .c (.int .i64 0)], [.i .i64, .i .i64, .i .i64, .i .i64, .i .i64], true⟩ := rfl
theorem tab_65 : TI.of tab 65 = ⟨(.struct [(0, 5, true), (5, 1, false), (6, 1, false)]), 7, 72, true, some yPM, [.c (.int .i64 0), .c (.int .i64 0), .c (.int .i64 0), .c (.int .i64 0), .c (.int .i64 0), .c (.int .i64 0), .s 3 (.int .i64)], [], true⟩ := rfl
theorem tab_67 : TI.of tab 67 = ⟨(.struct [(0, 1, false), (1, 1, false)]), 2, 32, true, some ySR, [.s 3 (.int .i64), .c (.int .i64 0)], [], true⟩ := rfl
theorem tab_74 : TI.of tab 74 = ⟨(.array 5 3 (.int .i64)), 5, 40, true, some yBR, [.c (.int .i64 0), .c (.int .i64 0), .c (.int .i64 0), .c (.int .i64 0), .c (.int .i64 0)], [], false⟩ := rfl
theorem tab_77 : TI.of tab 77 = ⟨(.struct [(0, 1, false), (1, 1, false), (2, 1, false), (3, 1, false), (4, 1, false), (5, 5, true)]), 10, 80, true, some yOP, [.c (.int .i64 0), .c (.int .i64 0), .c (.int .i64 0), .c (.int .i64 0), .c (.int .i64 0), .c (.int .i64 0), .c (.int .i64 0), .c (.int .i64 0), .c (.int .i64 0), .c (.int .i64 0)], [.i .i64, .i .i64, .i .i64, .i .i64, .i .i64, .i .i64, .i .i64, .i .i64, .i .i64, .i .i64], true⟩ := rfl
theorem tab_81 : TI.of tab 81 = ⟨.other, 1, 8, false, .none, [], [], false⟩ := rfl
theorem tab_82 : TI.of tab 82 = ⟨.other, 1, 8, false, .none, [], [], false⟩ := rfl
theorem tab_84 : TI.of tab 84 = ⟨.other, 1, 8, false, .none, [], [], false⟩ := rfl
theorem tab_87 : TI.of tab 87 = ⟨(.ptr 27), 1, 8, false, .none, [.c .nilp], [], false⟩ := rfl
theorem tab_92 : TI.of tab 92 = ⟨.other, 1, 8, false, .none, [], [], false⟩ := rfl
theorem tab_93 : TI.of tab 93 = ⟨.other, 1, 8, false, .none, [], [], false⟩ := rfl
theorem tab_99 : TI.of tab 99 = ⟨.other, 1, 8, false, .none, [], [], false⟩ := rfl
theorem tab_109 : TI.of tab 109 = ⟨(.slice 9), 1, 24, false, some (.sl .str), [.s 9 .str], [], true⟩ := rfl
theorem tab_113 : TI.of tab 113 = ⟨(.map 117 4), 1, 8, false, .none, [.c .undef], [], false⟩ := rfl
theorem tab_114 : TI.of tab 114 = ⟨(.map 41 4), 1, 8, false, .none, [.c .undef], [], false⟩ := rfl
theorem tab_117 : TI.of tab 117 = ⟨(.struct [(0, 4, true), (4, 1, false)]), 5, 56, true, some (.pair yFL (.int .i64)), [.c (.str ByteArray.empty), .c (.int .i64 0), .c (.str ByteArray.empty), .c (.int .i64 0), .c (.int .i64 0)], [.s, .i .i64, .s, .i .i64, .i .i64], true⟩ := rfl
theorem tab_122 : TI.of tab 122 = ⟨.other, 1, 8, false, .none, [], [], false⟩ := rfl
theorem tab_126 : TI.of tab 126 = ⟨.int, 1, 8, false, some (.int .u64), [.c (.int .u64 0)], [.i .u64], true⟩ := rfl
theorem tab_132 : TI.of tab 132 = ⟨.other, 1, 8, false, .none, [], [], false⟩ := rfl
theorem tab_136 : TI.of tab 136 = ⟨.int, 1, 8, false, some (.int .i64), [.c (.int .i64 0)], [.i .i64], true⟩ := rfl
theorem tab_143 : TI.of tab 143 = ⟨.int, 1, 4, false, some (.int .u32), [.c (.int .u32 0)], [.i .u32], true⟩ := rfl
theorem tab_145 : TI.of tab 145 = ⟨.int, 1, 8, false, some (.int .u64), [.c (.int .u64 0)], [.i .u64], true⟩ := rfl
theorem tab_147 : TI.of tab 147 = ⟨.other, 1, 8, false, .none, [], [], false⟩ := rfl
theorem tab_156 : TI.of tab 156 = ⟨.int, 1, 8, false, some (.int .u64), [.c (.int .u64 0)], [.i .u64], true⟩ := rfl
theorem tab_160 : TI.of tab 160 = ⟨(.ptr 3), 1, 8, false, .none, [.c .nilp], [], false⟩ := rfl
theorem tab_167 : TI.of tab 167 = ⟨(.ptr 156), 1, 8, false, .none, [.c .nilp], [], false⟩ := rfl
theorem tab_175 : TI.of tab 175 = ⟨.other, 1, 8, false, .none, [], [], false⟩ := rfl
attribute [go_sem] tab_3 tab_4 tab_5 tab_9 tab_22 tab_23 tab_24 tab_25 tab_27 tab_30 tab_34 tab_37 tab_38 tab_41 tab_43 tab_44 tab_45 tab_58 tab_59 tab_61 tab_63 tab_65 tab_67 tab_74 tab_77 tab_81 tab_82 tab_84 tab_87 tab_92 tab_93 tab_99 tab_109 tab_113 tab_114 tab_117 tab_122 tab_126 tab_132 tab_136 tab_143 tab_145 tab_147 tab_156 tab_160 tab_167 tab_175
end Go.Proofs.YtomdgacmoeohnaaGreat
