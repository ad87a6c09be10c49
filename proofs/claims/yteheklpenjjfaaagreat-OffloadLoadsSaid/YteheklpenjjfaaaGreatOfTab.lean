/- The types of the functions, as a table; it is checked against the program. -/
import Derived.Test.YteheklpenjjfaaaGreatEvTab
import Derived.Test.YteheklpenjjfaaaGreatRows
namespace Go.Proofs.YteheklpenjjfaaaGreat
open Go.Ev
abbrev ySR : Ty := .pair (.sl (.int .i64)) (.int .i64)
abbrev yPL : Ty := .pair (.int .i64) (.pair (.int .i64) (.int .i64))
abbrev yFL : Ty := .pair .str (.pair (.int .i64) (.pair .str (.int .i64)))
abbrev yPC : Ty := .pair (.pair (.int .i64) (.pair (.int .i64) (.int .i64))) (.pair (.int .i64) (.int .i64))
abbrev yGR : Ty := .pair (.pair (.pair (.int .i64) (.pair (.int .i64) (.int .i64))) (.pair (.int .i64) (.int .i64))) (.pair .str (.pair (.int .i64) (.pair .str (.int .i64))))
abbrev yBR : Ty := .pair (.int .i64) (.pair (.int .i64) (.pair (.int .i64) (.pair (.int .i64) (.int .i64))))
abbrev yTK : Ty := .pair (.int .i64) (.sl (.pair (.int .i64) (.pair (.int .i64) (.int .i64))))
abbrev yRU : Ty := .pair (.pair (.int .i64) (.pair (.int .i64) (.int .i64))) (.pair .bool (.pair (.int .i64) (.int .i64)))
abbrev yPM : Ty := .pair (.pair (.pair (.int .i64) (.pair (.int .i64) (.int .i64))) (.pair (.int .i64) (.int .i64))) (.pair (.int .i64) (.sl (.int .i64)))
abbrev yOP : Ty := .pair (.int .i64) (.pair (.int .i64) (.pair (.int .i64) (.pair (.int .i64) (.pair (.int .i64) (.pair (.pair (.int .i64) (.pair (.int .i64) (.int .i64))) (.pair (.int .i64) (.int .i64)))))))
abbrev yDP : Ty := .pair (.pair .str (.pair (.int .i64) (.pair .str (.int .i64)))) (.pair .str (.pair (.int .i64) (.pair (.int .i64) (.pair (.int .i64) (.pair (.int .i64) (.int .i64))))))
abbrev yCT : Ty := .pair (.int .i64) (.pair (.pair .str (.pair (.int .i64) (.pair .str (.int .i64)))) (.pair (.int .i64) (.pair (.int .i64) (.pair (.int .i64) (.pair (.int .i64) (.pair (.int .i64) (.sl (.pair (.pair (.int .i64) (.pair (.int .i64) (.int .i64))) (.pair (.int .i64) (.int .i64))))))))))
abbrev yHH : Ty := .pair (.int .i64) (.pair (.int .i64) (.pair (.int .i64) (.pair .bool (.pair (.sl (.pair (.pair (.pair (.int .i64) (.pair (.int .i64) (.int .i64))) (.pair (.int .i64) (.int .i64))) (.pair .str (.pair (.int .i64) (.pair .str (.int .i64)))))) (.pair (.sl (.pair (.int .i64) (.pair (.pair .str (.pair (.int .i64) (.pair .str (.int .i64)))) (.pair (.int .i64) (.pair (.int .i64) (.pair (.int .i64) (.pair (.int .i64) (.pair (.int .i64) (.sl (.pair (.pair (.int .i64) (.pair (.int .i64) (.int .i64))) (.pair (.int .i64) (.int .i64)))))))))))) (.sl (.pair (.int .i64) (.pair (.int .i64) (.pair (.int .i64) (.pair (.int .i64) (.pair (.int .i64) (.pair (.pair (.int .i64) (.pair (.int .i64) (.int .i64))) (.pair (.int .i64) (.int .i64))))))))))))))

def tab : Tab := [
  (3, ⟨.int, 1, 8, false, some (.int .i64), [.c (.int .i64 0)], [.i .i64], true⟩),
  (4, ⟨.bool, 1, 1, false, some .bool, [.c (.bool false)], [.b], true⟩),
  (5, ⟨.int, 1, 1, false, some (.int .u8), [.c (.int .u8 0)], [.i .u8], true⟩),
  (9, ⟨.str, 1, 16, false, some .str, [.c (.str ByteArray.empty)], [.s], true⟩),
  (22, ⟨(.slice 44), 1, 24, false, some (.sl yCT), [.s 44 yCT], [], true⟩),
  (23, ⟨(.slice 3), 1, 24, false, some (.sl (.int .i64)), [.s 3 (.int .i64)], [], true⟩),
  (25, ⟨(.struct [(0, 1, false), (1, 1, false), (2, 1, false), (3, 1, false)]), 4, 48, true, some yFL, [.c (.str ByteArray.empty), .c (.int .i64 0), .c (.str ByteArray.empty), .c (.int .i64 0)], [.s, .i .i64, .s, .i .i64], true⟩),
  (26, ⟨(.slice 57), 1, 24, false, some (.sl yTK), [.s 57 yTK], [], true⟩),
  (28, ⟨(.ptr 62), 1, 8, false, .none, [.c .nilp], [], false⟩),
  (32, ⟨(.slice 22), 1, 24, false, some (.sl (.sl yCT)), [.s 22 (.sl yCT)], [], true⟩),
  (35, ⟨(.slice 25), 1, 24, false, some (.sl yFL), [.s 25 yFL], [], true⟩),
  (37, ⟨(.slice 26), 1, 24, false, some (.sl (.sl yTK)), [.s 26 (.sl yTK)], [], true⟩),
  (38, ⟨.int, 1, 8, false, some (.int .i64), [.c (.int .i64 0)], [.i .i64], true⟩),
  (42, ⟨(.slice 68), 1, 24, false, some (.sl yPC), [.s 68 yPC], [], true⟩),
  (44, ⟨(.struct [(0, 1, false), (1, 4, true), (5, 1, false), (6, 1, false), (7, 1, false), (8, 1, false), (9, 1, false), (10, 1, false)]), 11, 120, true, some yCT, [.c (.int .i64 0), .c (.str ByteArray.empty), .c (.int .i64 0), .c (.str ByteArray.empty), .c (.int .i64 0), .c (.int .i64 0), .c (.int .i64 0), .c (.int .i64 0), .c (.int .i64 0), .c (.int .i64 0), .s 68 yPC], [], true⟩),
  (51, ⟨(.map 25 3), 1, 8, false, .none, [.c .undef], [], false⟩),
  (52, ⟨(.map 3 4), 1, 8, false, .none, [.c .undef], [], false⟩),
  (55, ⟨(.slice 65), 1, 24, false, some (.sl yPL), [.s 65 yPL], [], true⟩),
  (57, ⟨(.struct [(0, 1, false), (1, 1, false)]), 2, 32, true, some yTK, [.c (.int .i64 0), .s 65 yPL], [], true⟩),
  (62, ⟨(.struct [(0, 1, false), (1, 1, false)]), 2, 32, true, some ySR, [.s 3 (.int .i64), .c (.int .i64 0)], [], true⟩),
  (65, ⟨(.struct [(0, 1, false), (1, 1, false), (2, 1, false)]), 3, 24, true, some yPL, [.c (.int .i64 0), .c (.int .i64 0), .c (.int .i64 0)], [.i .i64, .i .i64, .i .i64], true⟩),
  (68, ⟨(.struct [(0, 3, true), (3, 1, false), (4, 1, false)]), 5, 40, true, some yPC, [.c (.int .i64 0), .c (.int .i64 0), .c (.int .i64 0), .c (.int .i64 0), .c (.int .i64 0)], [.i .i64, .i .i64, .i .i64, .i .i64, .i .i64], true⟩),
  (70, ⟨(.slice 9), 1, 24, false, some (.sl .str), [.s 9 .str], [], true⟩),
  (75, ⟨.other, 1, 8, false, .none, [], [], false⟩),
  (81, ⟨(.struct [(0, 5, true), (5, 1, false), (6, 1, false)]), 7, 72, true, some yPM, [.c (.int .i64 0), .c (.int .i64 0), .c (.int .i64 0), .c (.int .i64 0), .c (.int .i64 0), .c (.int .i64 0), .s 3 (.int .i64)], [], true⟩),
  (82, ⟨(.slice 81), 1, 24, false, some (.sl yPM), [.s 81 yPM], [], true⟩),
  (86, ⟨(.map 90 4), 1, 8, false, .none, [.c .undef], [], false⟩),
  (87, ⟨(.map 65 4), 1, 8, false, .none, [.c .undef], [], false⟩),
  (90, ⟨(.struct [(0, 4, true), (4, 1, false)]), 5, 56, true, some (.pair yFL (.int .i64)), [.c (.str ByteArray.empty), .c (.int .i64 0), .c (.str ByteArray.empty), .c (.int .i64 0), .c (.int .i64 0)], [.s, .i .i64, .s, .i .i64, .i .i64], true⟩),
  (92, ⟨.other, 1, 8, false, .none, [], [], false⟩),
  (94, ⟨.other, 1, 8, false, .none, [], [], false⟩),
  (101, ⟨.other, 1, 8, false, .none, [], [], false⟩),
  (102, ⟨.other, 1, 8, false, .none, [], [], false⟩),
  (104, ⟨.other, 1, 8, false, .none, [], [], false⟩),
  (106, ⟨(.ptr 57), 1, 8, false, .none, [.c .nilp], [], false⟩),
  (110, ⟨.other, 1, 8, false, .none, [], [], false⟩),
  (112, ⟨.other, 1, 8, false, .none, [], [], false⟩),
  (115, ⟨.int, 1, 8, false, some (.int .u64), [.c (.int .u64 0)], [.i .u64], true⟩),
  (118, ⟨.other, 1, 8, false, .none, [], [], false⟩),
  (129, ⟨.int, 1, 8, false, some (.int .i64), [.c (.int .i64 0)], [.i .i64], true⟩),
  (136, ⟨.int, 1, 4, false, some (.int .u32), [.c (.int .u32 0)], [.i .u32], true⟩),
  (138, ⟨.int, 1, 8, false, some (.int .u64), [.c (.int .u64 0)], [.i .u64], true⟩),
  (148, ⟨.int, 1, 8, false, some (.int .u64), [.c (.int .u64 0)], [.i .u64], true⟩),
  (152, ⟨(.ptr 3), 1, 8, false, .none, [.c .nilp], [], false⟩),
  (161, ⟨.other, 1, 8, false, .none, [], [], false⟩),
  (163, ⟨(.ptr 148), 1, 8, false, .none, [.c .nilp], [], false⟩)]

theorem tab_ok : TabOK Tryz.prog tab := tabB_ok (by kernel_rfl)
theorem tab_3 : TI.of tab 3 = ⟨.int, 1, 8, false, some (.int .i64), [.c (.int .i64 0)], [.i .i64], true⟩ := rfl
theorem tab_4 : TI.of tab 4 = ⟨.bool, 1, 1, false, some .bool, [.c (.bool false)], [.b], true⟩ := rfl
theorem tab_5 : TI.of tab 5 = ⟨.int, 1, 1, false, some (.int .u8), [.c (.int .u8 0)], [.i .u8], true⟩ := rfl
theorem tab_9 : TI.of tab 9 = ⟨.str, 1, 16, false, some .str, [.c (.str ByteArray.empty)], [.s], true⟩ := rfl
theorem tab_22 : TI.of tab 22 = ⟨(.slice 44), 1, 24, false, some (.sl yCT), [.s 44 yCT], [], true⟩ := rfl
theorem tab_23 : TI.of tab 23 = ⟨(.slice 3), 1, 24, false, some (.sl (.int .i64)), [.s 3 (.int .i64)], [], true⟩ := rfl
theorem tab_25 : TI.of tab 25 = ⟨(.struct [(0, 1, false), (1, 1, false), (2, 1, false), (3, 1, false)]), 4, 48, true, some yFL, [.c (.str ByteArray.empty), .c (.int .i64 0), .c (.str ByteArray.empty), .c (.int .i64 0)], [.s, .i .i64, .s, .i .i64], true⟩ := rfl
theorem tab_26 : TI.of tab 26 = ⟨(.slice 57), 1, 24, false, some (.sl yTK), [.s 57 yTK], [], true⟩ := rfl
theorem tab_28 : TI.of tab 28 = ⟨(.ptr 62), 1, 8, false, .none, [.c .nilp], [], false⟩ := rfl
theorem tab_32 : TI.of tab 32 = ⟨(.slice 22), 1, 24, false, some (.sl (.sl yCT)), [.s 22 (.sl yCT)], [], true⟩ := rfl
theorem tab_35 : TI.of tab 35 = ⟨(.slice 25), 1, 24, false, some (.sl yFL), [.s 25 yFL], [], true⟩ := rfl
theorem tab_37 : TI.of tab 37 = ⟨(.slice 26), 1, 24, false, some (.sl (.sl yTK)), [.s 26 (.sl yTK)], [], true⟩ := rfl
theorem tab_38 : TI.of tab 38 = ⟨.int, 1, 8, false, some (.int .i64), [.c (.int .i64 0)], [.i .i64], true⟩ := rfl
theorem tab_42 : TI.of tab 42 = ⟨(.slice 68), 1, 24, false, some (.sl yPC), [.s 68 yPC], [], true⟩ := rfl
theorem tab_44 : TI.of tab 44 = ⟨(.struct [(0, 1, false), (1, 4, true), (5, 1, false), (6, 1, false), (7, 1, false), (8, 1, false), (9, 1, false), (10, 1, false)]), 11, 120, true, some yCT, [.c (.int .i64 0), .c (.str ByteArray.empty), .c (.int .i64 0), .c (.str ByteArray.empty), .c (.int .i64 0), .c (.int .i64 0), .c (.int .i64 0), .c (.int .i64 0), .c (.int .i64 0), .c (.int .i64 0), .s 68 yPC], [], true⟩ := rfl
theorem tab_51 : TI.of tab 51 = ⟨(.map 25 3), 1, 8, false, .none, [.c .undef], [], false⟩ := rfl
theorem tab_52 : TI.of tab 52 = ⟨(.map 3 4), 1, 8, false, .none, [.c .undef], [], false⟩ := rfl
theorem tab_55 : TI.of tab 55 = ⟨(.slice 65), 1, 24, false, some (.sl yPL), [.s 65 yPL], [], true⟩ := rfl
theorem tab_57 : TI.of tab 57 = ⟨(.struct [(0, 1, false), (1, 1, false)]), 2, 32, true, some yTK, [.c (.int .i64 0), .s 65 yPL], [], true⟩ := rfl
theorem tab_62 : TI.of tab 62 = ⟨(.struct [(0, 1, false), (1, 1, false)]), 2, 32, true, some ySR, [.s 3 (.int .i64), .c (.int .i64 0)], [], true⟩ := rfl
theorem tab_65 : TI.of tab 65 = ⟨(.struct [(0, 1, false), (1, 1, false), (2, 1, false)]), 3, 24, true, some yPL, [.c (.int .i64 0), .c (.int .i64 0), .c (.int .i64 0)], [.i .i64, .i .i64, .i .i64], true⟩ := rfl
theorem tab_68 : TI.of tab 68 = ⟨(.struct [(0, 3, true), (3, 1, false), (4, 1, false)]), 5, 40, true, some yPC, [.c (.int .i64 0), .c (.int .i64 0), .c (.int .i64 0), .c (.int .i64 0), .c (.int .i64 0)], [.i .i64, .i .i64, .i .i64, .i .i64, .i .i64], true⟩ := rfl
theorem tab_70 : TI.of tab 70 = ⟨(.slice 9), 1, 24, false, some (.sl .str), [.s 9 .str], [], true⟩ := rfl
theorem tab_75 : TI.of tab 75 = ⟨.other, 1, 8, false, .none, [], [], false⟩ := rfl
theorem tab_81 : TI.of tab 81 = ⟨(.struct [(0, 5, true), (5, 1, false), (6, 1, false)]), 7, 72, true, some yPM, [.c (.int .i64 0), .c (.int .i64 0), .c (.int .i64 0), .c (.int .i64 0), .c (.int .i64 0), .c (.int .i64 0), .s 3 (.int .i64)], [], true⟩ := rfl
theorem tab_82 : TI.of tab 82 = ⟨(.slice 81), 1, 24, false, some (.sl yPM), [.s 81 yPM], [], true⟩ := rfl
theorem tab_86 : TI.of tab 86 = ⟨(.map 90 4), 1, 8, false, .none, [.c .undef], [], false⟩ := rfl
theorem tab_87 : TI.of tab 87 = ⟨(.map 65 4), 1, 8, false, .none, [.c .undef], [], false⟩ := rfl
theorem tab_90 : TI.of tab 90 = ⟨(.struct [(0, 4, true), (4, 1, false)]), 5, 56, true, some (.pair yFL (.int .i64)), [.c (.str ByteArray.empty), .c (.int .i64 0), .c (.str ByteArray.empty), .c (.int .i64 0), .c (.int .i64 0)], [.s, .i .i64, .s, .i .i64, .i .i64], true⟩ := rfl
theorem tab_92 : TI.of tab 92 = ⟨.other, 1, 8, false, .none, [], [], false⟩ := rfl
theorem tab_94 : TI.of tab 94 = ⟨.other, 1, 8, false, .none, [], [], false⟩ := rfl
theorem tab_101 : TI.of tab 101 = ⟨.other, 1, 8, false, .none, [], [], false⟩ := rfl
theorem tab_102 : TI.of tab 102 = ⟨.other, 1, 8, false, .none, [], [], false⟩ := rfl
theorem tab_104 : TI.of tab 104 = ⟨.other, 1, 8, false, .none, [], [], false⟩ := rfl
theorem tab_106 : TI.of tab 106 = ⟨(.ptr 57), 1, 8, false, .none, [.c .nilp], [], false⟩ := rfl
theorem tab_110 : TI.of tab 110 = ⟨.other, 1, 8, false, .none, [], [], false⟩ := rfl
theorem tab_112 : TI.of tab 112 = ⟨.other, 1, 8, false, .none, [], [], false⟩ := rfl
theorem tab_115 : TI.of tab 115 = ⟨.int, 1, 8, false, some (.int .u64), [.c (.int .u64 0)], [.i .u64], true⟩ := rfl
theorem tab_118 : TI.of tab 118 = ⟨.other, 1, 8, false, .none, [], [], false⟩ := rfl
theorem tab_129 : TI.of tab 129 = ⟨.int, 1, 8, false, some (.int .i64), [.c (.int .i64 0)], [.i .i64], true⟩ := rfl
theorem tab_136 : TI.of tab 136 = ⟨.int, 1, 4, false, some (.int .u32), [.c (.int .u32 0)], [.i .u32], true⟩ := rfl
theorem tab_138 : TI.of tab 138 = ⟨.int, 1, 8, false, some (.int .u64), [.c (.int .u64 0)], [.i .u64], true⟩ := rfl
theorem tab_148 : TI.of tab 148 = ⟨.int, 1, 8, false, some (.int .u64), [.c (.int .u64 0)], [.i .u64], true⟩ := rfl
theorem tab_152 : TI.of tab 152 = ⟨(.ptr 3), 1, 8, false, .none, [.c .nilp], [], false⟩ := rfl
theorem tab_161 : TI.of tab 161 = ⟨.other, 1, 8, false, .none, [], [], false⟩ := rfl
theorem tab_163 : TI.of tab 163 = ⟨(.ptr 148), 1, 8, false, .none, [.c .nilp], [], false⟩ := rfl
attribute [go_sem] tab_3 tab_4 tab_5 tab_9 tab_22 tab_23 tab_25 tab_26 tab_28 tab_32 tab_35 tab_37 tab_38 tab_42 tab_44 tab_51 tab_52 tab_55 tab_57 tab_62 tab_65 tab_68 tab_70 tab_75 tab_81 tab_82 tab_86 tab_87 tab_90 tab_92 tab_94 tab_101 tab_102 tab_104 tab_106 tab_110 tab_112 tab_115 tab_118 tab_129 tab_136 tab_138 tab_148 tab_152 tab_161 tab_163

end Go.Proofs.YteheklpenjjfaaaGreat
