/- The types of the functions, as a table; it is checked against the program. -/
import Derived.Test.YtdeihcabmpcaoaaGreatEvTab
import Derived.Test.YtdeihcabmpcaoaaGreatRows
namespace Go.Proofs.YtdeihcabmpcaoaaGreat
open Go.Ev
abbrev ySR : Ty := .pair (.sl (.int .i64)) (.int .i64)
abbrev yPL : Ty := .pair (.int .i64) (.pair (.int .i64) (.int .i64))
abbrev yFL : Ty := .pair .str (.pair (.int .i64) (.pair .str (.int .i64)))
abbrev yPC : Ty := .pair (.pair (.int .i64) (.pair (.int .i64) (.int .i64))) (.pair (.int .i64) (.int .i64))
abbrev yGR : Ty := .pair (.pair (.pair (.int .i64) (.pair (.int .i64) (.int .i64))) (.pair (.int .i64) (.int .i64))) (.pair .str (.pair (.int .i64) (.pair .str (.int .i64))))
abbrev yBR : Ty := .pair (.int .i64) (.pair (.int .i64) (.pair (.int .i64) (.pair (.int .i64) (.int .i64))))
abbrev yTK : Ty := .pair (.int .i64) (.sl (.pair (.int .i64) (.pair (.int .i64) (.int .i64))))
abbrev yRU : Ty := .pair (.pair (.int .i64) (.pair (.int .i64) (.int .i64))) (.pair .bool (.pair (.int .i64) (.int .i64)))
abbrev yPM : Ty := .pair (.pair (.pair (.int .i64) (.pair (.int .i64) (.int .i64))) (.pair (.int .i64) (.int .i64))) (.pair (.int .i64) (.sl (.int .i64)))
abbrev yOP : Ty := .pair (.int .i64) (.pair (.int .i64) (.pair (.int .i64) (.pair (.int .i64) (.pair (.int .i64) (.pair (.pair (.int .i64) (.pair (.int .i64) (.int .i64))) (.pair (.int .i64) (.int .i64)))))))
abbrev yDP : Ty := .pair (.pair .str (.pair (.int .i64) (.pair .str (.int .i64)))) (.pair .str (.pair (.int .i64) (.pair (.int .i64) (.pair (.int .i64) (.pair (.int .i64) (.int .i64))))))
abbrev yCT : Ty := .pair (.int .i64) (.pair (.pair .str (.pair (.int .i64) (.pair .str (.int .i64)))) (.pair (.int .i64) (.pair (.int .i64) (.pair (.int .i64) (.pair (.int .i64) (.pair (.int .i64) (.sl (.pair (.pair (.int .i64) (.pair (.int .i64) (.int .i64))) (.pair (.int .i64) (.int .i64))))))))))
abbrev yHH : Ty := .pair (.int .i64) (.pair (.int .i64) (.pair (.int .i64) (.pair .bool (.pair (.sl (.pair (.pair (.pair (.int .i64) (.pair (.int .i64) (.int .i64))) (.pair (.int .i64) (.int .i64))) (.pair .str (.pair (.int .i64) (.pair .str (.int .i64)))))) (.pair (.sl (.pair (.int .i64) (.pair (.pair .str (.pair (.int .i64) (.pair .str (.int .i64)))) (.pair (.int .i64) (.pair (.int .i64) (.pair (.int .i64) (.pair (.int .i64) (.pair (.int .i64) (.sl (.pair (.pair (.int .i64) (.pair (.int .i64) (.int .i64))) (.pair (.int .i64) (.int .i64)))))))))))) (.sl (.pair (.int .i64) (.pair (.int .i64) (.pair (.int .i64) (.pair (.int .i64) (.pair (.int .i64) (.pair (.pair (.int .i64) (.pair (.int .i64) (.int .i64))) (.pair (.int .i64) (.int .i64))))))))))))))

def tab : Tab := [
  (3, ⟨.int, 1, 8, false, some (.int .i64), [.c (.int .i64 0)], [.i .i64], true⟩),
  (4, ⟨.bool, 1, 1, false, some .bool, [.c (.bool false)], [.b], true⟩),
  (5, ⟨.int, 1, 1, false, some (.int .u8), [.c (.int .u8 0)], [.i .u8], true⟩),
  (9, ⟨.str, 1, 16, false, some .str, [.c (.str ByteArray.empty)], [.s], true⟩),
  (22, ⟨(.slice 3), 1, 24, false, some (.sl (.int .i64)), [.s 3 (.int .i64)], [], true⟩),
  (23, ⟨(.ptr 57), 1, 8, false, .none, [.c .nilp], [], false⟩),
  (25, ⟨(.slice 52), 1, 24, false, some (.sl yDP), [.s 52 yDP], [], true⟩),
  (27, ⟨(.slice 46), 1, 24, false, some (.sl (.pair yFL (.int .i64))), [.s 46 (.pair yFL (.int .i64))], [], true⟩),
  (28, ⟨(.slice 44), 1, 24, false, some (.sl yFL), [.s 44 yFL], [], true⟩),
  (30, ⟨(.struct [(0, 1, false), (1, 1, false), (2, 1, false)]), 3, 56, true, some (.pair (.sl (.pair yFL (.int .i64))) (.pair (.int .i64) (.sl yFL))), [.s 46 (.pair yFL (.int .i64)), .c (.int .i64 0), .s 44 yFL], [], true⟩),
  (31, ⟨.int, 1, 8, false, some (.int .i64), [.c (.int .i64 0)], [.i .i64], true⟩),
  (44, ⟨(.struct [(0, 1, false), (1, 1, false), (2, 1, false), (3, 1, false)]), 4, 48, true, some yFL, [.c (.str ByteArray.empty), .c (.int .i64 0), .c (.str ByteArray.empty), .c (.int .i64 0)], [.s, .i .i64, .s, .i .i64], true⟩),
  (46, ⟨(.struct [(0, 4, true), (4, 1, false)]), 5, 56, true, some (.pair yFL (.int .i64)), [.c (.str ByteArray.empty), .c (.int .i64 0), .c (.str ByteArray.empty), .c (.int .i64 0), .c (.int .i64 0)], [.s, .i .i64, .s, .i .i64, .i .i64], true⟩),
  (52, ⟨(.struct [(0, 4, true), (4, 1, false), (5, 1, false), (6, 1, false), (7, 1, false), (8, 1, false), (9, 1, false)]), 10, 104, true, some yDP, [.c (.str ByteArray.empty), .c (.int .i64 0), .c (.str ByteArray.empty), .c (.int .i64 0), .c (.str ByteArray.empty), .c (.int .i64 0), .c (.int .i64 0), .c (.int .i64 0), .c (.int .i64 0), .c (.int .i64 0)], [.s, .i .i64, .s, .i .i64, .s, .i .i64, .i .i64, .i .i64, .i .i64, .i .i64], true⟩),
  (57, ⟨(.struct [(0, 1, false), (1, 1, false)]), 2, 32, true, some ySR, [.s 3 (.int .i64), .c (.int .i64 0)], [], true⟩),
  (64, ⟨.other, 1, 8, false, .none, [], [], false⟩),
  (71, ⟨(.slice 81), 1, 24, false, some (.sl (.pair yFL (.pair (.int .i64) (.pair (.int .i64) (.pair (.int .i64) .bool))))), [.s 81 (.pair yFL (.pair (.int .i64) (.pair (.int .i64) (.pair (.int .i64) .bool))))], [], true⟩),
  (73, ⟨(.map 78 3), 1, 8, false, .none, [.c .undef], [], false⟩),
  (75, ⟨(.struct [(0, 1, false), (1, 1, false), (2, 1, false)]), 3, 40, true, .none, [.s 81 (.pair yFL (.pair (.int .i64) (.pair (.int .i64) (.pair (.int .i64) .bool)))), .c (.int .i64 0), .c .undef], [], false⟩),
  (76, ⟨(.array 6 3 (.int .i64)), 6, 48, true, some (.pair (.int .i64) yBR), [.c (.int .i64 0), .c (.int .i64 0), .c (.int .i64 0), .c (.int .i64 0), .c (.int .i64 0), .c (.int .i64 0)], [], false⟩),
  (78, ⟨(.struct [(0, 1, false), (1, 6, true)]), 7, 56, true, some (.pair (.int .i64) (.pair (.int .i64) yBR)), [.c (.int .i64 0), .c (.int .i64 0), .c (.int .i64 0), .c (.int .i64 0), .c (.int .i64 0), .c (.int .i64 0), .c (.int .i64 0)], [.i .i64, .i .i64, .i .i64, .i .i64, .i .i64, .i .i64, .i .i64], true⟩),
  (81, ⟨(.struct [(0, 4, true), (4, 1, false), (5, 1, false), (6, 1, false), (7, 1, false)]), 8, 80, true, some (.pair yFL (.pair (.int .i64) (.pair (.int .i64) (.pair (.int .i64) .bool)))), [.c (.str ByteArray.empty), .c (.int .i64 0), .c (.str ByteArray.empty), .c (.int .i64 0), .c (.int .i64 0), .c (.int .i64 0), .c (.int .i64 0), .c (.bool false)], [.s, .i .i64, .s, .i .i64, .i .i64, .i .i64, .i .i64, .b], true⟩),
  (86, ⟨.other, 1, 8, false, .none, [], [], false⟩),
  (90, ⟨(.slice 9), 1, 24, false, some (.sl .str), [.s 9 .str], [], true⟩),
  (95, ⟨.other, 1, 8, false, .none, [], [], false⟩),
  (100, ⟨.other, 1, 8, false, .none, [], [], false⟩),
  (101, ⟨(.ptr 75), 1, 8, false, .none, [.c .nilp], [], false⟩),
  (104, ⟨.int, 1, 8, false, some (.int .u64), [.c (.int .u64 0)], [.i .u64], true⟩),
  (113, ⟨.int, 1, 8, false, some (.int .i64), [.c (.int .i64 0)], [.i .i64], true⟩),
  (120, ⟨.int, 1, 4, false, some (.int .u32), [.c (.int .u32 0)], [.i .u32], true⟩),
  (122, ⟨.int, 1, 8, false, some (.int .u64), [.c (.int .u64 0)], [.i .u64], true⟩),
  (134, ⟨.int, 1, 8, false, some (.int .u64), [.c (.int .u64 0)], [.i .u64], true⟩),
  (138, ⟨(.ptr 3), 1, 8, false, .none, [.c .nilp], [], false⟩),
  (143, ⟨(.ptr 134), 1, 8, false, .none, [.c .nilp], [], false⟩),
  (145, ⟨.other, 1, 8, false, .none, [], [], false⟩)]

theorem tab_ok : TabOK Tryz.prog tab := tabB_ok (by kernel_rfl)
theorem tab_3 : TI.of tab 3 = ⟨.int, 1, 8, false, some (.int .i64), [.c (.int .i64 0)], [.i .i64], true⟩ := rfl
theorem tab_4 : TI.of tab 4 = ⟨.bool, 1, 1, false, some .bool, [.c (.bool false)], [.b], true⟩ := rfl
theorem tab_5 : TI.of tab 5 = ⟨.int, 1, 1, false, some (.int .u8), [.c (.int .u8 0)], [.i .u8], true⟩ := rfl
theorem tab_9 : TI.of tab 9 = ⟨.str, 1, 16, false, some .str, [.c (.str ByteArray.empty)], [.s], true⟩ := rfl
theorem tab_22 : TI.of tab 22 = ⟨(.slice 3), 1, 24, false, some (.sl (.int .i64)), [.s 3 (.int .i64)], [], true⟩ := rfl
theorem tab_23 : TI.of tab 23 = ⟨(.ptr 57), 1, 8, false, .none, [.c .nilp], [], false⟩ := rfl
theorem tab_25 : TI.of tab 25 = ⟨(.slice 52), 1, 24, false, some (.sl yDP), [.s 52 yDP], [], true⟩ := rfl
theorem tab_27 : TI.of tab 27 = ⟨(.slice 46), 1, 24, false, some (.sl (.pair yFL (.int .i64))), [.s 46 (.pair yFL (.int .i64))], [], true⟩ := rfl
theorem tab_28 : TI.of tab 28 = ⟨(.slice 44), 1, 24, false, some (.sl yFL), [.s 44 yFL], [], true⟩ := rfl
theorem tab_30 : TI.of tab 30 = ⟨(.struct [(0, 1, false), (1, 1, false), (2, 1, false)]), 3, 56, true, some (.pair (.sl (.pair yFL (.int .i64))) (.pair (.int .i64) (.sl yFL))), [.s 46 (.pair yFL (.int .i64)), .c (.int .i64 0), .s 44 yFL], [], true⟩ := rfl
theorem tab_31 : TI.of tab 31 = ⟨.int, 1, 8, false, some (.int .i64), [.c (.int .i64 0)], [.i .i64], true⟩ := rfl
theorem tab_44 : TI.of tab 44 = ⟨(.struct [(0, 1, false), (1, 1, false), (2, 1, false), (3, 1, false)]), 4, 48, true, some yFL, [.c (.str ByteArray.empty), .c (.int .i64 0), .c (.str ByteArray.empty), .c (.int .i64 0)], [.s, .i .i64, .s, .i .i64], true⟩ := rfl
theorem tab_46 : TI.of tab 46 = ⟨(.struct [(0, 4, true), (4, 1, false)]), 5, 56, true, some (.pair yFL (.int .i64)), [.c (.str ByteArray.empty), .c (.int .i64 0), .c (.str ByteArray.empty), .c (.int .i64 0), .c (.int .i64 0)], [.s, .i .i64, .s, .i .i64, .i .i64], true⟩ := rfl
theorem tab_52 : TI.of tab 52 = ⟨(.struct [(0, 4, true), (4, 1, false), (5, 1, false), (6, 1, false), (7, 1, false), (8, 1, false), (9, 1, false)]), 10, 104, true, some yDP, [.c (.str ByteArray.empty), .c (.int .i64 0), .c (.str ByteArray.empty), .c (.int .i64 0), .c (.str ByteArray.empty), .c (.int .i64 0), .c (.int .i64 0), .c (.int .i64 0), .c (.int .i64 0), .c (.int .i64 0)], [.s, .i .i64, .s, .i .i64, .s, .i .i64, .i .i64, .i .i64, .i .i64, .i .i64], true⟩ := rfl
theorem tab_57 : TI.of tab 57 = ⟨(.struct [(0, 1, false), (1, 1, false)]), 2, 32, true, some ySR, [.s 3 (.int .i64), .c (.int .i64 0)], [], true⟩ := rfl
theorem tab_64 : TI.of tab 64 = ⟨.other, 1, 8, false, .none, [], [], false⟩ := rfl
theorem tab_71 : TI.of tab 71 = ⟨(.slice 81), 1, 24, false, some (.sl (.pair yFL (.pair (.int .i64) (.pair (.int .i64) (.pair (.int .i64) .bool))))), [.s 81 (.pair yFL (.pair (.int .i64) (.pair (.int .i64) (.pair (.int .i64) .bool))))], [], true⟩ := rfl
theorem tab_73 : TI.of tab 73 = ⟨(.map 78 3), 1, 8, false, .none, [.c .undef], [], false⟩ := rfl
theorem tab_75 : TI.of tab 75 = ⟨(.struct [(0, 1, false), (1, 1, false), (2, 1, false)]), 3, 40, true, .none, [.s 81 (.pair yFL (.pair (.int .i64) (.pair (.int .i64) (.pair (.int .i64) .bool)))), .c (.int .i64 0), .c .undef], [], false⟩ := rfl
theorem tab_76 : TI.of tab 76 = ⟨(.array 6 3 (.int .i64)), 6, 48, true, some (.pair (.int .i64) yBR), [.c (.int .i64 0), .c (.int .i64 0), .c (.int .i64 0), .c (.int .i64 0), .c (.int .i64 0), .c (.int .i64 0)], [], false⟩ := rfl
theorem tab_78 : TI.of tab 78 = ⟨(.struct [(0, 1, false), (1, 6, true)]), 7, 56, true, some (.pair (.int .i64) (.pair (.int .i64) yBR)), [.c (.int .i64 0), .c (.int .i64 0), .c (.int .i64 0), .c (.int .i64 0), .c (.int .i64 0), .c (.int .i64 0), .c (.int .i64 0)], [.i .i64, .i .i64, .i .i64, .i .i64, .i .i64, .i .i64, .i .i64], true⟩ := rfl
theorem tab_81 : TI.of tab 81 = ⟨(.struct [(0, 4, true), (4, 1, false), (5, 1, false), (6, 1, false), (7, 1, false)]), 8, 80, true, some (.pair yFL (.pair (.int .i64) (.pair (.int .i64) (.pair (.int .i64) .bool)))), [.c (.str ByteArray.empty), .c (.int .i64 0), .c (.str ByteArray.empty), .c (.int .i64 0), .c (.int .i64 0), .c (.int .i64 0), .c (.int .i64 0), .c (.bool false)], [.s, .i .i64, .s, .i .i64, .i .i64, .i .i64, .i .i64, .b], true⟩ := rfl
theorem tab_86 : TI.of tab 86 = ⟨.other, 1, 8, false, .none, [], [], false⟩ := rfl
theorem tab_90 : TI.of tab 90 = ⟨(.slice 9), 1, 24, false, some (.sl .str), [.s 9 .str], [], true⟩ := rfl
theorem tab_95 : TI.of tab 95 = ⟨.other, 1, 8, false, .none, [], [], false⟩ := rfl
theorem tab_100 : TI.of tab 100 = ⟨.other, 1, 8, false, .none, [], [], false⟩ := rfl
theorem tab_101 : TI.of tab 101 = ⟨(.ptr 75), 1, 8, false, .none, [.c .nilp], [], false⟩ := rfl
theorem tab_104 : TI.of tab 104 = ⟨.int, 1, 8, false, some (.int .u64), [.c (.int .u64 0)], [.i .u64], true⟩ := rfl
theorem tab_113 : TI.of tab 113 = ⟨.int, 1, 8, false, some (.int .i64), [.c (.int .i64 0)], [.i .i64], true⟩ := rfl
theorem tab_120 : TI.of tab 120 = ⟨.int, 1, 4, false, some (.int .u32), [.c (.int .u32 0)], [.i .u32], true⟩ := rfl
theorem tab_122 : TI.of tab 122 = ⟨.int, 1, 8, false, some (.int .u64), [.c (.int .u64 0)], [.i .u64], true⟩ := rfl
theorem tab_134 : TI.of tab 134 = ⟨.int, 1, 8, false, some (.int .u64), [.c (.int .u64 0)], [.i .u64], true⟩ := rfl
theorem tab_138 : TI.of tab 138 = ⟨(.ptr 3), 1, 8, false, .none, [.c .nilp], [], false⟩ := rfl
theorem tab_143 : TI.of tab 143 = ⟨(.ptr 134), 1, 8, false, .none, [.c .nilp], [], false⟩ := rfl
theorem tab_145 : TI.of tab 145 = ⟨.other, 1, 8, false, .none, [], [], false⟩ := rfl
attribute [go_sem] tab_3 tab_4 tab_5 tab_9 tab_22 tab_23 tab_25 tab_27 tab_28 tab_30 tab_31 tab_44 tab_46 tab_52 tab_57 tab_64 tab_71 tab_73 tab_75 tab_76 tab_78 tab_81 tab_86 tab_90 tab_95 tab_100 tab_101 tab_104 tab_113 tab_120 tab_122 tab_134 tab_138 tab_143 tab_145

end Go.Proofs.YtdeihcabmpcaoaaGreat
