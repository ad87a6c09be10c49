/- The types of the functions, as a table; it is checked against the program. -/
import Derived.Test.YtfaoonbnbdlgaaaEvTab
import Derived.Test.YtfaoonbnbdlgaaaRows
namespace Go.Proofs.Ytfaoonbnbdlgaaa
open Go.Ev
abbrev ySR : Ty := .pair (.sl (.int .i64)) (.int .i64)
abbrev yPL : Ty := .pair (.int .i64) (.pair (.int .i64) (.int .i64))
abbrev yFL : Ty := .pair .str (.pair (.int .i64) (.pair .str (.int .i64)))
abbrev yPC : Ty := .pair (.pair (.int .i64) (.pair (.int .i64) (.int .i64))) (.pair (.int .i64) (.int .i64))
abbrev yGR : Ty := .pair (.pair (.pair (.int .i64) (.pair (.int .i64) (.int .i64))) (.pair (.int .i64) (.int .i64))) (.pair .str (.pair (.int .i64) (.pair .str (.int .i64))))
abbrev yBR : Ty := .pair (.int .i64) (.pair (.int .i64) (.pair (.int .i64) (.pair (.int .i64) (.int .i64))))
abbrev yTK : Ty := .pair (.int .i64) (.sl (.pair (.int .i64) (.pair (.int .i64) (.int .i64))))
abbrev yRU : Ty := .pair (.pair (.int .i64) (.pair (.int .i64) (.int .i64))) (.pair .bool (.pair (.int .i64) (.int .i64)))
abbrev yPM : Ty := .pair (.pair (.pair (.int .i64) (.pair (.int .i64) (.int .i64))) (.pair (.int .i64) (.int .i64))) (.pair (.int .i64) (.sl (.int .i64)))
abbrev yOP : Ty := .pair (.int .i64) (.pair (.int .i64) (.pair (.int .i64) (.pair (.int .i64) (.pair (.int .i64) (.pair (.pair (.int .i64) (.pair (.int .i64) (.int .i64))) (.pair (.int .i64) (.int .i64)))))))
abbrev yDP : Ty := .pair (.pair .str (.pair (.int .i64) (.pair .str (.int .i64)))) (.pair .str (.pair (.int .i64) (.pair (.int .i64) (.pair (.int .i64) (.pair (.int .i64) (.int .i64))))))
abbrev yCT : Ty := .pair (.int .i64) (.pair (.pair .str (.pair (.int .i64) (.pair .str (.int .i64)))) (.pair (.int .i64) (.pair (.int .i64) (.pair (.int .i64) (.pair (.int .i64) (.pair (.int .i64) (.sl (.pair (.pair (.int .i64) (.pair (.int .i64) (.int .i64))) (.pair (.int .i64) (.int .i64))))))))))
abbrev yHH : Ty := .pair (.int .i64) (.pair (.int .i64) (.pair (.int .i64) (.pair .bool (.pair (.sl (.pair (.pair (.pair (.int .i64) (.pair (.int .i64) (.int .i64))) (.pair (.int .i64) (.int .i64))) (.pair .str (.pair (.int .i64) (.pair .str (.int .i64)))))) (.pair (.sl (.pair (.int .i64) (.pair (.pair .str (.pair (.int .i64) (.pair .str (.int .i64)))) (.pair (.int .i64) (.pair (.int .i64) (.pair (.int .i64) (.pair (.int .i64) (.pair (.int .i64) (.sl (.pair (.pair (.int .i64) (.pair (.int .i64) (.int .i64))) (.pair (.int .i64) (.int .i64)))))))))))) (.sl (.pair (.int .i64) (.pair (.int .i64) (.pair (.int .i64) (.pair (.int .i64) (.pair (.int .i64) (.pair (.pair (.int .i64) (.pair (.int .i64) (.int .i64))) (.pair (.int .i64) (.int .i64))))))))))))))

def tab : Tab := [
  (3, ⟨.int, 1, 8, false, some (.int .i64), [.c (.int .i64 0)], [.i .i64], true⟩),
  (4, ⟨.bool, 1, 1, false, some .bool, [.c (.bool false)], [.b], true⟩),
  (5, ⟨.int, 1, 1, false, some (.int .u8), [.c (.int .u8 0)], [.i .u8], true⟩),
  (9, ⟨.str, 1, 16, false, some .str, [.c (.str ByteArray.empty)], [.s], true⟩),
  (22, ⟨(.slice 3), 1, 24, false, some (.sl (.int .i64)), [.s 3 (.int .i64)], [], true⟩),
  (23, ⟨(.ptr 54), 1, 8, false, .none, [.c .nilp], [], false⟩),
  (25, ⟨(.slice 42), 1, 24, false, some (.sl yDP), [.s 42 yDP], [], true⟩),
  (28, ⟨(.slice 44), 1, 24, false, some (.sl (.pair yFL (.int .i64))), [.s 44 (.pair yFL (.int .i64))], [], true⟩),
  (31, ⟨.int, 1, 8, false, some (.int .i64), [.c (.int .i64 0)], [.i .i64], true⟩),
  (40, ⟨(.struct [(0, 1, false), (1, 1, false), (2, 1, false), (3, 1, false)]), 4, 48, true, some yFL, [.c (.str ByteArray.empty), .c (.int .i64 0), .c (.str ByteArray.empty), .c (.int .i64 0)], [.s, .i .i64, .s, .i .i64], true⟩),
  (42, ⟨(.struct [(0, 4, true), (4, 1, false), (5, 1, false), (6, 1, false), (7, 1, false), (8, 1, false), (9, 1, false)]), 10, 104, true, some yDP, [.c (.str ByteArray.empty), .c (.int .i64 0), .c (.str ByteArray.empty), .c (.int .i64 0), .c (.str ByteArray.empty), .c (.int .i64 0), .c (.int .i64 0), .c (.int .i64 0), .c (.int .i64 0), .c (.int .i64 0)], [.s, .i .i64, .s, .i .i64, .s, .i .i64, .i .i64, .i .i64, .i .i64, .i .i64], true⟩),
  (44, ⟨(.struct [(0, 4, true), (4, 1, false)]), 5, 56, true, some (.pair yFL (.int .i64)), [.c (.str ByteArray.empty), .c (.int .i64 0), .c (.str ByteArray.empty), .c (.int .i64 0), .c (.int .i64 0)], [.s, .i .i64, .s, .i .i64, .i .i64], true⟩),
  (45, ⟨(.slice 40), 1, 24, false, some (.sl yFL), [.s 40 yFL], [], true⟩),
  (54, ⟨(.struct [(0, 1, false), (1, 1, false)]), 2, 32, true, some ySR, [.s 3 (.int .i64), .c (.int .i64 0)], [], true⟩),
  (58, ⟨(.struct [(0, 1, false), (1, 1, false), (2, 1, false)]), 3, 56, true, some (.pair (.sl (.pair yFL (.int .i64))) (.pair (.int .i64) (.sl yFL))), [.s 44 (.pair yFL (.int .i64)), .c (.int .i64 0), .s 40 yFL], [], true⟩),
  (65, ⟨(.slice 75), 1, 24, false, some (.sl (.pair yFL (.pair (.int .i64) (.pair (.int .i64) (.pair (.int .i64) .bool))))), [.s 75 (.pair yFL (.pair (.int .i64) (.pair (.int .i64) (.pair (.int .i64) .bool))))], [], true⟩),
  (67, ⟨(.map 72 3), 1, 8, false, .none, [.c .undef], [], false⟩),
  (69, ⟨(.struct [(0, 1, false), (1, 1, false), (2, 1, false)]), 3, 40, true, .none, [.s 75 (.pair yFL (.pair (.int .i64) (.pair (.int .i64) (.pair (.int .i64) .bool)))), .c (.int .i64 0), .c .undef], [], false⟩),
  (70, ⟨(.array 6 3 (.int .i64)), 6, 48, true, some (.pair (.int .i64) yBR), [.c (.int .i64 0), .c (.int .i64 0), .c (.int .i64 0), .c (.int .i64 0), .c (.int .i64 0), .c (.int .i64 0)], [], false⟩),
  (72, ⟨(.struct [(0, 1, false), (1, 6, true)]), 7, 56, true, some (.pair (.int .i64) (.pair (.int .i64) yBR)), [.c (.int .i64 0), .c (.int .i64 0), .c (.int .i64 0), .c (.int .i64 0), .c (.int .i64 0), .c (.int .i64 0), .c (.int .i64 0)], [.i .i64, .i .i64, .i .i64, .i .i64, .i .i64, .i .i64, .i .i64], true⟩),
  (75, ⟨(.struct [(0, 4, true), (4, 1, false), (5, 1, false), (6, 1, false), (7, 1, false)]), 8, 80, true, some (.pair yFL (.pair (.int .i64) (.pair (.int .i64) (.pair (.int .i64) .bool)))), [.c (.str ByteArray.empty), .c (.int .i64 0), .c (.str ByteArray.empty), .c (.int .i64 0), .c (.int .i64 0), .c (.int .i64 0), .c (.int .i64 0), .c (.bool false)], [.s, .i .i64, .s, .i .i64, .i .i64, .i .i64, .i .i64, .b], true⟩),
  (80, ⟨.other, 1, 8, false, .none, [], [], false⟩),
  (88, ⟨(.slice 9), 1, 24, false, some (.sl .str), [.s 9 .str], [], true⟩),
  (94, ⟨.other, 1, 8, false, .none, [], [], false⟩),
  (95, ⟨(.ptr 69), 1, 8, false, .none, [.c .nilp], [], false⟩),
  (98, ⟨.int, 1, 8, false, some (.int .u64), [.c (.int .u64 0)], [.i .u64], true⟩),
  (104, ⟨.int, 1, 8, false, some (.int .i64), [.c (.int .i64 0)], [.i .i64], true⟩),
  (111, ⟨.int, 1, 4, false, some (.int .u32), [.c (.int .u32 0)], [.i .u32], true⟩),
  (113, ⟨.int, 1, 8, false, some (.int .u64), [.c (.int .u64 0)], [.i .u64], true⟩),
  (120, ⟨.int, 1, 8, false, some (.int .u64), [.c (.int .u64 0)], [.i .u64], true⟩),
  (124, ⟨(.ptr 3), 1, 8, false, .none, [.c .nilp], [], false⟩),
  (126, ⟨.other, 1, 8, false, .none, [], [], false⟩),
  (128, ⟨(.ptr 120), 1, 8, false, .none, [.c .nilp], [], false⟩)]

theorem tab_ok : TabOK Try.prog tab := tabB_ok (by kernel_rfl)
theorem tab_3 : TI.of tab 3 = ⟨.int, 1, 8, false, some (.int .i64), [.c (.int .i64 0)], [.i .i64], true⟩ := rfl
theorem tab_4 : TI.of tab 4 = ⟨.bool, 1, 1, false, some .bool, [.c (.bool false)], [.b], true⟩ := rfl
theorem tab_5 : TI.of tab 5 = ⟨.int, 1, 1, false, some (.int .u8), [.c (.int .u8 0)], [.i .u8], true⟩ := rfl
theorem tab_9 : TI.of tab 9 = ⟨.str, 1, 16, false, some .str, [.c (.str ByteArray.empty)], [.s], true⟩ := rfl
theorem tab_22 : TI.of tab 22 = ⟨(.slice 3), 1, 24, false, some (.sl (.int .i64)), [.s 3 (.int .i64)], [], true⟩ := rfl
theorem tab_23 : TI.of tab 23 = ⟨(.ptr 54), 1, 8, false, .none, [.c .nilp], [], false⟩ := rfl
theorem tab_25 : TI.of tab 25 = ⟨(.slice 42), 1, 24, false, some (.sl yDP), [.s 42 yDP], [], true⟩ := rfl
theorem tab_28 : TI.of tab 28 = ⟨(.slice 44), 1, 24, false, some (.sl (.pair yFL (.int .i64))), [.s 44 (.pair yFL (.int .i64))], [], true⟩ := rfl
theorem tab_31 : TI.of tab 31 = ⟨.int, 1, 8, false, some (.int .i64), [.c (.int .i64 0)], [.i .i64], true⟩ := rfl
theorem tab_40 : TI.of tab 40 = ⟨(.struct [(0, 1, false), (1, 1, false), (2, 1, false), (3, 1, false)]), 4, 48, true, some yFL, [.c (.str ByteArray.empty), .c (.int .i64 0), .c (.str ByteArray.empty), .c (.int .i64 0)], [.s, .i .i64, .s, .i .i64], true⟩ := rfl
theorem tab_42 : TI.of tab 42 = ⟨(.struct [(0, 4, true), (4, 1, false), (5, 1, false), (6, 1, false), (7, 1, false), (8, 1, false), (9, 1, false)]), 10, 104, true, some yDP, [.c (.str ByteArray.empty), .c (.int .i64 0), .c (.str ByteArray.empty), .c (.int .i64 0), .c (.str ByteArray.empty), .c (.int .i64 0), .c (.int .i64 0), .c (.int .i64 0), .c (.int .i64 0), .c (.int .i64 0)], [.s, .i .i64, .s, .i .i64, .s, .i .i64, .i .i64, .i .i64, .i .i64, .i .i64], true⟩ := rfl
theorem tab_44 : TI.of tab 44 = ⟨(.struct [(0, 4, true), (4, 1, false)]), 5, 56, true, some (.pair yFL (.int .i64)), [.c (.str ByteArray.empty), .c (.int .i64 0), .c (.str ByteArray.empty), .c (.int .i64 0), .c (.int .i64 0)], [.s, .i .i64, .s, .i .i64, .i .i64], true⟩ := rfl
theorem tab_45 : TI.of tab 45 = ⟨(.slice 40), 1, 24, false, some (.sl yFL), [.s 40 yFL], [], true⟩ := rfl
theorem tab_54 : TI.of tab 54 = ⟨(.struct [(0, 1, false), (1, 1, false)]), 2, 32, true, some ySR, [.s 3 (.int .i64), .c (.int .i64 0)], [], true⟩ := rfl
theorem tab_58 : TI.of tab 58 = ⟨(.struct [(0, 1, false), (1, 1, false), (2, 1, false)]), 3, 56, true, some (.pair (.sl (.pair yFL (.int .i64))) (.pair (.int .i64) (.sl yFL))), [.s 44 (.pair yFL (.int .i64)), .c (.int .i64 0), .s 40 yFL], [], true⟩ := rfl
theorem tab_65 : TI.of tab 65 = ⟨(.slice 75), 1, 24, false, some (.sl (.pair yFL (.pair (.int .i64) (.pair (.int .i64) (.pair (.int .i64) .bool))))), [.s 75 (.pair yFL (.pair (.int .i64) (.pair (.int .i64) (.pair (.int .i64) .bool))))], [], true⟩ := rfl
theorem tab_67 : TI.of tab 67 = ⟨(.map 72 3), 1, 8, false, .none, [.c .undef], [], false⟩ := rfl
theorem tab_69 : TI.of tab 69 = ⟨(.struct [(0, 1, false), (1, 1, false), (2, 1, false)]), 3, 40, true, .none, [.s 75 (.pair yFL (.pair (.int .i64) (.pair (.int .i64) (.pair (.int .i64) .bool)))), .c (.int .i64 0), .c .undef], [], false⟩ := rfl
theorem tab_70 : TI.of tab 70 = ⟨(.array 6 3 (.int .i64)), 6, 48, true, some (.pair (.int .i64) yBR), [.c (.int .i64 0), .c (.int .i64 0), .c (.int .i64 0), .c (.int .i64 0), .c (.int .i64 0), .c (.int .i64 0)], [], false⟩ := rfl
theorem tab_72 : TI.of tab 72 = ⟨(.struct [(0, 1, false), (1, 6, true)]), 7, 56, true, some (.pair (.int .i64) (.pair (.int .i64) yBR)), [.c (.int .i64 0), .c (.int .i64 0), .c (.int .i64 0), .c (.int .i64 0), .c (.int .i64 0), .c (.int .i64 0), .c (.int .i64 0)], [.i .i64, .i .i64, .i .i64, .i .i64, .i .i64, .i .i64, .i .i64], true⟩ := rfl
theorem tab_75 : TI.of tab 75 = ⟨(.struct [(0, 4, true), (4, 1, false), (5, 1, false), (6, 1, false), (7, 1, false)]), 8, 80, true, some (.pair yFL (.pair (.int .i64) (.pair (.int .i64) (.pair (.int .i64) .bool)))), [.c (.str ByteArray.empty), .c (.int .i64 0), .c (.str ByteArray.empty), .c (.int .i64 0), .c (.int .i64 0), .c (.int .i64 0), .c (.int .i64 0), .c (.bool false)], [.s, .i .i64, .s, .i .i64, .i .i64, .i .i64, .i .i64, .b], true⟩ := rfl
theorem tab_80 : TI.of tab 80 = ⟨.other, 1, 8, false, .none, [], [], false⟩ := rfl
theorem tab_88 : TI.of tab 88 = ⟨(.slice 9), 1, 24, false, some (.sl .str), [.s 9 .str], [], true⟩ := rfl
theorem tab_94 : TI.of tab 94 = ⟨.other, 1, 8, false, .none, [], [], false⟩ := rfl
theorem tab_95 : TI.of tab 95 = ⟨(.ptr 69), 1, 8, false, .none, [.c .nilp], [], false⟩ := rfl
theorem tab_98 : TI.of tab 98 = ⟨.int, 1, 8, false, some (.int .u64), [.c (.int .u64 0)], [.i .u64], true⟩ := rfl
theorem tab_104 : TI.of tab 104 = ⟨.int, 1, 8, false, some (.int .i64), [.c (.int .i64 0)], [.i .i64], true⟩ := rfl
theorem tab_111 : TI.of tab 111 = ⟨.int, 1, 4, false, some (.int .u32), [.c (.int .u32 0)], [.i .u32], true⟩ := rfl
theorem tab_113 : TI.of tab 113 = ⟨.int, 1, 8, false, some (.int .u64), [.c (.int .u64 0)], [.i .u64], true⟩ := rfl
theorem tab_120 : TI.of tab 120 = ⟨.int, 1, 8, false, some (.int .u64), [.c (.int .u64 0)], [.i .u64], true⟩ := rfl
theorem tab_124 : TI.of tab 124 = ⟨(.ptr 3), 1, 8, false, .none, [.c .nilp], [], false⟩ := rfl
theorem tab_126 : TI.of tab 126 = ⟨.other, 1, 8, false, .none, [], [], false⟩ := rfl
theorem tab_128 : TI.of tab 128 = ⟨(.ptr 120), 1, 8, false, .none, [.c .nilp], [], false⟩ := rfl
attribute [go_sem] tab_3 tab_4 tab_5 tab_9 tab_22 tab_23 tab_25 tab_28 tab_31 tab_40 tab_42 tab_44 tab_45 tab_54 tab_58 tab_65 tab_67 tab_69 tab_70 tab_72 tab_75 tab_80 tab_88 tab_94 tab_95 tab_98 tab_104 tab_111 tab_113 tab_120 tab_124 tab_126 tab_128

end Go.Proofs.Ytfaoonbnbdlgaaa
