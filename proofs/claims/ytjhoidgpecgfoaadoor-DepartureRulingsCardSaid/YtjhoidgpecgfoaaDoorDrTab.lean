/- The types of the functions, as a table; it is checked against the program. -/
import Derived.Test.YtjhoidgpecgfoaaDoorEvTab
import Derived.Test.YtjhoidgpecgfoaaDoorRows
namespace Go.Proofs.YtjhoidgpecgfoaaDoor
open Go.Ev
abbrev ySR : Ty := .pair (.sl (.int .i64)) (.int .i64)
abbrev yPL : Ty := .pair (.int .i64) (.pair (.int .i64) (.int .i64))
abbrev yFL : Ty := .pair .str (.pair (.int .i64) (.pair .str (.int .i64)))
abbrev yPC : Ty := .pair (.pair (.int .i64) (.pair (.int .i64) (.int .i64))) (.pair (.int .i64) (.int .i64))
abbrev yGR : Ty := .pair (.pair (.pair (.int .i64) (.pair (.int .i64) (.int .i64))) (.pair (.int .i64) (.int .i64))) (.pair .str (.pair (.int .i64) (.pair .str (.int .i64))))
abbrev yBR : Ty := .pair (.int .i64) (.pair (.int .i64) (.pair (.int .i64) (.pair (.int .i64) (.int .i64))))
abbrev yTK : Ty := .pair (.int .i64) (.sl (.pair (.int .i64) (.pair (.int .i64) (.int .i64))))
abbrev yRU : Ty := .pair (.pair (.int .i64) (.pair (.int .i64) (.int .i64))) (.pair .bool (.pair (.int .i64) (.int .i64)))
abbrev yPM : Ty := .pair (.pair (.pair (.int .i64) (.pair (.int .i64) (.int .i64))) (.pair (.int .i64) (.int .i64))) (.pair (.int .i64) (.sl (.int .i64)))
abbrev yOP : Ty := .pair (.int .i64) (.pair (.int .i64) (.pair (.int .i64) (.pair (.int .i64) (.pair (.int .i64) (.pair (.pair (.int .i64) (.pair (.int .i64) (.int .i64))) (.pair (.int .i64) (.int .i64)))))))
abbrev yDP : Ty := .pair (.pair .str (.pair (.int .i64) (.pair .str (.int .i64)))) (.pair .str (.pair (.int .i64) (.pair (.int .i64) (.pair (.int .i64) (.pair (.int .i64) (.int .i64))))))
abbrev yCT : Ty := .pair (.int .i64) (.pair (.pair .str (.pair (.int .i64) (.pair .str (.int .i64)))) (.pair (.int .i64) (.pair (.int .i64) (.pair (.int .i64) (.pair (.int .i64) (.pair (.int .i64) (.sl (.pair (.pair (.int .i64) (.pair (.int .i64) (.int .i64))) (.pair (.int .i64) (.int .i64))))))))))
abbrev yHH : Ty := .pair (.int .i64) (.pair (.int .i64) (.pair (.int .i64) (.pair .bool (.pair (.sl (.pair (.pair (.pair (.int .i64) (.pair (.int .i64) (.int .i64))) (.pair (.int .i64) (.int .i64))) (.pair .str (.pair (.int .i64) (.pair .str (.int .i64)))))) (.pair (.sl (.pair (.int .i64) (.pair (.pair .str (.pair (.int .i64) (.pair .str (.int .i64)))) (.pair (.int .i64) (.pair (.int .i64) (.pair (.int .i64) (.pair (.int .i64) (.pair (.int .i64) (.sl (.pair (.pair (.int .i64) (.pair (.int .i64) (.int .i64))) (.pair (.int .i64) (.int .i64)))))))))))) (.sl (.pair (.int .i64) (.pair (.int .i64) (.pair (.int .i64) (.pair (.int .i64) (.pair (.int .i64) (.pair (.pair (.int .i64) (.pair (.int .i64) (.int .i64))) (.pair (.int .i64) (.int .i64))))))))))))))

def tab : Tab := [
  (3, ⟨.int, 1, 8, false, some (.int .i64), [.c (.int .i64 0)], [.i .i64], true⟩),
  (4, ⟨.bool, 1, 1, false, some .bool, [.c (.bool false)], [.b], true⟩),
  (5, ⟨.int, 1, 1, false, some (.int .u8), [.c (.int .u8 0)], [.i .u8], true⟩),
  (9, ⟨.str, 1, 16, false, some .str, [.c (.str ByteArray.empty)], [.s], true⟩),
  (22, ⟨(.slice 3), 1, 24, false, some (.sl (.int .i64)), [.s 3 (.int .i64)], [], true⟩),
  (23, ⟨(.ptr 65), 1, 8, false, .none, [.c .nilp], [], false⟩),
  (25, ⟨(.slice 67), 1, 24, false, some (.sl yDP), [.s 67 yDP], [], true⟩),
  (27, ⟨(.slice 70), 1, 24, false, some (.sl (.pair yFL (.pair (.int .i64) (.pair (.sl (.int .i64)) (.sl (.int .i64)))))), [.s 70 (.pair yFL (.pair (.int .i64) (.pair (.sl (.int .i64)) (.sl (.int .i64)))))], [], true⟩),
  (29, ⟨(.slice 74), 1, 24, false, some (.sl yCT), [.s 74 yCT], [], true⟩),
  (31, ⟨(.slice 52), 1, 24, false, some (.sl yRU), [.s 52 yRU], [], true⟩),
  (32, ⟨(.slice 43), 1, 24, false, some (.sl (.pair .bool (.pair (.pair yPL (.pair (.pair yFL (.pair .str .str)) (.pair (.pair yFL (.pair .str .str)) (.pair (.sl (.pair yFL (.pair .str .str))) (.pair (.int .i64) (.pair (.int .i64) (.pair (.int .i64) (.pair .bool (.pair .str (.pair .str (.pair (.int .i64) (.pair .str .bool)))))))))))) (.pair (.int .i64) .bool)))), [.s 43 (.pair .bool (.pair (.pair yPL (.pair (.pair yFL (.pair .str .str)) (.pair (.pair yFL (.pair .str .str)) (.pair (.sl (.pair yFL (.pair .str .str))) (.pair (.int .i64) (.pair (.int .i64) (.pair (.int .i64) (.pair .bool (.pair .str (.pair .str (.pair (.int .i64) (.pair .str .bool)))))))))))) (.pair (.int .i64) .bool)))], [], true⟩),
  (34, ⟨(.struct [(0, 1, false), (1, 1, false), (2, 1, false)]), 3, 24, true, some yPL, [.c (.int .i64 0), .c (.int .i64 0), .c (.int .i64 0)], [.i .i64, .i .i64, .i .i64], true⟩),
  (36, ⟨(.struct [(0, 1, false), (1, 1, false), (2, 1, false), (3, 1, false)]), 4, 48, true, some yFL, [.c (.str ByteArray.empty), .c (.int .i64 0), .c (.str ByteArray.empty), .c (.int .i64 0)], [.s, .i .i64, .s, .i .i64], true⟩),
  (38, ⟨(.struct [(0, 4, true), (4, 1, false), (5, 1, false)]), 6, 80, true, some (.pair yFL (.pair .str .str)), [.c (.str ByteArray.empty), .c (.int .i64 0), .c (.str ByteArray.empty), .c (.int .i64 0), .c (.str ByteArray.empty), .c (.str ByteArray.empty)], [.s, .i .i64, .s, .i .i64, .s, .s], true⟩),
  (39, ⟨(.slice 38), 1, 24, false, some (.sl (.pair yFL (.pair .str .str))), [.s 38 (.pair yFL (.pair .str .str))], [], true⟩),
  (41, ⟨(.struct [(0, 3, true), (3, 6, true), (9, 6, true), (15, 1, false), (16, 1, false), (17, 1, false), (18, 1, false), (19, 1, false), (20, 1, false), (21, 1, false), (22, 1, false), (23, 1, false), (24, 1, false)]), 25, 304, true, some (.pair yPL (.pair (.pair yFL (.pair .str .str)) (.pair (.pair yFL (.pair .str .str)) (.pair (.sl (.pair yFL (.pair .str .str))) (.pair (.int .i64) (.pair (.int .i64) (.pair (.int .i64) (.pair .bool (.pair .str (.pair .str (.pair (.int .i64) (.pair .str .bool)))))))))))), [.c (.int .i64 0), .c (.int .i64 0), .c (.int .i64 0), .c (.str ByteArray.empty), .c (.int .i64 0), .c (.str ByteArray.empty), .c (.int .i64 0), .c (.str ByteArray.empty), .c (.str ByteArray.empty), .c (.str ByteArray.empty), .c (.int .i64 0), .c (.str ByteArray.empty), .c (.int .i64 0), .c (.str ByteArray.empty), .c (.str ByteArray.empty), .s 38 (.pair yFL (.pair .str .str)), .c (.int .i64 0), .c (.int .i64 0), .c (.int .i64 0), .c (.bool false), .c (.str ByteArray.empty), .c (.str ByteArray.empty), .c (.int .i64 0), .c (.str ByteArray.empty), .c (.bool false)], [], true⟩),
  (43, ⟨(.struct [(0, 1, false), (1, 25, true), (26, 1, false), (27, 1, false)]), 28, 328, true, some (.pair .bool (.pair (.pair yPL (.pair (.pair yFL (.pair .str .str)) (.pair (.pair yFL (.pair .str .str)) (.pair (.sl (.pair yFL (.pair .str .str))) (.pair (.int .i64) (.pair (.int .i64) (.pair (.int .i64) (.pair .bool (.pair .str (.pair .str (.pair (.int .i64) (.pair .str .bool)))))))))))) (.pair (.int .i64) .bool))), [.c (.bool false), .c (.int .i64 0), .c (.int .i64 0), .c (.int .i64 0), .c (.str ByteArray.empty), .c (.int .i64 0), .c (.str ByteArray.empty), .c (.int .i64 0), .c (.str ByteArray.empty), .c (.str ByteArray.empty), .c (.str ByteArray.empty), .c (.int .i64 0), .c (.str ByteArray.empty), .c (.int .i64 0), .c (.str ByteArray.empty), .c (.str ByteArray.empty), .s 38 (.pair yFL (.pair .str .str)), .c (.int .i64 0), .c (.int .i64 0), .c (.int .i64 0), .c (.bool false), .c (.str ByteArray.empty), .c (.str ByteArray.empty), .c (.int .i64 0), .c (.str ByteArray.empty), .c (.bool false), .c (.int .i64 0), .c (.bool false)], [], true⟩),
  (49, ⟨(.struct [(0, 1, false), (1, 1, false), (2, 1, false)]), 3, 24, true, some (.pair .bool (.pair (.int .i64) (.int .i64))), [.c (.bool false), .c (.int .i64 0), .c (.int .i64 0)], [.b, .i .i64, .i .i64], true⟩),
  (52, ⟨(.struct [(0, 3, true), (3, 3, true)]), 6, 48, true, some yRU, [.c (.int .i64 0), .c (.int .i64 0), .c (.int .i64 0), .c (.bool false), .c (.int .i64 0), .c (.int .i64 0)], [.i .i64, .i .i64, .i .i64, .b, .i .i64, .i .i64], true⟩),
  (53, ⟨(.slice 57), 1, 24, false, some (.sl yBR), [.s 57 yBR], [], true⟩),
  (54, ⟨(.slice 34), 1, 24, false, some (.sl yPL), [.s 34 yPL], [], true⟩),
  (57, ⟨(.struct [(0, 1, false), (1, 1, false), (2, 3, true)]), 5, 40, true, some yBR, [.c (.int .i64 0), .c (.int .i64 0), .c (.int .i64 0), .c (.int .i64 0), .c (.int .i64 0)], [.i .i64, .i .i64, .i .i64, .i .i64, .i .i64], true⟩),
  (60, ⟨.int, 1, 8, false, some (.int .i64), [.c (.int .i64 0)], [.i .i64], true⟩),
  (65, ⟨(.struct [(0, 1, false), (1, 1, false)]), 2, 32, true, some ySR, [.s 3 (.int .i64), .c (.int .i64 0)], [], true⟩),
  (67, ⟨(.struct [(0, 4, true), (4, 1, false), (5, 1, false), (6, 1, false), (7, 1, false), (8, 1, false), (9, 1, false)]), 10, 104, true, some yDP, [.c (.str ByteArray.empty), .c (.int .i64 0), .c (.str ByteArray.empty), .c (.int .i64 0), .c (.str ByteArray.empty), .c (.int .i64 0), .c (.int .i64 0), .c (.int .i64 0), .c (.int .i64 0), .c (.int .i64 0)], [.s, .i .i64, .s, .i .i64, .s, .i .i64, .i .i64, .i .i64, .i .i64, .i .i64], true⟩),
  (70, ⟨(.struct [(0, 4, true), (4, 1, false), (5, 1, false), (6, 1, false)]), 7, 104, true, some (.pair yFL (.pair (.int .i64) (.pair (.sl (.int .i64)) (.sl (.int .i64))))), [.c (.str ByteArray.empty), .c (.int .i64 0), .c (.str ByteArray.empty), .c (.int .i64 0), .c (.int .i64 0), .s 3 (.int .i64), .s 3 (.int .i64)], [], true⟩),
  (72, ⟨(.slice 76), 1, 24, false, some (.sl yPC), [.s 76 yPC], [], true⟩),
  (74, ⟨(.struct [(0, 1, false), (1, 4, true), (5, 1, false), (6, 1, false), (7, 1, false), (8, 1, false), (9, 1, false), (10, 1, false)]), 11, 120, true, some yCT, [.c (.int .i64 0), .c (.str ByteArray.empty), .c (.int .i64 0), .c (.str ByteArray.empty), .c (.int .i64 0), .c (.int .i64 0), .c (.int .i64 0), .c (.int .i64 0), .c (.int .i64 0), .c (.int .i64 0), .s 76 yPC], [], true⟩),
  (76, ⟨(.struct [(0, 3, true), (3, 1, false), (4, 1, false)]), 5, 40, true, some yPC, [.c (.int .i64 0), .c (.int .i64 0), .c (.int .i64 0), .c (.int .i64 0), .c (.int .i64 0)], [.i .i64, .i .i64, .i .i64, .i .i64, .i .i64], true⟩),
  (79, ⟨(.slice 9), 1, 24, false, some (.sl .str), [.s 9 .str], [], true⟩),
  (82, ⟨(.array 4 3 (.int .i64)), 4, 32, true, some (.pair (.int .i64) yPL), [.c (.int .i64 0), .c (.int .i64 0), .c (.int .i64 0), .c (.int .i64 0)], [], false⟩),
  (84, ⟨(.slice 88), 1, 24, false, some (.sl yPM), [.s 88 yPM], [], true⟩),
  (85, ⟨(.map 3 86), 1, 8, false, .none, [.c .undef], [], false⟩),
  (86, ⟨(.struct []), 0, 0, true, .none, [], [], false⟩),
  (88, ⟨(.struct [(0, 5, true), (5, 1, false), (6, 1, false)]), 7, 72, true, some yPM, [.c (.int .i64 0), .c (.int .i64 0), .c (.int .i64 0), .c (.int .i64 0), .c (.int .i64 0), .c (.int .i64 0), .s 3 (.int .i64)], [], true⟩),
  (91, ⟨.other, 1, 8, false, .none, [], [], false⟩),
  (93, ⟨.other, 1, 8, false, .none, [], [], false⟩),
  (95, ⟨(.slice 101), 1, 24, false, some (.sl yHH), [.s 101 yHH], [], true⟩),
  (96, ⟨.other, 1, 8, false, .none, [], [], false⟩),
  (98, ⟨(.slice 169), 1, 24, false, some (.sl yGR), [.s 169 yGR], [], true⟩),
  (99, ⟨(.slice 171), 1, 24, false, some (.sl yOP), [.s 171 yOP], [], true⟩),
  (101, ⟨(.struct [(0, 1, false), (1, 1, false), (2, 1, false), (3, 1, false), (4, 1, false), (5, 1, false), (6, 1, false)]), 7, 104, true, some yHH, [.c (.int .i64 0), .c (.int .i64 0), .c (.int .i64 0), .c (.bool false), .s 169 yGR, .s 74 yCT, .s 171 yOP], [], true⟩),
  (115, ⟨.int, 1, 8, false, some (.int .u64), [.c (.int .u64 0)], [.i .u64], true⟩),
  (118, ⟨.other, 1, 8, false, .none, [], [], false⟩),
  (126, ⟨.int, 1, 8, false, some (.int .i64), [.c (.int .i64 0)], [.i .i64], true⟩),
  (134, ⟨.int, 1, 4, false, some (.int .u32), [.c (.int .u32 0)], [.i .u32], true⟩),
  (136, ⟨.int, 1, 8, false, some (.int .u64), [.c (.int .u64 0)], [.i .u64], true⟩),
  (139, ⟨(.slice 76), 1, 24, false, some (.sl yPC), [.s 76 yPC], [], true⟩),
  (140, ⟨.other, 1, 8, false, .none, [], [], false⟩),
  (141, ⟨.int, 1, 8, false, some (.int .u64), [.c (.int .u64 0)], [.i .u64], true⟩),
  (145, ⟨(.ptr 3), 1, 8, false, .none, [.c .nilp], [], false⟩),
  (149, ⟨(.ptr 141), 1, 8, false, .none, [.c .nilp], [], false⟩),
  (169, ⟨(.struct [(0, 5, true), (5, 4, true)]), 9, 88, true, some yGR, [.c (.int .i64 0), .c (.int .i64 0), .c (.int .i64 0), .c (.int .i64 0), .c (.int .i64 0), .c (.str ByteArray.empty), .c (.int .i64 0), .c (.str ByteArray.empty), .c (.int .i64 0)], [.i .i64, .i .i64, .i .i64, .i .i64, .i .i64, .s, .i .i64, .s, .i .i64], true⟩),
  (171, ⟨(.struct [(0, 1, false), (1, 1, false), (2, 1, false), (3, 1, false), (4, 1, false), (5, 5, true)]), 10, 80, true, some yOP, [.c (.int .i64 0), .c (.int .i64 0), .c (.int .i64 0), .c (.int .i64 0), .c (.int .i64 0), .c (.int .i64 0), .c (.int .i64 0), .c (.int .i64 0), .c (.int .i64 0), .c (.int .i64 0)], [.i .i64, .i .i64, .i .i64, .i .i64, .i .i64, .i .i64, .i .i64, .i .i64, .i .i64, .i .i64], true⟩)]

theorem tab_ok : TabOK Tryd.prog tab := tabB_ok (by kernel_rfl)
theorem tab_3 : TI.of tab 3 = ⟨.int, 1, 8, false, some (.int .i64), [.c (.int .i64 0)], [.i .i64], true⟩ := rfl
theorem tab_4 : TI.of tab 4 = ⟨.bool, 1, 1, false, some .bool, [.c (.bool false)], [.b], true⟩ := rfl
theorem tab_5 : TI.of tab 5 = ⟨.int, 1, 1, false, some (.int .u8), [.c (.int .u8 0)], [.i .u8], true⟩ := rfl
theorem tab_9 : TI.of tab 9 = ⟨.str, 1, 16, false, some .str, [.c (.str ByteArray.empty)], [.s], true⟩ := rfl
theorem tab_22 : TI.of tab 22 = ⟨(.slice 3), 1, 24, false, some (.sl (.int .i64)), [.s 3 (.int .i64)], [], true⟩ := rfl
theorem tab_23 : TI.of tab 23 = ⟨(.ptr 65), 1, 8, false, .none, [.c .nilp], [], false⟩ := rfl
theorem tab_25 : TI.of tab 25 = ⟨(.slice 67), 1, 24, false, some (.sl yDP), [.s 67 yDP], [], true⟩ := rfl
theorem tab_27 : TI.of tab 27 = ⟨(.slice 70), 1, 24, false, some (.sl (.pair yFL (.pair (.int .i64) (.pair (.sl (.int .i64)) (.sl (.int .i64)))))), [.s 70 (.pair yFL (.pair (.int .i64) (.pair (.sl (.int .i64)) (.sl (.int .i64)))))], [], true⟩ := rfl
theorem tab_29 : TI.of tab 29 = ⟨(.slice 74), 1, 24, false, some (.sl yCT), [.s 74 yCT], [], true⟩ := rfl
theorem tab_31 : TI.of tab 31 = ⟨(.slice 52), 1, 24, false, some (.sl yRU), [.s 52 yRU], [], true⟩ := rfl
theorem tab_32 : TI.of tab 32 = ⟨(.slice 43), 1, 24, false, some (.sl (.pair .bool (.pair (.pair yPL (.pair (.pair yFL (.pair .str .str)) (.pair (.pair yFL (.pair .str .str)) (.pair (.sl (.pair yFL (.pair .str .str))) (.pair (.int .i64) (.pair (.int .i64) (.pair (.int .i64) (.pair .bool (.pair .str (.pair .str (.pair (.int .i64) (.pair .str .bool)))))))))))) (.pair (.int .i64) .bool)))), [.s 43 (.pair .bool (.pair (.pair yPL (.pair (.pair yFL (.pair .str .str)) (.pair (.pair yFL (.pair .str .str)) (.pair (.sl (.pair yFL (.pair .str .str))) (.pair (.int .i64) (.pair (.int .i64) (.pair (.int .i64) (.pair .bool (.pair .str (.pair .str (.pair (.int .i64) (.pair .str .bool)))))))))))) (.pair (.int .i64) .bool)))], [], true⟩ := rfl
theorem tab_34 : TI.of tab 34 = ⟨(.struct [(0, 1, false), (1, 1, false), (2, 1, false)]), 3, 24, true, some yPL, [.c (.int .i64 0), .c (.int .i64 0), .c (.int .i64 0)], [.i .i64, .i .i64, .i .i64], true⟩ := rfl
theorem tab_36 : TI.of tab 36 = ⟨(.struct [(0, 1, false), (1, 1, false), (2, 1, false), (3, 1, false)]), 4, 48, true, some yFL, [.c (.str ByteArray.empty), .c (.int .i64 0), .c (.str ByteArray.empty), .c (.int .i64 0)], [.s, .i .i64, .s, .i .i64], true⟩ := rfl
theorem tab_38 : TI.of tab 38 = ⟨(.struct [(0, 4, true), (4, 1, false), (5, 1, false)]), 6, 80, true, some (.pair yFL (.pair .str .str)), [.c (.str ByteArray.empty), .c (.int .i64 0), .c (.str ByteArray.empty), .c (.int .i64 0), .c (.str ByteArray.empty), .c (.str ByteArray.empty)], [.s, .i .i64, .s, .i .i64, .s, .s], true⟩ := rfl
theorem tab_39 : TI.of tab 39 = ⟨(.slice 38), 1, 24, false, some (.sl (.pair yFL (.pair .str .str))), [.s 38 (.pair yFL (.pair .str .str))], [], true⟩ := rfl
theorem tab_41 : TI.of tab 41 = ⟨(.struct [(0, 3, true), (3, 6, true), (9, 6, true), (15, 1, false), (16, 1, false), (17, 1, false), (18, 1, false), (19, 1, false), (20, 1, false), (21, 1, false), (22, 1, false), (23, 1, false), (24, 1, false)]), 25, 304, true, some (.pair yPL (.pair (.pair yFL (.pair .str .str)) (.pair (.pair yFL (.pair .str .str)) (.pair (.sl (.pair yFL (.pair .str .str))) (.pair (.int .i64) (.pair (.int .i64) (.pair (.int .i64) (.pair .bool (.pair .str (.pair .str (.pair (.int .i64) (.pair .str .bool)))))))))))), [.c (.int .i64 0), .c (.int .i64 0), .c (.int .i64 0), .c (.str ByteArray.empty), .c (.int .i64 0), .c (.str ByteArray.empty), .c (.int .i64 0), .c (.str ByteArray.empty), .c (.str ByteArray.empty), .c (.str ByteArray.empty), .c (.int .i64 0), .c (.str ByteArray.empty), .c (.int .i64 0), .c (.str ByteArray.empty), .c (.str ByteArray.empty), .s 38 (.pair yFL (.pair .str .str)), .c (.int .i64 0), .c (.int .i64 0), .c (.int .i64 0), .c (.bool false), .c (.str ByteArray.empty), .c (.str ByteArray.empty), .c (.int .i64 0), .c (.str ByteArray.empty), .c (.bool false)], [], true⟩ := rfl
theorem tab_43 : TI.of tab 43 = ⟨(.struct [(0, 1, false), (1, 25, true), (26, 1, false), (27, 1, false)]), 28, 328, true, some (.pair .bool (.pair (.pair yPL (.pair (.pair yFL (.pair .str .str)) (.pair (.pair yFL (.pair .str .str)) (.pair (.sl (.pair yFL (.pair .str .str))) (.pair (.int .i64) (.pair (.int .i64) (.pair (.int .i64) (.pair .bool (.pair .str (.pair .str (.pair (.int .i64) (.pair .str .bool)))))))))))) (.pair (.int .i64) .bool))), [.c (.bool false), .c (.int .i64 0), .c (.int .i64 0), .c (.int .i64 0), .c (.str ByteArray.empty), .c (.int .i64 0), .c (.str ByteArray.empty), .c (.int .i64 0), .c (.str ByteArray.empty), .c (.str ByteArray.empty), .c (.str ByteArray.empty), .c (.int .i64 0), .c (.str ByteArray.empty), .c (.int .i64 0), .c (.str ByteArray.empty), .c (.str ByteArray.empty), .s 38 (.pair yFL (.pair .str .str)), .c (.int .i64 0), .c (.int .i64 0), .c (.int .i64 0), .c (.bool false), .c (.str ByteArray.empty), .c (.str ByteArray.empty), .c (.int .i64 0), .c (.str ByteArray.empty), .c (.bool false), .c (.int .i64 0), .c (.bool false)], [], true⟩ := rfl
theorem tab_49 : TI.of tab 49 = ⟨(.struct [(0, 1, false), (1, 1, false), (2, 1, false)]), 3, 24, true, some (.pair .bool (.pair (.int .i64) (.int .i64))), [.c (.bool false), .c (.int .i64 0), .c (.int .i64 0)], [.b, .i .i64, .i .i64], true⟩ := rfl
theorem tab_52 : TI.of tab 52 = ⟨(.struct [(0, 3, true), (3, 3, true)]), 6, 48, true, some yRU, [.c (.int .i64 0), .c (.int .i64 0), .c (.int .i64 0), .c (.bool false), .c (.int .i64 0), .c (.int .i64 0)], [.i .i64, .i .i64, .i .i64, .b, .i .i64, .i .i64], true⟩ := rfl
theorem tab_53 : TI.of tab 53 = ⟨(.slice 57), 1, 24, false, some (.sl yBR), [.s 57 yBR], [], true⟩ := rfl
theorem tab_54 : TI.of tab 54 = ⟨(.slice 34), 1, 24, false, some (.sl yPL), [.s 34 yPL], [], true⟩ := rfl
theorem tab_57 : TI.of tab 57 = ⟨(.struct [(0, 1, false), (1, 1, false), (2, 3, true)]), 5, 40, true, some yBR, [.c (.int .i64 0), .c (.int .i64 0), .c (.int .i64 0), .c (.int .i64 0), .c (.int .i64 0)], [.i .i64, .i .i64, .i .i64, .i .i64, .i .i64], true⟩ := rfl
theorem tab_60 : TI.of tab 60 = ⟨.int, 1, 8, false, some (.int .i64), [.c (.int .i64 0)], [.i .i64], true⟩ := rfl
theorem tab_65 : TI.of tab 65 = ⟨(.struct [(0, 1, false), (1, 1, false)]), 2, 32, true, some ySR, [.s 3 (.int .i64), .c (.int .i64 0)], [], true⟩ := rfl
theorem tab_67 : TI.of tab 67 = ⟨(.struct [(0, 4, true), (4, 1, false), (5, 1, false), (6, 1, false), (7, 1, false), (8, 1, false), (9, 1, false)]), 10, 104, true, some yDP, [.c (.str ByteArray.empty), .c (.int .i64 0), .c (.str ByteArray.empty), .c (.int .i64 0), .c (.str ByteArray.empty), .c (.int .i64 0), .c (.int .i64 0), .c (.int .i64 0), .c (.int .i64 0), .c (.int .i64 0)], [.s, .i .i64, .s, .i .i64, .s, .i .i64, .i .i64, .i .i64, .i .i64, .i .i64], true⟩ := rfl
theorem tab_70 : TI.of tab 70 = ⟨(.struct [(0, 4, true), (4, 1, false), (5, 1, false), (6, 1, false)]), 7, 104, true, some (.pair yFL (.pair (.int .i64) (.pair (.sl (.int .i64)) (.sl (.int .i64))))), [.c (.str ByteArray.empty), .c (.int .i64 0), .c (.str ByteArray.empty), .c (.int .i64 0), .c (.int .i64 0), .s 3 (.int .i64), .s 3 (.int .i64)], [], true⟩ := rfl
theorem tab_72 : TI.of tab 72 = ⟨(.slice 76), 1, 24, false, some (.sl yPC), [.s 76 yPC], [], true⟩ := rfl
theorem tab_74 : TI.of tab 74 = ⟨(.struct [(0, 1, false), (1, 4, true), (5, 1, false), (6, 1, false), (7, 1, false), (8, 1, false), (9, 1, false), (10, 1, false)]), 11, 120, true, some yCT, [.c (.int .i64 0), .c (.str ByteArray.empty), .c (.int .i64 0), .c (.str ByteArray.empty), .c (.int .i64 0), .c (.int .i64 0), .c (.int .i64 0), .c (.int .i64 0), .c (.int .i64 0), .c (.int .i64 0), .s 76 yPC], [], true⟩ := rfl
theorem tab_76 : TI.of tab 76 = ⟨(.struct [(0, 3, true), (3, 1, false), (4, 1, false)]), 5, 40, true, some yPC, [.c (.int .i64 0), .c (.int .i64 0), .c (.int .i64 0), .c (.int .i64 0), .c (.int .i64 0)], [.i .i64, .i .i64, .i .i64, .i .i64, .i .i64], true⟩ := rfl
theorem tab_79 : TI.of tab 79 = ⟨(.slice 9), 1, 24, false, some (.sl .str), [.s 9 .str], [], true⟩ := rfl
theorem tab_82 : TI.of tab 82 = ⟨(.array 4 3 (.int .i64)), 4, 32, true, some (.pair (.int .i64) yPL), [.c (.int .i64 0), .c (.int .i64 0), .c (.int .i64 0), .c (.int .i64 0)], [], false⟩ := rfl
theorem tab_84 : TI.of tab 84 = ⟨(.slice 88), 1, 24, false, some (.sl yPM), [.s 88 yPM], [], true⟩ := rfl
theorem tab_85 : TI.of tab 85 = ⟨(.map 3 86), 1, 8, false, .none, [.c .undef], [], false⟩ := rfl
theorem tab_86 : TI.of tab 86 = ⟨(.struct []), 0, 0, true, .none, [], [], false⟩ := rfl
theorem tab_88 : TI.of tab 88 = ⟨(.struct [(0, 5, true), (5, 1, false), (6, 1, false)]), 7, 72, true, some yPM, [.c (.int .i64 0), .c (.int .i64 0), .c (.int .i64 0), .c (.int .i64 0), .c (.int .i64 0), .c (.int .i64 0), .s 3 (.int .i64)], [], true⟩ := rfl
theorem tab_91 : TI.of tab 91 = ⟨.other, 1, 8, false, .none, [], [], false⟩ := rfl
theorem tab_93 : TI.of tab 93 = ⟨.other, 1, 8, false, .none, [], [], false⟩ := rfl
theorem tab_95 : TI.of tab 95 = ⟨(.slice 101), 1, 24, false, some (.sl yHH), [.s 101 yHH], [], true⟩ := rfl
theorem tab_96 : TI.of tab 96 = ⟨.other, 1, 8, false, .none, [], [], false⟩ := rfl
theorem tab_98 : TI.of tab 98 = ⟨(.slice 169), 1, 24, false, some (.sl yGR), [.s 169 yGR], [], true⟩ := rfl
theorem tab_99 : TI.of tab 99 = ⟨(.slice 171), 1, 24, false, some (.sl yOP), [.s 171 yOP], [], true⟩ := rfl
theorem tab_101 : TI.of tab 101 = ⟨(.struct [(0, 1, false), (1, 1, false), (2, 1, false), (3, 1, false), (4, 1, false), (5, 1, false), (6, 1, false)]), 7, 104, true, some yHH, [.c (.int .i64 0), .c (.int .i64 0), .c (.int .i64 0), .c (.bool false), .s 169 yGR, .s 74 yCT, .s 171 yOP], [], true⟩ := rfl
theorem tab_115 : TI.of tab 115 = ⟨.int, 1, 8, false, some (.int .u64), [.c (.int .u64 0)], [.i .u64], true⟩ := rfl
theorem tab_118 : TI.of tab 118 = ⟨.other, 1, 8, false, .none, [], [], false⟩ := rfl
theorem tab_126 : TI.of tab 126 = ⟨.int, 1, 8, false, some (.int .i64), [.c (.int .i64 0)], [.i .i64], true⟩ := rfl
theorem tab_134 : TI.of tab 134 = ⟨.int, 1, 4, false, some (.int .u32), [.c (.int .u32 0)], [.i .u32], true⟩ := rfl
theorem tab_136 : TI.of tab 136 = ⟨.int, 1, 8, false, some (.int .u64), [.c (.int .u64 0)], [.i .u64], true⟩ := rfl
theorem tab_139 : TI.of tab 139 = ⟨(.slice 76), 1, 24, false, some (.sl yPC), [.s 76 yPC], [], true⟩ := rfl
theorem tab_140 : TI.of tab 140 = ⟨.other, 1, 8, false, .none, [], [], false⟩ := rfl
theorem tab_141 : TI.of tab 141 = ⟨.int, 1, 8, false, some (.int .u64), [.c (.int .u64 0)], [.i .u64], true⟩ := rfl
theorem tab_145 : TI.of tab 145 = ⟨(.ptr 3), 1, 8, false, .none, [.c .nilp], [], false⟩ := rfl
theorem tab_149 : TI.of tab 149 = ⟨(.ptr 141), 1, 8, false, .none, [.c .nilp], [], false⟩ := rfl
theorem tab_169 : TI.of tab 169 = ⟨(.struct [(0, 5, true), (5, 4, true)]), 9, 88, true, some yGR, [.c (.int .i64 0), .c (.int .i64 0), .c (.int .i64 0), .c (.int .i64 0), .c (.int .i64 0), .c (.str ByteArray.empty), .c (.int .i64 0), .c (.str ByteArray.empty), .c (.int .i64 0)], [.i .i64, .i .i64, .i .i64, .i .i64, .i .i64, .s, .i .i64, .s, .i .i64], true⟩ := rfl
theorem tab_171 : TI.of tab 171 = ⟨(.struct [(0, 1, false), (1, 1, false), (2, 1, false), (3, 1, false), (4, 1, false), (5, 5, true)]), 10, 80, true, some yOP, [.c (.int .i64 0), .c (.int .i64 0), .c (.int .i64 0), .c (.int .i64 0), .c (.int .i64 0), .c (.int .i64 0), .c (.int .i64 0), .c (.int .i64 0), .c (.int .i64 0), .c (.int .i64 0)], [.i .i64, .i .i64, .i .i64, .i .i64, .i .i64, .i .i64, .i .i64, .i .i64, .i .i64, .i .i64], true⟩ := rfl
attribute [go_sem] tab_3 tab_4 tab_5 tab_9 tab_22 tab_23 tab_25 tab_27 tab_29 tab_31 tab_32 tab_34 tab_36 tab_38 tab_39 tab_41 tab_43 tab_49 tab_52 tab_53 tab_54 tab_57 tab_60 tab_65 tab_67 tab_70 tab_72 tab_74 tab_76 tab_79 tab_82 tab_84 tab_85 tab_86 tab_88 tab_91 tab_93 tab_95 tab_96 tab_98 tab_99 tab_101 tab_115 tab_118 tab_126 tab_134 tab_136 tab_139 tab_140 tab_141 tab_145 tab_149 tab_169 tab_171

end Go.Proofs.YtjhoidgpecgfoaaDoor
