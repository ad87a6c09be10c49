/- Part. -/
import Derived.Test.YtkjpbhkldioggaaGreatEvTab
import Derived.Test.YtkjpbhkldioggaaGreatRows
namespace Go.Proofs.YtkjpbhkldioggaaGreat
open Go.Ev
abbrev yI : Ty := .int .i64
abbrev ySR : Ty := .pair (.sl (.int .i64)) (.int .i64)
abbrev yPL : Ty := .pair (.int .i64) (.pair (.int .i64) (.int .i64))
abbrev yFL : Ty := .pair .str (.pair (.int .i64) (.pair .str (.int .i64)))
abbrev yPC : Ty := .pair yPL (.pair (.int .i64) (.int .i64))
abbrev yGR : Ty := .pair yPC yFL
abbrev yBR : Ty := .pair (.int .i64) (.pair (.int .i64) yPL)
abbrev yTK : Ty := .pair (.int .i64) (.sl yPL)
abbrev yRU : Ty := .pair yPL (.pair .bool (.pair (.int .i64) (.int .i64)))
abbrev yPM : Ty := .pair yPC (.pair (.int .i64) (.sl (.int .i64)))
abbrev yOP : Ty := .pair (.int .i64) (.pair (.int .i64) (.pair (.int .i64) (.pair (.int .i64) (.pair (.int .i64) yPC))))
abbrev yDP : Ty := .pair yFL (.pair .str yBR)
abbrev yCT : Ty := .pair (.int .i64) (.pair yFL (.pair (.int .i64) (.pair (.int .i64) (.pair (.int .i64) (.pair (.int .i64) (.pair (.int .i64) (.sl yPC)))))))
abbrev yHH : Ty := .pair (.int .i64) (.pair (.int .i64) (.pair (.int .i64) (.pair .bool (.pair (.sl yGR) (.pair (.sl yCT) (.sl yOP))))))
def tab : Tab := [
  (3, ⟨.int, 1, 8, false, some (.int .i64), [.c (.int .i64 0)], [.i .i64], true⟩),
  (4, ⟨.bool, 1, 1, false, some .bool, [.c (.bool false)], [.b], true⟩),
  (5, ⟨.int, 1, 1, false, some (.int .u8), [.c (.int .u8 0)], [.i .u8], true⟩),
  (9, ⟨.str, 1, 16, false, some .str, [.c (.str ByteArray.empty)], [.s], true⟩),
  (22, ⟨(.slice 3), 1, 24, false, some (.sl (.int .i64)), [.s 3 (.int .i64)], [], true⟩),
  (23, ⟨(.ptr 65), 1, 8, false, .none, [.c .nilp], [], false⟩),
  (26, ⟨(.struct [(0, 1, false), (1, 1, false), (2, 1, false), (3, 1, false)]), 4, 48, true, some yFL, [.c (.str ByteArray.empty), .c (.int .i64 0), .c (.str ByteArray.empty), .c (.int .i64 0)], [.s, .i .i64, .s, .i .i64], true⟩),
  (28, ⟨(.slice 61), 1, 24, false, some (.sl yOP), [.s 61 yOP], [], true⟩),
  (30, ⟨(.slice 75), 1, 24, false, some (.sl yRU), [.s 75 yRU], [], true⟩),
  (32, ⟨(.slice 85), 1, 24, false, some (.sl yCT), [.s 85 yCT], [], true⟩),
  (33, ⟨.int, 1, 8, false, some (.int .i64), [.c (.int .i64 0)], [.i .i64], true⟩),
  (37, ⟨(.slice 81), 1, 24, false, some (.sl yPM), [.s 81 yPM], [], true⟩),
  (39, ⟨(.slice 47), 1, 24, false, some (.sl yBR), [.s 47 yBR], [], true⟩),
  (41, ⟨(.slice 108), 1, 24, false, some (.sl yDP), [.s 108 yDP], [], true⟩),
  (43, ⟨(.slice 45), 1, 24, false, some (.sl yPL), [.s 45 yPL], [], true⟩),
  (45, ⟨(.struct [(0, 1, false), (1, 1, false), (2, 1, false)]), 3, 24, true, some yPL, [.c (.int .i64 0), .c (.int .i64 0), .c (.int .i64 0)], [.i .i64, .i .i64, .i .i64], true⟩),
  (47, ⟨(.struct [(0, 1, false), (1, 1, false), (2, 3, true)]), 5, 40, true, some yBR, [.c (.int .i64 0), .c (.int .i64 0), .c (.int .i64 0), .c (.int .i64 0), .c (.int .i64 0)], [.i .i64, .i .i64, .i .i64, .i .i64, .i .i64], true⟩),
  (48, ⟨(.slice 53), 1, 24, false, some (.sl yTK), [.s 53 yTK], [], true⟩),
  (53, ⟨(.struct [(0, 1, false), (1, 1, false)]), 2, 32, true, some yTK, [.c (.int .i64 0), .s 45 yPL], [], true⟩),
  (59, ⟨(.struct [(0, 3, true), (3, 1, false), (4, 1, false)]), 5, 40, true, some yPC, [.c (.int .i64 0), .c (.int .i64 0), .c (.int .i64 0), .c (.int .i64 0), .c (.int .i64 0)], [.i .i64, .i .i64, .i .i64, .i .i64, .i .i64], true⟩),
  (61, ⟨(.struct [(0, 1, false), (1, 1, false), (2, 1, false), (3, 1, false), (4, 1, false), (5, 5, true)]), 10, 80, true, some yOP, [.c (.int .i64 0), .c (.int .i64 0), .c (.int .i64 0), .c (.int .i64 0), .c (.int .i64 0), .c (.int .i64 0), .c (.int .i64 0), .c (.int .i64 0), .c (.int .i64 0), .c (.int .i64 0)], [.i .i64, .i .i64, .i .i64, .i .i64, .i .i64, .i .i64, .i .i64, .i .i64, .i .i64, .i .i64], true⟩),
  (65, ⟨(.struct [(0, 1, false), (1, 1, false)]), 2, 32, true, some ySR, [.s 3 (.int .i64), .c (.int .i64 0)], [], true⟩),
  (67, ⟨(.slice 9), 1, 24, false, some (.sl .str), [.s 9 .str], [], true⟩),
  (68, ⟨(.array 5 3 (.int .i64)), 5, 40, true, some yBR, [.c (.int .i64 0), .c (.int .i64 0), .c (.int .i64 0), .c (.int .i64 0), .c (.int .i64 0)], [], false⟩),
  (73, ⟨(.struct [(0, 1, false), (1, 1, false), (2, 1, false)]), 3, 24, true, some (.pair .bool (.pair (.int .i64) (.int .i64))), [.c (.bool false), .c (.int .i64 0), .c (.int .i64 0)], [.b, .i .i64, .i .i64], true⟩),
  (75, ⟨(.struct [(0, 3, true), (3, 3, true)]), 6, 48, true, some yRU, [.c (.int .i64 0), .c (.int .i64 0), .c (.int .i64 0), .c (.bool false), .c (.int .i64 0), .c (.int .i64 0)], [.i .i64, .i .i64, .i .i64, .b, .i .i64, .i .i64], true⟩),
  (79, ⟨(.map 45 82), 1, 8, false, .none, [.c .undef], [], false⟩),
  (81, ⟨(.struct [(0, 5, true), (5, 1, false), (6, 1, false)]), 7, 72, true, some yPM, [.c (.int .i64 0), .c (.int .i64 0), .c (.int .i64 0), .c (.int .i64 0), .c (.int .i64 0), .c (.int .i64 0), .s 3 (.int .i64)], [], true⟩),
  (82, ⟨(.struct []), 0, 0, true, .none, [], [], false⟩),
  (83, ⟨(.slice 59), 1, 24, false, some (.sl yPC), [.s 59 yPC], [], true⟩),
  (85, ⟨(.struct [(0, 1, false), (1, 4, true), (5, 1, false), (6, 1, false), (7, 1, false), (8, 1, false), (9, 1, false), (10, 1, false)]), 11, 120, true, some yCT, [.c (.int .i64 0), .c (.str ByteArray.empty), .c (.int .i64 0), .c (.str ByteArray.empty), .c (.int .i64 0), .c (.int .i64 0), .c (.int .i64 0), .c (.int .i64 0), .c (.int .i64 0), .c (.int .i64 0), .s 59 yPC], [], true⟩),
  (89, ⟨.other, 1, 8, false, .none, [], [], false⟩),
  (92, ⟨(.map 45 28), 1, 8, false, .none, [.c .undef], [], false⟩),
  (96, ⟨(.slice 101), 1, 24, false, some (.sl yHH), [.s 101 yHH], [], true⟩),
  (97, ⟨.other, 1, 8, false, .none, [], [], false⟩),
  (99, ⟨(.slice 234), 1, 24, false, some (.sl yGR), [.s 234 yGR], [], true⟩),
  (101, ⟨(.struct [(0, 1, false), (1, 1, false), (2, 1, false), (3, 1, false), (4, 1, false), (5, 1, false), (6, 1, false)]), 7, 104, true, some yHH, [.c (.int .i64 0), .c (.int .i64 0), .c (.int .i64 0), .c (.bool false), .s 234 yGR, .s 85 yCT, .s 61 yOP], [], true⟩),
  (106, ⟨.other, 1, 8, false, .none, [], [], false⟩),
  (108, ⟨(.struct [(0, 4, true), (4, 1, false), (5, 1, false), (6, 1, false), (7, 1, false), (8, 1, false), (9, 1, false)]), 10, 104, true, some yDP, [.c (.str ByteArray.empty), .c (.int .i64 0), .c (.str ByteArray.empty), .c (.int .i64 0), .c (.str ByteArray.empty), .c (.int .i64 0), .c (.int .i64 0), .c (.int .i64 0), .c (.int .i64 0), .c (.int .i64 0)], [.s, .i .i64, .s, .i .i64, .s, .i .i64, .i .i64, .i .i64, .i .i64, .i .i64], true⟩),
  (111, ⟨.other, 1, 8, false, .none, [], [], false⟩),
  (112, ⟨.other, 1, 8, false, .none, [], [], false⟩),
  (114, ⟨.other, 1, 8, false, .none, [], [], false⟩),
  (116, ⟨(.ptr 53), 1, 8, false, .none, [.c .nilp], [], false⟩),
  (120, ⟨.other, 1, 8, false, .none, [], [], false⟩),
  (121, ⟨(.slice 28), 1, 24, false, some (.sl (.sl yOP)), [.s 28 (.sl yOP)], [], true⟩),
  (122, ⟨(.map 124 61), 1, 8, false, .none, [.c .undef], [], false⟩),
  (124, ⟨(.struct [(0, 1, false), (1, 1, false)]), 2, 16, true, some (.pair (.int .i64) (.int .i64)), [.c (.int .i64 0), .c (.int .i64 0)], [.i .i64, .i .i64], true⟩),
  (130, ⟨(.map 134 4), 1, 8, false, .none, [.c .undef], [], false⟩),
  (131, ⟨(.map 45 4), 1, 8, false, .none, [.c .undef], [], false⟩),
  (134, ⟨(.struct [(0, 4, true), (4, 1, false)]), 5, 56, true, some (.pair yFL (.int .i64)), [.c (.str ByteArray.empty), .c (.int .i64 0), .c (.str ByteArray.empty), .c (.int .i64 0), .c (.int .i64 0)], [.s, .i .i64, .s, .i .i64, .i .i64], true⟩),
  (135, ⟨(.array 7 3 (.int .i64)), 7, 56, true, some (.pair (.int .i64) (.pair (.int .i64) yBR)), [.c (.int .i64 0), .c (.int .i64 0), .c (.int .i64 0), .c (.int .i64 0), .c (.int .i64 0), .c (.int .i64 0), .c (.int .i64 0)], [], false⟩),
  (141, ⟨.other, 1, 8, false, .none, [], [], false⟩),
  (142, ⟨.other, 1, 8, false, .none, [], [], false⟩),
  (148, ⟨(.map 3 82), 1, 8, false, .none, [.c .undef], [], false⟩),
  (150, ⟨.other, 1, 8, false, .none, [], [], false⟩),
  (153, ⟨.other, 1, 8, false, .none, [], [], false⟩),
  (156, ⟨.other, 1, 8, false, .none, [], [], false⟩),
  (164, ⟨.int, 1, 8, false, some (.int .u64), [.c (.int .u64 0)], [.i .u64], true⟩),
  (167, ⟨(.slice 59), 1, 24, false, some (.sl yPC), [.s 59 yPC], [], true⟩),
  (171, ⟨.other, 1, 8, false, .none, [], [], false⟩),
  (178, ⟨.int, 1, 8, false, some (.int .i64), [.c (.int .i64 0)], [.i .i64], true⟩),
  (185, ⟨.int, 1, 4, false, some (.int .u32), [.c (.int .u32 0)], [.i .u32], true⟩),
  (187, ⟨.int, 1, 8, false, some (.int .u64), [.c (.int .u64 0)], [.i .u64], true⟩),
  (200, ⟨.int, 1, 8, false, some (.int .u64), [.c (.int .u64 0)], [.i .u64], true⟩),
  (204, ⟨(.ptr 3), 1, 8, false, .none, [.c .nilp], [], false⟩),
  (212, ⟨(.ptr 200), 1, 8, false, .none, [.c .nilp], [], false⟩),
  (215, ⟨.other, 1, 8, false, .none, [], [], false⟩),
  (234, ⟨(.struct [(0, 5, true), (5, 4, true)]), 9, 88, true, some yGR, [.c (.int .i64 0), .c (.int .i64 0), .c (.int .i64 0), .c (.int .i64 0), .c (.int .i64 0), .c (.str ByteArray.empty), .c (.int .i64 0), .c (.str ByteArray.empty), .c (.int .i64 0)], [.i .i64, .i .i64, .i .i64, .i .i64, .i .i64, .s, .i .i64, .s, .i .i64], true⟩)]
theorem tab_ok : TabOK Tryz.prog tab := tabB_ok (by kernel_rfl)
theorem tab_3 : TI.of tab 3 = ⟨.int, 1, 8, false, some (.int .i64), [.c (.int .i64 0)], [.i .i64], true⟩ := rfl
theorem tab_4 : TI.of tab 4 = ⟨.bool, 1, 1, false, some .bool, [.c (.bool false)], [.b], true⟩ := rfl
theorem tab_5 : TI.of tab 5 = ⟨.int, 1, 1, false, some (.int .u8), [.c (.int .u8 0)], [.i .u8], true⟩ := rfl
theorem tab_9 : TI.of tab 9 = ⟨.str, 1, 16, false, some .str, [.c (.str ByteArray.empty)], [.s], true⟩ := rfl
theorem tab_22 : TI.of tab 22 = ⟨(.slice 3), 1, 24, false, some (.sl (.int .i64)), [.s 3 (.int .i64)], [], true⟩ := rfl
theorem tab_26 : TI.of tab 26 = ⟨(.struct [(0, 1, false), (1, 1, false), (2, 1, false), (3, 1, false)]), 4, 48, true, some yFL, [.c (.str ByteArray.empty), .c (.int .i64 0), .c (.str ByteArray.empty), .c (.int .i64 0)], [.s, .i .i64, .s, .i .i64], true⟩ := rfl
theorem tab_28 : TI.of tab 28 = ⟨(.slice 61), 1, 24, false, some (.sl yOP), [.s 61 yOP], [], true⟩ := rfl
theorem tab_30 : TI.of tab 30 = ⟨(.slice 75), 1, 24, false, some (.sl yRU), [.s 75 yRU], [], true⟩ := rfl
theorem tab_32 : TI.of tab 32 = ⟨(.slice 85), 1, 24, false, some (.sl yCT), [.s 85 yCT], [], true⟩ := rfl
theorem tab_33 : TI.of tab 33 = ⟨.int, 1, 8, false, some (.int .i64), [.c (.int .i64 0)], [.i .i64], true⟩ := rfl
theorem tab_37 : TI.of tab 37 = ⟨(.slice 81), 1, 24, false, some (.sl yPM), [.s 81 yPM], [], true⟩ := rfl
theorem tab_39 : TI.of tab 39 = ⟨(.slice 47), 1, 24, false, some (.sl yBR), [.s 47 yBR], [], true⟩ := rfl
theorem tab_41 : TI.of tab 41 = ⟨(.slice 108), 1, 24, false, some (.sl yDP), [.s 108 yDP], [], true⟩ := rfl
theorem tab_43 : TI.of tab 43 = ⟨(.slice 45), 1, 24, false, some (.sl yPL), [.s 45 yPL], [], true⟩ := rfl
theorem tab_45 : TI.of tab 45 = ⟨(.struct [(0, 1, false), (1, 1, false), (2, 1, false)]), 3, 24, true, some yPL, [.c (.int .i64 0), .c (.int .i64 0), .c (.int .i64 0)], [.i .i64, .i .i64, .i .i64], true⟩ := rfl
theorem tab_47 : TI.of tab 47 = ⟨(.struct [(0, 1, false), (1, 1, false), (2, 3, true)]), 5, 40, true, some yBR, [.c (.int .i64 0), .c (.int .i64 0), .c (.int .i64 0), .c (.int .i64 0), .c (.int .i64 0)], [.i .i64, .i .i64, .i .i64, .i .i64, .i .i64], true⟩ := rfl
theorem tab_48 : TI.of tab 48 = ⟨(.slice 53), 1, 24, false, some (.sl yTK), [.s 53 yTK], [], true⟩ := rfl
theorem tab_53 : TI.of tab 53 = ⟨(.struct [(0, 1, false), (1, 1, false)]), 2, 32, true, some yTK, [.c (.int .i64 0), .s 45 yPL], [], true⟩ := rfl
theorem tab_59 : TI.of tab 59 = ⟨(.struct [(0, 3, true), (3, 1, false), (4, 1, false)]), 5, 40, true, some yPC, [.c (.int .i64 0), .c (.int .i64 0), .c (.int .i64 0), .c (.int .i64 0), .c (.int .i64 0)], [.i .i64, .i .i64, .i .i64, .i .i64, .i .i64], true⟩ := rfl
theorem tab_61 : TI.of tab 61 = ⟨(.struct [(0, 1, false), (1, 1, false), (2, 1, false), (3, 1, false), (4, 1, false), (5, 5, true)]), 10, 80, true, some yOP, [.c (.int .i64 0), .c (.int .i64 0), .c (.int .i64 0), .c (.int .i64 0), .c (.int .i64 0), .c (.int .i64 0), .c (.int .i64 0), .c (.int .i64 0), .c (.int .i64 0), .c (.int .i64 0)], [.i .i64, .i .i64, .i .i64, .i .i64, .i .i64, .i .i64, .i .i64, .i .i64, .i .i64, .i .i64], true⟩ := rfl
theorem tab_65 : TI.of tab 65 = ⟨(.struct [(0, 1, false), (1, 1, false)]), 2, 32, true, some ySR, [.s 3 (.int .i64), .c (.int .i64 0)], [], true⟩ := rfl
theorem tab_67 : TI.of tab 67 = ⟨(.slice 9), 1, 24, false, some (.sl .str), [.s 9 .str], [], true⟩ := rfl
theorem tab_68 : TI.of tab 68 = ⟨(.array 5 3 (.int .i64)), 5, 40, true, some yBR, [.c (.int .i64 0), .c (.int .i64 0), .c (.int .i64 0), .c (.int .i64 0), .c (.int .i64 0)], [], false⟩ := rfl
theorem tab_73 : TI.of tab 73 = ⟨(.struct [(0, 1, false), (1, 1, false), (2, 1, false)]), 3, 24, true, some (.pair .bool (.pair (.int .i64) (.int .i64))), [.c (.bool false), .c (.int .i64 0), .c (.int .i64 0)], [.b, .i .i64, .i .i64], true⟩ := rfl
theorem tab_75 : TI.of tab 75 = ⟨(.struct [(0, 3, true), (3, 3, true)]), 6, 48, true, some yRU, [.c (.int .i64 0), .c (.int .i64 0), .c (.int .i64 0), .c (.bool false), .c (.int .i64 0), .c (.int .i64 0)], [.i .i64, .i .i64, .i .i64, .b, .i .i64, .i .i64], true⟩ := rfl
theorem tab_79 : TI.of tab 79 = ⟨(.map 45 82), 1, 8, false, .none, [.c .undef], [], false⟩ := rfl
theorem tab_81 : TI.of tab 81 = ⟨(.struct [(0, 5, true), (5, 1, false), (6, 1, false)]), 7, 72, true, some yPM, [.c (.int .i64 0), .c (.int .i64 0), .c (.int .i64 0), .c (.int .i64 0), .c (.int .i64 0), .c (.int .i64 0), .s 3 (.int .i64)], [], true⟩ := rfl
theorem tab_82 : TI.of tab 82 = ⟨(.struct []), 0, 0, true, .none, [], [], false⟩ := rfl
theorem tab_83 : TI.of tab 83 = ⟨(.slice 59), 1, 24, false, some (.sl yPC), [.s 59 yPC], [], true⟩ := rfl
theorem tab_85 : TI.of tab 85 = ⟨(.struct [(0, 1, false), (1, 4, true), (5, 1, false), (6, 1, false), (7, 1, false), (8, 1, false), (9, 1, false), (10, 1, false)]), 11, 120, true, some yCT, [.c (.int .i64 0), .c (.str ByteArray.empty), .c (.int .i64 0), .c (.str ByteArray.empty), .c (.int .i64 0), .c (.int .i64 0), .c (.int .i64 0), .c (.int .i64 0), .c (.int .i64 0), .c (.int .i64 0), .s 59 yPC], [], true⟩ := rfl
theorem tab_92 : TI.of tab 92 = ⟨(.map 45 28), 1, 8, false, .none, [.c .undef], [], false⟩ := rfl
theorem tab_96 : TI.of tab 96 = ⟨(.slice 101), 1, 24, false, some (.sl yHH), [.s 101 yHH], [], true⟩ := rfl
theorem tab_101 : TI.of tab 101 = ⟨(.struct [(0, 1, false), (1, 1, false), (2, 1, false), (3, 1, false), (4, 1, false), (5, 1, false), (6, 1, false)]), 7, 104, true, some yHH, [.c (.int .i64 0), .c (.int .i64 0), .c (.int .i64 0), .c (.bool false), .s 234 yGR, .s 85 yCT, .s 61 yOP], [], true⟩ := rfl
theorem tab_108 : TI.of tab 108 = ⟨(.struct [(0, 4, true), (4, 1, false), (5, 1, false), (6, 1, false), (7, 1, false), (8, 1, false), (9, 1, false)]), 10, 104, true, some yDP, [.c (.str ByteArray.empty), .c (.int .i64 0), .c (.str ByteArray.empty), .c (.int .i64 0), .c (.str ByteArray.empty), .c (.int .i64 0), .c (.int .i64 0), .c (.int .i64 0), .c (.int .i64 0), .c (.int .i64 0)], [.s, .i .i64, .s, .i .i64, .s, .i .i64, .i .i64, .i .i64, .i .i64, .i .i64], true⟩ := rfl
theorem tab_116 : TI.of tab 116 = ⟨(.ptr 53), 1, 8, false, .none, [.c .nilp], [], false⟩ := rfl
theorem tab_121 : TI.of tab 121 = ⟨(.slice 28), 1, 24, false, some (.sl (.sl yOP)), [.s 28 (.sl yOP)], [], true⟩ := rfl
theorem tab_122 : TI.of tab 122 = ⟨(.map 124 61), 1, 8, false, .none, [.c .undef], [], false⟩ := rfl
theorem tab_124 : TI.of tab 124 = ⟨(.struct [(0, 1, false), (1, 1, false)]), 2, 16, true, some (.pair (.int .i64) (.int .i64)), [.c (.int .i64 0), .c (.int .i64 0)], [.i .i64, .i .i64], true⟩ := rfl
theorem tab_130 : TI.of tab 130 = ⟨(.map 134 4), 1, 8, false, .none, [.c .undef], [], false⟩ := rfl
theorem tab_131 : TI.of tab 131 = ⟨(.map 45 4), 1, 8, false, .none, [.c .undef], [], false⟩ := rfl
theorem tab_134 : TI.of tab 134 = ⟨(.struct [(0, 4, true), (4, 1, false)]), 5, 56, true, some (.pair yFL (.int .i64)), [.c (.str ByteArray.empty), .c (.int .i64 0), .c (.str ByteArray.empty), .c (.int .i64 0), .c (.int .i64 0)], [.s, .i .i64, .s, .i .i64, .i .i64], true⟩ := rfl
theorem tab_135 : TI.of tab 135 = ⟨(.array 7 3 (.int .i64)), 7, 56, true, some (.pair (.int .i64) (.pair (.int .i64) yBR)), [.c (.int .i64 0), .c (.int .i64 0), .c (.int .i64 0), .c (.int .i64 0), .c (.int .i64 0), .c (.int .i64 0), .c (.int .i64 0)], [], false⟩ := rfl
theorem tab_148 : TI.of tab 148 = ⟨(.map 3 82), 1, 8, false, .none, [.c .undef], [], false⟩ := rfl
theorem tab_167 : TI.of tab 167 = ⟨(.slice 59), 1, 24, false, some (.sl yPC), [.s 59 yPC], [], true⟩ := rfl
attribute [go_sem] tab_3 tab_4 tab_5 tab_9 tab_22 tab_26 tab_28 tab_30 tab_32 tab_33 tab_37 tab_39 tab_41 tab_43 tab_45 tab_47 tab_48 tab_53 tab_59 tab_61 tab_65 tab_67 tab_68 tab_73 tab_75 tab_79 tab_81 tab_82 tab_83 tab_85 tab_92 tab_96 tab_101 tab_108 tab_116 tab_121 tab_122 tab_124 tab_130 tab_131 tab_134 tab_135 tab_148 tab_167
end Go.Proofs.YtkjpbhkldioggaaGreat
