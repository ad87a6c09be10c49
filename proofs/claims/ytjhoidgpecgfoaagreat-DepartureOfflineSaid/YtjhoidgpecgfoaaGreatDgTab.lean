/- The types of the functions, as a table; it is checked against the program. -/
import Derived.Test.YtjhoidgpecgfoaaGreatEvTab
import Derived.Test.YtjhoidgpecgfoaaGreatRows
namespace Go.Proofs.YtjhoidgpecgfoaaGreat
open Go.Ev
abbrev ySR : Ty := .pair (.sl (.int .i64)) (.int .i64)
abbrev yPL : Ty := .pair (.int .i64) (.pair (.int .i64) (.int .i64))
abbrev yFL : Ty := .pair .str (.pair (.int .i64) (.pair .str (.int .i64)))
abbrev yPC : Ty := .pair (.pair (.int .i64) (.pair (.int .i64) (.int .i64))) (.pair (.int .i64) (.int .i64))
abbrev yGR : Ty := .pair (.pair (.pair (.int .i64) (.pair (.int .i64) (.int .i64))) (.pair (.int .i64) (.int .i64))) (.pair .str (.pair (.int .i64) (.pair .str (.int .i64))))
abbrev yBR : Ty := .pair (.int .i64) (.pair (.int .i64) (.pair (.int .i64) (.pair (.int .i64) (.int .i64))))
abbrev yTK : Ty := .pair (.int .i64) (.sl (.pair (.int .i64) (.pair (.int .i64) (.int .i64))))
abbrev yRU : Ty := .pair (.pair (.int .i64) (.pair (.int .i64) (.int .i64))) (.pair .bool (.pair (.int .i64) (.int .i64)))
abbrev yPM : Ty := .pair (.pair (.pair (.int .i64) (.pair (.int .i64) (.int .i64))) (.pair (.int .i64) (.int .i64))) (.pair (.int .i64) (.sl (.int .i64)))
abbrev yOP : Ty := .pair (.int .i64) (.pair (.int .i64) (.pair (.int .i64) (.pair (.int .i64) (.pair (.int .i64) (.pair (.pair (.int .i64) (.pair (.int .i64) (.int .i64))) (.pair (.int .i64) (.int .i64)))))))
abbrev yDP : Ty := .pair (.pair .str (.pair (.int .i64) (.pair .str (.int .i64)))) (.pair .str (.pair (.int .i64) (.pair (.int .i64) (.pair (.int .i64) (.pair (.int .i64) (.int .i64))))))
abbrev yCT : Ty := .pair (.int .i64) (.pair (.pair .str (.pair (.int .i64) (.pair .str (.int .i64)))) (.pair (.int .i64) (.pair (.int .i64) (.pair (.int .i64) (.pair (.int .i64) (.pair (.int .i64) (.sl (.pair (.pair (.int .i64) (.pair (.int .i64) (.int .i64))) (.pair (.int .i64) (.int .i64))))))))))
abbrev yHH : Ty := .pair (.int .i64) (.pair (.int .i64) (.pair (.int .i64) (.pair .bool (.pair (.sl (.pair (.pair (.pair (.int .i64) (.pair (.int .i64) (.int .i64))) (.pair (.int .i64) (.int .i64))) (.pair .str (.pair (.int .i64) (.pair .str (.int .i64)))))) (.pair (.sl (.pair (.int .i64) (.pair (.pair .str (.pair (.int .i64) (.pair .str (.int .i64)))) (.pair (.int .i64) (.pair (.int .i64) (.pair (.int .i64) (.pair (.int .i64) (.pair (.int .i64) (.sl (.pair (.pair (.int .i64) (.pair (.int .i64) (.int .i64))) (.pair (.int .i64) (.int .i64)))))))))))) (.sl (.pair (.int .i64) (.pair (.int .i64) (.pair (.int .i64) (.pair (.int .i64) (.pair (.int .i64) (.pair (.pair (.int .i64) (.pair (.int .i64) (.int .i64))) (.pair (.int .i64) (.int .i64))))))))))))))

def tab : Tab := [
  (3, ⟨.int, 1, 8, false, some (.int .i64), [.c (.int .i64 0)], [.i .i64], true⟩),
  (4, ⟨.bool, 1, 1, false, some .bool, [.c (.bool false)], [.b], true⟩),
  (5, ⟨.int, 1, 1, false, some (.int .u8), [.c (.int .u8 0)], [.i .u8], true⟩),
  (9, ⟨.str, 1, 16, false, some .str, [.c (.str ByteArray.empty)], [.s], true⟩),
  (22, ⟨(.slice 57), 1, 24, false, some (.sl yDP), [.s 57 yDP], [], true⟩),
  (24, ⟨(.struct [(0, 1, false), (1, 1, false), (2, 1, false), (3, 1, false)]), 4, 48, true, some yFL, [.c (.str ByteArray.empty), .c (.int .i64 0), .c (.str ByteArray.empty), .c (.int .i64 0)], [.s, .i .i64, .s, .i .i64], true⟩),
  (25, ⟨(.slice 40), 1, 24, false, some (.sl yHH), [.s 40 yHH], [], true⟩),
  (26, ⟨(.slice 107), 1, 24, false, some (.sl yCT), [.s 107 yCT], [], true⟩),
  (27, ⟨(.slice 100), 1, 24, false, some (.sl yPM), [.s 100 yPM], [], true⟩),
  (28, ⟨(.slice 89), 1, 24, false, some (.sl yRU), [.s 89 yRU], [], true⟩),
  (29, ⟨(.slice 3), 1, 24, false, some (.sl (.int .i64)), [.s 3 (.int .i64)], [], true⟩),
  (31, ⟨(.ptr 103), 1, 8, false, .none, [.c .nilp], [], false⟩),
  (34, ⟨(.slice 81), 1, 24, false, some (.sl yOP), [.s 81 yOP], [], true⟩),
  (38, ⟨(.slice 85), 1, 24, false, some (.sl yGR), [.s 85 yGR], [], true⟩),
  (40, ⟨(.struct [(0, 1, false), (1, 1, false), (2, 1, false), (3, 1, false), (4, 1, false), (5, 1, false), (6, 1, false)]), 7, 104, true, some yHH, [.c (.int .i64 0), .c (.int .i64 0), .c (.int .i64 0), .c (.bool false), .s 85 yGR, .s 107 yCT, .s 81 yOP], [], true⟩),
  (41, ⟨(.slice 26), 1, 24, false, some (.sl (.sl yCT)), [.s 26 (.sl yCT)], [], true⟩),
  (43, ⟨(.slice 27), 1, 24, false, some (.sl (.sl yPM)), [.s 27 (.sl yPM)], [], true⟩),
  (45, ⟨(.slice 24), 1, 24, false, some (.sl yFL), [.s 24 yFL], [], true⟩),
  (47, ⟨(.slice 65), 1, 24, false, some (.sl yPL), [.s 65 yPL], [], true⟩),
  (49, ⟨(.slice 28), 1, 24, false, some (.sl (.sl yRU)), [.s 28 (.sl yRU)], [], true⟩),
  (50, ⟨(.slice 67), 1, 24, false, some (.sl yBR), [.s 67 yBR], [], true⟩),
  (57, ⟨(.struct [(0, 4, true), (4, 1, false), (5, 1, false), (6, 1, false), (7, 1, false), (8, 1, false), (9, 1, false)]), 10, 104, true, some yDP, [.c (.str ByteArray.empty), .c (.int .i64 0), .c (.str ByteArray.empty), .c (.int .i64 0), .c (.str ByteArray.empty), .c (.int .i64 0), .c (.int .i64 0), .c (.int .i64 0), .c (.int .i64 0), .c (.int .i64 0)], [.s, .i .i64, .s, .i .i64, .s, .i .i64, .i .i64, .i .i64, .i .i64, .i .i64], true⟩),
  (58, ⟨.other, 1, 8, false, .none, [], [], false⟩),
  (60, ⟨.int, 1, 8, false, some (.int .i64), [.c (.int .i64 0)], [.i .i64], true⟩),
  (65, ⟨(.struct [(0, 1, false), (1, 1, false), (2, 1, false)]), 3, 24, true, some yPL, [.c (.int .i64 0), .c (.int .i64 0), .c (.int .i64 0)], [.i .i64, .i .i64, .i .i64], true⟩),
  (67, ⟨(.struct [(0, 1, false), (1, 1, false), (2, 3, true)]), 5, 40, true, some yBR, [.c (.int .i64 0), .c (.int .i64 0), .c (.int .i64 0), .c (.int .i64 0), .c (.int .i64 0)], [.i .i64, .i .i64, .i .i64, .i .i64, .i .i64], true⟩),
  (68, ⟨(.slice 73), 1, 24, false, some (.sl yTK), [.s 73 yTK], [], true⟩),
  (73, ⟨(.struct [(0, 1, false), (1, 1, false)]), 2, 32, true, some yTK, [.c (.int .i64 0), .s 65 yPL], [], true⟩),
  (79, ⟨(.struct [(0, 3, true), (3, 1, false), (4, 1, false)]), 5, 40, true, some yPC, [.c (.int .i64 0), .c (.int .i64 0), .c (.int .i64 0), .c (.int .i64 0), .c (.int .i64 0)], [.i .i64, .i .i64, .i .i64, .i .i64, .i .i64], true⟩),
  (81, ⟨(.struct [(0, 1, false), (1, 1, false), (2, 1, false), (3, 1, false), (4, 1, false), (5, 5, true)]), 10, 80, true, some yOP, [.c (.int .i64 0), .c (.int .i64 0), .c (.int .i64 0), .c (.int .i64 0), .c (.int .i64 0), .c (.int .i64 0), .c (.int .i64 0), .c (.int .i64 0), .c (.int .i64 0), .c (.int .i64 0)], [.i .i64, .i .i64, .i .i64, .i .i64, .i .i64, .i .i64, .i .i64, .i .i64, .i .i64, .i .i64], true⟩),
  (85, ⟨(.struct [(0, 5, true), (5, 4, true)]), 9, 88, true, some yGR, [.c (.int .i64 0), .c (.int .i64 0), .c (.int .i64 0), .c (.int .i64 0), .c (.int .i64 0), .c (.str ByteArray.empty), .c (.int .i64 0), .c (.str ByteArray.empty), .c (.int .i64 0)], [.i .i64, .i .i64, .i .i64, .i .i64, .i .i64, .s, .i .i64, .s, .i .i64], true⟩),
  (87, ⟨(.struct [(0, 1, false), (1, 1, false), (2, 1, false)]), 3, 24, true, some (.pair .bool (.pair (.int .i64) (.int .i64))), [.c (.bool false), .c (.int .i64 0), .c (.int .i64 0)], [.b, .i .i64, .i .i64], true⟩),
  (89, ⟨(.struct [(0, 3, true), (3, 3, true)]), 6, 48, true, some yRU, [.c (.int .i64 0), .c (.int .i64 0), .c (.int .i64 0), .c (.bool false), .c (.int .i64 0), .c (.int .i64 0)], [.i .i64, .i .i64, .i .i64, .b, .i .i64, .i .i64], true⟩),
  (100, ⟨(.struct [(0, 5, true), (5, 1, false), (6, 1, false)]), 7, 72, true, some yPM, [.c (.int .i64 0), .c (.int .i64 0), .c (.int .i64 0), .c (.int .i64 0), .c (.int .i64 0), .c (.int .i64 0), .s 3 (.int .i64)], [], true⟩),
  (103, ⟨(.struct [(0, 1, false), (1, 1, false)]), 2, 32, true, some ySR, [.s 3 (.int .i64), .c (.int .i64 0)], [], true⟩),
  (105, ⟨(.slice 79), 1, 24, false, some (.sl yPC), [.s 79 yPC], [], true⟩),
  (107, ⟨(.struct [(0, 1, false), (1, 4, true), (5, 1, false), (6, 1, false), (7, 1, false), (8, 1, false), (9, 1, false), (10, 1, false)]), 11, 120, true, some yCT, [.c (.int .i64 0), .c (.str ByteArray.empty), .c (.int .i64 0), .c (.str ByteArray.empty), .c (.int .i64 0), .c (.int .i64 0), .c (.int .i64 0), .c (.int .i64 0), .c (.int .i64 0), .c (.int .i64 0), .s 79 yPC], [], true⟩),
  (108, ⟨(.array 5 3 (.int .i64)), 5, 40, true, some yBR, [.c (.int .i64 0), .c (.int .i64 0), .c (.int .i64 0), .c (.int .i64 0), .c (.int .i64 0)], [], false⟩),
  (114, ⟨(.slice 9), 1, 24, false, some (.sl .str), [.s 9 .str], [], true⟩),
  (115, ⟨(.map 3 116), 1, 8, false, .none, [.c .undef], [], false⟩),
  (116, ⟨(.struct []), 0, 0, true, .none, [], [], false⟩),
  (119, ⟨.other, 1, 8, false, .none, [], [], false⟩),
  (121, ⟨.other, 1, 8, false, .none, [], [], false⟩),
  (124, ⟨.other, 1, 8, false, .none, [], [], false⟩),
  (129, ⟨.other, 1, 8, false, .none, [], [], false⟩),
  (133, ⟨(.map 65 116), 1, 8, false, .none, [.c .undef], [], false⟩),
  (136, ⟨.other, 1, 8, false, .none, [], [], false⟩),
  (139, ⟨(.map 65 34), 1, 8, false, .none, [.c .undef], [], false⟩),
  (145, ⟨.other, 1, 8, false, .none, [], [], false⟩),
  (146, ⟨.other, 1, 8, false, .none, [], [], false⟩),
  (149, ⟨(.ptr 73), 1, 8, false, .none, [.c .nilp], [], false⟩),
  (153, ⟨.other, 1, 8, false, .none, [], [], false⟩),
  (154, ⟨(.slice 34), 1, 24, false, some (.sl (.sl yOP)), [.s 34 (.sl yOP)], [], true⟩),
  (155, ⟨(.map 157 81), 1, 8, false, .none, [.c .undef], [], false⟩),
  (157, ⟨(.struct [(0, 1, false), (1, 1, false)]), 2, 16, true, some (.pair (.int .i64) (.int .i64)), [.c (.int .i64 0), .c (.int .i64 0)], [.i .i64, .i .i64], true⟩),
  (164, ⟨.other, 1, 8, false, .none, [], [], false⟩),
  (173, ⟨.int, 1, 8, false, some (.int .u64), [.c (.int .u64 0)], [.i .u64], true⟩),
  (178, ⟨.other, 1, 8, false, .none, [], [], false⟩),
  (184, ⟨(.map 187 4), 1, 8, false, .none, [.c .undef], [], false⟩),
  (185, ⟨(.map 65 4), 1, 8, false, .none, [.c .undef], [], false⟩),
  (187, ⟨(.struct [(0, 4, true), (4, 1, false)]), 5, 56, true, some (.pair yFL (.int .i64)), [.c (.str ByteArray.empty), .c (.int .i64 0), .c (.str ByteArray.empty), .c (.int .i64 0), .c (.int .i64 0)], [.s, .i .i64, .s, .i .i64, .i .i64], true⟩),
  (188, ⟨(.array 7 3 (.int .i64)), 7, 56, true, some (.pair (.int .i64) (.pair (.int .i64) yBR)), [.c (.int .i64 0), .c (.int .i64 0), .c (.int .i64 0), .c (.int .i64 0), .c (.int .i64 0), .c (.int .i64 0), .c (.int .i64 0)], [], false⟩),
  (192, ⟨.other, 1, 8, false, .none, [], [], false⟩),
  (193, ⟨.other, 1, 8, false, .none, [], [], false⟩),
  (197, ⟨.other, 1, 8, false, .none, [], [], false⟩),
  (204, ⟨(.struct [(0, 1, false), (1, 1, false), (2, 1, false), (3, 1, false), (4, 1, false), (5, 1, false), (6, 1, false)]), 7, 104, true, some yHH, [.c (.int .i64 0), .c (.int .i64 0), .c (.int .i64 0), .c (.bool false), .s 85 yGR, .s 107 yCT, .s 81 yOP], [], true⟩),
  (205, ⟨(.slice 58), 1, 24, false, .none, [.c .nilsl], [], false⟩),
  (209, ⟨.int, 1, 8, false, some (.int .i64), [.c (.int .i64 0)], [.i .i64], true⟩),
  (216, ⟨.int, 1, 4, false, some (.int .u32), [.c (.int .u32 0)], [.i .u32], true⟩),
  (218, ⟨.int, 1, 8, false, some (.int .u64), [.c (.int .u64 0)], [.i .u64], true⟩),
  (220, ⟨(.slice 79), 1, 24, false, some (.sl yPC), [.s 79 yPC], [], true⟩),
  (223, ⟨.other, 1, 8, false, .none, [], [], false⟩),
  (235, ⟨.int, 1, 8, false, some (.int .u64), [.c (.int .u64 0)], [.i .u64], true⟩),
  (239, ⟨(.ptr 3), 1, 8, false, .none, [.c .nilp], [], false⟩),
  (249, ⟨.other, 1, 8, false, .none, [], [], false⟩),
  (251, ⟨(.ptr 235), 1, 8, false, .none, [.c .nilp], [], false⟩)]

theorem tab_ok : TabOK Tryz.prog tab := tabB_ok (by kernel_rfl)
theorem tab_3 : TI.of tab 3 = ⟨.int, 1, 8, false, some (.int .i64), [.c (.int .i64 0)], [.i .i64], true⟩ := rfl
theorem tab_4 : TI.of tab 4 = ⟨.bool, 1, 1, false, some .bool, [.c (.bool false)], [.b], true⟩ := rfl
theorem tab_5 : TI.of tab 5 = ⟨.int, 1, 1, false, some (.int .u8), [.c (.int .u8 0)], [.i .u8], true⟩ := rfl
theorem tab_9 : TI.of tab 9 = ⟨.str, 1, 16, false, some .str, [.c (.str ByteArray.empty)], [.s], true⟩ := rfl
theorem tab_22 : TI.of tab 22 = ⟨(.slice 57), 1, 24, false, some (.sl yDP), [.s 57 yDP], [], true⟩ := rfl
theorem tab_24 : TI.of tab 24 = ⟨(.struct [(0, 1, false), (1, 1, false), (2, 1, false), (3, 1, false)]), 4, 48, true, some yFL, [.c (.str ByteArray.empty), .c (.int .i64 0), .c (.str ByteArray.empty), .c (.int .i64 0)], [.s, .i .i64, .s, .i .i64], true⟩ := rfl
theorem tab_25 : TI.of tab 25 = ⟨(.slice 40), 1, 24, false, some (.sl yHH), [.s 40 yHH], [], true⟩ := rfl
theorem tab_26 : TI.of tab 26 = ⟨(.slice 107), 1, 24, false, some (.sl yCT), [.s 107 yCT], [], true⟩ := rfl
theorem tab_27 : TI.of tab 27 = ⟨(.slice 100), 1, 24, false, some (.sl yPM), [.s 100 yPM], [], true⟩ := rfl
theorem tab_28 : TI.of tab 28 = ⟨(.slice 89), 1, 24, false, some (.sl yRU), [.s 89 yRU], [], true⟩ := rfl
theorem tab_29 : TI.of tab 29 = ⟨(.slice 3), 1, 24, false, some (.sl (.int .i64)), [.s 3 (.int .i64)], [], true⟩ := rfl
theorem tab_31 : TI.of tab 31 = ⟨(.ptr 103), 1, 8, false, .none, [.c .nilp], [], false⟩ := rfl
theorem tab_34 : TI.of tab 34 = ⟨(.slice 81), 1, 24, false, some (.sl yOP), [.s 81 yOP], [], true⟩ := rfl
theorem tab_38 : TI.of tab 38 = ⟨(.slice 85), 1, 24, false, some (.sl yGR), [.s 85 yGR], [], true⟩ := rfl
theorem tab_40 : TI.of tab 40 = ⟨(.struct [(0, 1, false), (1, 1, false), (2, 1, false), (3, 1, false), (4, 1, false), (5, 1, false), (6, 1, false)]), 7, 104, true, some yHH, [.c (.int .i64 0), .c (.int .i64 0), .c (.int .i64 0), .c (.bool false), .s 85 yGR, .s 107 yCT, .s 81 yOP], [], true⟩ := rfl
theorem tab_41 : TI.of tab 41 = ⟨(.slice 26), 1, 24, false, some (.sl (.sl yCT)), [.s 26 (.sl yCT)], [], true⟩ := rfl
theorem tab_43 : TI.of tab 43 = ⟨(.slice 27), 1, 24, false, some (.sl (.sl yPM)), [.s 27 (.sl yPM)], [], true⟩ := rfl
theorem tab_45 : TI.of tab 45 = ⟨(.slice 24), 1, 24, false, some (.sl yFL), [.s 24 yFL], [], true⟩ := rfl
theorem tab_47 : TI.of tab 47 = ⟨(.slice 65), 1, 24, false, some (.sl yPL), [.s 65 yPL], [], true⟩ := rfl
theorem tab_49 : TI.of tab 49 = ⟨(.slice 28), 1, 24, false, some (.sl (.sl yRU)), [.s 28 (.sl yRU)], [], true⟩ := rfl
theorem tab_50 : TI.of tab 50 = ⟨(.slice 67), 1, 24, false, some (.sl yBR), [.s 67 yBR], [], true⟩ := rfl
theorem tab_57 : TI.of tab 57 = ⟨(.struct [(0, 4, true), (4, 1, false), (5, 1, false), (6, 1, false), (7, 1, false), (8, 1, false), (9, 1, false)]), 10, 104, true, some yDP, [.c (.str ByteArray.empty), .c (.int .i64 0), .c (.str ByteArray.empty), .c (.int .i64 0), .c (.str ByteArray.empty), .c (.int .i64 0), .c (.int .i64 0), .c (.int .i64 0), .c (.int .i64 0), .c (.int .i64 0)], [.s, .i .i64, .s, .i .i64, .s, .i .i64, .i .i64, .i .i64, .i .i64, .i .i64], true⟩ := rfl
theorem tab_58 : TI.of tab 58 = ⟨.other, 1, 8, false, .none, [], [], false⟩ := rfl
theorem tab_60 : TI.of tab 60 = ⟨.int, 1, 8, false, some (.int .i64), [.c (.int .i64 0)], [.i .i64], true⟩ := rfl
theorem tab_65 : TI.of tab 65 = ⟨(.struct [(0, 1, false), (1, 1, false), (2, 1, false)]), 3, 24, true, some yPL, [.c (.int .i64 0), .c (.int .i64 0), .c (.int .i64 0)], [.i .i64, .i .i64, .i .i64], true⟩ := rfl
theorem tab_67 : TI.of tab 67 = ⟨(.struct [(0, 1, false), (1, 1, false), (2, 3, true)]), 5, 40, true, some yBR, [.c (.int .i64 0), .c (.int .i64 0), .c (.int .i64 0), .c (.int .i64 0), .c (.int .i64 0)], [.i .i64, .i .i64, .i .i64, .i .i64, .i .i64], true⟩ := rfl
theorem tab_68 : TI.of tab 68 = ⟨(.slice 73), 1, 24, false, some (.sl yTK), [.s 73 yTK], [], true⟩ := rfl
theorem tab_73 : TI.of tab 73 = ⟨(.struct [(0, 1, false), (1, 1, false)]), 2, 32, true, some yTK, [.c (.int .i64 0), .s 65 yPL], [], true⟩ := rfl
theorem tab_79 : TI.of tab 79 = ⟨(.struct [(0, 3, true), (3, 1, false), (4, 1, false)]), 5, 40, true, some yPC, [.c (.int .i64 0), .c (.int .i64 0), .c (.int .i64 0), .c (.int .i64 0), .c (.int .i64 0)], [.i .i64, .i .i64, .i .i64, .i .i64, .i .i64], true⟩ := rfl
theorem tab_81 : TI.of tab 81 = ⟨(.struct [(0, 1, false), (1, 1, false), (2, 1, false), (3, 1, false), (4, 1, false), (5, 5, true)]), 10, 80, true, some yOP, [.c (.int .i64 0), .c (.int .i64 0), .c (.int .i64 0), .c (.int .i64 0), .c (.int .i64 0), .c (.int .i64 0), .c (.int .i64 0), .c (.int .i64 0), .c (.int .i64 0), .c (.int .i64 0)], [.i .i64, .i .i64, .i .i64, .i .i64, .i .i64, .i .i64, .i .i64, .i .i64, .i .i64, .i .i64], true⟩ := rfl
theorem tab_85 : TI.of tab 85 = ⟨(.struct [(0, 5, true), (5, 4, true)]), 9, 88, true, some yGR, [.c (.int .i64 0), .c (.int .i64 0), .c (.int .i64 0), .c (.int .i64 0), .c (.int .i64 0), .c (.str ByteArray.empty), .c (.int .i64 0), .c (.str ByteArray.empty), .c (.int .i64 0)], [.i .i64, .i .i64, .i .i64, .i .i64, .i .i64, .s, .i .i64, .s, .i .i64], true⟩ := rfl
theorem tab_87 : TI.of tab 87 = ⟨(.struct [(0, 1, false), (1, 1, false), (2, 1, false)]), 3, 24, true, some (.pair .bool (.pair (.int .i64) (.int .i64))), [.c (.bool false), .c (.int .i64 0), .c (.int .i64 0)], [.b, .i .i64, .i .i64], true⟩ := rfl
theorem tab_89 : TI.of tab 89 = ⟨(.struct [(0, 3, true), (3, 3, true)]), 6, 48, true, some yRU, [.c (.int .i64 0), .c (.int .i64 0), .c (.int .i64 0), .c (.bool false), .c (.int .i64 0), .c (.int .i64 0)], [.i .i64, .i .i64, .i .i64, .b, .i .i64, .i .i64], true⟩ := rfl
theorem tab_100 : TI.of tab 100 = ⟨(.struct [(0, 5, true), (5, 1, false), (6, 1, false)]), 7, 72, true, some yPM, [.c (.int .i64 0), .c (.int .i64 0), .c (.int .i64 0), .c (.int .i64 0), .c (.int .i64 0), .c (.int .i64 0), .s 3 (.int .i64)], [], true⟩ := rfl
theorem tab_103 : TI.of tab 103 = ⟨(.struct [(0, 1, false), (1, 1, false)]), 2, 32, true, some ySR, [.s 3 (.int .i64), .c (.int .i64 0)], [], true⟩ := rfl
theorem tab_105 : TI.of tab 105 = ⟨(.slice 79), 1, 24, false, some (.sl yPC), [.s 79 yPC], [], true⟩ := rfl
theorem tab_107 : TI.of tab 107 = ⟨(.struct [(0, 1, false), (1, 4, true), (5, 1, false), (6, 1, false), (7, 1, false), (8, 1, false), (9, 1, false), (10, 1, false)]), 11, 120, true, some yCT, [.c (.int .i64 0), .c (.str ByteArray.empty), .c (.int .i64 0), .c (.str ByteArray.empty), .c (.int .i64 0), .c (.int .i64 0), .c (.int .i64 0), .c (.int .i64 0), .c (.int .i64 0), .c (.int .i64 0), .s 79 yPC], [], true⟩ := rfl
theorem tab_108 : TI.of tab 108 = ⟨(.array 5 3 (.int .i64)), 5, 40, true, some yBR, [.c (.int .i64 0), .c (.int .i64 0), .c (.int .i64 0), .c (.int .i64 0), .c (.int .i64 0)], [], false⟩ := rfl
theorem tab_114 : TI.of tab 114 = ⟨(.slice 9), 1, 24, false, some (.sl .str), [.s 9 .str], [], true⟩ := rfl
theorem tab_115 : TI.of tab 115 = ⟨(.map 3 116), 1, 8, false, .none, [.c .undef], [], false⟩ := rfl
theorem tab_116 : TI.of tab 116 = ⟨(.struct []), 0, 0, true, .none, [], [], false⟩ := rfl
theorem tab_119 : TI.of tab 119 = ⟨.other, 1, 8, false, .none, [], [], false⟩ := rfl
theorem tab_121 : TI.of tab 121 = ⟨.other, 1, 8, false, .none, [], [], false⟩ := rfl
theorem tab_124 : TI.of tab 124 = ⟨.other, 1, 8, false, .none, [], [], false⟩ := rfl
theorem tab_129 : TI.of tab 129 = ⟨.other, 1, 8, false, .none, [], [], false⟩ := rfl
theorem tab_133 : TI.of tab 133 = ⟨(.map 65 116), 1, 8, false, .none, [.c .undef], [], false⟩ := rfl
theorem tab_136 : TI.of tab 136 = ⟨.other, 1, 8, false, .none, [], [], false⟩ := rfl
theorem tab_139 : TI.of tab 139 = ⟨(.map 65 34), 1, 8, false, .none, [.c .undef], [], false⟩ := rfl
theorem tab_145 : TI.of tab 145 = ⟨.other, 1, 8, false, .none, [], [], false⟩ := rfl
theorem tab_146 : TI.of tab 146 = ⟨.other, 1, 8, false, .none, [], [], false⟩ := rfl
theorem tab_149 : TI.of tab 149 = ⟨(.ptr 73), 1, 8, false, .none, [.c .nilp], [], false⟩ := rfl
theorem tab_153 : TI.of tab 153 = ⟨.other, 1, 8, false, .none, [], [], false⟩ := rfl
theorem tab_154 : TI.of tab 154 = ⟨(.slice 34), 1, 24, false, some (.sl (.sl yOP)), [.s 34 (.sl yOP)], [], true⟩ := rfl
theorem tab_155 : TI.of tab 155 = ⟨(.map 157 81), 1, 8, false, .none, [.c .undef], [], false⟩ := rfl
theorem tab_157 : TI.of tab 157 = ⟨(.struct [(0, 1, false), (1, 1, false)]), 2, 16, true, some (.pair (.int .i64) (.int .i64)), [.c (.int .i64 0), .c (.int .i64 0)], [.i .i64, .i .i64], true⟩ := rfl
theorem tab_164 : TI.of tab 164 = ⟨.other, 1, 8, false, .none, [], [], false⟩ := rfl
theorem tab_173 : TI.of tab 173 = ⟨.int, 1, 8, false, some (.int .u64), [.c (.int .u64 0)], [.i .u64], true⟩ := rfl
theorem tab_178 : TI.of tab 178 = ⟨.other, 1, 8, false, .none, [], [], false⟩ := rfl
theorem tab_184 : TI.of tab 184 = ⟨(.map 187 4), 1, 8, false, .none, [.c .undef], [], false⟩ := rfl
theorem tab_185 : TI.of tab 185 = ⟨(.map 65 4), 1, 8, false, .none, [.c .undef], [], false⟩ := rfl
theorem tab_187 : TI.of tab 187 = ⟨(.struct [(0, 4, true), (4, 1, false)]), 5, 56, true, some (.pair yFL (.int .i64)), [.c (.str ByteArray.empty), .c (.int .i64 0), .c (.str ByteArray.empty), .c (.int .i64 0), .c (.int .i64 0)], [.s, .i .i64, .s, .i .i64, .i .i64], true⟩ := rfl
theorem tab_188 : TI.of tab 188 = ⟨(.array 7 3 (.int .i64)), 7, 56, true, some (.pair (.int .i64) (.pair (.int .i64) yBR)), [.c (.int .i64 0), .c (.int .i64 0), .c (.int .i64 0), .c (.int .i64 0), .c (.int .i64 0), .c (.int .i64 0), .c (.int .i64 0)], [], false⟩ := rfl
theorem tab_192 : TI.of tab 192 = ⟨.other, 1, 8, false, .none, [], [], false⟩ := rfl
theorem tab_193 : TI.of tab 193 = ⟨.other, 1, 8, false, .none, [], [], false⟩ := rfl
theorem tab_197 : TI.of tab 197 = ⟨.other, 1, 8, false, .none, [], [], false⟩ := rfl
theorem tab_204 : TI.of tab 204 = ⟨(.struct [(0, 1, false), (1, 1, false), (2, 1, false), (3, 1, false), (4, 1, false), (5, 1, false), (6, 1, false)]), 7, 104, true, some yHH, [.c (.int .i64 0), .c (.int .i64 0), .c (.int .i64 0), .c (.bool false), .s 85 yGR, .s 107 yCT, .s 81 yOP], [], true⟩ := rfl
theorem tab_205 : TI.of tab 205 = ⟨(.slice 58), 1, 24, false, .none, [.c .nilsl], [], false⟩ := rfl
theorem tab_209 : TI.of tab 209 = ⟨.int, 1, 8, false, some (.int .i64), [.c (.int .i64 0)], [.i .i64], true⟩ := rfl
theorem tab_216 : TI.of tab 216 = ⟨.int, 1, 4, false, some (.int .u32), [.c (.int .u32 0)], [.i .u32], true⟩ := rfl
theorem tab_218 : TI.of tab 218 = ⟨.int, 1, 8, false, some (.int .u64), [.c (.int .u64 0)], [.i .u64], true⟩ := rfl
theorem tab_220 : TI.of tab 220 = ⟨(.slice 79), 1, 24, false, some (.sl yPC), [.s 79 yPC], [], true⟩ := rfl
theorem tab_223 : TI.of tab 223 = ⟨.other, 1, 8, false, .none, [], [], false⟩ := rfl
theorem tab_235 : TI.of tab 235 = ⟨.int, 1, 8, false, some (.int .u64), [.c (.int .u64 0)], [.i .u64], true⟩ := rfl
theorem tab_239 : TI.of tab 239 = ⟨(.ptr 3), 1, 8, false, .none, [.c .nilp], [], false⟩ := rfl
theorem tab_249 : TI.of tab 249 = ⟨.other, 1, 8, false, .none, [], [], false⟩ := rfl
theorem tab_251 : TI.of tab 251 = ⟨(.ptr 235), 1, 8, false, .none, [.c .nilp], [], false⟩ := rfl
attribute [go_sem] tab_3 tab_4 tab_5 tab_9 tab_22 tab_24 tab_25 tab_26 tab_27 tab_28 tab_29 tab_31 tab_34 tab_38 tab_40 tab_41 tab_43 tab_45 tab_47 tab_49 tab_50 tab_57 tab_58 tab_60 tab_65 tab_67 tab_68 tab_73 tab_79 tab_81 tab_85 tab_87 tab_89 tab_100 tab_103 tab_105 tab_107 tab_108 tab_114 tab_115 tab_116 tab_119 tab_121 tab_124 tab_129 tab_133 tab_136 tab_139 tab_145 tab_146 tab_149 tab_153 tab_154 tab_155 tab_157 tab_164 tab_173 tab_178 tab_184 tab_185 tab_187 tab_188 tab_192 tab_193 tab_197 tab_204 tab_205 tab_209 tab_216 tab_218 tab_220 tab_223 tab_235 tab_239 tab_249 tab_251

end Go.Proofs.YtjhoidgpecgfoaaGreat
