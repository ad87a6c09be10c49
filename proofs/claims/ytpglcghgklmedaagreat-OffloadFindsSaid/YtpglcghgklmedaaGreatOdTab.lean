/- Part. -/
import Derived.Test.YtpglcghgklmedaaGreatEvTab
import Derived.Test.YtpglcghgklmedaaGreatRows
namespace Go.Proofs.YtpglcghgklmedaaGreat
open Go.Ev
abbrev ySR : Ty := .pair (.sl (.int .i64)) (.int .i64)
abbrev yPL : Ty := .pair (.int .i64) (.pair (.int .i64) (.int .i64))
abbrev yFL : Ty := .pair .str (.pair (.int .i64) (.pair .str (.int .i64)))
abbrev yPC : Ty := .pair yPL (.pair (.int .i64) (.int .i64))
abbrev yBR : Ty := .pair (.int .i64) (.pair (.int .i64) yPL)
abbrev yTK : Ty := .pair (.int .i64) (.sl yPL)
abbrev yPM : Ty := .pair yPC (.pair (.int .i64) (.sl (.int .i64)))
abbrev yOP : Ty := .pair (.int .i64) (.pair (.int .i64) (.pair (.int .i64) (.pair (.int .i64) (.pair (.int .i64) yPC))))
abbrev yCT : Ty := .pair (.int .i64) (.pair yFL (.pair (.int .i64) (.pair (.int .i64) (.pair (.int .i64) (.pair (.int .i64) (.pair (.int .i64) (.sl yPC)))))))
def tab : Tab := [
  (3, ⟨.int, 1, 8, false, some (.int .i64), [.c (.int .i64 0)], [.i .i64], true⟩),
  (4, ⟨.bool, 1, 1, false, some .bool, [.c (.bool false)], [.b], true⟩),
  (5, ⟨.int, 1, 1, false, some (.int .u8), [.c (.int .u8 0)], [.i .u8], true⟩),
  (9, ⟨.str, 1, 16, false, some .str, [.c (.str ByteArray.empty)], [.s], true⟩),
  (22, ⟨(.slice 3), 1, 24, false, some (.sl (.int .i64)), [.s 3 (.int .i64)], [], true⟩),
  (23, ⟨(.ptr 67), 1, 8, false, .none, [.c .nilp], [], false⟩),
  (25, ⟨(.slice 31), 1, 24, false, some (.sl yCT), [.s 31 yCT], [], true⟩),
  (27, ⟨(.struct [(0, 1, false), (1, 1, false), (2, 1, false), (3, 1, false)]), 4, 48, true, some yFL, [.c (.str ByteArray.empty), .c (.int .i64 0), .c (.str ByteArray.empty), .c (.int .i64 0)], [.s, .i .i64, .s, .i .i64], true⟩),
  (29, ⟨(.slice 39), 1, 24, false, some (.sl yPC), [.s 39 yPC], [], true⟩),
  (31, ⟨(.struct [(0, 1, false), (1, 4, true), (5, 1, false), (6, 1, false), (7, 1, false), (8, 1, false), (9, 1, false), (10, 1, false)]), 11, 120, true, some yCT, [.c (.int .i64 0), .c (.str ByteArray.empty), .c (.int .i64 0), .c (.str ByteArray.empty), .c (.int .i64 0), .c (.int .i64 0), .c (.int .i64 0), .c (.int .i64 0), .c (.int .i64 0), .c (.int .i64 0), .s 39 yPC], [], true⟩),
  (32, ⟨(.slice 73), 1, 24, false, some (.sl yOP), [.s 73 yOP], [], true⟩),
  (34, ⟨(.slice 41), 1, 24, false, some (.sl yPM), [.s 41 yPM], [], true⟩),
  (37, ⟨(.struct [(0, 1, false), (1, 1, false), (2, 1, false)]), 3, 24, true, some yPL, [.c (.int .i64 0), .c (.int .i64 0), .c (.int .i64 0)], [.i .i64, .i .i64, .i .i64], true⟩),
  (39, ⟨(.struct [(0, 3, true), (3, 1, false), (4, 1, false)]), 5, 40, true, some yPC, [.c (.int .i64 0), .c (.int .i64 0), .c (.int .i64 0), .c (.int .i64 0), .c (.int .i64 0)], [.i .i64, .i .i64, .i .i64, .i .i64, .i .i64], true⟩),
  (41, ⟨(.struct [(0, 5, true), (5, 1, false), (6, 1, false)]), 7, 72, true, some yPM, [.c (.int .i64 0), .c (.int .i64 0), .c (.int .i64 0), .c (.int .i64 0), .c (.int .i64 0), .c (.int .i64 0), .s 3 (.int .i64)], [], true⟩),
  (44, ⟨.int, 1, 8, false, some (.int .i64), [.c (.int .i64 0)], [.i .i64], true⟩),
  (47, ⟨(.slice 52), 1, 24, false, some (.sl yTK), [.s 52 yTK], [], true⟩),
  (50, ⟨(.slice 37), 1, 24, false, some (.sl yPL), [.s 37 yPL], [], true⟩),
  (52, ⟨(.struct [(0, 1, false), (1, 1, false)]), 2, 32, true, some yTK, [.c (.int .i64 0), .s 37 yPL], [], true⟩),
  (67, ⟨(.struct [(0, 1, false), (1, 1, false)]), 2, 32, true, some ySR, [.s 3 (.int .i64), .c (.int .i64 0)], [], true⟩),
  (68, ⟨(.slice 9), 1, 24, false, some (.sl .str), [.s 9 .str], [], true⟩),
  (69, ⟨(.array 5 3 (.int .i64)), 5, 40, true, some yBR, [.c (.int .i64 0), .c (.int .i64 0), .c (.int .i64 0), .c (.int .i64 0), .c (.int .i64 0)], [], false⟩),
  (73, ⟨(.struct [(0, 1, false), (1, 1, false), (2, 1, false), (3, 1, false), (4, 1, false), (5, 5, true)]), 10, 80, true, some yOP, [.c (.int .i64 0), .c (.int .i64 0), .c (.int .i64 0), .c (.int .i64 0), .c (.int .i64 0), .c (.int .i64 0), .c (.int .i64 0), .c (.int .i64 0), .c (.int .i64 0), .c (.int .i64 0)], [.i .i64, .i .i64, .i .i64, .i .i64, .i .i64, .i .i64, .i .i64, .i .i64, .i .i64, .i .i64], true⟩),
  (75, ⟨(.map 37 32), 1, 8, false, .none, [.c .undef], [], false⟩),
  (83, ⟨.other, 1, 8, false, .none, [], [], false⟩),
  (84, ⟨.other, 1, 8, false, .none, [], [], false⟩),
  (86, ⟨.other, 1, 8, false, .none, [], [], false⟩),
  (89, ⟨(.ptr 52), 1, 8, false, .none, [.c .nilp], [], false⟩),
  (93, ⟨.other, 1, 8, false, .none, [], [], false⟩),
  (95, ⟨.other, 1, 8, false, .none, [], [], false⟩),
  (103, ⟨(.map 37 104), 1, 8, false, .none, [.c .undef], [], false⟩),
  (104, ⟨(.struct []), 0, 0, true, .none, [], [], false⟩),
  (109, ⟨(.array 7 3 (.int .i64)), 7, 56, true, some (.pair (.int .i64) (.pair (.int .i64) yBR)), [.c (.int .i64 0), .c (.int .i64 0), .c (.int .i64 0), .c (.int .i64 0), .c (.int .i64 0), .c (.int .i64 0), .c (.int .i64 0)], [], false⟩),
  (113, ⟨.other, 1, 8, false, .none, [], [], false⟩),
  (114, ⟨.other, 1, 8, false, .none, [], [], false⟩),
  (119, ⟨(.slice 39), 1, 24, false, some (.sl yPC), [.s 39 yPC], [], true⟩),
  (123, ⟨(.map 126 4), 1, 8, false, .none, [.c .undef], [], false⟩),
  (124, ⟨(.map 37 4), 1, 8, false, .none, [.c .undef], [], false⟩),
  (126, ⟨(.struct [(0, 4, true), (4, 1, false)]), 5, 56, true, some (.pair yFL (.int .i64)), [.c (.str ByteArray.empty), .c (.int .i64 0), .c (.str ByteArray.empty), .c (.int .i64 0), .c (.int .i64 0)], [.s, .i .i64, .s, .i .i64, .i .i64], true⟩),
  (127, ⟨.other, 1, 8, false, .none, [], [], false⟩),
  (131, ⟨.other, 1, 8, false, .none, [], [], false⟩),
  (135, ⟨.int, 1, 8, false, some (.int .u64), [.c (.int .u64 0)], [.i .u64], true⟩),
  (140, ⟨.other, 1, 8, false, .none, [], [], false⟩),
  (144, ⟨.other, 1, 8, false, .none, [], [], false⟩),
  (148, ⟨.int, 1, 8, false, some (.int .i64), [.c (.int .i64 0)], [.i .i64], true⟩),
  (155, ⟨.int, 1, 4, false, some (.int .u32), [.c (.int .u32 0)], [.i .u32], true⟩),
  (157, ⟨.int, 1, 8, false, some (.int .u64), [.c (.int .u64 0)], [.i .u64], true⟩),
  (159, ⟨.other, 1, 8, false, .none, [], [], false⟩),
  (173, ⟨.int, 1, 8, false, some (.int .u64), [.c (.int .u64 0)], [.i .u64], true⟩),
  (177, ⟨(.ptr 3), 1, 8, false, .none, [.c .nilp], [], false⟩),
  (186, ⟨(.ptr 173), 1, 8, false, .none, [.c .nilp], [], false⟩),
  (196, ⟨.other, 1, 8, false, .none, [], [], false⟩)]
theorem tab_ok : TabOK Tryz.prog tab := tabB_ok (by kernel_rfl)
theorem tab_3 : TI.of tab 3 = ⟨.int, 1, 8, false, some (.int .i64), [.c (.int .i64 0)], [.i .i64], true⟩ := rfl
theorem tab_4 : TI.of tab 4 = ⟨.bool, 1, 1, false, some .bool, [.c (.bool false)], [.b], true⟩ := rfl
theorem tab_5 : TI.of tab 5 = ⟨.int, 1, 1, false, some (.int .u8), [.c (.int .u8 0)], [.i .u8], true⟩ := rfl
theorem tab_9 : TI.of tab 9 = ⟨.str, 1, 16, false, some .str, [.c (.str ByteArray.empty)], [.s], true⟩ := rfl
theorem tab_22 : TI.of tab 22 = ⟨(.slice 3), 1, 24, false, some (.sl (.int .i64)), [.s 3 (.int .i64)], [], true⟩ := rfl
theorem tab_25 : TI.of tab 25 = ⟨(.slice 31), 1, 24, false, some (.sl yCT), [.s 31 yCT], [], true⟩ := rfl
theorem tab_27 : TI.of tab 27 = ⟨(.struct [(0, 1, false), (1, 1, false), (2, 1, false), (3, 1, false)]), 4, 48, true, some yFL, [.c (.str ByteArray.empty), .c (.int .i64 0), .c (.str ByteArray.empty), .c (.int .i64 0)], [.s, .i .i64, .s, .i .i64], true⟩ := rfl
theorem tab_29 : TI.of tab 29 = ⟨(.slice 39), 1, 24, false, some (.sl yPC), [.s 39 yPC], [], true⟩ := rfl
theorem tab_31 : TI.of tab 31 = ⟨(.struct [(0, 1, false), (1, 4, true), (5, 1, false), (6, 1, false), (7, 1, false), (8, 1, false), (9, 1, false), (10, 1, false)]), 11, 120, true, some yCT, [.c (.int .i64 0), .c (.str ByteArray.empty), .c (.int .i64 0), .c (.str ByteArray.empty), .c (.int .i64 0), .c (.int .i64 0), .c (.int .i64 0), .c (.int .i64 0), .c (.int .i64 0), .c (.int .i64 0), .s 39 yPC], [], true⟩ := rfl
theorem tab_32 : TI.of tab 32 = ⟨(.slice 73), 1, 24, false, some (.sl yOP), [.s 73 yOP], [], true⟩ := rfl
theorem tab_34 : TI.of tab 34 = ⟨(.slice 41), 1, 24, false, some (.sl yPM), [.s 41 yPM], [], true⟩ := rfl
theorem tab_37 : TI.of tab 37 = ⟨(.struct [(0, 1, false), (1, 1, false), (2, 1, false)]), 3, 24, true, some yPL, [.c (.int .i64 0), .c (.int .i64 0), .c (.int .i64 0)], [.i .i64, .i .i64, .i .i64], true⟩ := rfl
theorem tab_39 : TI.of tab 39 = ⟨(.struct [(0, 3, true), (3, 1, false), (4, 1, false)]), 5, 40, true, some yPC, [.c (.int .i64 0), .c (.int .i64 0), .c (.int .i64 0), .c (.int .i64 0), .c (.int .i64 0)], [.i .i64, .i .i64, .i .i64, .i .i64, .i .i64], true⟩ := rfl
theorem tab_41 : TI.of tab 41 = ⟨(.struct [(0, 5, true), (5, 1, false), (6, 1, false)]), 7, 72, true, some yPM, [.c (.int .i64 0), .c (.int .i64 0), .c (.int .i64 0), .c (.int .i64 0), .c (.int .i64 0), .c (.int .i64 0), .s 3 (.int .i64)], [], true⟩ := rfl
theorem tab_44 : TI.of tab 44 = ⟨.int, 1, 8, false, some (.int .i64), [.c (.int .i64 0)], [.i .i64], true⟩ := rfl
theorem tab_47 : TI.of tab 47 = ⟨(.slice 52), 1, 24, false, some (.sl yTK), [.s 52 yTK], [], true⟩ := rfl
theorem tab_50 : TI.of tab 50 = ⟨(.slice 37), 1, 24, false, some (.sl yPL), [.s 37 yPL], [], true⟩ := rfl
theorem tab_52 : TI.of tab 52 = ⟨(.struct [(0, 1, false), (1, 1, false)]), 2, 32, true, some yTK, [.c (.int .i64 0), .s 37 yPL], [], true⟩ := rfl
theorem tab_67 : TI.of tab 67 = ⟨(.struct [(0, 1, false), (1, 1, false)]), 2, 32, true, some ySR, [.s 3 (.int .i64), .c (.int .i64 0)], [], true⟩ := rfl
theorem tab_68 : TI.of tab 68 = ⟨(.slice 9), 1, 24, false, some (.sl .str), [.s 9 .str], [], true⟩ := rfl
theorem tab_69 : TI.of tab 69 = ⟨(.array 5 3 (.int .i64)), 5, 40, true, some yBR, [.c (.int .i64 0), .c (.int .i64 0), .c (.int .i64 0), .c (.int .i64 0), .c (.int .i64 0)], [], false⟩ := rfl
theorem tab_73 : TI.of tab 73 = ⟨(.struct [(0, 1, false), (1, 1, false), (2, 1, false), (3, 1, false), (4, 1, false), (5, 5, true)]), 10, 80, true, some yOP, [.c (.int .i64 0), .c (.int .i64 0), .c (.int .i64 0), .c (.int .i64 0), .c (.int .i64 0), .c (.int .i64 0), .c (.int .i64 0), .c (.int .i64 0), .c (.int .i64 0), .c (.int .i64 0)], [.i .i64, .i .i64, .i .i64, .i .i64, .i .i64, .i .i64, .i .i64, .i .i64, .i .i64, .i .i64], true⟩ := rfl
theorem tab_75 : TI.of tab 75 = ⟨(.map 37 32), 1, 8, false, .none, [.c .undef], [], false⟩ := rfl
theorem tab_89 : TI.of tab 89 = ⟨(.ptr 52), 1, 8, false, .none, [.c .nilp], [], false⟩ := rfl
theorem tab_103 : TI.of tab 103 = ⟨(.map 37 104), 1, 8, false, .none, [.c .undef], [], false⟩ := rfl
theorem tab_104 : TI.of tab 104 = ⟨(.struct []), 0, 0, true, .none, [], [], false⟩ := rfl
theorem tab_109 : TI.of tab 109 = ⟨(.array 7 3 (.int .i64)), 7, 56, true, some (.pair (.int .i64) (.pair (.int .i64) yBR)), [.c (.int .i64 0), .c (.int .i64 0), .c (.int .i64 0), .c (.int .i64 0), .c (.int .i64 0), .c (.int .i64 0), .c (.int .i64 0)], [], false⟩ := rfl
theorem tab_119 : TI.of tab 119 = ⟨(.slice 39), 1, 24, false, some (.sl yPC), [.s 39 yPC], [], true⟩ := rfl
theorem tab_123 : TI.of tab 123 = ⟨(.map 126 4), 1, 8, false, .none, [.c .undef], [], false⟩ := rfl
theorem tab_124 : TI.of tab 124 = ⟨(.map 37 4), 1, 8, false, .none, [.c .undef], [], false⟩ := rfl
theorem tab_126 : TI.of tab 126 = ⟨(.struct [(0, 4, true), (4, 1, false)]), 5, 56, true, some (.pair yFL (.int .i64)), [.c (.str ByteArray.empty), .c (.int .i64 0), .c (.str ByteArray.empty), .c (.int .i64 0), .c (.int .i64 0)], [.s, .i .i64, .s, .i .i64, .i .i64], true⟩ := rfl
attribute [go_sem] tab_3 tab_4 tab_5 tab_9 tab_22 tab_25 tab_27 tab_29 tab_31 tab_32 tab_34 tab_37 tab_39 tab_41 tab_44 tab_47 tab_50 tab_52 tab_67 tab_68 tab_69 tab_73 tab_75 tab_89 tab_103 tab_104 tab_109 tab_119 tab_123 tab_124 tab_126
end Go.Proofs.YtpglcghgklmedaaGreat
