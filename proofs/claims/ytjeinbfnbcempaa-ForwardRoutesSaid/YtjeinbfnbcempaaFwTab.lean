/- The types of the functions, as a table; it is checked against the program. -/
import Derived.Test.YtjeinbfnbcempaaEvTab
import Derived.Test.YtjeinbfnbcempaaRows
namespace Go.Proofs.Ytjeinbfnbcempaa
open Go.Ev

def tab : Tab := [
  (3, ⟨.int, 1, 8, false, some (.int .i64), [.c (.int .i64 0)], [.i .i64], true⟩),
  (4, ⟨.bool, 1, 1, false, some .bool, [.c (.bool false)], [.b], true⟩),
  (5, ⟨.int, 1, 1, false, some (.int .u8), [.c (.int .u8 0)], [.i .u8], true⟩),
  (9, ⟨.str, 1, 16, false, some .str, [.c (.str ByteArray.empty)], [.s], true⟩),
  (22, ⟨(.slice 54), 1, 24, false, some (.sl (.pair (.pair .str (.pair (.int .i64) (.pair .str (.int .i64)))) (.pair .str (.pair .str (.pair (.int .i64) (.pair (.int .i64) (.int .i64))))))), [.s 54 (.pair (.pair .str (.pair (.int .i64) (.pair .str (.int .i64)))) (.pair .str (.pair .str (.pair (.int .i64) (.pair (.int .i64) (.int .i64))))))], [], true⟩),
  (23, ⟨(.slice 3), 1, 24, false, some (.sl (.int .i64)), [.s 3 (.int .i64)], [], true⟩),
  (25, ⟨(.ptr 70), 1, 8, false, .none, [.c .nilp], [], false⟩),
  (29, ⟨(.slice 22), 1, 24, false, some (.sl (.sl (.pair (.pair .str (.pair (.int .i64) (.pair .str (.int .i64)))) (.pair .str (.pair .str (.pair (.int .i64) (.pair (.int .i64) (.int .i64)))))))), [.s 22 (.sl (.pair (.pair .str (.pair (.int .i64) (.pair .str (.int .i64)))) (.pair .str (.pair .str (.pair (.int .i64) (.pair (.int .i64) (.int .i64)))))))], [], true⟩),
  (30, ⟨.int, 1, 8, false, some (.int .i64), [.c (.int .i64 0)], [.i .i64], true⟩),
  (33, ⟨(.slice 9), 1, 24, false, some (.sl .str), [.s 9 .str], [], true⟩),
  (34, ⟨(.array 2 3 (.int .i64)), 2, 16, true, some (.pair (.int .i64) (.int .i64)), [.c (.int .i64 0), .c (.int .i64 0)], [], false⟩),
  (36, ⟨(.slice 34), 1, 24, false, .none, [.c .nilsl], [], false⟩),
  (37, ⟨(.slice 62), 1, 24, false, some (.sl (.pair .str (.int .i64))), [.s 62 (.pair .str (.int .i64))], [], true⟩),
  (39, ⟨(.struct [(0, 1, false), (1, 1, false)]), 2, 48, true, some (.pair (.sl (.int .i64)) (.sl (.pair .str (.int .i64)))), [.s 3 (.int .i64), .s 62 (.pair .str (.int .i64))], [], true⟩),
  (52, ⟨(.struct [(0, 1, false), (1, 1, false), (2, 1, false), (3, 1, false)]), 4, 48, true, some (.pair .str (.pair (.int .i64) (.pair .str (.int .i64)))), [.c (.str ByteArray.empty), .c (.int .i64 0), .c (.str ByteArray.empty), .c (.int .i64 0)], [.s, .i .i64, .s, .i .i64], true⟩),
  (54, ⟨(.struct [(0, 4, true), (4, 1, false), (5, 1, false), (6, 1, false), (7, 1, false), (8, 1, false)]), 9, 104, true, some (.pair (.pair .str (.pair (.int .i64) (.pair .str (.int .i64)))) (.pair .str (.pair .str (.pair (.int .i64) (.pair (.int .i64) (.int .i64)))))), [.c (.str ByteArray.empty), .c (.int .i64 0), .c (.str ByteArray.empty), .c (.int .i64 0), .c (.str ByteArray.empty), .c (.str ByteArray.empty), .c (.int .i64 0), .c (.int .i64 0), .c (.int .i64 0)], [.s, .i .i64, .s, .i .i64, .s, .s, .i .i64, .i .i64, .i .i64], true⟩),
  (62, ⟨(.struct [(0, 1, false), (1, 1, false)]), 2, 24, true, some (.pair .str (.int .i64)), [.c (.str ByteArray.empty), .c (.int .i64 0)], [.s, .i .i64], true⟩),
  (63, ⟨(.slice 39), 1, 24, false, some (.sl (.pair (.sl (.int .i64)) (.sl (.pair .str (.int .i64))))), [.s 39 (.pair (.sl (.int .i64)) (.sl (.pair .str (.int .i64))))], [], true⟩),
  (70, ⟨(.struct [(0, 1, false), (1, 1, false)]), 2, 32, true, some (.pair (.sl (.int .i64)) (.int .i64)), [.s 3 (.int .i64), .c (.int .i64 0)], [], true⟩),
  (77, ⟨(.map 9 80), 1, 8, false, .none, [], [], false⟩),
  (80, ⟨(.struct [(0, 1, false), (1, 1, false)]), 2, 16, true, some (.pair (.int .i64) (.int .i64)), [.c (.int .i64 0), .c (.int .i64 0)], [.i .i64, .i .i64], true⟩),
  (84, ⟨.other, 1, 8, false, .none, [], [], false⟩),
  (85, ⟨.other, 1, 8, false, .none, [], [], false⟩),
  (87, ⟨.other, 1, 8, false, .none, [], [], false⟩),
  (93, ⟨(.map 9 3), 1, 8, false, .none, [], [], false⟩),
  (96, ⟨.other, 1, 8, false, .none, [], [], false⟩),
  (97, ⟨.other, 1, 8, false, .none, [], [], false⟩),
  (104, ⟨.other, 1, 8, false, .none, [], [], false⟩),
  (106, ⟨.other, 1, 8, false, .none, [], [], false⟩),
  (111, ⟨.int, 1, 8, false, some (.int .u64), [.c (.int .u64 0)], [.i .u64], true⟩),
  (116, ⟨.int, 1, 8, false, some (.int .i64), [.c (.int .i64 0)], [.i .i64], true⟩),
  (124, ⟨.int, 1, 4, false, some (.int .u32), [.c (.int .u32 0)], [.i .u32], true⟩),
  (126, ⟨.int, 1, 8, false, some (.int .u64), [.c (.int .u64 0)], [.i .u64], true⟩),
  (133, ⟨.int, 1, 8, false, some (.int .u64), [.c (.int .u64 0)], [.i .u64], true⟩),
  (137, ⟨(.ptr 3), 1, 8, false, .none, [.c .nilp], [], false⟩),
  (141, ⟨(.ptr 133), 1, 8, false, .none, [.c .nilp], [], false⟩)]

theorem tab_ok : TabOK Try.prog tab := tabB_ok (by kernel_rfl)
theorem tab_3 : TI.of tab 3 = ⟨.int, 1, 8, false, some (.int .i64), [.c (.int .i64 0)], [.i .i64], true⟩ := rfl
theorem tab_4 : TI.of tab 4 = ⟨.bool, 1, 1, false, some .bool, [.c (.bool false)], [.b], true⟩ := rfl
theorem tab_5 : TI.of tab 5 = ⟨.int, 1, 1, false, some (.int .u8), [.c (.int .u8 0)], [.i .u8], true⟩ := rfl
theorem tab_9 : TI.of tab 9 = ⟨.str, 1, 16, false, some .str, [.c (.str ByteArray.empty)], [.s], true⟩ := rfl
theorem tab_22 : TI.of tab 22 = ⟨(.slice 54), 1, 24, false, some (.sl (.pair (.pair .str (.pair (.int .i64) (.pair .str (.int .i64)))) (.pair .str (.pair .str (.pair (.int .i64) (.pair (.int .i64) (.int .i64))))))), [.s 54 (.pair (.pair .str (.pair (.int .i64) (.pair .str (.int .i64)))) (.pair .str (.pair .str (.pair (.int .i64) (.pair (.int .i64) (.int .i64))))))], [], true⟩ := rfl
theorem tab_23 : TI.of tab 23 = ⟨(.slice 3), 1, 24, false, some (.sl (.int .i64)), [.s 3 (.int .i64)], [], true⟩ := rfl
theorem tab_25 : TI.of tab 25 = ⟨(.ptr 70), 1, 8, false, .none, [.c .nilp], [], false⟩ := rfl
theorem tab_29 : TI.of tab 29 = ⟨(.slice 22), 1, 24, false, some (.sl (.sl (.pair (.pair .str (.pair (.int .i64) (.pair .str (.int .i64)))) (.pair .str (.pair .str (.pair (.int .i64) (.pair (.int .i64) (.int .i64)))))))), [.s 22 (.sl (.pair (.pair .str (.pair (.int .i64) (.pair .str (.int .i64)))) (.pair .str (.pair .str (.pair (.int .i64) (.pair (.int .i64) (.int .i64)))))))], [], true⟩ := rfl
theorem tab_30 : TI.of tab 30 = ⟨.int, 1, 8, false, some (.int .i64), [.c (.int .i64 0)], [.i .i64], true⟩ := rfl
theorem tab_33 : TI.of tab 33 = ⟨(.slice 9), 1, 24, false, some (.sl .str), [.s 9 .str], [], true⟩ := rfl
theorem tab_34 : TI.of tab 34 = ⟨(.array 2 3 (.int .i64)), 2, 16, true, some (.pair (.int .i64) (.int .i64)), [.c (.int .i64 0), .c (.int .i64 0)], [], false⟩ := rfl
theorem tab_36 : TI.of tab 36 = ⟨(.slice 34), 1, 24, false, .none, [.c .nilsl], [], false⟩ := rfl
theorem tab_37 : TI.of tab 37 = ⟨(.slice 62), 1, 24, false, some (.sl (.pair .str (.int .i64))), [.s 62 (.pair .str (.int .i64))], [], true⟩ := rfl
theorem tab_39 : TI.of tab 39 = ⟨(.struct [(0, 1, false), (1, 1, false)]), 2, 48, true, some (.pair (.sl (.int .i64)) (.sl (.pair .str (.int .i64)))), [.s 3 (.int .i64), .s 62 (.pair .str (.int .i64))], [], true⟩ := rfl
theorem tab_52 : TI.of tab 52 = ⟨(.struct [(0, 1, false), (1, 1, false), (2, 1, false), (3, 1, false)]), 4, 48, true, some (.pair .str (.pair (.int .i64) (.pair .str (.int .i64)))), [.c (.str ByteArray.empty), .c (.int .i64 0), .c (.str ByteArray.empty), .c (.int .i64 0)], [.s, .i .i64, .s, .i .i64], true⟩ := rfl
theorem tab_54 : TI.of tab 54 = ⟨(.struct [(0, 4, true), (4, 1, false), (5, 1, false), (6, 1, false), (7, 1, false), (8, 1, false)]), 9, 104, true, some (.pair (.pair .str (.pair (.int .i64) (.pair .str (.int .i64)))) (.pair .str (.pair .str (.pair (.int .i64) (.pair (.int .i64) (.int .i64)))))), [.c (.str ByteArray.empty), .c (.int .i64 0), .c (.str ByteArray.empty), .c (.int .i64 0), .c (.str ByteArray.empty), .c (.str ByteArray.empty), .c (.int .i64 0), .c (.int .i64 0), .c (.int .i64 0)], [.s, .i .i64, .s, .i .i64, .s, .s, .i .i64, .i .i64, .i .i64], true⟩ := rfl
theorem tab_62 : TI.of tab 62 = ⟨(.struct [(0, 1, false), (1, 1, false)]), 2, 24, true, some (.pair .str (.int .i64)), [.c (.str ByteArray.empty), .c (.int .i64 0)], [.s, .i .i64], true⟩ := rfl
theorem tab_63 : TI.of tab 63 = ⟨(.slice 39), 1, 24, false, some (.sl (.pair (.sl (.int .i64)) (.sl (.pair .str (.int .i64))))), [.s 39 (.pair (.sl (.int .i64)) (.sl (.pair .str (.int .i64))))], [], true⟩ := rfl
theorem tab_70 : TI.of tab 70 = ⟨(.struct [(0, 1, false), (1, 1, false)]), 2, 32, true, some (.pair (.sl (.int .i64)) (.int .i64)), [.s 3 (.int .i64), .c (.int .i64 0)], [], true⟩ := rfl
theorem tab_77 : TI.of tab 77 = ⟨(.map 9 80), 1, 8, false, .none, [], [], false⟩ := rfl
theorem tab_80 : TI.of tab 80 = ⟨(.struct [(0, 1, false), (1, 1, false)]), 2, 16, true, some (.pair (.int .i64) (.int .i64)), [.c (.int .i64 0), .c (.int .i64 0)], [.i .i64, .i .i64], true⟩ := rfl
theorem tab_84 : TI.of tab 84 = ⟨.other, 1, 8, false, .none, [], [], false⟩ := rfl
theorem tab_85 : TI.of tab 85 = ⟨.other, 1, 8, false, .none, [], [], false⟩ := rfl
theorem tab_87 : TI.of tab 87 = ⟨.other, 1, 8, false, .none, [], [], false⟩ := rfl
theorem tab_93 : TI.of tab 93 = ⟨(.map 9 3), 1, 8, false, .none, [], [], false⟩ := rfl
theorem tab_96 : TI.of tab 96 = ⟨.other, 1, 8, false, .none, [], [], false⟩ := rfl
theorem tab_97 : TI.of tab 97 = ⟨.other, 1, 8, false, .none, [], [], false⟩ := rfl
theorem tab_104 : TI.of tab 104 = ⟨.other, 1, 8, false, .none, [], [], false⟩ := rfl
theorem tab_106 : TI.of tab 106 = ⟨.other, 1, 8, false, .none, [], [], false⟩ := rfl
theorem tab_111 : TI.of tab 111 = ⟨.int, 1, 8, false, some (.int .u64), [.c (.int .u64 0)], [.i .u64], true⟩ := rfl
theorem tab_116 : TI.of tab 116 = ⟨.int, 1, 8, false, some (.int .i64), [.c (.int .i64 0)], [.i .i64], true⟩ := rfl
theorem tab_124 : TI.of tab 124 = ⟨.int, 1, 4, false, some (.int .u32), [.c (.int .u32 0)], [.i .u32], true⟩ := rfl
theorem tab_126 : TI.of tab 126 = ⟨.int, 1, 8, false, some (.int .u64), [.c (.int .u64 0)], [.i .u64], true⟩ := rfl
theorem tab_133 : TI.of tab 133 = ⟨.int, 1, 8, false, some (.int .u64), [.c (.int .u64 0)], [.i .u64], true⟩ := rfl
theorem tab_137 : TI.of tab 137 = ⟨(.ptr 3), 1, 8, false, .none, [.c .nilp], [], false⟩ := rfl
theorem tab_141 : TI.of tab 141 = ⟨(.ptr 133), 1, 8, false, .none, [.c .nilp], [], false⟩ := rfl
attribute [go_sem] tab_3 tab_4 tab_5 tab_9 tab_22 tab_23 tab_25 tab_29 tab_30 tab_33 tab_34 tab_36 tab_37 tab_39 tab_52 tab_54 tab_62 tab_63 tab_70 tab_77 tab_80 tab_84 tab_85 tab_87 tab_93 tab_96 tab_97 tab_104 tab_106 tab_111 tab_116 tab_124 tab_126 tab_133 tab_137 tab_141

end Go.Proofs.Ytjeinbfnbcempaa
