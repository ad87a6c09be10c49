/- The types of the functions, as a table; it is checked against the program. -/
import Derived.Test.YtdmgmdppejopcaaGreatEvTab
import Derived.Test.YtdmgmdppejopcaaGreatRows
namespace Go.Proofs.YtdmgmdppejopcaaGreat
open Go.Ev

def tab : Tab := [
  (3, ⟨.int, 1, 8, false, some (.int .i64), [.c (.int .i64 0)], [.i .i64], true⟩),
  (4, ⟨.bool, 1, 1, false, some .bool, [.c (.bool false)], [.b], true⟩),
  (5, ⟨.int, 1, 1, false, some (.int .u8), [.c (.int .u8 0)], [.i .u8], true⟩),
  (9, ⟨.str, 1, 16, false, some .str, [.c (.str ByteArray.empty)], [.s], true⟩),
  (22, ⟨(.slice 54), 1, 24, false, some (.sl (.pair (.pair .str (.pair (.int .i64) (.pair .str (.int .i64)))) (.pair .str (.pair (.int .i64) (.pair (.int .i64) (.pair (.int .i64) (.pair (.int .i64) (.int .i64)))))))), [.s 54 (.pair (.pair .str (.pair (.int .i64) (.pair .str (.int .i64)))) (.pair .str (.pair (.int .i64) (.pair (.int .i64) (.pair (.int .i64) (.pair (.int .i64) (.int .i64)))))))], [], true⟩),
  (23, ⟨(.slice 3), 1, 24, false, some (.sl (.int .i64)), [.s 3 (.int .i64)], [], true⟩),
  (24, ⟨(.ptr 48), 1, 8, false, .none, [.c .nilp], [], false⟩),
  (28, ⟨(.slice 22), 1, 24, false, some (.sl (.sl (.pair (.pair .str (.pair (.int .i64) (.pair .str (.int .i64)))) (.pair .str (.pair (.int .i64) (.pair (.int .i64) (.pair (.int .i64) (.pair (.int .i64) (.int .i64))))))))), [.s 22 (.sl (.pair (.pair .str (.pair (.int .i64) (.pair .str (.int .i64)))) (.pair .str (.pair (.int .i64) (.pair (.int .i64) (.pair (.int .i64) (.pair (.int .i64) (.int .i64))))))))], [], true⟩),
  (30, ⟨(.slice 23), 1, 24, false, some (.sl (.sl (.int .i64))), [.s 23 (.sl (.int .i64))], [], true⟩),
  (31, ⟨(.slice 62), 1, 24, false, some (.sl (.pair (.pair .str (.pair (.int .i64) (.pair .str (.int .i64)))) (.int .i64))), [.s 62 (.pair (.pair .str (.pair (.int .i64) (.pair .str (.int .i64)))) (.int .i64))], [], true⟩),
  (32, ⟨(.slice 50), 1, 24, false, some (.sl (.pair .str (.pair (.int .i64) (.pair .str (.int .i64))))), [.s 50 (.pair .str (.pair (.int .i64) (.pair .str (.int .i64))))], [], true⟩),
  (34, ⟨(.struct [(0, 1, false), (1, 1, false), (2, 1, false)]), 3, 56, true, some (.pair (.sl (.pair (.pair .str (.pair (.int .i64) (.pair .str (.int .i64)))) (.int .i64))) (.pair (.int .i64) (.sl (.pair .str (.pair (.int .i64) (.pair .str (.int .i64))))))), [.s 62 (.pair (.pair .str (.pair (.int .i64) (.pair .str (.int .i64)))) (.int .i64)), .c (.int .i64 0), .s 50 (.pair .str (.pair (.int .i64) (.pair .str (.int .i64))))], [], true⟩),
  (35, ⟨.int, 1, 8, false, some (.int .i64), [.c (.int .i64 0)], [.i .i64], true⟩),
  (44, ⟨(.slice 34), 1, 24, false, some (.sl (.pair (.sl (.pair (.pair .str (.pair (.int .i64) (.pair .str (.int .i64)))) (.int .i64))) (.pair (.int .i64) (.sl (.pair .str (.pair (.int .i64) (.pair .str (.int .i64)))))))), [.s 34 (.pair (.sl (.pair (.pair .str (.pair (.int .i64) (.pair .str (.int .i64)))) (.int .i64))) (.pair (.int .i64) (.sl (.pair .str (.pair (.int .i64) (.pair .str (.int .i64)))))))], [], true⟩),
  (48, ⟨(.struct [(0, 1, false), (1, 1, false)]), 2, 32, true, some (.pair (.sl (.int .i64)) (.int .i64)), [.s 3 (.int .i64), .c (.int .i64 0)], [], true⟩),
  (50, ⟨(.struct [(0, 1, false), (1, 1, false), (2, 1, false), (3, 1, false)]), 4, 48, true, some (.pair .str (.pair (.int .i64) (.pair .str (.int .i64)))), [.c (.str ByteArray.empty), .c (.int .i64 0), .c (.str ByteArray.empty), .c (.int .i64 0)], [.s, .i .i64, .s, .i .i64], true⟩),
  (54, ⟨(.struct [(0, 4, true), (4, 1, false), (5, 1, false), (6, 1, false), (7, 1, false), (8, 1, false), (9, 1, false)]), 10, 104, true, some (.pair (.pair .str (.pair (.int .i64) (.pair .str (.int .i64)))) (.pair .str (.pair (.int .i64) (.pair (.int .i64) (.pair (.int .i64) (.pair (.int .i64) (.int .i64))))))), [.c (.str ByteArray.empty), .c (.int .i64 0), .c (.str ByteArray.empty), .c (.int .i64 0), .c (.str ByteArray.empty), .c (.int .i64 0), .c (.int .i64 0), .c (.int .i64 0), .c (.int .i64 0), .c (.int .i64 0)], [.s, .i .i64, .s, .i .i64, .s, .i .i64, .i .i64, .i .i64, .i .i64, .i .i64], true⟩),
  (60, ⟨.other, 1, 8, false, .none, [], [], false⟩),
  (62, ⟨(.struct [(0, 4, true), (4, 1, false)]), 5, 56, true, some (.pair (.pair .str (.pair (.int .i64) (.pair .str (.int .i64)))) (.int .i64)), [.c (.str ByteArray.empty), .c (.int .i64 0), .c (.str ByteArray.empty), .c (.int .i64 0), .c (.int .i64 0)], [.s, .i .i64, .s, .i .i64, .i .i64], true⟩),
  (77, ⟨(.slice 9), 1, 24, false, some (.sl .str), [.s 9 .str], [], true⟩),
  (82, ⟨.other, 1, 8, false, .none, [], [], false⟩),
  (86, ⟨.other, 1, 8, false, .none, [], [], false⟩),
  (90, ⟨.int, 1, 8, false, some (.int .u64), [.c (.int .u64 0)], [.i .u64], true⟩),
  (101, ⟨.int, 1, 8, false, some (.int .i64), [.c (.int .i64 0)], [.i .i64], true⟩),
  (109, ⟨.int, 1, 4, false, some (.int .u32), [.c (.int .u32 0)], [.i .u32], true⟩),
  (111, ⟨.int, 1, 8, false, some (.int .u64), [.c (.int .u64 0)], [.i .u64], true⟩),
  (119, ⟨.int, 1, 8, false, some (.int .u64), [.c (.int .u64 0)], [.i .u64], true⟩),
  (123, ⟨(.ptr 3), 1, 8, false, .none, [.c .nilp], [], false⟩),
  (127, ⟨.other, 1, 8, false, .none, [], [], false⟩),
  (129, ⟨(.ptr 119), 1, 8, false, .none, [.c .nilp], [], false⟩)]

theorem tab_ok : TabOK Tryz.prog tab := tabB_ok (by kernel_rfl)
theorem tab_3 : TI.of tab 3 = ⟨.int, 1, 8, false, some (.int .i64), [.c (.int .i64 0)], [.i .i64], true⟩ := rfl
theorem tab_4 : TI.of tab 4 = ⟨.bool, 1, 1, false, some .bool, [.c (.bool false)], [.b], true⟩ := rfl
theorem tab_5 : TI.of tab 5 = ⟨.int, 1, 1, false, some (.int .u8), [.c (.int .u8 0)], [.i .u8], true⟩ := rfl
theorem tab_9 : TI.of tab 9 = ⟨.str, 1, 16, false, some .str, [.c (.str ByteArray.empty)], [.s], true⟩ := rfl
theorem tab_22 : TI.of tab 22 = ⟨(.slice 54), 1, 24, false, some (.sl (.pair (.pair .str (.pair (.int .i64) (.pair .str (.int .i64)))) (.pair .str (.pair (.int .i64) (.pair (.int .i64) (.pair (.int .i64) (.pair (.int .i64) (.int .i64)))))))), [.s 54 (.pair (.pair .str (.pair (.int .i64) (.pair .str (.int .i64)))) (.pair .str (.pair (.int .i64) (.pair (.int .i64) (.pair (.int .i64) (.pair (.int .i64) (.int .i64)))))))], [], true⟩ := rfl
theorem tab_23 : TI.of tab 23 = ⟨(.slice 3), 1, 24, false, some (.sl (.int .i64)), [.s 3 (.int .i64)], [], true⟩ := rfl
theorem tab_24 : TI.of tab 24 = ⟨(.ptr 48), 1, 8, false, .none, [.c .nilp], [], false⟩ := rfl
theorem tab_28 : TI.of tab 28 = ⟨(.slice 22), 1, 24, false, some (.sl (.sl (.pair (.pair .str (.pair (.int .i64) (.pair .str (.int .i64)))) (.pair .str (.pair (.int .i64) (.pair (.int .i64) (.pair (.int .i64) (.pair (.int .i64) (.int .i64))))))))), [.s 22 (.sl (.pair (.pair .str (.pair (.int .i64) (.pair .str (.int .i64)))) (.pair .str (.pair (.int .i64) (.pair (.int .i64) (.pair (.int .i64) (.pair (.int .i64) (.int .i64))))))))], [], true⟩ := rfl
theorem tab_30 : TI.of tab 30 = ⟨(.slice 23), 1, 24, false, some (.sl (.sl (.int .i64))), [.s 23 (.sl (.int .i64))], [], true⟩ := rfl
theorem tab_31 : TI.of tab 31 = ⟨(.slice 62), 1, 24, false, some (.sl (.pair (.pair .str (.pair (.int .i64) (.pair .str (.int .i64)))) (.int .i64))), [.s 62 (.pair (.pair .str (.pair (.int .i64) (.pair .str (.int .i64)))) (.int .i64))], [], true⟩ := rfl
theorem tab_32 : TI.of tab 32 = ⟨(.slice 50), 1, 24, false, some (.sl (.pair .str (.pair (.int .i64) (.pair .str (.int .i64))))), [.s 50 (.pair .str (.pair (.int .i64) (.pair .str (.int .i64))))], [], true⟩ := rfl
theorem tab_34 : TI.of tab 34 = ⟨(.struct [(0, 1, false), (1, 1, false), (2, 1, false)]), 3, 56, true, some (.pair (.sl (.pair (.pair .str (.pair (.int .i64) (.pair .str (.int .i64)))) (.int .i64))) (.pair (.int .i64) (.sl (.pair .str (.pair (.int .i64) (.pair .str (.int .i64))))))), [.s 62 (.pair (.pair .str (.pair (.int .i64) (.pair .str (.int .i64)))) (.int .i64)), .c (.int .i64 0), .s 50 (.pair .str (.pair (.int .i64) (.pair .str (.int .i64))))], [], true⟩ := rfl
theorem tab_35 : TI.of tab 35 = ⟨.int, 1, 8, false, some (.int .i64), [.c (.int .i64 0)], [.i .i64], true⟩ := rfl
theorem tab_44 : TI.of tab 44 = ⟨(.slice 34), 1, 24, false, some (.sl (.pair (.sl (.pair (.pair .str (.pair (.int .i64) (.pair .str (.int .i64)))) (.int .i64))) (.pair (.int .i64) (.sl (.pair .str (.pair (.int .i64) (.pair .str (.int .i64)))))))), [.s 34 (.pair (.sl (.pair (.pair .str (.pair (.int .i64) (.pair .str (.int .i64)))) (.int .i64))) (.pair (.int .i64) (.sl (.pair .str (.pair (.int .i64) (.pair .str (.int .i64)))))))], [], true⟩ := rfl
theorem tab_48 : TI.of tab 48 = ⟨(.struct [(0, 1, false), (1, 1, false)]), 2, 32, true, some (.pair (.sl (.int .i64)) (.int .i64)), [.s 3 (.int .i64), .c (.int .i64 0)], [], true⟩ := rfl
theorem tab_50 : TI.of tab 50 = ⟨(.struct [(0, 1, false), (1, 1, false), (2, 1, false), (3, 1, false)]), 4, 48, true, some (.pair .str (.pair (.int .i64) (.pair .str (.int .i64)))), [.c (.str ByteArray.empty), .c (.int .i64 0), .c (.str ByteArray.empty), .c (.int .i64 0)], [.s, .i .i64, .s, .i .i64], true⟩ := rfl
theorem tab_54 : TI.of tab 54 = ⟨(.struct [(0, 4, true), (4, 1, false), (5, 1, false), (6, 1, false), (7, 1, false), (8, 1, false), (9, 1, false)]), 10, 104, true, some (.pair (.pair .str (.pair (.int .i64) (.pair .str (.int .i64)))) (.pair .str (.pair (.int .i64) (.pair (.int .i64) (.pair (.int .i64) (.pair (.int .i64) (.int .i64))))))), [.c (.str ByteArray.empty), .c (.int .i64 0), .c (.str ByteArray.empty), .c (.int .i64 0), .c (.str ByteArray.empty), .c (.int .i64 0), .c (.int .i64 0), .c (.int .i64 0), .c (.int .i64 0), .c (.int .i64 0)], [.s, .i .i64, .s, .i .i64, .s, .i .i64, .i .i64, .i .i64, .i .i64, .i .i64], true⟩ := rfl
theorem tab_60 : TI.of tab 60 = ⟨.other, 1, 8, false, .none, [], [], false⟩ := rfl
theorem tab_62 : TI.of tab 62 = ⟨(.struct [(0, 4, true), (4, 1, false)]), 5, 56, true, some (.pair (.pair .str (.pair (.int .i64) (.pair .str (.int .i64)))) (.int .i64)), [.c (.str ByteArray.empty), .c (.int .i64 0), .c (.str ByteArray.empty), .c (.int .i64 0), .c (.int .i64 0)], [.s, .i .i64, .s, .i .i64, .i .i64], true⟩ := rfl
theorem tab_77 : TI.of tab 77 = ⟨(.slice 9), 1, 24, false, some (.sl .str), [.s 9 .str], [], true⟩ := rfl
theorem tab_82 : TI.of tab 82 = ⟨.other, 1, 8, false, .none, [], [], false⟩ := rfl
theorem tab_86 : TI.of tab 86 = ⟨.other, 1, 8, false, .none, [], [], false⟩ := rfl
theorem tab_90 : TI.of tab 90 = ⟨.int, 1, 8, false, some (.int .u64), [.c (.int .u64 0)], [.i .u64], true⟩ := rfl
theorem tab_101 : TI.of tab 101 = ⟨.int, 1, 8, false, some (.int .i64), [.c (.int .i64 0)], [.i .i64], true⟩ := rfl
theorem tab_109 : TI.of tab 109 = ⟨.int, 1, 4, false, some (.int .u32), [.c (.int .u32 0)], [.i .u32], true⟩ := rfl
theorem tab_111 : TI.of tab 111 = ⟨.int, 1, 8, false, some (.int .u64), [.c (.int .u64 0)], [.i .u64], true⟩ := rfl
theorem tab_119 : TI.of tab 119 = ⟨.int, 1, 8, false, some (.int .u64), [.c (.int .u64 0)], [.i .u64], true⟩ := rfl
theorem tab_123 : TI.of tab 123 = ⟨(.ptr 3), 1, 8, false, .none, [.c .nilp], [], false⟩ := rfl
theorem tab_127 : TI.of tab 127 = ⟨.other, 1, 8, false, .none, [], [], false⟩ := rfl
theorem tab_129 : TI.of tab 129 = ⟨(.ptr 119), 1, 8, false, .none, [.c .nilp], [], false⟩ := rfl
attribute [go_sem] tab_3 tab_4 tab_5 tab_9 tab_22 tab_23 tab_24 tab_28 tab_30 tab_31 tab_32 tab_34 tab_35 tab_44 tab_48 tab_50 tab_54 tab_60 tab_62 tab_77 tab_82 tab_86 tab_90 tab_101 tab_109 tab_111 tab_119 tab_123 tab_127 tab_129

end Go.Proofs.YtdmgmdppejopcaaGreat
