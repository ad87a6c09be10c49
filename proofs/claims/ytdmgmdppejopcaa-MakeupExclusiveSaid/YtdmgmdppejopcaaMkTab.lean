/- The types of the functions, as a table; it is checked against the program. -/
import Derived.Test.YtdmgmdppejopcaaEvTab
import Derived.Test.YtdmgmdppejopcaaRows
namespace Go.Proofs.Ytdmgmdppejopcaa
open Go.Ev

def tab : Tab := [
  (3, ⟨.int, 1, 8, false, some (.int .i64), [.c (.int .i64 0)], [.i .i64], true⟩),
  (4, ⟨.bool, 1, 1, false, some .bool, [.c (.bool false)], [.b], true⟩),
  (5, ⟨.int, 1, 1, false, some (.int .u8), [.c (.int .u8 0)], [.i .u8], true⟩),
  (9, ⟨.str, 1, 16, false, some .str, [.c (.str ByteArray.empty)], [.s], true⟩),
  (22, ⟨(.slice 36), 1, 24, false, some (.sl (.pair (.pair .str (.pair (.int .i64) (.pair .str (.int .i64)))) (.pair .str (.pair (.int .i64) (.pair (.int .i64) (.pair (.int .i64) (.pair (.int .i64) (.int .i64)))))))), [.s 36 (.pair (.pair .str (.pair (.int .i64) (.pair .str (.int .i64)))) (.pair .str (.pair (.int .i64) (.pair (.int .i64) (.pair (.int .i64) (.pair (.int .i64) (.int .i64)))))))], [], true⟩),
  (23, ⟨(.slice 3), 1, 24, false, some (.sl (.int .i64)), [.s 3 (.int .i64)], [], true⟩),
  (24, ⟨(.ptr 61), 1, 8, false, .none, [.c .nilp], [], false⟩),
  (28, ⟨(.slice 22), 1, 24, false, some (.sl (.sl (.pair (.pair .str (.pair (.int .i64) (.pair .str (.int .i64)))) (.pair .str (.pair (.int .i64) (.pair (.int .i64) (.pair (.int .i64) (.pair (.int .i64) (.int .i64))))))))), [.s 22 (.sl (.pair (.pair .str (.pair (.int .i64) (.pair .str (.int .i64)))) (.pair .str (.pair (.int .i64) (.pair (.int .i64) (.pair (.int .i64) (.pair (.int .i64) (.int .i64))))))))], [], true⟩),
  (31, ⟨(.slice 34), 1, 24, false, some (.sl (.pair .str (.pair (.int .i64) (.pair .str (.int .i64))))), [.s 34 (.pair .str (.pair (.int .i64) (.pair .str (.int .i64))))], [], true⟩),
  (34, ⟨(.struct [(0, 1, false), (1, 1, false), (2, 1, false), (3, 1, false)]), 4, 48, true, some (.pair .str (.pair (.int .i64) (.pair .str (.int .i64)))), [.c (.str ByteArray.empty), .c (.int .i64 0), .c (.str ByteArray.empty), .c (.int .i64 0)], [.s, .i .i64, .s, .i .i64], true⟩),
  (36, ⟨(.struct [(0, 4, true), (4, 1, false), (5, 1, false), (6, 1, false), (7, 1, false), (8, 1, false), (9, 1, false)]), 10, 104, true, some (.pair (.pair .str (.pair (.int .i64) (.pair .str (.int .i64)))) (.pair .str (.pair (.int .i64) (.pair (.int .i64) (.pair (.int .i64) (.pair (.int .i64) (.int .i64))))))), [.c (.str ByteArray.empty), .c (.int .i64 0), .c (.str ByteArray.empty), .c (.int .i64 0), .c (.str ByteArray.empty), .c (.int .i64 0), .c (.int .i64 0), .c (.int .i64 0), .c (.int .i64 0), .c (.int .i64 0)], [.s, .i .i64, .s, .i .i64, .s, .i .i64, .i .i64, .i .i64, .i .i64, .i .i64], true⟩),
  (40, ⟨(.slice 53), 1, 24, false, some (.sl (.pair (.pair .str (.pair (.int .i64) (.pair .str (.int .i64)))) (.int .i64))), [.s 53 (.pair (.pair .str (.pair (.int .i64) (.pair .str (.int .i64)))) (.int .i64))], [], true⟩),
  (42, ⟨(.struct [(0, 1, false), (1, 1, false), (2, 1, false)]), 3, 56, true, some (.pair (.sl (.pair (.pair .str (.pair (.int .i64) (.pair .str (.int .i64)))) (.int .i64))) (.pair (.int .i64) (.sl (.pair .str (.pair (.int .i64) (.pair .str (.int .i64))))))), [.s 53 (.pair (.pair .str (.pair (.int .i64) (.pair .str (.int .i64)))) (.int .i64)), .c (.int .i64 0), .s 34 (.pair .str (.pair (.int .i64) (.pair .str (.int .i64))))], [], true⟩),
  (43, ⟨.int, 1, 8, false, some (.int .i64), [.c (.int .i64 0)], [.i .i64], true⟩),
  (53, ⟨(.struct [(0, 4, true), (4, 1, false)]), 5, 56, true, some (.pair (.pair .str (.pair (.int .i64) (.pair .str (.int .i64)))) (.int .i64)), [.c (.str ByteArray.empty), .c (.int .i64 0), .c (.str ByteArray.empty), .c (.int .i64 0), .c (.int .i64 0)], [.s, .i .i64, .s, .i .i64, .i .i64], true⟩),
  (58, ⟨(.slice 42), 1, 24, false, some (.sl (.pair (.sl (.pair (.pair .str (.pair (.int .i64) (.pair .str (.int .i64)))) (.int .i64))) (.pair (.int .i64) (.sl (.pair .str (.pair (.int .i64) (.pair .str (.int .i64)))))))), [.s 42 (.pair (.sl (.pair (.pair .str (.pair (.int .i64) (.pair .str (.int .i64)))) (.int .i64))) (.pair (.int .i64) (.sl (.pair .str (.pair (.int .i64) (.pair .str (.int .i64)))))))], [], true⟩),
  (61, ⟨(.struct [(0, 1, false), (1, 1, false)]), 2, 32, true, some (.pair (.sl (.int .i64)) (.int .i64)), [.s 3 (.int .i64), .c (.int .i64 0)], [], true⟩),
  (70, ⟨.other, 1, 8, false, .none, [], [], false⟩),
  (73, ⟨(.slice 9), 1, 24, false, some (.sl .str), [.s 9 .str], [], true⟩),
  (79, ⟨.int, 1, 8, false, some (.int .u64), [.c (.int .u64 0)], [.i .u64], true⟩),
  (82, ⟨.other, 1, 8, false, .none, [], [], false⟩),
  (86, ⟨.other, 1, 8, false, .none, [], [], false⟩),
  (90, ⟨.int, 1, 8, false, some (.int .i64), [.c (.int .i64 0)], [.i .i64], true⟩),
  (98, ⟨.int, 1, 4, false, some (.int .u32), [.c (.int .u32 0)], [.i .u32], true⟩),
  (100, ⟨.int, 1, 8, false, some (.int .u64), [.c (.int .u64 0)], [.i .u64], true⟩),
  (107, ⟨.int, 1, 8, false, some (.int .u64), [.c (.int .u64 0)], [.i .u64], true⟩),
  (111, ⟨(.ptr 3), 1, 8, false, .none, [.c .nilp], [], false⟩),
  (122, ⟨(.ptr 107), 1, 8, false, .none, [.c .nilp], [], false⟩),
  (127, ⟨.other, 1, 8, false, .none, [], [], false⟩)]

theorem tab_ok : TabOK Try.prog tab := tabB_ok (by kernel_rfl)
theorem tab_3 : TI.of tab 3 = ⟨.int, 1, 8, false, some (.int .i64), [.c (.int .i64 0)], [.i .i64], true⟩ := rfl
theorem tab_4 : TI.of tab 4 = ⟨.bool, 1, 1, false, some .bool, [.c (.bool false)], [.b], true⟩ := rfl
theorem tab_5 : TI.of tab 5 = ⟨.int, 1, 1, false, some (.int .u8), [.c (.int .u8 0)], [.i .u8], true⟩ := rfl
theorem tab_9 : TI.of tab 9 = ⟨.str, 1, 16, false, some .str, [.c (.str ByteArray.empty)], [.s], true⟩ := rfl
theorem tab_22 : TI.of tab 22 = ⟨(.slice 36), 1, 24, false, some (.sl (.pair (.pair .str (.pair (.int .i64) (.pair .str (.int .i64)))) (.pair .str (.pair (.int .i64) (.pair (.int .i64) (.pair (.int .i64) (.pair (.int .i64) (.int .i64)))))))), [.s 36 (.pair (.pair .str (.pair (.int .i64) (.pair .str (.int .i64)))) (.pair .str (.pair (.int .i64) (.pair (.int .i64) (.pair (.int .i64) (.pair (.int .i64) (.int .i64)))))))], [], true⟩ := rfl
theorem tab_23 : TI.of tab 23 = ⟨(.slice 3), 1, 24, false, some (.sl (.int .i64)), [.s 3 (.int .i64)], [], true⟩ := rfl
theorem tab_24 : TI.of tab 24 = ⟨(.ptr 61), 1, 8, false, .none, [.c .nilp], [], false⟩ := rfl
theorem tab_28 : TI.of tab 28 = ⟨(.slice 22), 1, 24, false, some (.sl (.sl (.pair (.pair .str (.pair (.int .i64) (.pair .str (.int .i64)))) (.pair .str (.pair (.int .i64) (.pair (.int .i64) (.pair (.int .i64) (.pair (.int .i64) (.int .i64))))))))), [.s 22 (.sl (.pair (.pair .str (.pair (.int .i64) (.pair .str (.int .i64)))) (.pair .str (.pair (.int .i64) (.pair (.int .i64) (.pair (.int .i64) (.pair (.int .i64) (.int .i64))))))))], [], true⟩ := rfl
theorem tab_31 : TI.of tab 31 = ⟨(.slice 34), 1, 24, false, some (.sl (.pair .str (.pair (.int .i64) (.pair .str (.int .i64))))), [.s 34 (.pair .str (.pair (.int .i64) (.pair .str (.int .i64))))], [], true⟩ := rfl
theorem tab_34 : TI.of tab 34 = ⟨(.struct [(0, 1, false), (1, 1, false), (2, 1, false), (3, 1, false)]), 4, 48, true, some (.pair .str (.pair (.int .i64) (.pair .str (.int .i64)))), [.c (.str ByteArray.empty), .c (.int .i64 0), .c (.str ByteArray.empty), .c (.int .i64 0)], [.s, .i .i64, .s, .i .i64], true⟩ := rfl
theorem tab_36 : TI.of tab 36 = ⟨(.struct [(0, 4, true), (4, 1, false), (5, 1, false), (6, 1, false), (7, 1, false), (8, 1, false), (9, 1, false)]), 10, 104, true, some (.pair (.pair .str (.pair (.int .i64) (.pair .str (.int .i64)))) (.pair .str (.pair (.int .i64) (.pair (.int .i64) (.pair (.int .i64) (.pair (.int .i64) (.int .i64))))))), [.c (.str ByteArray.empty), .c (.int .i64 0), .c (.str ByteArray.empty), .c (.int .i64 0), .c (.str ByteArray.empty), .c (.int .i64 0), .c (.int .i64 0), .c (.int .i64 0), .c (.int .i64 0), .c (.int .i64 0)], [.s, .i .i64, .s, .i .i64, .s, .i .i64, .i .i64, .i .i64, .i .i64, .i .i64], true⟩ := rfl
theorem tab_40 : TI.of tab 40 = ⟨(.slice 53), 1, 24, false, some (.sl (.pair (.pair .str (.pair (.int .i64) (.pair .str (.int .i64)))) (.int .i64))), [.s 53 (.pair (.pair .str (.pair (.int .i64) (.pair .str (.int .i64)))) (.int .i64))], [], true⟩ := rfl
theorem tab_42 : TI.of tab 42 = ⟨(.struct [(0, 1, false), (1, 1, false), (2, 1, false)]), 3, 56, true, some (.pair (.sl (.pair (.pair .str (.pair (.int .i64) (.pair .str (.int .i64)))) (.int .i64))) (.pair (.int .i64) (.sl (.pair .str (.pair (.int .i64) (.pair .str (.int .i64))))))), [.s 53 (.pair (.pair .str (.pair (.int .i64) (.pair .str (.int .i64)))) (.int .i64)), .c (.int .i64 0), .s 34 (.pair .str (.pair (.int .i64) (.pair .str (.int .i64))))], [], true⟩ := rfl
theorem tab_43 : TI.of tab 43 = ⟨.int, 1, 8, false, some (.int .i64), [.c (.int .i64 0)], [.i .i64], true⟩ := rfl
theorem tab_53 : TI.of tab 53 = ⟨(.struct [(0, 4, true), (4, 1, false)]), 5, 56, true, some (.pair (.pair .str (.pair (.int .i64) (.pair .str (.int .i64)))) (.int .i64)), [.c (.str ByteArray.empty), .c (.int .i64 0), .c (.str ByteArray.empty), .c (.int .i64 0), .c (.int .i64 0)], [.s, .i .i64, .s, .i .i64, .i .i64], true⟩ := rfl
theorem tab_58 : TI.of tab 58 = ⟨(.slice 42), 1, 24, false, some (.sl (.pair (.sl (.pair (.pair .str (.pair (.int .i64) (.pair .str (.int .i64)))) (.int .i64))) (.pair (.int .i64) (.sl (.pair .str (.pair (.int .i64) (.pair .str (.int .i64)))))))), [.s 42 (.pair (.sl (.pair (.pair .str (.pair (.int .i64) (.pair .str (.int .i64)))) (.int .i64))) (.pair (.int .i64) (.sl (.pair .str (.pair (.int .i64) (.pair .str (.int .i64)))))))], [], true⟩ := rfl
theorem tab_61 : TI.of tab 61 = ⟨(.struct [(0, 1, false), (1, 1, false)]), 2, 32, true, some (.pair (.sl (.int .i64)) (.int .i64)), [.s 3 (.int .i64), .c (.int .i64 0)], [], true⟩ := rfl
theorem tab_70 : TI.of tab 70 = ⟨.other, 1, 8, false, .none, [], [], false⟩ := rfl
theorem tab_73 : TI.of tab 73 = ⟨(.slice 9), 1, 24, false, some (.sl .str), [.s 9 .str], [], true⟩ := rfl
theorem tab_79 : TI.of tab 79 = ⟨.int, 1, 8, false, some (.int .u64), [.c (.int .u64 0)], [.i .u64], true⟩ := rfl
theorem tab_82 : TI.of tab 82 = ⟨.other, 1, 8, false, .none, [], [], false⟩ := rfl
theorem tab_86 : TI.of tab 86 = ⟨.other, 1, 8, false, .none, [], [], false⟩ := rfl
theorem tab_90 : TI.of tab 90 = ⟨.int, 1, 8, false, some (.int .i64), [.c (.int .i64 0)], [.i .i64], true⟩ := rfl
theorem tab_98 : TI.of tab 98 = ⟨.int, 1, 4, false, some (.int .u32), [.c (.int .u32 0)], [.i .u32], true⟩ := rfl
theorem tab_100 : TI.of tab 100 = ⟨.int, 1, 8, false, some (.int .u64), [.c (.int .u64 0)], [.i .u64], true⟩ := rfl
theorem tab_107 : TI.of tab 107 = ⟨.int, 1, 8, false, some (.int .u64), [.c (.int .u64 0)], [.i .u64], true⟩ := rfl
theorem tab_111 : TI.of tab 111 = ⟨(.ptr 3), 1, 8, false, .none, [.c .nilp], [], false⟩ := rfl
theorem tab_122 : TI.of tab 122 = ⟨(.ptr 107), 1, 8, false, .none, [.c .nilp], [], false⟩ := rfl
theorem tab_127 : TI.of tab 127 = ⟨.other, 1, 8, false, .none, [], [], false⟩ := rfl
attribute [go_sem] tab_3 tab_4 tab_5 tab_9 tab_22 tab_23 tab_24 tab_28 tab_31 tab_34 tab_36 tab_40 tab_42 tab_43 tab_53 tab_58 tab_61 tab_70 tab_73 tab_79 tab_82 tab_86 tab_90 tab_98 tab_100 tab_107 tab_111 tab_122 tab_127

end Go.Proofs.Ytdmgmdppejopcaa
