/- The types of the functions, as a table; it is checked against the program. -/
import Derived.Test.YtjghgckdndggoaaEvTab
import Derived.Test.YtjghgckdndggoaaRows
namespace Go.Proofs.Ytjghgckdndggoaa
open Go.Ev

def tab : Tab := [
  (3, ⟨.int, 1, 8, false, some (.int .i64), [.c (.int .i64 0)], [.i .i64], true⟩),
  (4, ⟨.bool, 1, 1, false, some .bool, [.c (.bool false)], [.b], true⟩),
  (5, ⟨.int, 1, 1, false, some (.int .u8), [.c (.int .u8 0)], [.i .u8], true⟩),
  (9, ⟨.str, 1, 16, false, some .str, [.c (.str ByteArray.empty)], [.s], true⟩),
  (22, ⟨(.slice 3), 1, 24, false, some (.sl (.int .i64)), [.s 3 (.int .i64)], [], true⟩),
  (23, ⟨(.slice 31), 1, 24, false, some (.sl (.pair (.int .i64) (.int .i64))), [.s 31 (.pair (.int .i64) (.int .i64))], [], true⟩),
  (26, ⟨.int, 1, 8, false, some (.int .i64), [.c (.int .i64 0)], [.i .i64], true⟩),
  (31, ⟨(.struct [(0, 1, false), (1, 1, false)]), 2, 16, true, some (.pair (.int .i64) (.int .i64)), [.c (.int .i64 0), .c (.int .i64 0)], [.i .i64, .i .i64], true⟩),
  (32, ⟨.other, 1, 8, false, .none, [], [], false⟩),
  (43, ⟨(.ptr 51), 1, 8, false, .none, [.c .nilp], [], false⟩),
  (51, ⟨(.struct [(0, 1, false), (1, 1, false)]), 2, 32, true, some (.pair (.sl (.int .i64)) (.int .i64)), [.s 3 (.int .i64), .c (.int .i64 0)], [], true⟩),
  (60, ⟨.int, 1, 8, false, some (.int .u64), [.c (.int .u64 0)], [.i .u64], true⟩),
  (64, ⟨.int, 1, 8, false, some (.int .i64), [.c (.int .i64 0)], [.i .i64], true⟩),
  (72, ⟨.int, 1, 4, false, some (.int .u32), [.c (.int .u32 0)], [.i .u32], true⟩),
  (74, ⟨.int, 1, 8, false, some (.int .u64), [.c (.int .u64 0)], [.i .u64], true⟩),
  (75, ⟨.int, 1, 8, false, some (.int .u64), [.c (.int .u64 0)], [.i .u64], true⟩),
  (79, ⟨(.ptr 3), 1, 8, false, .none, [.c .nilp], [], false⟩),
  (81, ⟨(.ptr 75), 1, 8, false, .none, [.c .nilp], [], false⟩)]

theorem tab_ok : TabOK Try.prog tab := tabB_ok (by kernel_rfl)
theorem tab_3 : TI.of tab 3 = ⟨.int, 1, 8, false, some (.int .i64), [.c (.int .i64 0)], [.i .i64], true⟩ := rfl
theorem tab_4 : TI.of tab 4 = ⟨.bool, 1, 1, false, some .bool, [.c (.bool false)], [.b], true⟩ := rfl
theorem tab_5 : TI.of tab 5 = ⟨.int, 1, 1, false, some (.int .u8), [.c (.int .u8 0)], [.i .u8], true⟩ := rfl
theorem tab_9 : TI.of tab 9 = ⟨.str, 1, 16, false, some .str, [.c (.str ByteArray.empty)], [.s], true⟩ := rfl
theorem tab_22 : TI.of tab 22 = ⟨(.slice 3), 1, 24, false, some (.sl (.int .i64)), [.s 3 (.int .i64)], [], true⟩ := rfl
theorem tab_23 : TI.of tab 23 = ⟨(.slice 31), 1, 24, false, some (.sl (.pair (.int .i64) (.int .i64))), [.s 31 (.pair (.int .i64) (.int .i64))], [], true⟩ := rfl
theorem tab_26 : TI.of tab 26 = ⟨.int, 1, 8, false, some (.int .i64), [.c (.int .i64 0)], [.i .i64], true⟩ := rfl
theorem tab_31 : TI.of tab 31 = ⟨(.struct [(0, 1, false), (1, 1, false)]), 2, 16, true, some (.pair (.int .i64) (.int .i64)), [.c (.int .i64 0), .c (.int .i64 0)], [.i .i64, .i .i64], true⟩ := rfl
theorem tab_32 : TI.of tab 32 = ⟨.other, 1, 8, false, .none, [], [], false⟩ := rfl
theorem tab_43 : TI.of tab 43 = ⟨(.ptr 51), 1, 8, false, .none, [.c .nilp], [], false⟩ := rfl
theorem tab_51 : TI.of tab 51 = ⟨(.struct [(0, 1, false), (1, 1, false)]), 2, 32, true, some (.pair (.sl (.int .i64)) (.int .i64)), [.s 3 (.int .i64), .c (.int .i64 0)], [], true⟩ := rfl
theorem tab_60 : TI.of tab 60 = ⟨.int, 1, 8, false, some (.int .u64), [.c (.int .u64 0)], [.i .u64], true⟩ := rfl
theorem tab_64 : TI.of tab 64 = ⟨.int, 1, 8, false, some (.int .i64), [.c (.int .i64 0)], [.i .i64], true⟩ := rfl
theorem tab_72 : TI.of tab 72 = ⟨.int, 1, 4, false, some (.int .u32), [.c (.int .u32 0)], [.i .u32], true⟩ := rfl
theorem tab_74 : TI.of tab 74 = ⟨.int, 1, 8, false, some (.int .u64), [.c (.int .u64 0)], [.i .u64], true⟩ := rfl
theorem tab_75 : TI.of tab 75 = ⟨.int, 1, 8, false, some (.int .u64), [.c (.int .u64 0)], [.i .u64], true⟩ := rfl
theorem tab_79 : TI.of tab 79 = ⟨(.ptr 3), 1, 8, false, .none, [.c .nilp], [], false⟩ := rfl
theorem tab_81 : TI.of tab 81 = ⟨(.ptr 75), 1, 8, false, .none, [.c .nilp], [], false⟩ := rfl
attribute [go_sem] tab_3 tab_4 tab_5 tab_9 tab_22 tab_23 tab_26 tab_31 tab_32 tab_43 tab_51 tab_60 tab_64 tab_72 tab_74 tab_75 tab_79 tab_81

end Go.Proofs.Ytjghgckdndggoaa
