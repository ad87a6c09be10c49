/- The types of the functions, as a table; it is checked against the program. -/
import Derived.Test.YthbcniifeeoplaaEvTab
import Derived.Test.YthbcniifeeoplaaRows
namespace Go.Proofs.Ythbcniifeeoplaa
open Go.Ev
abbrev ySR : Ty := .pair (.sl (.int .i64)) (.int .i64)
abbrev yPL : Ty := .pair (.int .i64) (.pair (.int .i64) (.int .i64))
abbrev yFL : Ty := .pair .str (.pair (.int .i64) (.pair .str (.int .i64)))
abbrev yPC : Ty := .pair (.pair (.int .i64) (.pair (.int .i64) (.int .i64))) (.pair (.int .i64) (.int .i64))
abbrev yGR : Ty := .pair (.pair (.pair (.int .i64) (.pair (.int .i64) (.int .i64))) (.pair (.int .i64) (.int .i64))) (.pair .str (.pair (.int .i64) (.pair .str (.int .i64))))
abbrev yBR : Ty := .pair (.int .i64) (.pair (.int .i64) (.pair (.int .i64) (.pair (.int .i64) (.int .i64))))
abbrev yTK : Ty := .pair (.int .i64) (.sl (.pair (.int .i64) (.pair (.int .i64) (.int .i64))))
abbrev yRU : Ty := .pair (.pair (.int .i64) (.pair (.int .i64) (.int .i64))) (.pair .bool (.pair (.int .i64) (.int .i64)))
abbrev yPM : Ty := .pair (.pair (.pair (.int .i64) (.pair (.int .i64) (.int .i64))) (.pair (.int .i64) (.int .i64))) (.pair (.int .i64) (.sl (.int .i64)))
abbrev yOP : Ty := .pair (.int .i64) (.pair (.int .i64) (.pair (.int .i64) (.pair (.int .i64) (.pair (.int .i64) (.pair (.pair (.int .i64) (.pair (.int .i64) (.int .i64))) (.pair (.int .i64) (.int .i64)))))))
abbrev yDP : Ty := .pair (.pair .str (.pair (.int .i64) (.pair .str (.int .i64)))) (.pair .str (.pair (.int .i64) (.pair (.int .i64) (.pair (.int .i64) (.pair (.int .i64) (.int .i64))))))
abbrev yCT : Ty := .pair (.int .i64) (.pair (.pair .str (.pair (.int .i64) (.pair .str (.int .i64)))) (.pair (.int .i64) (.pair (.int .i64) (.pair (.int .i64) (.pair (.int .i64) (.pair (.int .i64) (.sl (.pair (.pair (.int .i64) (.pair (.int .i64) (.int .i64))) (.pair (.int .i64) (.int .i64))))))))))
abbrev yHH : Ty := .pair (.int .i64) (.pair (.int .i64) (.pair (.int .i64) (.pair .bool (.pair (.sl (.pair (.pair (.pair (.int .i64) (.pair (.int .i64) (.int .i64))) (.pair (.int .i64) (.int .i64))) (.pair .str (.pair (.int .i64) (.pair .str (.int .i64)))))) (.pair (.sl (.pair (.int .i64) (.pair (.pair .str (.pair (.int .i64) (.pair .str (.int .i64)))) (.pair (.int .i64) (.pair (.int .i64) (.pair (.int .i64) (.pair (.int .i64) (.pair (.int .i64) (.sl (.pair (.pair (.int .i64) (.pair (.int .i64) (.int .i64))) (.pair (.int .i64) (.int .i64)))))))))))) (.sl (.pair (.int .i64) (.pair (.int .i64) (.pair (.int .i64) (.pair (.int .i64) (.pair (.int .i64) (.pair (.pair (.int .i64) (.pair (.int .i64) (.int .i64))) (.pair (.int .i64) (.int .i64))))))))))))))

def tab : Tab := [
  (3, ⟨.int, 1, 8, false, some (.int .i64), [.c (.int .i64 0)], [.i .i64], true⟩),
  (4, ⟨.bool, 1, 1, false, some .bool, [.c (.bool false)], [.b], true⟩),
  (5, ⟨.int, 1, 1, false, some (.int .u8), [.c (.int .u8 0)], [.i .u8], true⟩),
  (9, ⟨.str, 1, 16, false, some .str, [.c (.str ByteArray.empty)], [.s], true⟩),
  (22, ⟨(.slice 3), 1, 24, false, some (.sl (.int .i64)), [.s 3 (.int .i64)], [], true⟩),
  (24, ⟨(.struct [(0, 1, false), (1, 1, false), (2, 1, false), (3, 1, false)]), 4, 64, true, some (.pair (.int .i64) (.pair (.int .i64) (.pair (.sl (.int .i64)) (.sl (.int .i64))))), [.c (.int .i64 0), .c (.int .i64 0), .s 3 (.int .i64), .s 3 (.int .i64)], [], true⟩),
  (26, ⟨(.ptr 58), 1, 8, false, .none, [.c .nilp], [], false⟩),
  (29, ⟨(.slice 24), 1, 24, false, some (.sl (.pair (.int .i64) (.pair (.int .i64) (.pair (.sl (.int .i64)) (.sl (.int .i64)))))), [.s 24 (.pair (.int .i64) (.pair (.int .i64) (.pair (.sl (.int .i64)) (.sl (.int .i64)))))], [], true⟩),
  (36, ⟨(.slice 65), 1, 24, false, some (.sl (.pair (.int .i64) (.int .i64))), [.s 65 (.pair (.int .i64) (.int .i64))], [], true⟩),
  (38, ⟨(.struct [(0, 1, false)]), 1, 24, true, some (.sl (.pair (.int .i64) (.int .i64))), [.s 65 (.pair (.int .i64) (.int .i64))], [], true⟩),
  (39, ⟨.int, 1, 8, false, some (.int .i64), [.c (.int .i64 0)], [.i .i64], true⟩),
  (47, ⟨(.slice 69), 1, 24, false, some (.sl (.pair .str (.pair (.int .i64) (.pair (.int .i64) (.pair (.int .i64) (.sl (.int .i64))))))), [.s 69 (.pair .str (.pair (.int .i64) (.pair (.int .i64) (.pair (.int .i64) (.sl (.int .i64))))))], [], true⟩),
  (48, ⟨(.slice 86), 1, 24, false, some (.sl yPL), [.s 86 yPL], [], true⟩),
  (50, ⟨(.struct [(0, 1, false), (1, 1, false)]), 2, 48, true, some (.pair (.sl (.pair .str (.pair (.int .i64) (.pair (.int .i64) (.pair (.int .i64) (.sl (.int .i64))))))) (.sl yPL)), [.s 69 (.pair .str (.pair (.int .i64) (.pair (.int .i64) (.pair (.int .i64) (.sl (.int .i64)))))), .s 86 yPL], [], true⟩),
  (52, ⟨(.slice 22), 1, 24, false, some (.sl (.sl (.int .i64))), [.s 22 (.sl (.int .i64))], [], true⟩),
  (54, ⟨(.struct [(0, 1, false), (1, 1, false)]), 2, 48, true, some (.pair (.sl (.sl (.int .i64))) (.sl (.sl (.int .i64)))), [.s 22 (.sl (.int .i64)), .s 22 (.sl (.int .i64))], [], true⟩),
  (58, ⟨(.struct [(0, 1, false), (1, 1, false)]), 2, 32, true, some ySR, [.s 3 (.int .i64), .c (.int .i64 0)], [], true⟩),
  (60, ⟨(.map 3 4), 1, 8, false, .none, [], [], false⟩),
  (65, ⟨(.struct [(0, 1, false), (1, 1, false)]), 2, 16, true, some (.pair (.int .i64) (.int .i64)), [.c (.int .i64 0), .c (.int .i64 0)], [.i .i64, .i .i64], true⟩),
  (69, ⟨(.struct [(0, 1, false), (1, 1, false), (2, 1, false), (3, 1, false), (4, 1, false)]), 5, 64, true, some (.pair .str (.pair (.int .i64) (.pair (.int .i64) (.pair (.int .i64) (.sl (.int .i64)))))), [.c (.str ByteArray.empty), .c (.int .i64 0), .c (.int .i64 0), .c (.int .i64 0), .s 3 (.int .i64)], [], true⟩),
  (71, ⟨(.slice 5), 1, 24, false, some (.sl (.int .u8)), [.s 5 (.int .u8)], [], true⟩),
  (73, ⟨(.slice 52), 1, 24, false, some (.sl (.sl (.sl (.int .i64)))), [.s 52 (.sl (.sl (.int .i64)))], [], true⟩),
  (76, ⟨(.struct [(0, 1, false), (1, 1, false)]), 2, 16, true, some (.pair (.int .i64) (.int .i64)), [.c (.int .i64 0), .c (.int .i64 0)], [.i .i64, .i .i64], true⟩),
  (80, ⟨.other, 1, 8, false, .none, [], [], false⟩),
  (86, ⟨(.struct [(0, 1, false), (1, 1, false), (2, 1, false)]), 3, 24, true, some yPL, [.c (.int .i64 0), .c (.int .i64 0), .c (.int .i64 0)], [.i .i64, .i .i64, .i .i64], true⟩),
  (89, ⟨.int, 1, 8, false, some (.int .u64), [.c (.int .u64 0)], [.i .u64], true⟩),
  (91, ⟨.other, 1, 8, false, .none, [], [], false⟩),
  (93, ⟨.int, 1, 8, false, some (.int .i64), [.c (.int .i64 0)], [.i .i64], true⟩),
  (100, ⟨.int, 1, 4, false, some (.int .u32), [.c (.int .u32 0)], [.i .u32], true⟩),
  (102, ⟨.int, 1, 8, false, some (.int .u64), [.c (.int .u64 0)], [.i .u64], true⟩),
  (105, ⟨.int, 1, 8, false, some (.int .u64), [.c (.int .u64 0)], [.i .u64], true⟩),
  (109, ⟨(.ptr 3), 1, 8, false, .none, [.c .nilp], [], false⟩),
  (111, ⟨(.ptr 105), 1, 8, false, .none, [.c .nilp], [], false⟩)]

theorem tab_ok : TabOK Try.prog tab := tabB_ok (by kernel_rfl)
theorem tab_3 : TI.of tab 3 = ⟨.int, 1, 8, false, some (.int .i64), [.c (.int .i64 0)], [.i .i64], true⟩ := rfl
theorem tab_4 : TI.of tab 4 = ⟨.bool, 1, 1, false, some .bool, [.c (.bool false)], [.b], true⟩ := rfl
theorem tab_5 : TI.of tab 5 = ⟨.int, 1, 1, false, some (.int .u8), [.c (.int .u8 0)], [.i .u8], true⟩ := rfl
theorem tab_9 : TI.of tab 9 = ⟨.str, 1, 16, false, some .str, [.c (.str ByteArray.empty)], [.s], true⟩ := rfl
theorem tab_22 : TI.of tab 22 = ⟨(.slice 3), 1, 24, false, some (.sl (.int .i64)), [.s 3 (.int .i64)], [], true⟩ := rfl
theorem tab_24 : TI.of tab 24 = ⟨(.struct [(0, 1, false), (1, 1, false), (2, 1, false), (3, 1, false)]), 4, 64, true, some (.pair (.int .i64) (.pair (.int .i64) (.pair (.sl (.int .i64)) (.sl (.int .i64))))), [.c (.int .i64 0), .c (.int .i64 0), .s 3 (.int .i64), .s 3 (.int .i64)], [], true⟩ := rfl
theorem tab_26 : TI.of tab 26 = ⟨(.ptr 58), 1, 8, false, .none, [.c .nilp], [], false⟩ := rfl
theorem tab_29 : TI.of tab 29 = ⟨(.slice 24), 1, 24, false, some (.sl (.pair (.int .i64) (.pair (.int .i64) (.pair (.sl (.int .i64)) (.sl (.int .i64)))))), [.s 24 (.pair (.int .i64) (.pair (.int .i64) (.pair (.sl (.int .i64)) (.sl (.int .i64)))))], [], true⟩ := rfl
theorem tab_36 : TI.of tab 36 = ⟨(.slice 65), 1, 24, false, some (.sl (.pair (.int .i64) (.int .i64))), [.s 65 (.pair (.int .i64) (.int .i64))], [], true⟩ := rfl
theorem tab_38 : TI.of tab 38 = ⟨(.struct [(0, 1, false)]), 1, 24, true, some (.sl (.pair (.int .i64) (.int .i64))), [.s 65 (.pair (.int .i64) (.int .i64))], [], true⟩ := rfl
theorem tab_39 : TI.of tab 39 = ⟨.int, 1, 8, false, some (.int .i64), [.c (.int .i64 0)], [.i .i64], true⟩ := rfl
theorem tab_47 : TI.of tab 47 = ⟨(.slice 69), 1, 24, false, some (.sl (.pair .str (.pair (.int .i64) (.pair (.int .i64) (.pair (.int .i64) (.sl (.int .i64))))))), [.s 69 (.pair .str (.pair (.int .i64) (.pair (.int .i64) (.pair (.int .i64) (.sl (.int .i64))))))], [], true⟩ := rfl
theorem tab_48 : TI.of tab 48 = ⟨(.slice 86), 1, 24, false, some (.sl yPL), [.s 86 yPL], [], true⟩ := rfl
theorem tab_50 : TI.of tab 50 = ⟨(.struct [(0, 1, false), (1, 1, false)]), 2, 48, true, some (.pair (.sl (.pair .str (.pair (.int .i64) (.pair (.int .i64) (.pair (.int .i64) (.sl (.int .i64))))))) (.sl yPL)), [.s 69 (.pair .str (.pair (.int .i64) (.pair (.int .i64) (.pair (.int .i64) (.sl (.int .i64)))))), .s 86 yPL], [], true⟩ := rfl
theorem tab_52 : TI.of tab 52 = ⟨(.slice 22), 1, 24, false, some (.sl (.sl (.int .i64))), [.s 22 (.sl (.int .i64))], [], true⟩ := rfl
theorem tab_54 : TI.of tab 54 = ⟨(.struct [(0, 1, false), (1, 1, false)]), 2, 48, true, some (.pair (.sl (.sl (.int .i64))) (.sl (.sl (.int .i64)))), [.s 22 (.sl (.int .i64)), .s 22 (.sl (.int .i64))], [], true⟩ := rfl
theorem tab_58 : TI.of tab 58 = ⟨(.struct [(0, 1, false), (1, 1, false)]), 2, 32, true, some ySR, [.s 3 (.int .i64), .c (.int .i64 0)], [], true⟩ := rfl
theorem tab_60 : TI.of tab 60 = ⟨(.map 3 4), 1, 8, false, .none, [], [], false⟩ := rfl
theorem tab_65 : TI.of tab 65 = ⟨(.struct [(0, 1, false), (1, 1, false)]), 2, 16, true, some (.pair (.int .i64) (.int .i64)), [.c (.int .i64 0), .c (.int .i64 0)], [.i .i64, .i .i64], true⟩ := rfl
theorem tab_69 : TI.of tab 69 = ⟨(.struct [(0, 1, false), (1, 1, false), (2, 1, false), (3, 1, false), (4, 1, false)]), 5, 64, true, some (.pair .str (.pair (.int .i64) (.pair (.int .i64) (.pair (.int .i64) (.sl (.int .i64)))))), [.c (.str ByteArray.empty), .c (.int .i64 0), .c (.int .i64 0), .c (.int .i64 0), .s 3 (.int .i64)], [], true⟩ := rfl
theorem tab_71 : TI.of tab 71 = ⟨(.slice 5), 1, 24, false, some (.sl (.int .u8)), [.s 5 (.int .u8)], [], true⟩ := rfl
theorem tab_73 : TI.of tab 73 = ⟨(.slice 52), 1, 24, false, some (.sl (.sl (.sl (.int .i64)))), [.s 52 (.sl (.sl (.int .i64)))], [], true⟩ := rfl
theorem tab_76 : TI.of tab 76 = ⟨(.struct [(0, 1, false), (1, 1, false)]), 2, 16, true, some (.pair (.int .i64) (.int .i64)), [.c (.int .i64 0), .c (.int .i64 0)], [.i .i64, .i .i64], true⟩ := rfl
theorem tab_80 : TI.of tab 80 = ⟨.other, 1, 8, false, .none, [], [], false⟩ := rfl
theorem tab_86 : TI.of tab 86 = ⟨(.struct [(0, 1, false), (1, 1, false), (2, 1, false)]), 3, 24, true, some yPL, [.c (.int .i64 0), .c (.int .i64 0), .c (.int .i64 0)], [.i .i64, .i .i64, .i .i64], true⟩ := rfl
theorem tab_89 : TI.of tab 89 = ⟨.int, 1, 8, false, some (.int .u64), [.c (.int .u64 0)], [.i .u64], true⟩ := rfl
theorem tab_91 : TI.of tab 91 = ⟨.other, 1, 8, false, .none, [], [], false⟩ := rfl
theorem tab_93 : TI.of tab 93 = ⟨.int, 1, 8, false, some (.int .i64), [.c (.int .i64 0)], [.i .i64], true⟩ := rfl
theorem tab_100 : TI.of tab 100 = ⟨.int, 1, 4, false, some (.int .u32), [.c (.int .u32 0)], [.i .u32], true⟩ := rfl
theorem tab_102 : TI.of tab 102 = ⟨.int, 1, 8, false, some (.int .u64), [.c (.int .u64 0)], [.i .u64], true⟩ := rfl
theorem tab_105 : TI.of tab 105 = ⟨.int, 1, 8, false, some (.int .u64), [.c (.int .u64 0)], [.i .u64], true⟩ := rfl
theorem tab_109 : TI.of tab 109 = ⟨(.ptr 3), 1, 8, false, .none, [.c .nilp], [], false⟩ := rfl
theorem tab_111 : TI.of tab 111 = ⟨(.ptr 105), 1, 8, false, .none, [.c .nilp], [], false⟩ := rfl
attribute [go_sem] tab_3 tab_4 tab_5 tab_9 tab_22 tab_24 tab_26 tab_29 tab_36 tab_38 tab_39 tab_47 tab_48 tab_50 tab_52 tab_54 tab_58 tab_60 tab_65 tab_69 tab_71 tab_73 tab_76 tab_80 tab_86 tab_89 tab_91 tab_93 tab_100 tab_102 tab_105 tab_109 tab_111

end Go.Proofs.Ythbcniifeeoplaa
