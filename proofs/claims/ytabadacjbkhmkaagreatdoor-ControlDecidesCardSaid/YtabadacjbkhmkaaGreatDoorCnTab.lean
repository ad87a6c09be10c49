/- Part. -/
import Derived.Test.YtabadacjbkhmkaaGreatDoorEvTab
import Derived.Test.YtabadacjbkhmkaaGreatDoorRows
namespace Go.Proofs.YtabadacjbkhmkaaGreatDoor
open Go.Ev
abbrev yI : Ty := .int .i64
abbrev ySS : Ty := .sl (.sl (.int .i64))
abbrev yP1 : Ty := .pair (.int .i64) (.int .i64)
abbrev ySR : Ty := .pair (.sl (.int .i64)) (.int .i64)
abbrev yFW : Ty := .pair (.sl (.int .i64)) (.sl (.int .i64))
abbrev yPL : Ty := .pair (.int .i64) yP1
abbrev yP2 : Ty := .pair ySS ySS
abbrev yHY : Ty := .pair (.int .i64) yP2
abbrev yNO : Ty := .pair .str (.pair (.int .i64) (.pair (.int .i64) (.pair (.int .i64) (.sl (.int .i64)))))
abbrev yBE : Ty := .pair (.int .i64) (.sl yHY)
abbrev yLY : Ty := .pair (.sl yNO) (.sl yPL)
abbrev yLN : Ty := .pair yNO (.pair yPL (.sl .str))
def tab : Tab := [
  (3, ⟨.int, 1, 8, false, some (.int .i64), [.c (.int .i64 0)], [.i .i64], true⟩),
  (4, ⟨.bool, 1, 1, false, some .bool, [.c (.bool false)], [.b], true⟩),
  (5, ⟨.int, 1, 1, false, some (.int .u8), [.c (.int .u8 0)], [.i .u8], true⟩),
  (9, ⟨.str, 1, 16, false, some .str, [.c (.str ByteArray.empty)], [.s], true⟩),
  (22, ⟨(.slice 3), 1, 24, false, some (.sl (.int .i64)), [.s 3 (.int .i64)], [], true⟩),
  (23, ⟨(.slice 4), 1, 24, false, some (.sl .bool), [.s 4 .bool], [], true⟩),
  (25, ⟨(.ptr 75), 1, 8, false, .none, [.c .nilp], [], false⟩),
  (27, ⟨(.slice 56), 1, 24, false, some (.sl yNO), [.s 56 yNO], [], true⟩),
  (28, ⟨(.slice 111), 1, 24, false, some (.sl yPL), [.s 111 yPL], [], true⟩),
  (30, ⟨(.struct [(0, 1, false), (1, 1, false)]), 2, 48, true, some yLY, [.s 56 yNO, .s 111 yPL], [], true⟩),
  (32, ⟨(.slice 50), 1, 24, false, some (.sl yHY), [.s 50 yHY], [], true⟩),
  (34, ⟨(.struct [(0, 1, false), (1, 1, false)]), 2, 32, true, some yBE, [.c (.int .i64 0), .s 50 yHY], [], true⟩),
  (35, ⟨(.slice 22), 1, 24, false, some ySS, [.s 22 (.sl (.int .i64))], [], true⟩),
  (37, ⟨(.struct [(0, 1, false), (1, 1, false)]), 2, 48, true, some yP2, [.s 22 (.sl (.int .i64)), .s 22 (.sl (.int .i64))], [], true⟩),
  (45, ⟨(.slice 54), 1, 24, false, some (.sl yPL), [.s 54 yPL], [], true⟩),
  (46, ⟨.int, 1, 8, false, some (.int .i64), [.c (.int .i64 0)], [.i .i64], true⟩),
  (50, ⟨(.struct [(0, 1, false), (1, 2, true)]), 3, 56, true, some yHY, [.c (.int .i64 0), .s 22 (.sl (.int .i64)), .s 22 (.sl (.int .i64))], [], true⟩),
  (51, ⟨(.slice 99), 1, 24, false, some (.sl yPL), [.s 99 yPL], [], true⟩),
  (54, ⟨(.struct [(0, 1, false), (1, 1, false), (2, 1, false)]), 3, 24, true, some yPL, [.c (.int .i64 0), .c (.int .i64 0), .c (.int .i64 0)], [.i .i64, .i .i64, .i .i64], true⟩),
  (56, ⟨(.struct [(0, 1, false), (1, 1, false), (2, 1, false), (3, 1, false), (4, 1, false)]), 5, 64, true, some yNO, [.c (.str ByteArray.empty), .c (.int .i64 0), .c (.int .i64 0), .c (.int .i64 0), .s 3 (.int .i64)], [], true⟩),
  (64, ⟨.other, 1, 8, false, .none, [.c .nilfn], [], false⟩),
  (68, ⟨(.struct [(0, 1, false), (1, 1, false)]), 2, 16, true, some yP1, [.c (.int .i64 0), .c (.int .i64 0)], [.i .i64, .i .i64], true⟩),
  (75, ⟨(.struct [(0, 1, false), (1, 1, false)]), 2, 32, true, some ySR, [.s 3 (.int .i64), .c (.int .i64 0)], [], true⟩),
  (76, ⟨.other, 1, 8, false, .none, [.c .nilfn], [], false⟩),
  (79, ⟨(.slice 5), 1, 24, false, some (.sl (.int .u8)), [.s 5 (.int .u8)], [], true⟩),
  (90, ⟨(.struct [(0, 1, false), (1, 1, false)]), 2, 48, true, some yFW, [.s 3 (.int .i64), .s 3 (.int .i64)], [], true⟩),
  (99, ⟨(.struct [(0, 1, false), (1, 1, false), (2, 1, false)]), 3, 24, true, some yPL, [.c (.int .i64 0), .c (.int .i64 0), .c (.int .i64 0)], [.i .i64, .i .i64, .i .i64], true⟩),
  (106, ⟨(.slice 68), 1, 24, false, some (.sl yP1), [.s 68 yP1], [], true⟩),
  (108, ⟨(.slice 9), 1, 24, false, some (.sl .str), [.s 9 .str], [], true⟩),
  (110, ⟨(.slice 113), 1, 24, false, some (.sl yLN), [.s 113 yLN], [], true⟩),
  (111, ⟨(.struct [(0, 1, false), (1, 1, false), (2, 1, false)]), 3, 24, true, some yPL, [.c (.int .i64 0), .c (.int .i64 0), .c (.int .i64 0)], [.i .i64, .i .i64, .i .i64], true⟩),
  (113, ⟨(.struct [(0, 5, true), (5, 3, true), (8, 1, false)]), 9, 112, true, some yLN, [.c (.str ByteArray.empty), .c (.int .i64 0), .c (.int .i64 0), .c (.int .i64 0), .s 3 (.int .i64), .c (.int .i64 0), .c (.int .i64 0), .c (.int .i64 0), .s 9 .str], [], true⟩),
  (123, ⟨.other, 1, 8, false, .none, [.c .nilfn], [], false⟩),
  (135, ⟨(.slice 182), 1, 24, false, some (.sl yPL), [.s 182 yPL], [], true⟩),
  (136, ⟨(.slice 153), 1, 24, false, some (.sl (.pair (.int .i64) (.pair .bool .str))), [.s 153 (.pair (.int .i64) (.pair .bool .str))], [], true⟩),
  (137, ⟨(.slice 51), 1, 24, false, some (.sl (.sl yPL)), [.s 51 (.sl yPL)], [], true⟩),
  (144, ⟨(.map 3 3), 1, 8, false, .none, [.c .undef], [], false⟩),
  (153, ⟨(.struct [(0, 1, false), (1, 1, false), (2, 1, false)]), 3, 32, true, some (.pair (.int .i64) (.pair .bool .str)), [.c (.int .i64 0), .c (.bool false), .c (.str ByteArray.empty)], [.i .i64, .b, .s], true⟩),
  (155, ⟨.other, 1, 8, false, .none, [.c .nilfn], [], false⟩),
  (160, ⟨.int, 1, 8, false, some (.int .u64), [.c (.int .u64 0)], [.i .u64], true⟩),
  (168, ⟨.int, 1, 8, false, some (.int .i64), [.c (.int .i64 0)], [.i .i64], true⟩),
  (176, ⟨.int, 1, 4, false, some (.int .u32), [.c (.int .u32 0)], [.i .u32], true⟩),
  (178, ⟨.int, 1, 8, false, some (.int .u64), [.c (.int .u64 0)], [.i .u64], true⟩),
  (182, ⟨(.struct [(0, 1, false), (1, 1, false), (2, 1, false)]), 3, 24, true, some yPL, [.c (.int .i64 0), .c (.int .i64 0), .c (.int .i64 0)], [.i .i64, .i .i64, .i .i64], true⟩),
  (183, ⟨.int, 1, 8, false, some (.int .u64), [.c (.int .u64 0)], [.i .u64], true⟩),
  (187, ⟨(.ptr 3), 1, 8, false, .none, [.c .nilp], [], false⟩),
  (192, ⟨(.ptr 183), 1, 8, false, .none, [.c .nilp], [], false⟩)]
theorem eA0 : TabOK Tryz.prog tab := kC9 (by kernel_rfl)
theorem kD5 : TI.of tab 3 = ⟨.int, 1, 8, false, some (.int .i64), [.c (.int .i64 0)], [.i .i64], true⟩ := rfl
theorem mD5 : TI.of tab 4 = ⟨.bool, 1, 1, false, some .bool, [.c (.bool false)], [.b], true⟩ := rfl
theorem jD5 : TI.of tab 5 = ⟨.int, 1, 1, false, some (.int .u8), [.c (.int .u8 0)], [.i .u8], true⟩ := rfl
theorem tD4 : TI.of tab 9 = ⟨.str, 1, 16, false, some .str, [.c (.str ByteArray.empty)], [.s], true⟩ := rfl
theorem dD4 : TI.of tab 22 = ⟨(.slice 3), 1, 24, false, some (.sl (.int .i64)), [.s 3 (.int .i64)], [], true⟩ := rfl
theorem yD3 : TI.of tab 23 = ⟨(.slice 4), 1, 24, false, some (.sl .bool), [.s 4 .bool], [], true⟩ := rfl
theorem bD2 : TI.of tab 27 = ⟨(.slice 56), 1, 24, false, some (.sl yNO), [.s 56 yNO], [], true⟩ := rfl
theorem sD3 : TI.of tab 28 = ⟨(.slice 111), 1, 24, false, some (.sl yPL), [.s 111 yPL], [], true⟩ := rfl
theorem fD3 : TI.of tab 30 = ⟨(.struct [(0, 1, false), (1, 1, false)]), 2, 48, true, some yLY, [.s 56 yNO, .s 111 yPL], [], true⟩ := rfl
theorem lD4 : TI.of tab 32 = ⟨(.slice 50), 1, 24, false, some (.sl yHY), [.s 50 yHY], [], true⟩ := rfl
theorem nD4 : TI.of tab 34 = ⟨(.struct [(0, 1, false), (1, 1, false)]), 2, 32, true, some yBE, [.c (.int .i64 0), .s 50 yHY], [], true⟩ := rfl
theorem iD2 : TI.of tab 35 = ⟨(.slice 22), 1, 24, false, some ySS, [.s 22 (.sl (.int .i64))], [], true⟩ := rfl
theorem xD1 : TI.of tab 37 = ⟨(.struct [(0, 1, false), (1, 1, false)]), 2, 48, true, some yP2, [.s 22 (.sl (.int .i64)), .s 22 (.sl (.int .i64))], [], true⟩ := rfl
theorem aD4 : TI.of tab 45 = ⟨(.slice 54), 1, 24, false, some (.sl yPL), [.s 54 yPL], [], true⟩ := rfl
theorem oD4 : TI.of tab 46 = ⟨.int, 1, 8, false, some (.int .i64), [.c (.int .i64 0)], [.i .i64], true⟩ := rfl
theorem eD4 : TI.of tab 50 = ⟨(.struct [(0, 1, false), (1, 2, true)]), 3, 56, true, some yHY, [.c (.int .i64 0), .s 22 (.sl (.int .i64)), .s 22 (.sl (.int .i64))], [], true⟩ := rfl
theorem kD3 : TI.of tab 51 = ⟨(.slice 99), 1, 24, false, some (.sl yPL), [.s 99 yPL], [], true⟩ := rfl
theorem wD1 : TI.of tab 54 = ⟨(.struct [(0, 1, false), (1, 1, false), (2, 1, false)]), 3, 24, true, some yPL, [.c (.int .i64 0), .c (.int .i64 0), .c (.int .i64 0)], [.i .i64, .i .i64, .i .i64], true⟩ := rfl
theorem bD3 : TI.of tab 56 = ⟨(.struct [(0, 1, false), (1, 1, false), (2, 1, false), (3, 1, false), (4, 1, false)]), 5, 64, true, some yNO, [.c (.str ByteArray.empty), .c (.int .i64 0), .c (.int .i64 0), .c (.int .i64 0), .s 3 (.int .i64)], [], true⟩ := rfl
theorem hD3 : TI.of tab 68 = ⟨(.struct [(0, 1, false), (1, 1, false)]), 2, 16, true, some yP1, [.c (.int .i64 0), .c (.int .i64 0)], [.i .i64, .i .i64], true⟩ := rfl
theorem eD2 : TI.of tab 75 = ⟨(.struct [(0, 1, false), (1, 1, false)]), 2, 32, true, some ySR, [.s 3 (.int .i64), .c (.int .i64 0)], [], true⟩ := rfl
theorem jD3 : TI.of tab 76 = ⟨.other, 1, 8, false, .none, [.c .nilfn], [], false⟩ := rfl
theorem yD1 : TI.of tab 79 = ⟨(.slice 5), 1, 24, false, some (.sl (.int .u8)), [.s 5 (.int .u8)], [], true⟩ := rfl
theorem yD2 : TI.of tab 90 = ⟨(.struct [(0, 1, false), (1, 1, false)]), 2, 48, true, some yFW, [.s 3 (.int .i64), .s 3 (.int .i64)], [], true⟩ := rfl
theorem tD2 : TI.of tab 99 = ⟨(.struct [(0, 1, false), (1, 1, false), (2, 1, false)]), 3, 24, true, some yPL, [.c (.int .i64 0), .c (.int .i64 0), .c (.int .i64 0)], [.i .i64, .i .i64, .i .i64], true⟩ := rfl
theorem yD0 : TI.of tab 108 = ⟨(.slice 9), 1, 24, false, some (.sl .str), [.s 9 .str], [], true⟩ := rfl
theorem hD1 : TI.of tab 110 = ⟨(.slice 113), 1, 24, false, some (.sl yLN), [.s 113 yLN], [], true⟩ := rfl
theorem sC9 : TI.of tab 111 = ⟨(.struct [(0, 1, false), (1, 1, false), (2, 1, false)]), 3, 24, true, some yPL, [.c (.int .i64 0), .c (.int .i64 0), .c (.int .i64 0)], [.i .i64, .i .i64, .i .i64], true⟩ := rfl
theorem qD0 : TI.of tab 113 = ⟨(.struct [(0, 5, true), (5, 3, true), (8, 1, false)]), 9, 112, true, some yLN, [.c (.str ByteArray.empty), .c (.int .i64 0), .c (.int .i64 0), .c (.int .i64 0), .s 3 (.int .i64), .c (.int .i64 0), .c (.int .i64 0), .c (.int .i64 0), .s 9 .str], [], true⟩ := rfl
theorem zC8 : TI.of tab 136 = ⟨(.slice 153), 1, 24, false, some (.sl (.pair (.int .i64) (.pair .bool .str))), [.s 153 (.pair (.int .i64) (.pair .bool .str))], [], true⟩ := rfl
theorem xC9 : TI.of tab 137 = ⟨(.slice 51), 1, 24, false, some (.sl (.sl yPL)), [.s 51 (.sl yPL)], [], true⟩ := rfl
theorem iD1 : TI.of tab 144 = ⟨(.map 3 3), 1, 8, false, .none, [.c .undef], [], false⟩ := rfl
attribute [go_sem] kD5 mD5 jD5 tD4 dD4 yD3 bD2 sD3 fD3 lD4 nD4 iD2 xD1 aD4 oD4 eD4 kD3 wD1 bD3 hD3 eD2 jD3 yD1 yD2 tD2 yD0 hD1 sC9 qD0 zC8 xC9 iD1
end Go.Proofs.YtabadacjbkhmkaaGreatDoor
