/- What each type of the seat is, to the abstract interpreter. -/
import Derived.Test.YtpmeklllgnnffaaGreatDoorA8
import Derived.Test.YtpmeklllgnnffaaGreatDoorProg
import Derived.Test.YtpmeklllgnnffaaGreatDoorA10
import Derived.Lib.Replace
import Derived.Lib.Join
import Derived.Lib.Case
import Derived.Lib.ItoaLen
set_option linter.unusedSimpArgs false
set_option linter.unusedVariables false

namespace Go.Abs
open Go Go.Proofs

theorem Tryz.ti0 : ti Tryz.prog 0 = some { d := D.other, size := 1, bytes := 0, zero := V.undef, eqOk := true } := by kernel_rfl
theorem Tryz.ti1 : ti Tryz.prog 1 = some { d := D.func, size := 1, bytes := 8, zero := V.nilfunc, eqOk := true } := by kernel_rfl
theorem Tryz.ti2 : ti Tryz.prog 2 = some { d := D.int IntKind.i64, size := 1, bytes := 8, zero := V.int IntKind.i64 (0 : Int), eqOk := true } := by kernel_rfl
theorem Tryz.ti3 : ti Tryz.prog 3 = some { d := D.int IntKind.i64, size := 1, bytes := 8, zero := V.int IntKind.i64 (0 : Int), eqOk := true } := by kernel_rfl
theorem Tryz.ti4 : ti Tryz.prog 4 = some { d := D.bool, size := 1, bytes := 1, zero := V.bool false, eqOk := true } := by kernel_rfl
theorem Tryz.ti5 : ti Tryz.prog 5 = some { d := D.int IntKind.u8, size := 1, bytes := 1, zero := V.int IntKind.u8 (0 : Int), eqOk := true } := by kernel_rfl
theorem Tryz.ti6 : ti Tryz.prog 6 = some { d := D.int IntKind.u8, size := 1, bytes := 1, zero := V.int IntKind.u8 (0 : Int), eqOk := true } := by kernel_rfl
theorem Tryz.ti7 : ti Tryz.prog 7 = some { d := D.struct [(0, 2), (1, 3), (2, 4), (3, 6)], size := 4, bytes := 24, zero := V.agg [V.int IntKind.i64 (0 : Int), V.int IntKind.i64 (0 : Int), V.bool false, V.int IntKind.u8 (0 : Int)], eqOk := true } := by kernel_rfl
theorem Tryz.ti8 : ti Tryz.prog 8 = some { d := D.struct [(0, 2), (1, 3), (2, 4), (3, 6)], size := 4, bytes := 24, zero := V.agg [V.int IntKind.i64 (0 : Int), V.int IntKind.i64 (0 : Int), V.bool false, V.int IntKind.u8 (0 : Int)], eqOk := true } := by kernel_rfl
theorem Tryz.ti9 : ti Tryz.prog 9 = some { d := D.string, size := 1, bytes := 16, zero := V.str [], eqOk := true } := by kernel_rfl
theorem Tryz.ti10 : ti Tryz.prog 10 = some { d := D.string, size := 1, bytes := 16, zero := V.str [], eqOk := true } := by kernel_rfl
theorem Tryz.ti11 : ti Tryz.prog 11 = some { d := D.string, size := 1, bytes := 16, zero := V.str [], eqOk := true } := by kernel_rfl
theorem Tryz.ti12 : ti Tryz.prog 12 = some { d := D.int IntKind.u64, size := 1, bytes := 8, zero := V.int IntKind.u64 (0 : Int), eqOk := true } := by kernel_rfl
theorem Tryz.ti13 : ti Tryz.prog 13 = some { d := D.struct [(0, 9), (1, 12)], size := 2, bytes := 24, zero := V.agg [V.str [], V.int IntKind.u64 (0 : Int)], eqOk := false } := by kernel_rfl
theorem Tryz.ti14 : ti Tryz.prog 14 = some { d := D.struct [(0, 9), (1, 12)], size := 2, bytes := 24, zero := V.agg [V.str [], V.int IntKind.u64 (0 : Int)], eqOk := false } := by kernel_rfl
theorem Tryz.ti15 : ti Tryz.prog 15 = some { d := D.pointer 259, size := 1, bytes := 8, zero := V.nil, eqOk := true } := by kernel_rfl
theorem Tryz.ti16 : ti Tryz.prog 16 = some { d := D.pointer 262, size := 1, bytes := 8, zero := V.nil, eqOk := true } := by kernel_rfl
theorem Tryz.ti17 : ti Tryz.prog 17 = some { d := D.pointer 269, size := 1, bytes := 8, zero := V.nil, eqOk := true } := by kernel_rfl
theorem Tryz.ti18 : ti Tryz.prog 18 = some { d := D.struct [(0, 17)], size := 1, bytes := 8, zero := V.agg [V.nil], eqOk := false } := by kernel_rfl
theorem Tryz.ti19 : ti Tryz.prog 19 = some { d := D.struct [(0, 17)], size := 1, bytes := 8, zero := V.agg [V.nil], eqOk := false } := by kernel_rfl
theorem Tryz.ti20 : ti Tryz.prog 20 = some { d := D.iface, size := 1, bytes := 16, zero := V.niliface, eqOk := true } := by kernel_rfl
theorem Tryz.ti21 : ti Tryz.prog 21 = some { d := D.int IntKind.i32, size := 1, bytes := 4, zero := V.int IntKind.i32 (0 : Int), eqOk := true } := by kernel_rfl
theorem Tryz.ti22 : ti Tryz.prog 22 = some { d := D.slice 94, size := 1, bytes := 24, zero := V.slice Own.full [], eqOk := true } := by kernel_rfl
theorem Tryz.ti23 : ti Tryz.prog 23 = some { d := D.slice 46, size := 1, bytes := 24, zero := V.slice Own.full [], eqOk := true } := by kernel_rfl
theorem Tryz.ti24 : ti Tryz.prog 24 = some { d := D.slice 80, size := 1, bytes := 24, zero := V.slice Own.full [], eqOk := true } := by kernel_rfl
theorem Tryz.ti25 : ti Tryz.prog 25 = some { d := D.slice 84, size := 1, bytes := 24, zero := V.slice Own.full [], eqOk := true } := by kernel_rfl
theorem Tryz.ti26 : ti Tryz.prog 26 = some { d := D.slice 28, size := 1, bytes := 24, zero := V.slice Own.full [], eqOk := true } := by kernel_rfl
theorem Tryz.ti27 : ti Tryz.prog 27 = some { d := D.struct [(0, 3), (1, 9), (2, 9), (3, 9), (4, 22), (5, 23), (6, 23), (7, 23), (8, 24), (9, 25), (10, 3), (11, 3), (12, 4), (13, 4), (14, 26)], size := 15, bytes := 248, zero := V.agg [V.int IntKind.i64 (0 : Int), V.str [], V.str [], V.str [], V.slice Own.full [], V.slice Own.full [], V.slice Own.full [], V.slice Own.full [], V.slice Own.full [], V.slice Own.full [], V.int IntKind.i64 (0 : Int), V.int IntKind.i64 (0 : Int), V.bool false, V.bool false, V.slice Own.full []], eqOk := true } := by kernel_rfl
theorem Tryz.ti28 : ti Tryz.prog 28 = some { d := D.struct [(0, 3), (1, 9), (2, 9), (3, 9), (4, 22), (5, 23), (6, 23), (7, 23), (8, 24), (9, 25), (10, 3), (11, 3), (12, 4), (13, 4), (14, 26)], size := 15, bytes := 248, zero := V.agg [V.int IntKind.i64 (0 : Int), V.str [], V.str [], V.str [], V.slice Own.full [], V.slice Own.full [], V.slice Own.full [], V.slice Own.full [], V.slice Own.full [], V.slice Own.full [], V.int IntKind.i64 (0 : Int), V.int IntKind.i64 (0 : Int), V.bool false, V.bool false, V.slice Own.full []], eqOk := true } := by kernel_rfl
theorem Tryz.ti29 : ti Tryz.prog 29 = some { d := D.func, size := 1, bytes := 8, zero := V.nilfunc, eqOk := true } := by kernel_rfl
theorem Tryz.ti30 : ti Tryz.prog 30 = some { d := D.func, size := 1, bytes := 8, zero := V.nilfunc, eqOk := true } := by kernel_rfl
theorem Tryz.ti31 : ti Tryz.prog 31 = some { d := D.slice 50, size := 1, bytes := 24, zero := V.slice Own.full [], eqOk := true } := by kernel_rfl
theorem Tryz.ti32 : ti Tryz.prog 32 = some { d := D.slice 82, size := 1, bytes := 24, zero := V.slice Own.full [], eqOk := true } := by kernel_rfl
theorem Tryz.ti33 : ti Tryz.prog 33 = some { d := D.slice 85, size := 1, bytes := 24, zero := V.slice Own.full [], eqOk := true } := by kernel_rfl
theorem Tryz.ti34 : ti Tryz.prog 34 = some { d := D.slice 36, size := 1, bytes := 24, zero := V.slice Own.full [], eqOk := true } := by kernel_rfl
theorem Tryz.ti35 : ti Tryz.prog 35 = some { d := D.struct [(0, 3), (1, 9), (2, 9), (3, 9), (4, 22), (5, 31), (6, 31), (7, 31), (8, 32), (9, 33), (10, 3), (11, 3), (12, 4), (13, 4), (14, 34)], size := 15, bytes := 248, zero := V.agg [V.int IntKind.i64 (0 : Int), V.str [], V.str [], V.str [], V.slice Own.full [], V.slice Own.full [], V.slice Own.full [], V.slice Own.full [], V.slice Own.full [], V.slice Own.full [], V.int IntKind.i64 (0 : Int), V.int IntKind.i64 (0 : Int), V.bool false, V.bool false, V.slice Own.full []], eqOk := true } := by kernel_rfl
theorem Tryz.ti36 : ti Tryz.prog 36 = some { d := D.struct [(0, 3), (1, 9), (2, 9), (3, 9), (4, 22), (5, 31), (6, 31), (7, 31), (8, 32), (9, 33), (10, 3), (11, 3), (12, 4), (13, 4), (14, 34)], size := 15, bytes := 248, zero := V.agg [V.int IntKind.i64 (0 : Int), V.str [], V.str [], V.str [], V.slice Own.full [], V.slice Own.full [], V.slice Own.full [], V.slice Own.full [], V.slice Own.full [], V.slice Own.full [], V.int IntKind.i64 (0 : Int), V.int IntKind.i64 (0 : Int), V.bool false, V.bool false, V.slice Own.full []], eqOk := true } := by kernel_rfl
theorem Tryz.ti37 : ti Tryz.prog 37 = some { d := D.func, size := 1, bytes := 8, zero := V.nilfunc, eqOk := true } := by kernel_rfl
theorem Tryz.ti38 : ti Tryz.prog 38 = some { d := D.func, size := 1, bytes := 8, zero := V.nilfunc, eqOk := true } := by kernel_rfl
theorem Tryz.ti39 : ti Tryz.prog 39 = some { d := D.func, size := 1, bytes := 8, zero := V.nilfunc, eqOk := true } := by kernel_rfl
theorem Tryz.ti40 : ti Tryz.prog 40 = some { d := D.func, size := 1, bytes := 8, zero := V.nilfunc, eqOk := true } := by kernel_rfl
theorem Tryz.ti41 : ti Tryz.prog 41 = some { d := D.func, size := 1, bytes := 8, zero := V.nilfunc, eqOk := true } := by kernel_rfl
theorem Tryz.ti42 : ti Tryz.prog 42 = some { d := D.func, size := 1, bytes := 8, zero := V.nilfunc, eqOk := true } := by kernel_rfl
theorem Tryz.ti43 : ti Tryz.prog 43 = some { d := D.struct [(0, 3), (1, 3), (2, 9)], size := 3, bytes := 32, zero := V.agg [V.int IntKind.i64 (0 : Int), V.int IntKind.i64 (0 : Int), V.str []], eqOk := true } := by kernel_rfl
theorem Tryz.ti44 : ti Tryz.prog 44 = some { d := D.struct [(0, 3), (1, 3), (2, 9)], size := 3, bytes := 32, zero := V.agg [V.int IntKind.i64 (0 : Int), V.int IntKind.i64 (0 : Int), V.str []], eqOk := true } := by kernel_rfl
theorem Tryz.ti45 : ti Tryz.prog 45 = some { d := D.struct [(0, 9), (1, 44), (4, 9), (5, 9), (6, 23)], size := 7, bytes := 104, zero := V.agg [V.str [], V.int IntKind.i64 (0 : Int), V.int IntKind.i64 (0 : Int), V.str [], V.str [], V.str [], V.slice Own.full []], eqOk := true } := by kernel_rfl
theorem Tryz.ti46 : ti Tryz.prog 46 = some { d := D.struct [(0, 9), (1, 44), (4, 9), (5, 9), (6, 23)], size := 7, bytes := 104, zero := V.agg [V.str [], V.int IntKind.i64 (0 : Int), V.int IntKind.i64 (0 : Int), V.str [], V.str [], V.str [], V.slice Own.full []], eqOk := true } := by kernel_rfl
theorem Tryz.ti47 : ti Tryz.prog 47 = some { d := D.func, size := 1, bytes := 8, zero := V.nilfunc, eqOk := true } := by kernel_rfl
theorem Tryz.ti48 : ti Tryz.prog 48 = some { d := D.func, size := 1, bytes := 8, zero := V.nilfunc, eqOk := true } := by kernel_rfl
theorem Tryz.ti49 : ti Tryz.prog 49 = some { d := D.struct [(0, 9), (1, 44), (4, 9), (5, 9), (6, 31)], size := 7, bytes := 104, zero := V.agg [V.str [], V.int IntKind.i64 (0 : Int), V.int IntKind.i64 (0 : Int), V.str [], V.str [], V.str [], V.slice Own.full []], eqOk := true } := by kernel_rfl
theorem Tryz.ti50 : ti Tryz.prog 50 = some { d := D.struct [(0, 9), (1, 44), (4, 9), (5, 9), (6, 31)], size := 7, bytes := 104, zero := V.agg [V.str [], V.int IntKind.i64 (0 : Int), V.int IntKind.i64 (0 : Int), V.str [], V.str [], V.str [], V.slice Own.full []], eqOk := true } := by kernel_rfl
theorem Tryz.ti51 : ti Tryz.prog 51 = some { d := D.func, size := 1, bytes := 8, zero := V.nilfunc, eqOk := true } := by kernel_rfl
theorem Tryz.ti52 : ti Tryz.prog 52 = some { d := D.func, size := 1, bytes := 8, zero := V.nilfunc, eqOk := true } := by kernel_rfl
theorem Tryz.ti53 : ti Tryz.prog 53 = some { d := D.func, size := 1, bytes := 8, zero := V.nilfunc, eqOk := true } := by kernel_rfl
theorem Tryz.ti54 : ti Tryz.prog 54 = some { d := D.func, size := 1, bytes := 8, zero := V.nilfunc, eqOk := true } := by kernel_rfl
theorem Tryz.ti55 : ti Tryz.prog 55 = some { d := D.func, size := 1, bytes := 8, zero := V.nilfunc, eqOk := true } := by kernel_rfl
theorem Tryz.ti56 : ti Tryz.prog 56 = some { d := D.int IntKind.i64, size := 1, bytes := 8, zero := V.int IntKind.i64 (0 : Int), eqOk := true } := by kernel_rfl
theorem Tryz.ti57 : ti Tryz.prog 57 = some { d := D.struct [(0, 56), (1, 3)], size := 2, bytes := 16, zero := V.agg [V.int IntKind.i64 (0 : Int), V.int IntKind.i64 (0 : Int)], eqOk := true } := by kernel_rfl
theorem Tryz.ti58 : ti Tryz.prog 58 = some { d := D.struct [(0, 56), (1, 3)], size := 2, bytes := 16, zero := V.agg [V.int IntKind.i64 (0 : Int), V.int IntKind.i64 (0 : Int)], eqOk := true } := by kernel_rfl
theorem Tryz.ti59 : ti Tryz.prog 59 = some { d := D.other, size := 1, bytes := 0, zero := V.undef, eqOk := true } := by kernel_rfl
theorem Tryz.ti60 : ti Tryz.prog 60 = some { d := D.func, size := 1, bytes := 8, zero := V.nilfunc, eqOk := true } := by kernel_rfl
theorem Tryz.ti61 : ti Tryz.prog 61 = some { d := D.other, size := 1, bytes := 0, zero := V.undef, eqOk := true } := by kernel_rfl
theorem Tryz.ti62 : ti Tryz.prog 62 = some { d := D.func, size := 1, bytes := 8, zero := V.nilfunc, eqOk := true } := by kernel_rfl
theorem Tryz.ti63 : ti Tryz.prog 63 = some { d := D.func, size := 1, bytes := 8, zero := V.nilfunc, eqOk := true } := by kernel_rfl
theorem Tryz.ti64 : ti Tryz.prog 64 = some { d := D.slice 125, size := 1, bytes := 24, zero := V.slice Own.full [], eqOk := true } := by kernel_rfl
theorem Tryz.ti65 : ti Tryz.prog 65 = some { d := D.other, size := 1, bytes := 0, zero := V.undef, eqOk := true } := by kernel_rfl
theorem Tryz.ti66 : ti Tryz.prog 66 = some { d := D.func, size := 1, bytes := 8, zero := V.nilfunc, eqOk := true } := by kernel_rfl
theorem Tryz.ti67 : ti Tryz.prog 67 = some { d := D.func, size := 1, bytes := 8, zero := V.nilfunc, eqOk := true } := by kernel_rfl
theorem Tryz.ti68 : ti Tryz.prog 68 = some { d := D.other, size := 1, bytes := 0, zero := V.undef, eqOk := true } := by kernel_rfl
theorem Tryz.ti69 : ti Tryz.prog 69 = some { d := D.func, size := 1, bytes := 8, zero := V.nilfunc, eqOk := true } := by kernel_rfl
theorem Tryz.ti70 : ti Tryz.prog 70 = some { d := D.other, size := 1, bytes := 0, zero := V.undef, eqOk := true } := by kernel_rfl
theorem Tryz.ti71 : ti Tryz.prog 71 = some { d := D.func, size := 1, bytes := 8, zero := V.nilfunc, eqOk := true } := by kernel_rfl
theorem Tryz.ti72 : ti Tryz.prog 72 = some { d := D.func, size := 1, bytes := 8, zero := V.nilfunc, eqOk := true } := by kernel_rfl
theorem Tryz.ti73 : ti Tryz.prog 73 = some { d := D.func, size := 1, bytes := 8, zero := V.nilfunc, eqOk := true } := by kernel_rfl
theorem Tryz.ti74 : ti Tryz.prog 74 = some { d := D.func, size := 1, bytes := 8, zero := V.nilfunc, eqOk := true } := by kernel_rfl
theorem Tryz.ti75 : ti Tryz.prog 75 = some { d := D.func, size := 1, bytes := 8, zero := V.nilfunc, eqOk := true } := by kernel_rfl
theorem Tryz.ti76 : ti Tryz.prog 76 = some { d := D.func, size := 1, bytes := 8, zero := V.nilfunc, eqOk := true } := by kernel_rfl
theorem Tryz.ti77 : ti Tryz.prog 77 = some { d := D.func, size := 1, bytes := 8, zero := V.nilfunc, eqOk := true } := by kernel_rfl
theorem Tryz.ti78 : ti Tryz.prog 78 = some { d := D.func, size := 1, bytes := 8, zero := V.nilfunc, eqOk := true } := by kernel_rfl
theorem Tryz.ti79 : ti Tryz.prog 79 = some { d := D.struct [(0, 9), (1, 46)], size := 8, bytes := 120, zero := V.agg [V.str [], V.str [], V.int IntKind.i64 (0 : Int), V.int IntKind.i64 (0 : Int), V.str [], V.str [], V.str [], V.slice Own.full []], eqOk := true } := by kernel_rfl
theorem Tryz.ti80 : ti Tryz.prog 80 = some { d := D.struct [(0, 9), (1, 46)], size := 8, bytes := 120, zero := V.agg [V.str [], V.str [], V.int IntKind.i64 (0 : Int), V.int IntKind.i64 (0 : Int), V.str [], V.str [], V.str [], V.slice Own.full []], eqOk := true } := by kernel_rfl
theorem Tryz.ti81 : ti Tryz.prog 81 = some { d := D.struct [(0, 9), (1, 50)], size := 8, bytes := 120, zero := V.agg [V.str [], V.str [], V.int IntKind.i64 (0 : Int), V.int IntKind.i64 (0 : Int), V.str [], V.str [], V.str [], V.slice Own.full []], eqOk := true } := by kernel_rfl
theorem Tryz.ti82 : ti Tryz.prog 82 = some { d := D.struct [(0, 9), (1, 50)], size := 8, bytes := 120, zero := V.agg [V.str [], V.str [], V.int IntKind.i64 (0 : Int), V.int IntKind.i64 (0 : Int), V.str [], V.str [], V.str [], V.slice Own.full []], eqOk := true } := by kernel_rfl
theorem Tryz.ti83 : ti Tryz.prog 83 = some { d := D.struct [(0, 3), (1, 9), (2, 9)], size := 3, bytes := 40, zero := V.agg [V.int IntKind.i64 (0 : Int), V.str [], V.str []], eqOk := true } := by kernel_rfl
theorem Tryz.ti84 : ti Tryz.prog 84 = some { d := D.struct [(0, 3), (1, 9), (2, 9)], size := 3, bytes := 40, zero := V.agg [V.int IntKind.i64 (0 : Int), V.str [], V.str []], eqOk := true } := by kernel_rfl
theorem Tryz.ti85 : ti Tryz.prog 85 = some { d := D.struct [(0, 3), (1, 9), (2, 9)], size := 3, bytes := 40, zero := V.agg [V.int IntKind.i64 (0 : Int), V.str [], V.str []], eqOk := true } := by kernel_rfl
theorem Tryz.ti86 : ti Tryz.prog 86 = some { d := D.func, size := 1, bytes := 8, zero := V.nilfunc, eqOk := true } := by kernel_rfl
theorem Tryz.ti87 : ti Tryz.prog 87 = some { d := D.func, size := 1, bytes := 8, zero := V.nilfunc, eqOk := true } := by kernel_rfl
theorem Tryz.ti88 : ti Tryz.prog 88 = some { d := D.func, size := 1, bytes := 8, zero := V.nilfunc, eqOk := true } := by kernel_rfl
theorem Tryz.ti89 : ti Tryz.prog 89 = some { d := D.func, size := 1, bytes := 8, zero := V.nilfunc, eqOk := true } := by kernel_rfl
theorem Tryz.ti90 : ti Tryz.prog 90 = some { d := D.func, size := 1, bytes := 8, zero := V.nilfunc, eqOk := true } := by kernel_rfl
theorem Tryz.ti91 : ti Tryz.prog 91 = some { d := D.func, size := 1, bytes := 8, zero := V.nilfunc, eqOk := true } := by kernel_rfl
theorem Tryz.ti92 : ti Tryz.prog 92 = some { d := D.func, size := 1, bytes := 8, zero := V.nilfunc, eqOk := true } := by kernel_rfl
theorem Tryz.ti93 : ti Tryz.prog 93 = some { d := D.struct [(0, 9), (1, 3), (2, 4), (3, 4)], size := 4, bytes := 32, zero := V.agg [V.str [], V.int IntKind.i64 (0 : Int), V.bool false, V.bool false], eqOk := true } := by kernel_rfl
theorem Tryz.ti94 : ti Tryz.prog 94 = some { d := D.struct [(0, 9), (1, 3), (2, 4), (3, 4)], size := 4, bytes := 32, zero := V.agg [V.str [], V.int IntKind.i64 (0 : Int), V.bool false, V.bool false], eqOk := true } := by kernel_rfl
theorem Tryz.ti95 : ti Tryz.prog 95 = some { d := D.func, size := 1, bytes := 8, zero := V.nilfunc, eqOk := true } := by kernel_rfl
theorem Tryz.ti96 : ti Tryz.prog 96 = some { d := D.func, size := 1, bytes := 8, zero := V.nilfunc, eqOk := true } := by kernel_rfl
theorem Tryz.ti97 : ti Tryz.prog 97 = some { d := D.func, size := 1, bytes := 8, zero := V.nilfunc, eqOk := true } := by kernel_rfl
theorem Tryz.ti98 : ti Tryz.prog 98 = some { d := D.func, size := 1, bytes := 8, zero := V.nilfunc, eqOk := true } := by kernel_rfl
theorem Tryz.ti99 : ti Tryz.prog 99 = some { d := D.func, size := 1, bytes := 8, zero := V.nilfunc, eqOk := true } := by kernel_rfl
theorem Tryz.ti100 : ti Tryz.prog 100 = some { d := D.slice 9, size := 1, bytes := 24, zero := V.slice Own.full [], eqOk := true } := by kernel_rfl
theorem Tryz.ti101 : ti Tryz.prog 101 = some { d := D.func, size := 1, bytes := 8, zero := V.nilfunc, eqOk := true } := by kernel_rfl
theorem Tryz.ti102 : ti Tryz.prog 102 = some { d := D.func, size := 1, bytes := 8, zero := V.nilfunc, eqOk := true } := by kernel_rfl
theorem Tryz.ti103 : ti Tryz.prog 103 = some { d := D.func, size := 1, bytes := 8, zero := V.nilfunc, eqOk := true } := by kernel_rfl
theorem Tryz.ti104 : ti Tryz.prog 104 = some { d := D.func, size := 1, bytes := 8, zero := V.nilfunc, eqOk := true } := by kernel_rfl
theorem Tryz.ti105 : ti Tryz.prog 105 = some { d := D.func, size := 1, bytes := 8, zero := V.nilfunc, eqOk := true } := by kernel_rfl
theorem Tryz.ti106 : ti Tryz.prog 106 = some { d := D.func, size := 1, bytes := 8, zero := V.nilfunc, eqOk := true } := by kernel_rfl
theorem Tryz.ti107 : ti Tryz.prog 107 = some { d := D.func, size := 1, bytes := 8, zero := V.nilfunc, eqOk := true } := by kernel_rfl
theorem Tryz.ti108 : ti Tryz.prog 108 = some { d := D.func, size := 1, bytes := 8, zero := V.nilfunc, eqOk := true } := by kernel_rfl
theorem Tryz.ti109 : ti Tryz.prog 109 = some { d := D.pointer 141, size := 1, bytes := 8, zero := V.nil, eqOk := true } := by kernel_rfl
theorem Tryz.ti110 : ti Tryz.prog 110 = some { d := D.func, size := 1, bytes := 8, zero := V.nilfunc, eqOk := true } := by kernel_rfl
theorem Tryz.ti111 : ti Tryz.prog 111 = some { d := D.func, size := 1, bytes := 8, zero := V.nilfunc, eqOk := true } := by kernel_rfl
theorem Tryz.ti112 : ti Tryz.prog 112 = some { d := D.slice 120, size := 1, bytes := 24, zero := V.slice Own.full [], eqOk := true } := by kernel_rfl
theorem Tryz.ti113 : ti Tryz.prog 113 = some { d := D.other, size := 1, bytes := 0, zero := V.undef, eqOk := true } := by kernel_rfl
theorem Tryz.ti114 : ti Tryz.prog 114 = some { d := D.func, size := 1, bytes := 8, zero := V.nilfunc, eqOk := true } := by kernel_rfl
theorem Tryz.ti115 : ti Tryz.prog 115 = some { d := D.pointer 117, size := 1, bytes := 8, zero := V.nil, eqOk := true } := by kernel_rfl
theorem Tryz.ti116 : ti Tryz.prog 116 = some { d := D.struct [(0, 112), (1, 3), (2, 4)], size := 3, bytes := 40, zero := V.agg [V.slice Own.full [], V.int IntKind.i64 (0 : Int), V.bool false], eqOk := true } := by kernel_rfl
theorem Tryz.ti117 : ti Tryz.prog 117 = some { d := D.struct [(0, 112), (1, 3), (2, 4)], size := 3, bytes := 40, zero := V.agg [V.slice Own.full [], V.int IntKind.i64 (0 : Int), V.bool false], eqOk := true } := by kernel_rfl
theorem Tryz.ti118 : ti Tryz.prog 118 = some { d := D.func, size := 1, bytes := 8, zero := V.nilfunc, eqOk := true } := by kernel_rfl
theorem Tryz.ti119 : ti Tryz.prog 119 = some { d := D.struct [(0, 3), (1, 3), (2, 3), (3, 9)], size := 4, bytes := 40, zero := V.agg [V.int IntKind.i64 (0 : Int), V.int IntKind.i64 (0 : Int), V.int IntKind.i64 (0 : Int), V.str []], eqOk := true } := by kernel_rfl
theorem Tryz.ti120 : ti Tryz.prog 120 = some { d := D.struct [(0, 3), (1, 3), (2, 3), (3, 9)], size := 4, bytes := 40, zero := V.agg [V.int IntKind.i64 (0 : Int), V.int IntKind.i64 (0 : Int), V.int IntKind.i64 (0 : Int), V.str []], eqOk := true } := by kernel_rfl
theorem Tryz.ti121 : ti Tryz.prog 121 = some { d := D.pointer 123, size := 1, bytes := 8, zero := V.nil, eqOk := true } := by kernel_rfl
theorem Tryz.ti122 : ti Tryz.prog 122 = some { d := D.struct [(0, 9), (1, 3)], size := 2, bytes := 24, zero := V.agg [V.str [], V.int IntKind.i64 (0 : Int)], eqOk := true } := by kernel_rfl
theorem Tryz.ti123 : ti Tryz.prog 123 = some { d := D.struct [(0, 9), (1, 3)], size := 2, bytes := 24, zero := V.agg [V.str [], V.int IntKind.i64 (0 : Int)], eqOk := true } := by kernel_rfl
theorem Tryz.ti124 : ti Tryz.prog 124 = some { d := D.func, size := 1, bytes := 8, zero := V.nilfunc, eqOk := true } := by kernel_rfl
theorem Tryz.ti125 : ti Tryz.prog 125 = some { d := D.struct [(0, 3), (1, 3), (2, 3), (3, 9)], size := 4, bytes := 40, zero := V.agg [V.int IntKind.i64 (0 : Int), V.int IntKind.i64 (0 : Int), V.int IntKind.i64 (0 : Int), V.str []], eqOk := true } := by kernel_rfl
theorem Tryz.ti126 : ti Tryz.prog 126 = some { d := D.func, size := 1, bytes := 8, zero := V.nilfunc, eqOk := true } := by kernel_rfl
theorem Tryz.ti127 : ti Tryz.prog 127 = some { d := D.func, size := 1, bytes := 8, zero := V.nilfunc, eqOk := true } := by kernel_rfl
theorem Tryz.ti128 : ti Tryz.prog 128 = some { d := D.func, size := 1, bytes := 8, zero := V.nilfunc, eqOk := true } := by kernel_rfl
theorem Tryz.ti129 : ti Tryz.prog 129 = some { d := D.slice 23, size := 1, bytes := 24, zero := V.slice Own.full [], eqOk := true } := by kernel_rfl
theorem Tryz.ti130 : ti Tryz.prog 130 = some { d := D.slice 31, size := 1, bytes := 24, zero := V.slice Own.full [], eqOk := true } := by kernel_rfl
theorem Tryz.ti131 : ti Tryz.prog 131 = some { d := D.func, size := 1, bytes := 8, zero := V.nilfunc, eqOk := true } := by kernel_rfl
theorem Tryz.ti132 : ti Tryz.prog 132 = some { d := D.func, size := 1, bytes := 8, zero := V.nilfunc, eqOk := true } := by kernel_rfl
theorem Tryz.ti133 : ti Tryz.prog 133 = some { d := D.func, size := 1, bytes := 8, zero := V.nilfunc, eqOk := true } := by kernel_rfl
theorem Tryz.ti134 : ti Tryz.prog 134 = some { d := D.func, size := 1, bytes := 8, zero := V.nilfunc, eqOk := true } := by kernel_rfl
theorem Tryz.ti135 : ti Tryz.prog 135 = some { d := D.func, size := 1, bytes := 8, zero := V.nilfunc, eqOk := true } := by kernel_rfl
theorem Tryz.ti136 : ti Tryz.prog 136 = some { d := D.func, size := 1, bytes := 8, zero := V.nilfunc, eqOk := true } := by kernel_rfl
theorem Tryz.ti137 : ti Tryz.prog 137 = some { d := D.func, size := 1, bytes := 8, zero := V.nilfunc, eqOk := true } := by kernel_rfl
theorem Tryz.ti138 : ti Tryz.prog 138 = some { d := D.slice 5, size := 1, bytes := 24, zero := V.slice Own.full [], eqOk := true } := by kernel_rfl
theorem Tryz.ti139 : ti Tryz.prog 139 = some { d := D.func, size := 1, bytes := 8, zero := V.nilfunc, eqOk := true } := by kernel_rfl
theorem Tryz.ti140 : ti Tryz.prog 140 = some { d := D.struct [(0, 64)], size := 1, bytes := 24, zero := V.agg [V.slice Own.full []], eqOk := true } := by kernel_rfl
theorem Tryz.ti141 : ti Tryz.prog 141 = some { d := D.struct [(0, 64)], size := 1, bytes := 24, zero := V.agg [V.slice Own.full []], eqOk := true } := by kernel_rfl
theorem Tryz.ti142 : ti Tryz.prog 142 = some { d := D.func, size := 1, bytes := 8, zero := V.nilfunc, eqOk := true } := by kernel_rfl
theorem Tryz.ti143 : ti Tryz.prog 143 = some { d := D.func, size := 1, bytes := 8, zero := V.nilfunc, eqOk := true } := by kernel_rfl
theorem Tryz.ti144 : ti Tryz.prog 144 = some { d := D.pointer 28, size := 1, bytes := 8, zero := V.nil, eqOk := true } := by kernel_rfl
theorem Tryz.ti145 : ti Tryz.prog 145 = some { d := D.func, size := 1, bytes := 8, zero := V.nilfunc, eqOk := true } := by kernel_rfl
theorem Tryz.ti146 : ti Tryz.prog 146 = some { d := D.func, size := 1, bytes := 8, zero := V.nilfunc, eqOk := true } := by kernel_rfl
theorem Tryz.ti147 : ti Tryz.prog 147 = some { d := D.func, size := 1, bytes := 8, zero := V.nilfunc, eqOk := true } := by kernel_rfl
theorem Tryz.ti148 : ti Tryz.prog 148 = some { d := D.func, size := 1, bytes := 8, zero := V.nilfunc, eqOk := true } := by kernel_rfl
theorem Tryz.ti149 : ti Tryz.prog 149 = some { d := D.func, size := 1, bytes := 8, zero := V.nilfunc, eqOk := true } := by kernel_rfl
theorem Tryz.ti150 : ti Tryz.prog 150 = some { d := D.other, size := 1, bytes := 0, zero := V.undef, eqOk := true } := by kernel_rfl
theorem Tryz.ti151 : ti Tryz.prog 151 = some { d := D.func, size := 1, bytes := 8, zero := V.nilfunc, eqOk := true } := by kernel_rfl
theorem Tryz.ti152 : ti Tryz.prog 152 = some { d := D.func, size := 1, bytes := 8, zero := V.nilfunc, eqOk := true } := by kernel_rfl
theorem Tryz.ti153 : ti Tryz.prog 153 = some { d := D.other, size := 1, bytes := 0, zero := V.undef, eqOk := true } := by kernel_rfl
theorem Tryz.ti154 : ti Tryz.prog 154 = some { d := D.func, size := 1, bytes := 8, zero := V.nilfunc, eqOk := true } := by kernel_rfl
theorem Tryz.ti155 : ti Tryz.prog 155 = some { d := D.func, size := 1, bytes := 8, zero := V.nilfunc, eqOk := true } := by kernel_rfl
theorem Tryz.ti156 : ti Tryz.prog 156 = some { d := D.func, size := 1, bytes := 8, zero := V.nilfunc, eqOk := true } := by kernel_rfl
theorem Tryz.ti157 : ti Tryz.prog 157 = some { d := D.func, size := 1, bytes := 8, zero := V.nilfunc, eqOk := true } := by kernel_rfl
theorem Tryz.ti158 : ti Tryz.prog 158 = some { d := D.func, size := 1, bytes := 8, zero := V.nilfunc, eqOk := true } := by kernel_rfl
theorem Tryz.ti159 : ti Tryz.prog 159 = some { d := D.func, size := 1, bytes := 8, zero := V.nilfunc, eqOk := true } := by kernel_rfl
theorem Tryz.ti160 : ti Tryz.prog 160 = some { d := D.other, size := 1, bytes := 0, zero := V.undef, eqOk := true } := by kernel_rfl
theorem Tryz.ti161 : ti Tryz.prog 161 = some { d := D.func, size := 1, bytes := 8, zero := V.nilfunc, eqOk := true } := by kernel_rfl
theorem Tryz.ti162 : ti Tryz.prog 162 = some { d := D.func, size := 1, bytes := 8, zero := V.nilfunc, eqOk := true } := by kernel_rfl
theorem Tryz.ti163 : ti Tryz.prog 163 = some { d := D.func, size := 1, bytes := 8, zero := V.nilfunc, eqOk := true } := by kernel_rfl
theorem Tryz.ti164 : ti Tryz.prog 164 = some { d := D.func, size := 1, bytes := 8, zero := V.nilfunc, eqOk := true } := by kernel_rfl
theorem Tryz.ti165 : ti Tryz.prog 165 = some { d := D.func, size := 1, bytes := 8, zero := V.nilfunc, eqOk := true } := by kernel_rfl
theorem Tryz.ti166 : ti Tryz.prog 166 = some { d := D.func, size := 1, bytes := 8, zero := V.nilfunc, eqOk := true } := by kernel_rfl
theorem Tryz.ti167 : ti Tryz.prog 167 = some { d := D.func, size := 1, bytes := 8, zero := V.nilfunc, eqOk := true } := by kernel_rfl
theorem Tryz.ti168 : ti Tryz.prog 168 = some { d := D.pointer 170, size := 1, bytes := 8, zero := V.nil, eqOk := true } := by kernel_rfl
theorem Tryz.ti169 : ti Tryz.prog 169 = some { d := D.struct [(0, 168), (1, 138)], size := 2, bytes := 32, zero := V.agg [V.nil, V.slice Own.full []], eqOk := true } := by kernel_rfl
theorem Tryz.ti170 : ti Tryz.prog 170 = some { d := D.struct [(0, 168), (1, 138)], size := 2, bytes := 32, zero := V.agg [V.nil, V.slice Own.full []], eqOk := true } := by kernel_rfl
theorem Tryz.ti171 : ti Tryz.prog 171 = some { d := D.func, size := 1, bytes := 8, zero := V.nilfunc, eqOk := true } := by kernel_rfl
theorem Tryz.ti172 : ti Tryz.prog 172 = some { d := D.iface, size := 1, bytes := 16, zero := V.niliface, eqOk := true } := by kernel_rfl
theorem Tryz.ti173 : ti Tryz.prog 173 = some { d := D.iface, size := 1, bytes := 16, zero := V.niliface, eqOk := true } := by kernel_rfl
theorem Tryz.ti174 : ti Tryz.prog 174 = some { d := D.other, size := 1, bytes := 0, zero := V.undef, eqOk := true } := by kernel_rfl
theorem Tryz.ti175 : ti Tryz.prog 175 = some { d := D.func, size := 1, bytes := 8, zero := V.nilfunc, eqOk := true } := by kernel_rfl
theorem Tryz.ti176 : ti Tryz.prog 176 = some { d := D.func, size := 1, bytes := 8, zero := V.nilfunc, eqOk := true } := by kernel_rfl
theorem Tryz.ti177 : ti Tryz.prog 177 = some { d := D.func, size := 1, bytes := 8, zero := V.nilfunc, eqOk := true } := by kernel_rfl
theorem Tryz.ti178 : ti Tryz.prog 178 = some { d := D.func, size := 1, bytes := 8, zero := V.nilfunc, eqOk := true } := by kernel_rfl
theorem Tryz.ti179 : ti Tryz.prog 179 = some { d := D.func, size := 1, bytes := 8, zero := V.nilfunc, eqOk := true } := by kernel_rfl
theorem Tryz.ti180 : ti Tryz.prog 180 = some { d := D.func, size := 1, bytes := 8, zero := V.nilfunc, eqOk := true } := by kernel_rfl
theorem Tryz.ti181 : ti Tryz.prog 181 = some { d := D.func, size := 1, bytes := 8, zero := V.nilfunc, eqOk := true } := by kernel_rfl
theorem Tryz.ti182 : ti Tryz.prog 182 = some { d := D.func, size := 1, bytes := 8, zero := V.nilfunc, eqOk := true } := by kernel_rfl
theorem Tryz.ti183 : ti Tryz.prog 183 = some { d := D.func, size := 1, bytes := 8, zero := V.nilfunc, eqOk := true } := by kernel_rfl
theorem Tryz.ti184 : ti Tryz.prog 184 = some { d := D.func, size := 1, bytes := 8, zero := V.nilfunc, eqOk := true } := by kernel_rfl
theorem Tryz.ti185 : ti Tryz.prog 185 = some { d := D.func, size := 1, bytes := 8, zero := V.nilfunc, eqOk := true } := by kernel_rfl
theorem Tryz.ti186 : ti Tryz.prog 186 = some { d := D.func, size := 1, bytes := 8, zero := V.nilfunc, eqOk := true } := by kernel_rfl
theorem Tryz.ti187 : ti Tryz.prog 187 = some { d := D.func, size := 1, bytes := 8, zero := V.nilfunc, eqOk := true } := by kernel_rfl
theorem Tryz.ti188 : ti Tryz.prog 188 = some { d := D.func, size := 1, bytes := 8, zero := V.nilfunc, eqOk := true } := by kernel_rfl
theorem Tryz.ti189 : ti Tryz.prog 189 = some { d := D.func, size := 1, bytes := 8, zero := V.nilfunc, eqOk := true } := by kernel_rfl
theorem Tryz.ti190 : ti Tryz.prog 190 = some { d := D.func, size := 1, bytes := 8, zero := V.nilfunc, eqOk := true } := by kernel_rfl
theorem Tryz.ti191 : ti Tryz.prog 191 = some { d := D.other, size := 1, bytes := 0, zero := V.undef, eqOk := true } := by kernel_rfl
theorem Tryz.ti192 : ti Tryz.prog 192 = some { d := D.func, size := 1, bytes := 8, zero := V.nilfunc, eqOk := true } := by kernel_rfl
theorem Tryz.ti193 : ti Tryz.prog 193 = some { d := D.func, size := 1, bytes := 8, zero := V.nilfunc, eqOk := true } := by kernel_rfl
theorem Tryz.ti194 : ti Tryz.prog 194 = some { d := D.pointer 5, size := 1, bytes := 8, zero := V.nil, eqOk := true } := by kernel_rfl
theorem Tryz.ti195 : ti Tryz.prog 195 = some { d := D.func, size := 1, bytes := 8, zero := V.nilfunc, eqOk := true } := by kernel_rfl
theorem Tryz.ti196 : ti Tryz.prog 196 = some { d := D.func, size := 1, bytes := 8, zero := V.nilfunc, eqOk := true } := by kernel_rfl
theorem Tryz.ti197 : ti Tryz.prog 197 = some { d := D.other, size := 1, bytes := 0, zero := V.undef, eqOk := true } := by kernel_rfl
theorem Tryz.ti198 : ti Tryz.prog 198 = some { d := D.func, size := 1, bytes := 8, zero := V.nilfunc, eqOk := true } := by kernel_rfl
theorem Tryz.ti199 : ti Tryz.prog 199 = some { d := D.func, size := 1, bytes := 8, zero := V.nilfunc, eqOk := true } := by kernel_rfl
theorem Tryz.ti200 : ti Tryz.prog 200 = some { d := D.func, size := 1, bytes := 8, zero := V.nilfunc, eqOk := true } := by kernel_rfl
theorem Tryz.ti201 : ti Tryz.prog 201 = some { d := D.func, size := 1, bytes := 8, zero := V.nilfunc, eqOk := true } := by kernel_rfl
theorem Tryz.ti202 : ti Tryz.prog 202 = some { d := D.func, size := 1, bytes := 8, zero := V.nilfunc, eqOk := true } := by kernel_rfl
theorem Tryz.ti203 : ti Tryz.prog 203 = some { d := D.func, size := 1, bytes := 8, zero := V.nilfunc, eqOk := true } := by kernel_rfl
theorem Tryz.ti204 : ti Tryz.prog 204 = some { d := D.func, size := 1, bytes := 8, zero := V.nilfunc, eqOk := true } := by kernel_rfl
theorem Tryz.ti205 : ti Tryz.prog 205 = some { d := D.other, size := 1, bytes := 8, zero := V.nil, eqOk := true } := by kernel_rfl
theorem Tryz.ti206 : ti Tryz.prog 206 = some { d := D.func, size := 1, bytes := 8, zero := V.nilfunc, eqOk := true } := by kernel_rfl
theorem Tryz.ti207 : ti Tryz.prog 207 = some { d := D.func, size := 1, bytes := 8, zero := V.nilfunc, eqOk := true } := by kernel_rfl
theorem Tryz.ti208 : ti Tryz.prog 208 = some { d := D.array 24 5, size := 24, bytes := 24, zero := V.agg [V.int IntKind.u8 (0 : Int), V.int IntKind.u8 (0 : Int), V.int IntKind.u8 (0 : Int), V.int IntKind.u8 (0 : Int), V.int IntKind.u8 (0 : Int), V.int IntKind.u8 (0 : Int), V.int IntKind.u8 (0 : Int), V.int IntKind.u8 (0 : Int), V.int IntKind.u8 (0 : Int), V.int IntKind.u8 (0 : Int), V.int IntKind.u8 (0 : Int), V.int IntKind.u8 (0 : Int), V.int IntKind.u8 (0 : Int), V.int IntKind.u8 (0 : Int), V.int IntKind.u8 (0 : Int), V.int IntKind.u8 (0 : Int), V.int IntKind.u8 (0 : Int), V.int IntKind.u8 (0 : Int), V.int IntKind.u8 (0 : Int), V.int IntKind.u8 (0 : Int), V.int IntKind.u8 (0 : Int), V.int IntKind.u8 (0 : Int), V.int IntKind.u8 (0 : Int), V.int IntKind.u8 (0 : Int)], eqOk := true } := by kernel_rfl
theorem Tryz.ti209 : ti Tryz.prog 209 = some { d := D.int IntKind.u64, size := 1, bytes := 8, zero := V.int IntKind.u64 (0 : Int), eqOk := true } := by kernel_rfl
theorem Tryz.ti210 : ti Tryz.prog 210 = some { d := D.func, size := 1, bytes := 8, zero := V.nilfunc, eqOk := true } := by kernel_rfl
theorem Tryz.ti211 : ti Tryz.prog 211 = some { d := D.func, size := 1, bytes := 8, zero := V.nilfunc, eqOk := true } := by kernel_rfl
theorem Tryz.ti212 : ti Tryz.prog 212 = some { d := D.other, size := 1, bytes := 0, zero := V.undef, eqOk := true } := by kernel_rfl
theorem Tryz.ti213 : ti Tryz.prog 213 = some { d := D.func, size := 1, bytes := 8, zero := V.nilfunc, eqOk := true } := by kernel_rfl
theorem Tryz.ti214 : ti Tryz.prog 214 = some { d := D.func, size := 1, bytes := 8, zero := V.nilfunc, eqOk := true } := by kernel_rfl
theorem Tryz.ti215 : ti Tryz.prog 215 = some { d := D.func, size := 1, bytes := 8, zero := V.nilfunc, eqOk := true } := by kernel_rfl
theorem Tryz.ti216 : ti Tryz.prog 216 = some { d := D.other, size := 1, bytes := 0, zero := V.undef, eqOk := true } := by kernel_rfl
theorem Tryz.ti217 : ti Tryz.prog 217 = some { d := D.func, size := 1, bytes := 8, zero := V.nilfunc, eqOk := true } := by kernel_rfl
theorem Tryz.ti218 : ti Tryz.prog 218 = some { d := D.slice 248, size := 1, bytes := 24, zero := V.slice Own.full [], eqOk := true } := by kernel_rfl
theorem Tryz.ti219 : ti Tryz.prog 219 = some { d := D.int IntKind.i64, size := 1, bytes := 8, zero := V.int IntKind.i64 (0 : Int), eqOk := true } := by kernel_rfl
theorem Tryz.ti220 : ti Tryz.prog 220 = some { d := D.other, size := 1, bytes := 0, zero := V.undef, eqOk := true } := by kernel_rfl
theorem Tryz.ti221 : ti Tryz.prog 221 = some { d := D.func, size := 1, bytes := 8, zero := V.nilfunc, eqOk := true } := by kernel_rfl
theorem Tryz.ti222 : ti Tryz.prog 222 = some { d := D.int IntKind.u64, size := 1, bytes := 8, zero := V.int IntKind.u64 (0 : Int), eqOk := true } := by kernel_rfl
theorem Tryz.ti223 : ti Tryz.prog 223 = some { d := D.pointer 242, size := 1, bytes := 8, zero := V.nil, eqOk := true } := by kernel_rfl
theorem Tryz.ti224 : ti Tryz.prog 224 = some { d := D.func, size := 1, bytes := 8, zero := V.nilfunc, eqOk := true } := by kernel_rfl
theorem Tryz.ti225 : ti Tryz.prog 225 = some { d := D.func, size := 1, bytes := 8, zero := V.nilfunc, eqOk := true } := by kernel_rfl
theorem Tryz.ti226 : ti Tryz.prog 226 = some { d := D.func, size := 1, bytes := 8, zero := V.nilfunc, eqOk := true } := by kernel_rfl
theorem Tryz.ti227 : ti Tryz.prog 227 = some { d := D.array 20 209, size := 20, bytes := 160, zero := V.agg [V.int IntKind.u64 (0 : Int), V.int IntKind.u64 (0 : Int), V.int IntKind.u64 (0 : Int), V.int IntKind.u64 (0 : Int), V.int IntKind.u64 (0 : Int), V.int IntKind.u64 (0 : Int), V.int IntKind.u64 (0 : Int), V.int IntKind.u64 (0 : Int), V.int IntKind.u64 (0 : Int), V.int IntKind.u64 (0 : Int), V.int IntKind.u64 (0 : Int), V.int IntKind.u64 (0 : Int), V.int IntKind.u64 (0 : Int), V.int IntKind.u64 (0 : Int), V.int IntKind.u64 (0 : Int), V.int IntKind.u64 (0 : Int), V.int IntKind.u64 (0 : Int), V.int IntKind.u64 (0 : Int), V.int IntKind.u64 (0 : Int), V.int IntKind.u64 (0 : Int)], eqOk := true } := by kernel_rfl
theorem Tryz.ti228 : ti Tryz.prog 228 = some { d := D.int IntKind.u32, size := 1, bytes := 4, zero := V.int IntKind.u32 (0 : Int), eqOk := true } := by kernel_rfl
theorem Tryz.ti229 : ti Tryz.prog 229 = some { d := D.array 65 5, size := 65, bytes := 65, zero := V.agg [V.int IntKind.u8 (0 : Int), V.int IntKind.u8 (0 : Int), V.int IntKind.u8 (0 : Int), V.int IntKind.u8 (0 : Int), V.int IntKind.u8 (0 : Int), V.int IntKind.u8 (0 : Int), V.int IntKind.u8 (0 : Int), V.int IntKind.u8 (0 : Int), V.int IntKind.u8 (0 : Int), V.int IntKind.u8 (0 : Int), V.int IntKind.u8 (0 : Int), V.int IntKind.u8 (0 : Int), V.int IntKind.u8 (0 : Int), V.int IntKind.u8 (0 : Int), V.int IntKind.u8 (0 : Int), V.int IntKind.u8 (0 : Int), V.int IntKind.u8 (0 : Int), V.int IntKind.u8 (0 : Int), V.int IntKind.u8 (0 : Int), V.int IntKind.u8 (0 : Int), V.int IntKind.u8 (0 : Int), V.int IntKind.u8 (0 : Int), V.int IntKind.u8 (0 : Int), V.int IntKind.u8 (0 : Int), V.int IntKind.u8 (0 : Int), V.int IntKind.u8 (0 : Int), V.int IntKind.u8 (0 : Int), V.int IntKind.u8 (0 : Int), V.int IntKind.u8 (0 : Int), V.int IntKind.u8 (0 : Int), V.int IntKind.u8 (0 : Int), V.int IntKind.u8 (0 : Int), V.int IntKind.u8 (0 : Int), V.int IntKind.u8 (0 : Int), V.int IntKind.u8 (0 : Int), V.int IntKind.u8 (0 : Int), V.int IntKind.u8 (0 : Int), V.int IntKind.u8 (0 : Int), V.int IntKind.u8 (0 : Int), V.int IntKind.u8 (0 : Int), V.int IntKind.u8 (0 : Int), V.int IntKind.u8 (0 : Int), V.int IntKind.u8 (0 : Int), V.int IntKind.u8 (0 : Int), V.int IntKind.u8 (0 : Int), V.int IntKind.u8 (0 : Int), V.int IntKind.u8 (0 : Int), V.int IntKind.u8 (0 : Int), V.int IntKind.u8 (0 : Int), V.int IntKind.u8 (0 : Int), V.int IntKind.u8 (0 : Int), V.int IntKind.u8 (0 : Int), V.int IntKind.u8 (0 : Int), V.int IntKind.u8 (0 : Int), V.int IntKind.u8 (0 : Int), V.int IntKind.u8 (0 : Int), V.int IntKind.u8 (0 : Int), V.int IntKind.u8 (0 : Int), V.int IntKind.u8 (0 : Int), V.int IntKind.u8 (0 : Int), V.int IntKind.u8 (0 : Int), V.int IntKind.u8 (0 : Int), V.int IntKind.u8 (0 : Int), V.int IntKind.u8 (0 : Int), V.int IntKind.u8 (0 : Int)], eqOk := true } := by kernel_rfl
theorem Tryz.ti230 : ti Tryz.prog 230 = some { d := D.func, size := 1, bytes := 8, zero := V.nilfunc, eqOk := true } := by kernel_rfl
theorem Tryz.ti231 : ti Tryz.prog 231 = some { d := D.func, size := 1, bytes := 8, zero := V.nilfunc, eqOk := true } := by kernel_rfl
theorem Tryz.ti232 : ti Tryz.prog 232 = some { d := D.func, size := 1, bytes := 8, zero := V.nilfunc, eqOk := true } := by kernel_rfl
theorem Tryz.ti233 : ti Tryz.prog 233 = some { d := D.array 256 5, size := 256, bytes := 256, zero := V.agg [V.int IntKind.u8 (0 : Int), V.int IntKind.u8 (0 : Int), V.int IntKind.u8 (0 : Int), V.int IntKind.u8 (0 : Int), V.int IntKind.u8 (0 : Int), V.int IntKind.u8 (0 : Int), V.int IntKind.u8 (0 : Int), V.int IntKind.u8 (0 : Int), V.int IntKind.u8 (0 : Int), V.int IntKind.u8 (0 : Int), V.int IntKind.u8 (0 : Int), V.int IntKind.u8 (0 : Int), V.int IntKind.u8 (0 : Int), V.int IntKind.u8 (0 : Int), V.int IntKind.u8 (0 : Int), V.int IntKind.u8 (0 : Int), V.int IntKind.u8 (0 : Int), V.int IntKind.u8 (0 : Int), V.int IntKind.u8 (0 : Int), V.int IntKind.u8 (0 : Int), V.int IntKind.u8 (0 : Int), V.int IntKind.u8 (0 : Int), V.int IntKind.u8 (0 : Int), V.int IntKind.u8 (0 : Int), V.int IntKind.u8 (0 : Int), V.int IntKind.u8 (0 : Int), V.int IntKind.u8 (0 : Int), V.int IntKind.u8 (0 : Int), V.int IntKind.u8 (0 : Int), V.int IntKind.u8 (0 : Int), V.int IntKind.u8 (0 : Int), V.int IntKind.u8 (0 : Int), V.int IntKind.u8 (0 : Int), V.int IntKind.u8 (0 : Int), V.int IntKind.u8 (0 : Int), V.int IntKind.u8 (0 : Int), V.int IntKind.u8 (0 : Int), V.int IntKind.u8 (0 : Int), V.int IntKind.u8 (0 : Int), V.int IntKind.u8 (0 : Int), V.int IntKind.u8 (0 : Int), V.int IntKind.u8 (0 : Int), V.int IntKind.u8 (0 : Int), V.int IntKind.u8 (0 : Int), V.int IntKind.u8 (0 : Int), V.int IntKind.u8 (0 : Int), V.int IntKind.u8 (0 : Int), V.int IntKind.u8 (0 : Int), V.int IntKind.u8 (0 : Int), V.int IntKind.u8 (0 : Int), V.int IntKind.u8 (0 : Int), V.int IntKind.u8 (0 : Int), V.int IntKind.u8 (0 : Int), V.int IntKind.u8 (0 : Int), V.int IntKind.u8 (0 : Int), V.int IntKind.u8 (0 : Int), V.int IntKind.u8 (0 : Int), V.int IntKind.u8 (0 : Int), V.int IntKind.u8 (0 : Int), V.int IntKind.u8 (0 : Int), V.int IntKind.u8 (0 : Int), V.int IntKind.u8 (0 : Int), V.int IntKind.u8 (0 : Int), V.int IntKind.u8 (0 : Int), V.int IntKind.u8 (0 : Int), V.int IntKind.u8 (0 : Int), V.int IntKind.u8 (0 : Int), V.int IntKind.u8 (0 : Int), V.int IntKind.u8 (0 : Int), V.int IntKind.u8 (0 : Int), V.int IntKind.u8 (0 : Int), V.int IntKind.u8 (0 : Int), V.int IntKind.u8 (0 : Int), V.int IntKind.u8 (0 : Int), V.int IntKind.u8 (0 : Int), V.int IntKind.u8 (0 : Int), V.int IntKind.u8 (0 : Int), V.int IntKind.u8 (0 : Int), V.int IntKind.u8 (0 : Int), V.int IntKind.u8 (0 : Int), V.int IntKind.u8 (0 : Int), V.int IntKind.u8 (0 : Int), V.int IntKind.u8 (0 : Int), V.int IntKind.u8 (0 : Int), V.int IntKind.u8 (0 : Int), V.int IntKind.u8 (0 : Int), V.int IntKind.u8 (0 : Int), V.int IntKind.u8 (0 : Int), V.int IntKind.u8 (0 : Int), V.int IntKind.u8 (0 : Int), V.int IntKind.u8 (0 : Int), V.int IntKind.u8 (0 : Int), V.int IntKind.u8 (0 : Int), V.int IntKind.u8 (0 : Int), V.int IntKind.u8 (0 : Int), V.int IntKind.u8 (0 : Int), V.int IntKind.u8 (0 : Int), V.int IntKind.u8 (0 : Int), V.int IntKind.u8 (0 : Int), V.int IntKind.u8 (0 : Int), V.int IntKind.u8 (0 : Int), V.int IntKind.u8 (0 : Int), V.int IntKind.u8 (0 : Int), V.int IntKind.u8 (0 : Int), V.int IntKind.u8 (0 : Int), V.int IntKind.u8 (0 : Int), V.int IntKind.u8 (0 : Int), V.int IntKind.u8 (0 : Int), V.int IntKind.u8 (0 : Int), V.int IntKind.u8 (0 : Int), V.int IntKind.u8 (0 : Int), V.int IntKind.u8 (0 : Int), V.int IntKind.u8 (0 : Int), V.int IntKind.u8 (0 : Int), V.int IntKind.u8 (0 : Int), V.int IntKind.u8 (0 : Int), V.int IntKind.u8 (0 : Int), V.int IntKind.u8 (0 : Int), V.int IntKind.u8 (0 : Int), V.int IntKind.u8 (0 : Int), V.int IntKind.u8 (0 : Int), V.int IntKind.u8 (0 : Int), V.int IntKind.u8 (0 : Int), V.int IntKind.u8 (0 : Int), V.int IntKind.u8 (0 : Int), V.int IntKind.u8 (0 : Int), V.int IntKind.u8 (0 : Int), V.int IntKind.u8 (0 : Int), V.int IntKind.u8 (0 : Int), V.int IntKind.u8 (0 : Int), V.int IntKind.u8 (0 : Int), V.int IntKind.u8 (0 : Int), V.int IntKind.u8 (0 : Int), V.int IntKind.u8 (0 : Int), V.int IntKind.u8 (0 : Int), V.int IntKind.u8 (0 : Int), V.int IntKind.u8 (0 : Int), V.int IntKind.u8 (0 : Int), V.int IntKind.u8 (0 : Int), V.int IntKind.u8 (0 : Int), V.int IntKind.u8 (0 : Int), V.int IntKind.u8 (0 : Int), V.int IntKind.u8 (0 : Int), V.int IntKind.u8 (0 : Int), V.int IntKind.u8 (0 : Int), V.int IntKind.u8 (0 : Int), V.int IntKind.u8 (0 : Int), V.int IntKind.u8 (0 : Int), V.int IntKind.u8 (0 : Int), V.int IntKind.u8 (0 : Int), V.int IntKind.u8 (0 : Int), V.int IntKind.u8 (0 : Int), V.int IntKind.u8 (0 : Int), V.int IntKind.u8 (0 : Int), V.int IntKind.u8 (0 : Int), V.int IntKind.u8 (0 : Int), V.int IntKind.u8 (0 : Int), V.int IntKind.u8 (0 : Int), V.int IntKind.u8 (0 : Int), V.int IntKind.u8 (0 : Int), V.int IntKind.u8 (0 : Int), V.int IntKind.u8 (0 : Int), V.int IntKind.u8 (0 : Int), V.int IntKind.u8 (0 : Int), V.int IntKind.u8 (0 : Int), V.int IntKind.u8 (0 : Int), V.int IntKind.u8 (0 : Int), V.int IntKind.u8 (0 : Int), V.int IntKind.u8 (0 : Int), V.int IntKind.u8 (0 : Int), V.int IntKind.u8 (0 : Int), V.int IntKind.u8 (0 : Int), V.int IntKind.u8 (0 : Int), V.int IntKind.u8 (0 : Int), V.int IntKind.u8 (0 : Int), V.int IntKind.u8 (0 : Int), V.int IntKind.u8 (0 : Int), V.int IntKind.u8 (0 : Int), V.int IntKind.u8 (0 : Int), V.int IntKind.u8 (0 : Int), V.int IntKind.u8 (0 : Int), V.int IntKind.u8 (0 : Int), V.int IntKind.u8 (0 : Int), V.int IntKind.u8 (0 : Int), V.int IntKind.u8 (0 : Int), V.int IntKind.u8 (0 : Int), V.int IntKind.u8 (0 : Int), V.int IntKind.u8 (0 : Int), V.int IntKind.u8 (0 : Int), V.int IntKind.u8 (0 : Int), V.int IntKind.u8 (0 : Int), V.int IntKind.u8 (0 : Int), V.int IntKind.u8 (0 : Int), V.int IntKind.u8 (0 : Int), V.int IntKind.u8 (0 : Int), V.int IntKind.u8 (0 : Int), V.int IntKind.u8 (0 : Int), V.int IntKind.u8 (0 : Int), V.int IntKind.u8 (0 : Int), V.int IntKind.u8 (0 : Int), V.int IntKind.u8 (0 : Int), V.int IntKind.u8 (0 : Int), V.int IntKind.u8 (0 : Int), V.int IntKind.u8 (0 : Int), V.int IntKind.u8 (0 : Int), V.int IntKind.u8 (0 : Int), V.int IntKind.u8 (0 : Int), V.int IntKind.u8 (0 : Int), V.int IntKind.u8 (0 : Int), V.int IntKind.u8 (0 : Int), V.int IntKind.u8 (0 : Int), V.int IntKind.u8 (0 : Int), V.int IntKind.u8 (0 : Int), V.int IntKind.u8 (0 : Int), V.int IntKind.u8 (0 : Int), V.int IntKind.u8 (0 : Int), V.int IntKind.u8 (0 : Int), V.int IntKind.u8 (0 : Int), V.int IntKind.u8 (0 : Int), V.int IntKind.u8 (0 : Int), V.int IntKind.u8 (0 : Int), V.int IntKind.u8 (0 : Int), V.int IntKind.u8 (0 : Int), V.int IntKind.u8 (0 : Int), V.int IntKind.u8 (0 : Int), V.int IntKind.u8 (0 : Int), V.int IntKind.u8 (0 : Int), V.int IntKind.u8 (0 : Int), V.int IntKind.u8 (0 : Int), V.int IntKind.u8 (0 : Int), V.int IntKind.u8 (0 : Int), V.int IntKind.u8 (0 : Int), V.int IntKind.u8 (0 : Int), V.int IntKind.u8 (0 : Int), V.int IntKind.u8 (0 : Int), V.int IntKind.u8 (0 : Int), V.int IntKind.u8 (0 : Int), V.int IntKind.u8 (0 : Int), V.int IntKind.u8 (0 : Int), V.int IntKind.u8 (0 : Int), V.int IntKind.u8 (0 : Int), V.int IntKind.u8 (0 : Int), V.int IntKind.u8 (0 : Int), V.int IntKind.u8 (0 : Int), V.int IntKind.u8 (0 : Int), V.int IntKind.u8 (0 : Int), V.int IntKind.u8 (0 : Int), V.int IntKind.u8 (0 : Int), V.int IntKind.u8 (0 : Int), V.int IntKind.u8 (0 : Int), V.int IntKind.u8 (0 : Int), V.int IntKind.u8 (0 : Int), V.int IntKind.u8 (0 : Int), V.int IntKind.u8 (0 : Int), V.int IntKind.u8 (0 : Int), V.int IntKind.u8 (0 : Int)], eqOk := true } := by kernel_rfl
theorem Tryz.ti234 : ti Tryz.prog 234 = some { d := D.struct [(0, 5), (1, 5)], size := 2, bytes := 2, zero := V.agg [V.int IntKind.u8 (0 : Int), V.int IntKind.u8 (0 : Int)], eqOk := true } := by kernel_rfl
theorem Tryz.ti235 : ti Tryz.prog 235 = some { d := D.struct [(0, 5), (1, 5)], size := 2, bytes := 2, zero := V.agg [V.int IntKind.u8 (0 : Int), V.int IntKind.u8 (0 : Int)], eqOk := true } := by kernel_rfl
theorem Tryz.ti236 : ti Tryz.prog 236 = some { d := D.array 16 235, size := 32, bytes := 32, zero := V.agg [V.int IntKind.u8 (0 : Int), V.int IntKind.u8 (0 : Int), V.int IntKind.u8 (0 : Int), V.int IntKind.u8 (0 : Int), V.int IntKind.u8 (0 : Int), V.int IntKind.u8 (0 : Int), V.int IntKind.u8 (0 : Int), V.int IntKind.u8 (0 : Int), V.int IntKind.u8 (0 : Int), V.int IntKind.u8 (0 : Int), V.int IntKind.u8 (0 : Int), V.int IntKind.u8 (0 : Int), V.int IntKind.u8 (0 : Int), V.int IntKind.u8 (0 : Int), V.int IntKind.u8 (0 : Int), V.int IntKind.u8 (0 : Int), V.int IntKind.u8 (0 : Int), V.int IntKind.u8 (0 : Int), V.int IntKind.u8 (0 : Int), V.int IntKind.u8 (0 : Int), V.int IntKind.u8 (0 : Int), V.int IntKind.u8 (0 : Int), V.int IntKind.u8 (0 : Int), V.int IntKind.u8 (0 : Int), V.int IntKind.u8 (0 : Int), V.int IntKind.u8 (0 : Int), V.int IntKind.u8 (0 : Int), V.int IntKind.u8 (0 : Int), V.int IntKind.u8 (0 : Int), V.int IntKind.u8 (0 : Int), V.int IntKind.u8 (0 : Int), V.int IntKind.u8 (0 : Int)], eqOk := true } := by kernel_rfl
theorem Tryz.ti237 : ti Tryz.prog 237 = some { d := D.pointer 248, size := 1, bytes := 8, zero := V.nil, eqOk := true } := by kernel_rfl
theorem Tryz.ti238 : ti Tryz.prog 238 = some { d := D.func, size := 1, bytes := 8, zero := V.nilfunc, eqOk := true } := by kernel_rfl
theorem Tryz.ti239 : ti Tryz.prog 239 = some { d := D.func, size := 1, bytes := 8, zero := V.nilfunc, eqOk := true } := by kernel_rfl
theorem Tryz.ti240 : ti Tryz.prog 240 = some { d := D.func, size := 1, bytes := 8, zero := V.nilfunc, eqOk := true } := by kernel_rfl
theorem Tryz.ti241 : ti Tryz.prog 241 = some { d := D.struct [(0, 9), (1, 9), (2, 173)], size := 3, bytes := 48, zero := V.agg [V.str [], V.str [], V.niliface], eqOk := false } := by kernel_rfl
theorem Tryz.ti242 : ti Tryz.prog 242 = some { d := D.struct [(0, 9), (1, 9), (2, 173)], size := 3, bytes := 48, zero := V.agg [V.str [], V.str [], V.niliface], eqOk := false } := by kernel_rfl
theorem Tryz.ti243 : ti Tryz.prog 243 = some { d := D.func, size := 1, bytes := 8, zero := V.nilfunc, eqOk := true } := by kernel_rfl
theorem Tryz.ti244 : ti Tryz.prog 244 = some { d := D.func, size := 1, bytes := 8, zero := V.nilfunc, eqOk := true } := by kernel_rfl
theorem Tryz.ti245 : ti Tryz.prog 245 = some { d := D.array 3 21, size := 3, bytes := 12, zero := V.agg [V.int IntKind.i32 (0 : Int), V.int IntKind.i32 (0 : Int), V.int IntKind.i32 (0 : Int)], eqOk := true } := by kernel_rfl
theorem Tryz.ti246 : ti Tryz.prog 246 = some { d := D.array 3 21, size := 3, bytes := 12, zero := V.agg [V.int IntKind.i32 (0 : Int), V.int IntKind.i32 (0 : Int), V.int IntKind.i32 (0 : Int)], eqOk := true } := by kernel_rfl
theorem Tryz.ti247 : ti Tryz.prog 247 = some { d := D.struct [(0, 228), (1, 228), (2, 246)], size := 5, bytes := 20, zero := V.agg [V.int IntKind.u32 (0 : Int), V.int IntKind.u32 (0 : Int), V.int IntKind.i32 (0 : Int), V.int IntKind.i32 (0 : Int), V.int IntKind.i32 (0 : Int)], eqOk := true } := by kernel_rfl
theorem Tryz.ti248 : ti Tryz.prog 248 = some { d := D.struct [(0, 228), (1, 228), (2, 246)], size := 5, bytes := 20, zero := V.agg [V.int IntKind.u32 (0 : Int), V.int IntKind.u32 (0 : Int), V.int IntKind.i32 (0 : Int), V.int IntKind.i32 (0 : Int), V.int IntKind.i32 (0 : Int)], eqOk := true } := by kernel_rfl
theorem Tryz.ti249 : ti Tryz.prog 249 = some { d := D.pointer 251, size := 1, bytes := 8, zero := V.nil, eqOk := true } := by kernel_rfl
theorem Tryz.ti250 : ti Tryz.prog 250 = some { d := D.struct [(0, 9)], size := 1, bytes := 16, zero := V.agg [V.str []], eqOk := true } := by kernel_rfl
theorem Tryz.ti251 : ti Tryz.prog 251 = some { d := D.struct [(0, 9)], size := 1, bytes := 16, zero := V.agg [V.str []], eqOk := true } := by kernel_rfl
theorem Tryz.ti252 : ti Tryz.prog 252 = some { d := D.array 32 5, size := 32, bytes := 32, zero := V.agg [V.int IntKind.u8 (0 : Int), V.int IntKind.u8 (0 : Int), V.int IntKind.u8 (0 : Int), V.int IntKind.u8 (0 : Int), V.int IntKind.u8 (0 : Int), V.int IntKind.u8 (0 : Int), V.int IntKind.u8 (0 : Int), V.int IntKind.u8 (0 : Int), V.int IntKind.u8 (0 : Int), V.int IntKind.u8 (0 : Int), V.int IntKind.u8 (0 : Int), V.int IntKind.u8 (0 : Int), V.int IntKind.u8 (0 : Int), V.int IntKind.u8 (0 : Int), V.int IntKind.u8 (0 : Int), V.int IntKind.u8 (0 : Int), V.int IntKind.u8 (0 : Int), V.int IntKind.u8 (0 : Int), V.int IntKind.u8 (0 : Int), V.int IntKind.u8 (0 : Int), V.int IntKind.u8 (0 : Int), V.int IntKind.u8 (0 : Int), V.int IntKind.u8 (0 : Int), V.int IntKind.u8 (0 : Int), V.int IntKind.u8 (0 : Int), V.int IntKind.u8 (0 : Int), V.int IntKind.u8 (0 : Int), V.int IntKind.u8 (0 : Int), V.int IntKind.u8 (0 : Int), V.int IntKind.u8 (0 : Int), V.int IntKind.u8 (0 : Int), V.int IntKind.u8 (0 : Int)], eqOk := true } := by kernel_rfl
theorem Tryz.ti253 : ti Tryz.prog 253 = some { d := D.array 64 5, size := 64, bytes := 64, zero := V.agg [V.int IntKind.u8 (0 : Int), V.int IntKind.u8 (0 : Int), V.int IntKind.u8 (0 : Int), V.int IntKind.u8 (0 : Int), V.int IntKind.u8 (0 : Int), V.int IntKind.u8 (0 : Int), V.int IntKind.u8 (0 : Int), V.int IntKind.u8 (0 : Int), V.int IntKind.u8 (0 : Int), V.int IntKind.u8 (0 : Int), V.int IntKind.u8 (0 : Int), V.int IntKind.u8 (0 : Int), V.int IntKind.u8 (0 : Int), V.int IntKind.u8 (0 : Int), V.int IntKind.u8 (0 : Int), V.int IntKind.u8 (0 : Int), V.int IntKind.u8 (0 : Int), V.int IntKind.u8 (0 : Int), V.int IntKind.u8 (0 : Int), V.int IntKind.u8 (0 : Int), V.int IntKind.u8 (0 : Int), V.int IntKind.u8 (0 : Int), V.int IntKind.u8 (0 : Int), V.int IntKind.u8 (0 : Int), V.int IntKind.u8 (0 : Int), V.int IntKind.u8 (0 : Int), V.int IntKind.u8 (0 : Int), V.int IntKind.u8 (0 : Int), V.int IntKind.u8 (0 : Int), V.int IntKind.u8 (0 : Int), V.int IntKind.u8 (0 : Int), V.int IntKind.u8 (0 : Int), V.int IntKind.u8 (0 : Int), V.int IntKind.u8 (0 : Int), V.int IntKind.u8 (0 : Int), V.int IntKind.u8 (0 : Int), V.int IntKind.u8 (0 : Int), V.int IntKind.u8 (0 : Int), V.int IntKind.u8 (0 : Int), V.int IntKind.u8 (0 : Int), V.int IntKind.u8 (0 : Int), V.int IntKind.u8 (0 : Int), V.int IntKind.u8 (0 : Int), V.int IntKind.u8 (0 : Int), V.int IntKind.u8 (0 : Int), V.int IntKind.u8 (0 : Int), V.int IntKind.u8 (0 : Int), V.int IntKind.u8 (0 : Int), V.int IntKind.u8 (0 : Int), V.int IntKind.u8 (0 : Int), V.int IntKind.u8 (0 : Int), V.int IntKind.u8 (0 : Int), V.int IntKind.u8 (0 : Int), V.int IntKind.u8 (0 : Int), V.int IntKind.u8 (0 : Int), V.int IntKind.u8 (0 : Int), V.int IntKind.u8 (0 : Int), V.int IntKind.u8 (0 : Int), V.int IntKind.u8 (0 : Int), V.int IntKind.u8 (0 : Int), V.int IntKind.u8 (0 : Int), V.int IntKind.u8 (0 : Int), V.int IntKind.u8 (0 : Int), V.int IntKind.u8 (0 : Int)], eqOk := true } := by kernel_rfl
theorem Tryz.ti254 : ti Tryz.prog 254 = some { d := D.other, size := 1, bytes := 0, zero := V.undef, eqOk := true } := by kernel_rfl
theorem Tryz.ti255 : ti Tryz.prog 255 = some { d := D.func, size := 1, bytes := 8, zero := V.nilfunc, eqOk := true } := by kernel_rfl
theorem Tryz.ti256 : ti Tryz.prog 256 = some { d := D.func, size := 1, bytes := 8, zero := V.nilfunc, eqOk := true } := by kernel_rfl
theorem Tryz.ti257 : ti Tryz.prog 257 = some { d := D.func, size := 1, bytes := 8, zero := V.nilfunc, eqOk := true } := by kernel_rfl
theorem Tryz.ti258 : ti Tryz.prog 258 = some { d := D.struct [(0, 17), (1, 17), (2, 17), (3, 9)], size := 4, bytes := 40, zero := V.agg [V.nil, V.nil, V.nil, V.str []], eqOk := false } := by kernel_rfl
theorem Tryz.ti259 : ti Tryz.prog 259 = some { d := D.struct [(0, 17), (1, 17), (2, 17), (3, 9)], size := 4, bytes := 40, zero := V.agg [V.nil, V.nil, V.nil, V.str []], eqOk := false } := by kernel_rfl
theorem Tryz.ti260 : ti Tryz.prog 260 = some { d := D.array 0 16, size := 0, bytes := 0, zero := V.agg [], eqOk := true } := by kernel_rfl
theorem Tryz.ti261 : ti Tryz.prog 261 = some { d := D.struct [(0, 260)], size := 0, bytes := 0, zero := V.agg [], eqOk := false } := by kernel_rfl
theorem Tryz.ti262 : ti Tryz.prog 262 = some { d := D.struct [(0, 260)], size := 0, bytes := 0, zero := V.agg [], eqOk := false } := by kernel_rfl
theorem Tryz.ti263 : ti Tryz.prog 263 = some { d := D.int IntKind.u8, size := 1, bytes := 1, zero := V.int IntKind.u8 (0 : Int), eqOk := true } := by kernel_rfl
theorem Tryz.ti264 : ti Tryz.prog 264 = some { d := D.int IntKind.u8, size := 1, bytes := 1, zero := V.int IntKind.u8 (0 : Int), eqOk := true } := by kernel_rfl
theorem Tryz.ti265 : ti Tryz.prog 265 = some { d := D.func, size := 1, bytes := 8, zero := V.nilfunc, eqOk := true } := by kernel_rfl
theorem Tryz.ti266 : ti Tryz.prog 266 = some { d := D.int IntKind.i32, size := 1, bytes := 4, zero := V.int IntKind.i32 (0 : Int), eqOk := true } := by kernel_rfl
theorem Tryz.ti267 : ti Tryz.prog 267 = some { d := D.int IntKind.i32, size := 1, bytes := 4, zero := V.int IntKind.i32 (0 : Int), eqOk := true } := by kernel_rfl
theorem Tryz.ti268 : ti Tryz.prog 268 = some { d := D.struct [(0, 12), (1, 12), (2, 228), (3, 263), (4, 5), (5, 5), (6, 264), (7, 265), (8, 194), (9, 266), (10, 267)], size := 11, bytes := 48, zero := V.agg [V.int IntKind.u64 (0 : Int), V.int IntKind.u64 (0 : Int), V.int IntKind.u32 (0 : Int), V.int IntKind.u8 (0 : Int), V.int IntKind.u8 (0 : Int), V.int IntKind.u8 (0 : Int), V.int IntKind.u8 (0 : Int), V.nilfunc, V.nil, V.int IntKind.i32 (0 : Int), V.int IntKind.i32 (0 : Int)], eqOk := false } := by kernel_rfl
theorem Tryz.ti269 : ti Tryz.prog 269 = some { d := D.struct [(0, 12), (1, 12), (2, 228), (3, 263), (4, 5), (5, 5), (6, 264), (7, 265), (8, 194), (9, 266), (10, 267)], size := 11, bytes := 48, zero := V.agg [V.int IntKind.u64 (0 : Int), V.int IntKind.u64 (0 : Int), V.int IntKind.u32 (0 : Int), V.int IntKind.u8 (0 : Int), V.int IntKind.u8 (0 : Int), V.int IntKind.u8 (0 : Int), V.int IntKind.u8 (0 : Int), V.nilfunc, V.nil, V.int IntKind.i32 (0 : Int), V.int IntKind.i32 (0 : Int)], eqOk := false } := by kernel_rfl

end Go.Abs

namespace Go.Abs
set_option linter.unusedSimpArgs false
set_option linter.unusedVariables false
open Go Go.Proofs

/- what stands for a function without a body -/
def replP : List V → Option V
  | [.str s, .str old, .str new] => if s.length < 4294967281 ∧ 1 ≤ old.length ∧ s.length + Lib.count s old * new.length ≤ 140737488355328 then some (.str (Lib.replaceAll s old new)) else none
  | _ => none
def strsOf : List V → Option (List (List UInt8))
  | [] => some []
  | .str s :: r => (strsOf r).map (s :: ·)
  | _ :: _ => none
def joinP : List V → Option V
  | [.slice _ xs, .str sep] => match strsOf xs with
    | some ss => if ss.length ≤ 140737488355328 ∧ (Lib.join ss sep).length ≤ 140737488355328 then some (.str (Lib.join ss sep)) else none
    | none => none
  | _ => none
def itoaP : List V → Option V
  | [.int .i64 n] => if -9223372036854775808 ≤ n ∧ n ≤ 9223372036854775807 then some (.str (Lib.itoa n)) else none
  | _ => none
def upperP : List V → Option V
  | [.str s] => if s.length ≤ 140737488355328 ∧ s.all (fun b => decide (b.toNat < 128)) = true then some (.str (Lib.toUpperA s)) else none
  | _ => none
def pr0 : Prims := fun f => if f = 137 then some (.pure replP) else if f = 87 then some (.pure joinP) else if f = 75 then some (.grab 58) else if f = 89 then some (.pure itoaP) else if f = 93 then some (.pure upperP) else none

noncomputable def EV : Oracle := ev Tryz.prog pr0

theorem EV_mki {f : FuncId} {fn : Func} {c : Code} (hp : pr0 f = none) (hf : Tryz.prog.funcs[f]? = some fn) (hb : fn.body = some c) (ho : okDraws c = true) (a : List V) (s : St) :
    EV f a s = @mki Tryz.prog EV s.length fn.results.toList ⟨[.code c]⟩ (a ++ List.replicate (fn.ntmps - a.length) .undef) s   := ev_mki hp hf hb ho a s

theorem strsOf_map : ∀ l : List (List UInt8), strsOf (l.map V.str) = some l
  | [] => rfl
  | x :: l => by simp [strsOf, strsOf_map l]
end Go.Abs

