/- What each type of the seat is, to the abstract interpreter. -/
import Derived.Test.YthdcamicjblnkaaAbsLim
import Derived.Test.YthdcamicjblnkaaProg
namespace Go.Abs
open Go Go.Proofs

theorem Try.ti0 : ti Try.prog 0 = some { d := D.other, size := 1, bytes := 0, zero := V.undef, eqOk := true } := by kernel_rfl
theorem Try.ti1 : ti Try.prog 1 = some { d := D.func, size := 1, bytes := 8, zero := V.nilfunc, eqOk := true } := by kernel_rfl
theorem Try.ti2 : ti Try.prog 2 = some { d := D.int IntKind.i64, size := 1, bytes := 8, zero := V.int IntKind.i64 (0 : Int), eqOk := true } := by kernel_rfl
theorem Try.ti3 : ti Try.prog 3 = some { d := D.int IntKind.i64, size := 1, bytes := 8, zero := V.int IntKind.i64 (0 : Int), eqOk := true } := by kernel_rfl
theorem Try.ti4 : ti Try.prog 4 = some { d := D.bool, size := 1, bytes := 1, zero := V.bool false, eqOk := true } := by kernel_rfl
theorem Try.ti5 : ti Try.prog 5 = some { d := D.int IntKind.u8, size := 1, bytes := 1, zero := V.int IntKind.u8 (0 : Int), eqOk := true } := by kernel_rfl
theorem Try.ti6 : ti Try.prog 6 = some { d := D.int IntKind.u8, size := 1, bytes := 1, zero := V.int IntKind.u8 (0 : Int), eqOk := true } := by kernel_rfl
theorem Try.ti7 : ti Try.prog 7 = some { d := D.struct [(0, 2), (1, 3), (2, 4), (3, 6)], size := 4, bytes := 24, zero := V.agg [V.int IntKind.i64 (0 : Int), V.int IntKind.i64 (0 : Int), V.bool false, V.int IntKind.u8 (0 : Int)], eqOk := true } := by kernel_rfl
theorem Try.ti8 : ti Try.prog 8 = some { d := D.struct [(0, 2), (1, 3), (2, 4), (3, 6)], size := 4, bytes := 24, zero := V.agg [V.int IntKind.i64 (0 : Int), V.int IntKind.i64 (0 : Int), V.bool false, V.int IntKind.u8 (0 : Int)], eqOk := true } := by kernel_rfl
theorem Try.ti9 : ti Try.prog 9 = some { d := D.string, size := 1, bytes := 16, zero := V.str [], eqOk := true } := by kernel_rfl
theorem Try.ti10 : ti Try.prog 10 = some { d := D.string, size := 1, bytes := 16, zero := V.str [], eqOk := true } := by kernel_rfl
theorem Try.ti11 : ti Try.prog 11 = some { d := D.string, size := 1, bytes := 16, zero := V.str [], eqOk := true } := by kernel_rfl
theorem Try.ti12 : ti Try.prog 12 = some { d := D.int IntKind.u64, size := 1, bytes := 8, zero := V.int IntKind.u64 (0 : Int), eqOk := true } := by kernel_rfl
theorem Try.ti13 : ti Try.prog 13 = some { d := D.struct [(0, 9), (1, 12)], size := 2, bytes := 24, zero := V.agg [V.str [], V.int IntKind.u64 (0 : Int)], eqOk := false } := by kernel_rfl
theorem Try.ti14 : ti Try.prog 14 = some { d := D.struct [(0, 9), (1, 12)], size := 2, bytes := 24, zero := V.agg [V.str [], V.int IntKind.u64 (0 : Int)], eqOk := false } := by kernel_rfl
theorem Try.ti15 : ti Try.prog 15 = some { d := D.pointer 155, size := 1, bytes := 8, zero := V.nil, eqOk := true } := by kernel_rfl
theorem Try.ti16 : ti Try.prog 16 = some { d := D.pointer 158, size := 1, bytes := 8, zero := V.nil, eqOk := true } := by kernel_rfl
theorem Try.ti17 : ti Try.prog 17 = some { d := D.pointer 167, size := 1, bytes := 8, zero := V.nil, eqOk := true } := by kernel_rfl
theorem Try.ti18 : ti Try.prog 18 = some { d := D.struct [(0, 17)], size := 1, bytes := 8, zero := V.agg [V.nil], eqOk := false } := by kernel_rfl
theorem Try.ti19 : ti Try.prog 19 = some { d := D.struct [(0, 17)], size := 1, bytes := 8, zero := V.agg [V.nil], eqOk := false } := by kernel_rfl
theorem Try.ti20 : ti Try.prog 20 = some { d := D.iface, size := 1, bytes := 16, zero := V.niliface, eqOk := true } := by kernel_rfl
theorem Try.ti21 : ti Try.prog 21 = some { d := D.int IntKind.i32, size := 1, bytes := 4, zero := V.int IntKind.i32 (0 : Int), eqOk := true } := by kernel_rfl
theorem Try.ti22 : ti Try.prog 22 = some { d := D.slice 41, size := 1, bytes := 24, zero := V.slice Own.full [], eqOk := true } := by kernel_rfl
theorem Try.ti23 : ti Try.prog 23 = some { d := D.slice 51, size := 1, bytes := 24, zero := V.slice Own.full [], eqOk := true } := by kernel_rfl
theorem Try.ti24 : ti Try.prog 24 = some { d := D.struct [(0, 22), (1, 23)], size := 2, bytes := 48, zero := V.agg [V.slice Own.full [], V.slice Own.full []], eqOk := true } := by kernel_rfl
theorem Try.ti25 : ti Try.prog 25 = some { d := D.struct [(0, 22), (1, 23)], size := 2, bytes := 48, zero := V.agg [V.slice Own.full [], V.slice Own.full []], eqOk := true } := by kernel_rfl
theorem Try.ti26 : ti Try.prog 26 = some { d := D.slice 37, size := 1, bytes := 24, zero := V.slice Own.full [], eqOk := true } := by kernel_rfl
theorem Try.ti27 : ti Try.prog 27 = some { d := D.func, size := 1, bytes := 8, zero := V.nilfunc, eqOk := true } := by kernel_rfl
theorem Try.ti28 : ti Try.prog 28 = some { d := D.func, size := 1, bytes := 8, zero := V.nilfunc, eqOk := true } := by kernel_rfl
theorem Try.ti29 : ti Try.prog 29 = some { d := D.func, size := 1, bytes := 8, zero := V.nilfunc, eqOk := true } := by kernel_rfl
theorem Try.ti30 : ti Try.prog 30 = some { d := D.func, size := 1, bytes := 8, zero := V.nilfunc, eqOk := true } := by kernel_rfl
theorem Try.ti31 : ti Try.prog 31 = some { d := D.slice 60, size := 1, bytes := 24, zero := V.slice Own.full [], eqOk := true } := by kernel_rfl
theorem Try.ti32 : ti Try.prog 32 = some { d := D.slice 83, size := 1, bytes := 24, zero := V.slice Own.full [], eqOk := true } := by kernel_rfl
theorem Try.ti33 : ti Try.prog 33 = some { d := D.struct [(0, 31), (1, 32)], size := 2, bytes := 48, zero := V.agg [V.slice Own.full [], V.slice Own.full []], eqOk := true } := by kernel_rfl
theorem Try.ti34 : ti Try.prog 34 = some { d := D.struct [(0, 31), (1, 32)], size := 2, bytes := 48, zero := V.agg [V.slice Own.full [], V.slice Own.full []], eqOk := true } := by kernel_rfl
theorem Try.ti35 : ti Try.prog 35 = some { d := D.func, size := 1, bytes := 8, zero := V.nilfunc, eqOk := true } := by kernel_rfl
theorem Try.ti36 : ti Try.prog 36 = some { d := D.struct [(0, 3), (1, 3), (2, 9)], size := 3, bytes := 32, zero := V.agg [V.int IntKind.i64 (0 : Int), V.int IntKind.i64 (0 : Int), V.str []], eqOk := true } := by kernel_rfl
theorem Try.ti37 : ti Try.prog 37 = some { d := D.struct [(0, 3), (1, 3), (2, 9)], size := 3, bytes := 32, zero := V.agg [V.int IntKind.i64 (0 : Int), V.int IntKind.i64 (0 : Int), V.str []], eqOk := true } := by kernel_rfl
theorem Try.ti38 : ti Try.prog 38 = some { d := D.struct [(0, 4), (1, 4), (2, 37)], size := 5, bytes := 40, zero := V.agg [V.bool false, V.bool false, V.int IntKind.i64 (0 : Int), V.int IntKind.i64 (0 : Int), V.str []], eqOk := true } := by kernel_rfl
theorem Try.ti39 : ti Try.prog 39 = some { d := D.struct [(0, 4), (1, 4), (2, 37)], size := 5, bytes := 40, zero := V.agg [V.bool false, V.bool false, V.int IntKind.i64 (0 : Int), V.int IntKind.i64 (0 : Int), V.str []], eqOk := true } := by kernel_rfl
theorem Try.ti40 : ti Try.prog 40 = some { d := D.struct [(0, 3), (1, 39), (6, 39)], size := 11, bytes := 88, zero := V.agg [V.int IntKind.i64 (0 : Int), V.bool false, V.bool false, V.int IntKind.i64 (0 : Int), V.int IntKind.i64 (0 : Int), V.str [], V.bool false, V.bool false, V.int IntKind.i64 (0 : Int), V.int IntKind.i64 (0 : Int), V.str []], eqOk := true } := by kernel_rfl
theorem Try.ti41 : ti Try.prog 41 = some { d := D.struct [(0, 3), (1, 39), (6, 39)], size := 11, bytes := 88, zero := V.agg [V.int IntKind.i64 (0 : Int), V.bool false, V.bool false, V.int IntKind.i64 (0 : Int), V.int IntKind.i64 (0 : Int), V.str [], V.bool false, V.bool false, V.int IntKind.i64 (0 : Int), V.int IntKind.i64 (0 : Int), V.str []], eqOk := true } := by kernel_rfl
theorem Try.ti42 : ti Try.prog 42 = some { d := D.pointer 68, size := 1, bytes := 8, zero := V.nil, eqOk := true } := by kernel_rfl
theorem Try.ti43 : ti Try.prog 43 = some { d := D.func, size := 1, bytes := 8, zero := V.nilfunc, eqOk := true } := by kernel_rfl
theorem Try.ti44 : ti Try.prog 44 = some { d := D.int IntKind.i64, size := 1, bytes := 8, zero := V.int IntKind.i64 (0 : Int), eqOk := true } := by kernel_rfl
theorem Try.ti45 : ti Try.prog 45 = some { d := D.func, size := 1, bytes := 8, zero := V.nilfunc, eqOk := true } := by kernel_rfl
theorem Try.ti46 : ti Try.prog 46 = some { d := D.slice 3, size := 1, bytes := 24, zero := V.slice Own.full [], eqOk := true } := by kernel_rfl
theorem Try.ti47 : ti Try.prog 47 = some { d := D.func, size := 1, bytes := 8, zero := V.nilfunc, eqOk := true } := by kernel_rfl
theorem Try.ti48 : ti Try.prog 48 = some { d := D.func, size := 1, bytes := 8, zero := V.nilfunc, eqOk := true } := by kernel_rfl
theorem Try.ti49 : ti Try.prog 49 = some { d := D.func, size := 1, bytes := 8, zero := V.nilfunc, eqOk := true } := by kernel_rfl
theorem Try.ti50 : ti Try.prog 50 = some { d := D.struct [(0, 9), (1, 37), (4, 3), (5, 3), (6, 23)], size := 7, bytes := 88, zero := V.agg [V.str [], V.int IntKind.i64 (0 : Int), V.int IntKind.i64 (0 : Int), V.str [], V.int IntKind.i64 (0 : Int), V.int IntKind.i64 (0 : Int), V.slice Own.full []], eqOk := true } := by kernel_rfl
theorem Try.ti51 : ti Try.prog 51 = some { d := D.struct [(0, 9), (1, 37), (4, 3), (5, 3), (6, 23)], size := 7, bytes := 88, zero := V.agg [V.str [], V.int IntKind.i64 (0 : Int), V.int IntKind.i64 (0 : Int), V.str [], V.int IntKind.i64 (0 : Int), V.int IntKind.i64 (0 : Int), V.slice Own.full []], eqOk := true } := by kernel_rfl
theorem Try.ti52 : ti Try.prog 52 = some { d := D.func, size := 1, bytes := 8, zero := V.nilfunc, eqOk := true } := by kernel_rfl
theorem Try.ti53 : ti Try.prog 53 = some { d := D.func, size := 1, bytes := 8, zero := V.nilfunc, eqOk := true } := by kernel_rfl
theorem Try.ti54 : ti Try.prog 54 = some { d := D.func, size := 1, bytes := 8, zero := V.nilfunc, eqOk := true } := by kernel_rfl
theorem Try.ti55 : ti Try.prog 55 = some { d := D.other, size := 1, bytes := 0, zero := V.undef, eqOk := true } := by kernel_rfl
theorem Try.ti56 : ti Try.prog 56 = some { d := D.func, size := 1, bytes := 8, zero := V.nilfunc, eqOk := true } := by kernel_rfl
theorem Try.ti57 : ti Try.prog 57 = some { d := D.slice 26, size := 1, bytes := 24, zero := V.slice Own.full [], eqOk := true } := by kernel_rfl
theorem Try.ti58 : ti Try.prog 58 = some { d := D.struct [(0, 4), (1, 4), (2, 37)], size := 5, bytes := 40, zero := V.agg [V.bool false, V.bool false, V.int IntKind.i64 (0 : Int), V.int IntKind.i64 (0 : Int), V.str []], eqOk := true } := by kernel_rfl
theorem Try.ti59 : ti Try.prog 59 = some { d := D.struct [(0, 3), (1, 58), (6, 58)], size := 11, bytes := 88, zero := V.agg [V.int IntKind.i64 (0 : Int), V.bool false, V.bool false, V.int IntKind.i64 (0 : Int), V.int IntKind.i64 (0 : Int), V.str [], V.bool false, V.bool false, V.int IntKind.i64 (0 : Int), V.int IntKind.i64 (0 : Int), V.str []], eqOk := true } := by kernel_rfl
theorem Try.ti60 : ti Try.prog 60 = some { d := D.struct [(0, 3), (1, 58), (6, 58)], size := 11, bytes := 88, zero := V.agg [V.int IntKind.i64 (0 : Int), V.bool false, V.bool false, V.int IntKind.i64 (0 : Int), V.int IntKind.i64 (0 : Int), V.str [], V.bool false, V.bool false, V.int IntKind.i64 (0 : Int), V.int IntKind.i64 (0 : Int), V.str []], eqOk := true } := by kernel_rfl
theorem Try.ti61 : ti Try.prog 61 = some { d := D.func, size := 1, bytes := 8, zero := V.nilfunc, eqOk := true } := by kernel_rfl
theorem Try.ti62 : ti Try.prog 62 = some { d := D.other, size := 1, bytes := 0, zero := V.undef, eqOk := true } := by kernel_rfl
theorem Try.ti63 : ti Try.prog 63 = some { d := D.func, size := 1, bytes := 8, zero := V.nilfunc, eqOk := true } := by kernel_rfl
theorem Try.ti64 : ti Try.prog 64 = some { d := D.func, size := 1, bytes := 8, zero := V.nilfunc, eqOk := true } := by kernel_rfl
theorem Try.ti65 : ti Try.prog 65 = some { d := D.other, size := 1, bytes := 8, zero := V.undef, eqOk := true } := by kernel_rfl
theorem Try.ti66 : ti Try.prog 66 = some { d := D.other, size := 1, bytes := 8, zero := V.undef, eqOk := true } := by kernel_rfl
theorem Try.ti67 : ti Try.prog 67 = some { d := D.struct [(0, 65), (1, 66), (2, 46)], size := 3, bytes := 40, zero := V.agg [V.undef, V.undef, V.slice Own.full []], eqOk := true } := by kernel_rfl
theorem Try.ti68 : ti Try.prog 68 = some { d := D.struct [(0, 65), (1, 66), (2, 46)], size := 3, bytes := 40, zero := V.agg [V.undef, V.undef, V.slice Own.full []], eqOk := true } := by kernel_rfl
theorem Try.ti69 : ti Try.prog 69 = some { d := D.other, size := 1, bytes := 0, zero := V.undef, eqOk := true } := by kernel_rfl
theorem Try.ti70 : ti Try.prog 70 = some { d := D.func, size := 1, bytes := 8, zero := V.nilfunc, eqOk := true } := by kernel_rfl
theorem Try.ti71 : ti Try.prog 71 = some { d := D.func, size := 1, bytes := 8, zero := V.nilfunc, eqOk := true } := by kernel_rfl
theorem Try.ti72 : ti Try.prog 72 = some { d := D.slice 74, size := 1, bytes := 24, zero := V.slice Own.full [], eqOk := true } := by kernel_rfl
theorem Try.ti73 : ti Try.prog 73 = some { d := D.struct [(0, 3), (1, 41)], size := 12, bytes := 96, zero := V.agg [V.int IntKind.i64 (0 : Int), V.int IntKind.i64 (0 : Int), V.bool false, V.bool false, V.int IntKind.i64 (0 : Int), V.int IntKind.i64 (0 : Int), V.str [], V.bool false, V.bool false, V.int IntKind.i64 (0 : Int), V.int IntKind.i64 (0 : Int), V.str []], eqOk := true } := by kernel_rfl
theorem Try.ti74 : ti Try.prog 74 = some { d := D.struct [(0, 3), (1, 41)], size := 12, bytes := 96, zero := V.agg [V.int IntKind.i64 (0 : Int), V.int IntKind.i64 (0 : Int), V.bool false, V.bool false, V.int IntKind.i64 (0 : Int), V.int IntKind.i64 (0 : Int), V.str [], V.bool false, V.bool false, V.int IntKind.i64 (0 : Int), V.int IntKind.i64 (0 : Int), V.str []], eqOk := true } := by kernel_rfl
theorem Try.ti75 : ti Try.prog 75 = some { d := D.func, size := 1, bytes := 8, zero := V.nilfunc, eqOk := true } := by kernel_rfl
theorem Try.ti76 : ti Try.prog 76 = some { d := D.func, size := 1, bytes := 8, zero := V.nilfunc, eqOk := true } := by kernel_rfl
theorem Try.ti77 : ti Try.prog 77 = some { d := D.func, size := 1, bytes := 8, zero := V.nilfunc, eqOk := true } := by kernel_rfl
theorem Try.ti78 : ti Try.prog 78 = some { d := D.func, size := 1, bytes := 8, zero := V.nilfunc, eqOk := true } := by kernel_rfl
theorem Try.ti79 : ti Try.prog 79 = some { d := D.other, size := 1, bytes := 0, zero := V.undef, eqOk := true } := by kernel_rfl
theorem Try.ti80 : ti Try.prog 80 = some { d := D.func, size := 1, bytes := 8, zero := V.nilfunc, eqOk := true } := by kernel_rfl
theorem Try.ti81 : ti Try.prog 81 = some { d := D.func, size := 1, bytes := 8, zero := V.nilfunc, eqOk := true } := by kernel_rfl
theorem Try.ti82 : ti Try.prog 82 = some { d := D.struct [(0, 9), (1, 37), (4, 3), (5, 3), (6, 32)], size := 7, bytes := 88, zero := V.agg [V.str [], V.int IntKind.i64 (0 : Int), V.int IntKind.i64 (0 : Int), V.str [], V.int IntKind.i64 (0 : Int), V.int IntKind.i64 (0 : Int), V.slice Own.full []], eqOk := true } := by kernel_rfl
theorem Try.ti83 : ti Try.prog 83 = some { d := D.struct [(0, 9), (1, 37), (4, 3), (5, 3), (6, 32)], size := 7, bytes := 88, zero := V.agg [V.str [], V.int IntKind.i64 (0 : Int), V.int IntKind.i64 (0 : Int), V.str [], V.int IntKind.i64 (0 : Int), V.int IntKind.i64 (0 : Int), V.slice Own.full []], eqOk := true } := by kernel_rfl
theorem Try.ti84 : ti Try.prog 84 = some { d := D.func, size := 1, bytes := 8, zero := V.nilfunc, eqOk := true } := by kernel_rfl
theorem Try.ti85 : ti Try.prog 85 = some { d := D.func, size := 1, bytes := 8, zero := V.nilfunc, eqOk := true } := by kernel_rfl
theorem Try.ti86 : ti Try.prog 86 = some { d := D.func, size := 1, bytes := 8, zero := V.nilfunc, eqOk := true } := by kernel_rfl
theorem Try.ti87 : ti Try.prog 87 = some { d := D.func, size := 1, bytes := 8, zero := V.nilfunc, eqOk := true } := by kernel_rfl
theorem Try.ti88 : ti Try.prog 88 = some { d := D.other, size := 1, bytes := 0, zero := V.undef, eqOk := true } := by kernel_rfl
theorem Try.ti89 : ti Try.prog 89 = some { d := D.func, size := 1, bytes := 8, zero := V.nilfunc, eqOk := true } := by kernel_rfl
theorem Try.ti90 : ti Try.prog 90 = some { d := D.other, size := 1, bytes := 0, zero := V.undef, eqOk := true } := by kernel_rfl
theorem Try.ti91 : ti Try.prog 91 = some { d := D.func, size := 1, bytes := 8, zero := V.nilfunc, eqOk := true } := by kernel_rfl
theorem Try.ti92 : ti Try.prog 92 = some { d := D.other, size := 1, bytes := 0, zero := V.undef, eqOk := true } := by kernel_rfl
theorem Try.ti93 : ti Try.prog 93 = some { d := D.func, size := 1, bytes := 8, zero := V.nilfunc, eqOk := true } := by kernel_rfl
theorem Try.ti94 : ti Try.prog 94 = some { d := D.other, size := 1, bytes := 0, zero := V.undef, eqOk := true } := by kernel_rfl
theorem Try.ti95 : ti Try.prog 95 = some { d := D.func, size := 1, bytes := 8, zero := V.nilfunc, eqOk := true } := by kernel_rfl
theorem Try.ti96 : ti Try.prog 96 = some { d := D.func, size := 1, bytes := 8, zero := V.nilfunc, eqOk := true } := by kernel_rfl
theorem Try.ti97 : ti Try.prog 97 = some { d := D.func, size := 1, bytes := 8, zero := V.nilfunc, eqOk := true } := by kernel_rfl
theorem Try.ti98 : ti Try.prog 98 = some { d := D.int IntKind.u64, size := 1, bytes := 8, zero := V.int IntKind.u64 (0 : Int), eqOk := true } := by kernel_rfl
theorem Try.ti99 : ti Try.prog 99 = some { d := D.func, size := 1, bytes := 8, zero := V.nilfunc, eqOk := true } := by kernel_rfl
theorem Try.ti100 : ti Try.prog 100 = some { d := D.func, size := 1, bytes := 8, zero := V.nilfunc, eqOk := true } := by kernel_rfl
theorem Try.ti101 : ti Try.prog 101 = some { d := D.func, size := 1, bytes := 8, zero := V.nilfunc, eqOk := true } := by kernel_rfl
theorem Try.ti102 : ti Try.prog 102 = some { d := D.func, size := 1, bytes := 8, zero := V.nilfunc, eqOk := true } := by kernel_rfl
theorem Try.ti103 : ti Try.prog 103 = some { d := D.func, size := 1, bytes := 8, zero := V.nilfunc, eqOk := true } := by kernel_rfl
theorem Try.ti104 : ti Try.prog 104 = some { d := D.func, size := 1, bytes := 8, zero := V.nilfunc, eqOk := true } := by kernel_rfl
theorem Try.ti105 : ti Try.prog 105 = some { d := D.struct [(0, 44), (1, 3)], size := 2, bytes := 16, zero := V.agg [V.int IntKind.i64 (0 : Int), V.int IntKind.i64 (0 : Int)], eqOk := true } := by kernel_rfl
theorem Try.ti106 : ti Try.prog 106 = some { d := D.struct [(0, 44), (1, 3)], size := 2, bytes := 16, zero := V.agg [V.int IntKind.i64 (0 : Int), V.int IntKind.i64 (0 : Int)], eqOk := true } := by kernel_rfl
theorem Try.ti107 : ti Try.prog 107 = some { d := D.func, size := 1, bytes := 8, zero := V.nilfunc, eqOk := true } := by kernel_rfl
theorem Try.ti108 : ti Try.prog 108 = some { d := D.slice 26, size := 1, bytes := 24, zero := V.slice Own.full [], eqOk := true } := by kernel_rfl
theorem Try.ti109 : ti Try.prog 109 = some { d := D.func, size := 1, bytes := 8, zero := V.nilfunc, eqOk := true } := by kernel_rfl
theorem Try.ti110 : ti Try.prog 110 = some { d := D.func, size := 1, bytes := 8, zero := V.nilfunc, eqOk := true } := by kernel_rfl
theorem Try.ti111 : ti Try.prog 111 = some { d := D.func, size := 1, bytes := 8, zero := V.nilfunc, eqOk := true } := by kernel_rfl
theorem Try.ti112 : ti Try.prog 112 = some { d := D.func, size := 1, bytes := 8, zero := V.nilfunc, eqOk := true } := by kernel_rfl
theorem Try.ti113 : ti Try.prog 113 = some { d := D.func, size := 1, bytes := 8, zero := V.nilfunc, eqOk := true } := by kernel_rfl
theorem Try.ti114 : ti Try.prog 114 = some { d := D.func, size := 1, bytes := 8, zero := V.nilfunc, eqOk := true } := by kernel_rfl
theorem Try.ti115 : ti Try.prog 115 = some { d := D.func, size := 1, bytes := 8, zero := V.nilfunc, eqOk := true } := by kernel_rfl
theorem Try.ti116 : ti Try.prog 116 = some { d := D.int IntKind.i64, size := 1, bytes := 8, zero := V.int IntKind.i64 (0 : Int), eqOk := true } := by kernel_rfl
theorem Try.ti117 : ti Try.prog 117 = some { d := D.other, size := 1, bytes := 0, zero := V.undef, eqOk := true } := by kernel_rfl
theorem Try.ti118 : ti Try.prog 118 = some { d := D.func, size := 1, bytes := 8, zero := V.nilfunc, eqOk := true } := by kernel_rfl
theorem Try.ti119 : ti Try.prog 119 = some { d := D.func, size := 1, bytes := 8, zero := V.nilfunc, eqOk := true } := by kernel_rfl
theorem Try.ti120 : ti Try.prog 120 = some { d := D.func, size := 1, bytes := 8, zero := V.nilfunc, eqOk := true } := by kernel_rfl
theorem Try.ti121 : ti Try.prog 121 = some { d := D.func, size := 1, bytes := 8, zero := V.nilfunc, eqOk := true } := by kernel_rfl
theorem Try.ti122 : ti Try.prog 122 = some { d := D.other, size := 1, bytes := 0, zero := V.undef, eqOk := true } := by kernel_rfl
theorem Try.ti123 : ti Try.prog 123 = some { d := D.func, size := 1, bytes := 8, zero := V.nilfunc, eqOk := true } := by kernel_rfl
theorem Try.ti124 : ti Try.prog 124 = some { d := D.func, size := 1, bytes := 8, zero := V.nilfunc, eqOk := true } := by kernel_rfl
theorem Try.ti125 : ti Try.prog 125 = some { d := D.int IntKind.u32, size := 1, bytes := 4, zero := V.int IntKind.u32 (0 : Int), eqOk := true } := by kernel_rfl
theorem Try.ti126 : ti Try.prog 126 = some { d := D.func, size := 1, bytes := 8, zero := V.nilfunc, eqOk := true } := by kernel_rfl
theorem Try.ti127 : ti Try.prog 127 = some { d := D.int IntKind.u64, size := 1, bytes := 8, zero := V.int IntKind.u64 (0 : Int), eqOk := true } := by kernel_rfl
theorem Try.ti128 : ti Try.prog 128 = some { d := D.other, size := 1, bytes := 0, zero := V.undef, eqOk := true } := by kernel_rfl
theorem Try.ti129 : ti Try.prog 129 = some { d := D.func, size := 1, bytes := 8, zero := V.nilfunc, eqOk := true } := by kernel_rfl
theorem Try.ti130 : ti Try.prog 130 = some { d := D.func, size := 1, bytes := 8, zero := V.nilfunc, eqOk := true } := by kernel_rfl
theorem Try.ti131 : ti Try.prog 131 = some { d := D.func, size := 1, bytes := 8, zero := V.nilfunc, eqOk := true } := by kernel_rfl
theorem Try.ti132 : ti Try.prog 132 = some { d := D.func, size := 1, bytes := 8, zero := V.nilfunc, eqOk := true } := by kernel_rfl
theorem Try.ti133 : ti Try.prog 133 = some { d := D.func, size := 1, bytes := 8, zero := V.nilfunc, eqOk := true } := by kernel_rfl
theorem Try.ti134 : ti Try.prog 134 = some { d := D.func, size := 1, bytes := 8, zero := V.nilfunc, eqOk := true } := by kernel_rfl
theorem Try.ti135 : ti Try.prog 135 = some { d := D.slice 9, size := 1, bytes := 24, zero := V.slice Own.full [], eqOk := true } := by kernel_rfl
theorem Try.ti136 : ti Try.prog 136 = some { d := D.func, size := 1, bytes := 8, zero := V.nilfunc, eqOk := true } := by kernel_rfl
theorem Try.ti137 : ti Try.prog 137 = some { d := D.int IntKind.u64, size := 1, bytes := 8, zero := V.int IntKind.u64 (0 : Int), eqOk := true } := by kernel_rfl
theorem Try.ti138 : ti Try.prog 138 = some { d := D.func, size := 1, bytes := 8, zero := V.nilfunc, eqOk := true } := by kernel_rfl
theorem Try.ti139 : ti Try.prog 139 = some { d := D.func, size := 1, bytes := 8, zero := V.nilfunc, eqOk := true } := by kernel_rfl
theorem Try.ti140 : ti Try.prog 140 = some { d := D.func, size := 1, bytes := 8, zero := V.nilfunc, eqOk := true } := by kernel_rfl
theorem Try.ti141 : ti Try.prog 141 = some { d := D.pointer 3, size := 1, bytes := 8, zero := V.nil, eqOk := true } := by kernel_rfl
theorem Try.ti142 : ti Try.prog 142 = some { d := D.func, size := 1, bytes := 8, zero := V.nilfunc, eqOk := true } := by kernel_rfl
theorem Try.ti143 : ti Try.prog 143 = some { d := D.func, size := 1, bytes := 8, zero := V.nilfunc, eqOk := true } := by kernel_rfl
theorem Try.ti144 : ti Try.prog 144 = some { d := D.func, size := 1, bytes := 8, zero := V.nilfunc, eqOk := true } := by kernel_rfl
theorem Try.ti145 : ti Try.prog 145 = some { d := D.func, size := 1, bytes := 8, zero := V.nilfunc, eqOk := true } := by kernel_rfl
theorem Try.ti146 : ti Try.prog 146 = some { d := D.pointer 137, size := 1, bytes := 8, zero := V.nil, eqOk := true } := by kernel_rfl
theorem Try.ti147 : ti Try.prog 147 = some { d := D.func, size := 1, bytes := 8, zero := V.nilfunc, eqOk := true } := by kernel_rfl
theorem Try.ti148 : ti Try.prog 148 = some { d := D.other, size := 1, bytes := 0, zero := V.undef, eqOk := true } := by kernel_rfl
theorem Try.ti149 : ti Try.prog 149 = some { d := D.func, size := 1, bytes := 8, zero := V.nilfunc, eqOk := true } := by kernel_rfl
theorem Try.ti150 : ti Try.prog 150 = some { d := D.func, size := 1, bytes := 8, zero := V.nilfunc, eqOk := true } := by kernel_rfl
theorem Try.ti151 : ti Try.prog 151 = some { d := D.other, size := 1, bytes := 0, zero := V.undef, eqOk := true } := by kernel_rfl
theorem Try.ti152 : ti Try.prog 152 = some { d := D.func, size := 1, bytes := 8, zero := V.nilfunc, eqOk := true } := by kernel_rfl
theorem Try.ti153 : ti Try.prog 153 = some { d := D.func, size := 1, bytes := 8, zero := V.nilfunc, eqOk := true } := by kernel_rfl
theorem Try.ti154 : ti Try.prog 154 = some { d := D.struct [(0, 17), (1, 17), (2, 17), (3, 9)], size := 4, bytes := 40, zero := V.agg [V.nil, V.nil, V.nil, V.str []], eqOk := false } := by kernel_rfl
theorem Try.ti155 : ti Try.prog 155 = some { d := D.struct [(0, 17), (1, 17), (2, 17), (3, 9)], size := 4, bytes := 40, zero := V.agg [V.nil, V.nil, V.nil, V.str []], eqOk := false } := by kernel_rfl
theorem Try.ti156 : ti Try.prog 156 = some { d := D.array 0 16, size := 0, bytes := 0, zero := V.agg [], eqOk := true } := by kernel_rfl
theorem Try.ti157 : ti Try.prog 157 = some { d := D.struct [(0, 156)], size := 0, bytes := 0, zero := V.agg [], eqOk := false } := by kernel_rfl
theorem Try.ti158 : ti Try.prog 158 = some { d := D.struct [(0, 156)], size := 0, bytes := 0, zero := V.agg [], eqOk := false } := by kernel_rfl
theorem Try.ti159 : ti Try.prog 159 = some { d := D.func, size := 1, bytes := 8, zero := V.nilfunc, eqOk := true } := by kernel_rfl
theorem Try.ti160 : ti Try.prog 160 = some { d := D.int IntKind.u8, size := 1, bytes := 1, zero := V.int IntKind.u8 (0 : Int), eqOk := true } := by kernel_rfl
theorem Try.ti161 : ti Try.prog 161 = some { d := D.int IntKind.u8, size := 1, bytes := 1, zero := V.int IntKind.u8 (0 : Int), eqOk := true } := by kernel_rfl
theorem Try.ti162 : ti Try.prog 162 = some { d := D.func, size := 1, bytes := 8, zero := V.nilfunc, eqOk := true } := by kernel_rfl
theorem Try.ti163 : ti Try.prog 163 = some { d := D.pointer 5, size := 1, bytes := 8, zero := V.nil, eqOk := true } := by kernel_rfl
theorem Try.ti164 : ti Try.prog 164 = some { d := D.int IntKind.i32, size := 1, bytes := 4, zero := V.int IntKind.i32 (0 : Int), eqOk := true } := by kernel_rfl
theorem Try.ti165 : ti Try.prog 165 = some { d := D.int IntKind.i32, size := 1, bytes := 4, zero := V.int IntKind.i32 (0 : Int), eqOk := true } := by kernel_rfl
theorem Try.ti166 : ti Try.prog 166 = some { d := D.struct [(0, 12), (1, 12), (2, 125), (3, 160), (4, 5), (5, 5), (6, 161), (7, 162), (8, 163), (9, 164), (10, 165)], size := 11, bytes := 48, zero := V.agg [V.int IntKind.u64 (0 : Int), V.int IntKind.u64 (0 : Int), V.int IntKind.u32 (0 : Int), V.int IntKind.u8 (0 : Int), V.int IntKind.u8 (0 : Int), V.int IntKind.u8 (0 : Int), V.int IntKind.u8 (0 : Int), V.nilfunc, V.nil, V.int IntKind.i32 (0 : Int), V.int IntKind.i32 (0 : Int)], eqOk := false } := by kernel_rfl
theorem Try.ti167 : ti Try.prog 167 = some { d := D.struct [(0, 12), (1, 12), (2, 125), (3, 160), (4, 5), (5, 5), (6, 161), (7, 162), (8, 163), (9, 164), (10, 165)], size := 11, bytes := 48, zero := V.agg [V.int IntKind.u64 (0 : Int), V.int IntKind.u64 (0 : Int), V.int IntKind.u32 (0 : Int), V.int IntKind.u8 (0 : Int), V.int IntKind.u8 (0 : Int), V.int IntKind.u8 (0 : Int), V.int IntKind.u8 (0 : Int), V.nilfunc, V.nil, V.int IntKind.i32 (0 : Int), V.int IntKind.i32 (0 : Int)], eqOk := false } := by kernel_rfl
theorem Try.ti168 : ti Try.prog 168 = some { d := D.other, size := 1, bytes := 8, zero := V.nil, eqOk := true } := by kernel_rfl

end Go.Abs
