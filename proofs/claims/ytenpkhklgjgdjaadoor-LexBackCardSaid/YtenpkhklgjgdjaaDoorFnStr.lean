/- Operations on texts, one by one. -/
import Derived.Test.YtenpkhklgjgdjaaDoorAbsFast
namespace Go.Abs
open Go

theorem sb_add {a b : List UInt8} (h : a.length + b.length ≤ 4611686018427387904) : strBin .add a b = some (.str (a ++ b)) := if_pos h
theorem sb_eql (a b : List UInt8) : strBin .eql a b = some (.bool (decide (a = b))) := id rfl
theorem sb_neq (a b : List UInt8) : strBin .neq a b = some (.bool (!decide (a = b))) := id rfl
theorem sb_lss (a b : List UInt8) : strBin .lss a b = some (.bool (Op.bytesLess a b)) := id rfl
end Go.Abs
