/- What stands for functions without a body, and a function's value under it. -/
import Derived.Test.YtjafjngbllmgbaaDoorAbsFast
import Derived.Lib.Replace
import Derived.Lib.ItoaLen
import Derived.Test.YtjafjngbllmgbaaDoorTi
namespace Go.Abs
set_option linter.unusedSimpArgs false
set_option linter.unusedVariables false
open Go Go.Proofs

/- what stands for a function without a body -/
def replP : List V → Option V
  | [.str s, .str old, .str new] => if s.length < 4294967281 ∧ 1 ≤ old.length ∧ s.length + Lib.count s old * new.length ≤ 140737488355328 then some (.str (Lib.replaceAll s old new)) else none
  | _ => none
def cmpP : List V → Option V
  | [.str a, .str b] => some (.int .i64 (if Op.bytesLess a b then -1 else if a = b then 0 else 1))
  | _ => none
def itoaP : List V → Option V
  | [.int .i64 n] => if -9223372036854775808 ≤ n ∧ n ≤ 9223372036854775807 then some (.str (Lib.itoa n)) else none
  | _ => none
def pr0 : Prims := fun f => if f = 43 then some (.pure replP) else if f = 51 then some (.pure cmpP) else if f = 42 then some (.pure itoaP) else none

noncomputable def EV : Oracle := ev Tryd.prog pr0

theorem EV_mki {f : FuncId} {fn : Func} {c : Code} (hp : pr0 f = none) (hf : Tryd.prog.funcs[f]? = some fn) (hb : fn.body = some c) (ho : okDraws c = true) (a : List V) (s : St) :
    EV f a s = @mki Tryd.prog EV s.length fn.results.toList ⟨[.code c]⟩ (a ++ List.replicate (fn.ntmps - a.length) .undef) s   := ev_mki hp hf hb ho a s

end Go.Abs
