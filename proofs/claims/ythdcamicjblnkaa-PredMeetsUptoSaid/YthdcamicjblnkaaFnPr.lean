/- What stands for functions without a body, and a function's value under it. -/
import Derived.Test.YthdcamicjblnkaaAbsFast
import Derived.Test.YthdcamicjblnkaaAbsCatch
import Derived.Test.YthdcamicjblnkaaTi
namespace Go.Abs
set_option linter.unusedSimpArgs false
set_option linter.unusedVariables false
open Go Go.Proofs

/- what stands for a function without a body -/
def cmpP : List V → Option V
  | [.str a, .str b] => some (.int .i64 (if Op.bytesLess a b then -1 else if a = b then 0 else 1))
  | _ => none
def pr0 : Prims := fun f => if f = 46 then some (.grab 106) else if f = 92 then some (.pure cmpP) else none

noncomputable def EV : Oracle := ev Try.prog pr0

theorem EV_mki {f : FuncId} {fn : Func} {c : Code} (hp : pr0 f = none) (hf : Try.prog.funcs[f]? = some fn) (hb : fn.body = some c) (ho : okDraws c = true) (a : List V) (s : St) :
    EV f a s = @mki Try.prog EV s.length fn.results.toList ⟨[.code c]⟩ (a ++ List.replicate (fn.ntmps - a.length) .undef) s   := ev_mki hp hf hb ho a s

end Go.Abs
