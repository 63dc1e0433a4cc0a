/- What stands for functions without a body, and a function's value under it. -/
import Derived.Test.YtpmeklllgnnffaaGreatDoorU13
import Derived.Lib.Replace
import Derived.Lib.Join
import Derived.Lib.Case
import Derived.Lib.ItoaLen
import Derived.Test.YtpmeklllgnnffaaGreatDoorU14
import Derived.Test.YtpmeklllgnnffaaGreatDoorU15
set_option linter.unusedSimpArgs false
set_option linter.unusedVariables false

namespace Go.Abs
set_option linter.unusedSimpArgs false
set_option linter.unusedVariables false
open Go Go.Proofs

/- what stands for a function without a body -/
def replP : List V → Option V
  | [.str s, .str old, .str new] => if s.length < 4294967281 ∧ 1 ≤ old.length ∧ s.length + Lib.count s old * new.length ≤ 140737488355328 then some (.str (Lib.replaceAll s old new)) else none
  | _ => none
def strsOf : List V → Option (List (List UInt8))
  | [] => some []
  | .str s :: r => (strsOf r).map (s :: ·)
  | _ :: _ => none
def joinP : List V → Option V
  | [.slice _ xs, .str sep] => match strsOf xs with
    | some ss => if ss.length ≤ 140737488355328 ∧ (Lib.join ss sep).length ≤ 140737488355328 then some (.str (Lib.join ss sep)) else none
    | none => none
  | _ => none
def itoaP : List V → Option V
  | [.int .i64 n] => if -9223372036854775808 ≤ n ∧ n ≤ 9223372036854775807 then some (.str (Lib.itoa n)) else none
  | _ => none
def upperP : List V → Option V
  | [.str s] => if s.length ≤ 140737488355328 ∧ s.all (fun b => decide (b.toNat < 128)) = true then some (.str (Lib.toUpperA s)) else none
  | _ => none
def pr0 : Prims := fun f => if f = 137 then some (.pure replP) else if f = 87 then some (.pure joinP) else if f = 75 then some (.grab 58) else if f = 89 then some (.pure itoaP) else if f = 93 then some (.pure upperP) else none

noncomputable def EV : Oracle := ev Tryz.prog pr0

theorem EV_mki {f : FuncId} {fn : Func} {c : Code} (hp : pr0 f = none) (hf : Tryz.prog.funcs[f]? = some fn) (hb : fn.body = some c) (ho : okDraws c = true) (hi : iceF f = false) (a : List V) (s : St) :
    EV f a s = @mki Tryz.prog EV s.length fn.results.toList ⟨[.code c]⟩ (a ++ List.replicate (fn.ntmps - a.length) .undef) s := ev_mki hp hf hb ho hi a s
theorem EV_mki0 {f : FuncId} {fn : Func} {c : Code} (hp : pr0 f = none) (hf : Tryz.prog.funcs[f]? = some fn) (hb : fn.body = some c) (ho : okDraws c = true) (a : List V) (s : St) :
    EV f a s = iceO f s.length (@mki Tryz.prog EV s.length fn.results.toList ⟨[.code c]⟩ (a ++ List.replicate (fn.ntmps - a.length) .undef) s) := ev_mki0 hp hf hb ho a s

theorem strsOf_map : ∀ l : List (List UInt8), strsOf (l.map V.str) = some l
  | [] => rfl
  | x :: l => by simp [strsOf, strsOf_map l]
end Go.Abs

