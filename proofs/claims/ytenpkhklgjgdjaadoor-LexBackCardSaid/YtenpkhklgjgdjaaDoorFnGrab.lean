/- What catching comes to. -/
import Derived.Test.YtenpkhklgjgdjaaDoorFnPr
namespace Go.Abs
set_option linter.unusedSimpArgs false
set_option linter.unusedVariables false
open Go Go.Proofs

theorem ev_grab (g : FuncId) (first cap : List V) (st : St) : EV 12 [.func g first cap] st = primRun EV (.grab 26) [.func g first cap] st := by
  unfold EV
  rw [ev_eq]
  rfl
end Go.Abs
