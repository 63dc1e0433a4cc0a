/- The law of the parser is awake. -/
import Derived.Test.YtpmeklllgnnffaaGreatDoorM16
set_option linter.unusedSimpArgs false
set_option linter.unusedVariables false

namespace Go.Abs
open Go Go.Proofs
theorem ev_awake14 : EV 27 [] [] = some (.ret (.bool true), []) := ev_some.2 ⟨200, by kernel_rfl⟩
end Go.Abs

