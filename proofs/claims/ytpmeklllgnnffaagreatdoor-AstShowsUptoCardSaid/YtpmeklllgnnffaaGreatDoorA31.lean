/- Which statements are right, by the reference: kind 8. -/
import Derived.Test.YtpmeklllgnnffaaGreatDoorA28
import Derived.Test.YtpmeklllgnnffaaGreatDoorA29
import Derived.Test.YtpmeklllgnnffaaGreatDoorA30

namespace Go.Abs
set_option linter.unusedSimpArgs false
set_option linter.unusedVariables false
open Go Go.Proofs
attribute [local irreducible] fpsQ panQ

theorem ev_rr8 (b : StB) (acts : List Stm) (h : b.ok) (hk : b.kind = 8) (hl : acts.length ≤ 1048576) (ihk : ∀ a ∈ acts, EV 16 [a.enc] [] = some (.ret (.bool (rightStm a)), [])) : EV 16 [(Stm.mk b acts).enc] [] = some (.ret (.bool (rr8 b acts)), []) := by
  by_cases hp : (¬ b.name = [] ∧ ¬ b.table = [] ∧ b.col = [] ∧ nameS b.name = true ∧ nameS b.table = true ∧ b.cols = [] ∧ b.sets = [])
  · by_cases hm : (b.values = [] ∧ b.items = [] ∧ 0 ≤ b.prio ∧ b.prio ≤ 999 ∧ 1 ≤ b.event ∧ b.event ≤ 3 ∧ srcsS b.src 0 = true ∧ rightsE b.wher 0 1 = true ∧ (b.src = [] → b.wher = []))
    · by_cases a0 : acts = []
      · exact ev_rr8_c b acts h hk hp hm a0
      · exact ev_rr8_d b acts h hk hl ihk hp hm a0
    · exact ev_rr8_b b acts h hk hp hm
  · exact ev_rr8_a b acts h hk hp
end Go.Abs

