/- Nodes that are told in full, and how deep one is. -/
import Derived.Test.YthdcamicjblnkaaFnEvalB
namespace Go.Abs
set_option linter.unusedSimpArgs false
set_option linter.unusedVariables false
open Go Go.Proofs

def Node.kids : Node → List Node
  | .mk _ _ _ _ kids => kids
def Val.ok (v : Val) : Prop := inI v.kind ∧ inI v.n ∧ v.s.length ≤ 1048576
mutual
def Node.ok : Node → Prop
  | .mk op v var col kids => op.length ≤ 1048576 ∧ v.ok ∧ inI var ∧ inI col ∧ kids.length ≤ 1048576 ∧ Node.oks kids
def Node.oks : List Node → Prop
  | [] => True
  | n :: l => n.ok ∧ Node.oks l
end
theorem oks_iff : ∀ l : List Node, Node.oks l ↔ ∀ m ∈ l, m.ok
  | [] => by simp [Node.oks]
  | n :: l => by simp [Node.oks, oks_iff l]

def deepS : Nat → Node → Bool
  | 0, _ => true
  | m + 1, n => n.kids.any (deepS m)
end Go.Abs
