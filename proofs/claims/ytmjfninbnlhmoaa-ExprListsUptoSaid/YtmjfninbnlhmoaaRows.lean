/-
  NARROWER THAN 'FOR EVERY INPUT', by the rows' own cells (each row's printed sentence says how): ExprShort: loops · ExprLists: loops · ExprTypes: loops.
  DERIVED. THE GIVEN ROWS OF THIS SEAT. 3 by the template 'for every input the law returns true; each argument reads behind the call as it read before'; 0 by the template 'total and deterministic' (their statements: YtmjfninbnlhmoaaTotals.lean).
  GIVEN WITH THE SEED: the statements are not yours to turn. If you find one false, say at which input.
  Laid BY PROGRAM, IN A SANDBOX (cutbox-rows.mjs): the forced cells as the released guide's own fill.sh prints them over the translation c7748e3c7ec7caa0… (all of the seat's roots in one cut). By AI agents, Wed Nov 11 2026. No macro, syntax, notation, axiom, sorry.
-/
import Derived.Test.YtmjfninbnlhmoaaChecked
import GoSem.Claim
import GoSem.ClaimJoined
import GoSem.ClaimMapViews
import Derived.JoinedTies
import Derived.KernelRfl
namespace Go.Proofs.Ytmjfninbnlhmoaa
/- THE CELL 'sum', in the pinned program and in every row, IS THE sha256 OF THE DUMP (.gsa) THAT YtmjfninbnlhmoaaProg.lean LOADS. Nothing in Lean hashes anything: it is a label: what it is worth is what the hold of that sum in a sandbox is worth. -/
noncomputable def Try.pinned : Pinned := { name := "ytmjfninbnlhmoaa", sum := "c7748e3c7ec7caa0ac5b4e393c33fa4eb0cc5ede241bc046fee20e7f35221f0c", checked := Try.checked }
namespace Rows
def none {H : Type} : Left H := { results := [], args := [] }

/-- 'tripwirelaw16.ExprShort': WHATEVER THE INPUT: true; the input reads as it did. -/
def exprShortSpec : ChangeSpec := { name := "exprShort", fn := fun _ => fun
  | [d1, d2, d3] => { results := [.lit (.bool true)], args := [d1, d2, d3] }
  | _ => none }
def exprShortRow : OpenClaim := { program := "ytmjfninbnlhmoaa", sum := "c7748e3c7ec7caa0ac5b4e393c33fa4eb0cc5ede241bc046fee20e7f35221f0c", func := "tripwire/tripwirelaw16.ExprShort", spec := "exprShort", inPlace := ["internal/bytealg.abigen_runtime_cmpstring"], unfollowed := true, recurses := true, loops := true, apart := false }
def ExprShortSaid : Prop := exprShortRow.holds Try.pinned (OpenSpec.ofChange exprShortSpec)

/-- ITS FALSE NEIGHBOUR: 'it returns false'. Refute it at one input. -/
def exprShortWrong : ChangeSpec := { name := "exprShort", fn := fun _ => fun
  | [d1, d2, d3] => { results := [.lit (.bool false)], args := [d1, d2, d3] }
  | _ => none }
def ExprShortWrongFalsely : Prop := exprShortRow.holds Try.pinned (OpenSpec.ofChange exprShortWrong)

/-- 'tripwirelaw16.ExprLists': WHATEVER THE INPUT: true; the input reads as it did. -/
def exprListsSpec : ChangeSpec := { name := "exprLists", fn := fun _ => fun
  | [d1, d2] => { results := [.lit (.bool true)], args := [d1, d2] }
  | _ => none }
def exprListsRow : OpenClaim := { program := "ytmjfninbnlhmoaa", sum := "c7748e3c7ec7caa0ac5b4e393c33fa4eb0cc5ede241bc046fee20e7f35221f0c", func := "tripwire/tripwirelaw16.ExprLists", spec := "exprLists", inPlace := ["internal/bytealg.abigen_runtime_cmpstring"], unfollowed := true, recurses := true, loops := true, apart := false }
def ExprListsSaid : Prop := exprListsRow.holds Try.pinned (OpenSpec.ofChange exprListsSpec)

/-- ITS FALSE NEIGHBOUR: 'it returns false'. Refute it at one input. -/
def exprListsWrong : ChangeSpec := { name := "exprLists", fn := fun _ => fun
  | [d1, d2] => { results := [.lit (.bool false)], args := [d1, d2] }
  | _ => none }
def ExprListsWrongFalsely : Prop := exprListsRow.holds Try.pinned (OpenSpec.ofChange exprListsWrong)

/-- 'tripwirelaw16.ExprTypes': WHATEVER THE INPUT: true; the input reads as it did. -/
def exprTypesSpec : ChangeSpec := { name := "exprTypes", fn := fun _ => fun
  | [d1, d2, d3] => { results := [.lit (.bool true)], args := [d1, d2, d3] }
  | _ => none }
def exprTypesRow : OpenClaim := { program := "ytmjfninbnlhmoaa", sum := "c7748e3c7ec7caa0ac5b4e393c33fa4eb0cc5ede241bc046fee20e7f35221f0c", func := "tripwire/tripwirelaw16.ExprTypes", spec := "exprTypes", inPlace := ["internal/bytealg.abigen_runtime_cmpstring"], unfollowed := true, recurses := true, loops := true, apart := false }
def ExprTypesSaid : Prop := exprTypesRow.holds Try.pinned (OpenSpec.ofChange exprTypesSpec)

/-- ITS FALSE NEIGHBOUR: 'it returns false'. Refute it at one input. -/
def exprTypesWrong : ChangeSpec := { name := "exprTypes", fn := fun _ => fun
  | [d1, d2, d3] => { results := [.lit (.bool false)], args := [d1, d2, d3] }
  | _ => none }
def ExprTypesWrongFalsely : Prop := exprTypesRow.holds Try.pinned (OpenSpec.ofChange exprTypesWrong)

/- THE SECOND FORM. 'bulk': how many values and letters a reading holds, each counted each time it is reached (what is shared counts as often as it is met; a slice's spare places count too). A statement '..UptoSaid' is the law's where the arguments, and the package variables that the reading takes, are together of bulk at most 1048576: NARROWER than '..Said'. Prove '..Said' where nothing that the law and all that it calls make is longer than what came in: it says more and counts as full. Else prove '..UptoSaid'. A law counts once. -/
mutual
def uptoBulk {H : Type} : DataW H → Nat
  | .lit (.string bytes) => bytes.length + 1
  | .lit _ => 1
  | .nil => 1
  | .ptr d => uptoBulk d + 1
  | .slice elems spare => uptoBulkAll elems + uptoBulkAll spare + 1
  | .agg parts => uptoBulkAll parts + 1
  | .iface _ d => uptoBulk d + 1
  | .map entries => uptoBulkEntries entries + 1
  | .held _ => 1
def uptoBulkAll {H : Type} : List (DataW H) → Nat
  | [] => 0
  | d :: r => uptoBulk d + uptoBulkAll r
def uptoBulkEntries {H : Type} : List (Lit × DataW H) → Nat
  | [] => 0
  | x :: r => uptoBulkEntry x + uptoBulkEntries r
def uptoBulkEntry {H : Type} : Lit × DataW H → Nat
  | (.string bytes, d) => bytes.length + uptoBulk d + 1
  | (_, d) => uptoBulk d + 1
 end
def uptoSmall : (H : Type) → List (DataW H) → Bool := fun _ ds => decide (uptoBulkAll ds ≤ 1048576)
def OpenSpec.upto (s : _root_.Go.ChangeSpec) : _root_.Go.OpenSpec := { _root_.Go.OpenSpec.ofChange s with cond := some uptoSmall }

/-- 'tripwirelaw16.ExprShort', WHERE WHAT IT READS IS OF BULK AT MOST 1048576: true; the input reads as it did. -/
def exprShortUptoRow : OpenClaim := { program := "ytmjfninbnlhmoaa", sum := "c7748e3c7ec7caa0ac5b4e393c33fa4eb0cc5ede241bc046fee20e7f35221f0c", func := "tripwire/tripwirelaw16.ExprShort", spec := "exprShort", inPlace := ["internal/bytealg.abigen_runtime_cmpstring"], unfollowed := true, recurses := true, loops := true, apart := false, narrowed := true }
def ExprShortUptoSaid : Prop := exprShortUptoRow.holds Try.pinned (OpenSpec.upto exprShortSpec)

/-- 'tripwirelaw16.ExprLists', WHERE WHAT IT READS IS OF BULK AT MOST 1048576: true; the input reads as it did. -/
def exprListsUptoRow : OpenClaim := { program := "ytmjfninbnlhmoaa", sum := "c7748e3c7ec7caa0ac5b4e393c33fa4eb0cc5ede241bc046fee20e7f35221f0c", func := "tripwire/tripwirelaw16.ExprLists", spec := "exprLists", inPlace := ["internal/bytealg.abigen_runtime_cmpstring"], unfollowed := true, recurses := true, loops := true, apart := false, narrowed := true }
def ExprListsUptoSaid : Prop := exprListsUptoRow.holds Try.pinned (OpenSpec.upto exprListsSpec)

/-- 'tripwirelaw16.ExprTypes', WHERE WHAT IT READS IS OF BULK AT MOST 1048576: true; the input reads as it did. -/
def exprTypesUptoRow : OpenClaim := { program := "ytmjfninbnlhmoaa", sum := "c7748e3c7ec7caa0ac5b4e393c33fa4eb0cc5ede241bc046fee20e7f35221f0c", func := "tripwire/tripwirelaw16.ExprTypes", spec := "exprTypes", inPlace := ["internal/bytealg.abigen_runtime_cmpstring"], unfollowed := true, recurses := true, loops := true, apart := false, narrowed := true }
def ExprTypesUptoSaid : Prop := exprTypesUptoRow.holds Try.pinned (OpenSpec.upto exprTypesSpec)

end Rows
end Go.Proofs.Ytmjfninbnlhmoaa
