/-
  NARROWER THAN 'FOR EVERY INPUT', by the rows' own cells (each row's printed sentence says how): PredMeets: loops.
  DERIVED. THE GIVEN ROWS OF THIS SEAT. 2 by the template 'for every input the law returns true; each argument reads behind the call as it read before'; 0 by the template 'total and deterministic' (their statements: YthdcamicjblnkaaTotals.lean).
  GIVEN WITH THE SEED: the statements are not yours to turn. If you find one false, say at which input.
  Laid BY PROGRAM, IN A SANDBOX (cutbox-rows.mjs): the forced cells as the released guide's own fill.sh prints them over the translation bbea80a3d08dfe65… (all of the seat's roots in one cut). By AI agents, Wed Nov 11 2026. No macro, syntax, notation, axiom, sorry.
-/
import Derived.Test.YthdcamicjblnkaaChecked
import GoSem.Claim
import GoSem.ClaimJoined
import GoSem.ClaimMapViews
import Derived.JoinedTies
import Derived.KernelRfl
namespace Go.Proofs.Ythdcamicjblnkaa
/- THE CELL 'sum', in the pinned program and in every row, IS THE sha256 OF THE DUMP (.gsa) THAT YthdcamicjblnkaaProg.lean LOADS. Nothing in Lean hashes anything: it is a label: what it is worth is what the hold of that sum in a sandbox is worth. -/
noncomputable def Try.pinned : Pinned := { name := "ythdcamicjblnkaa", sum := "bbea80a3d08dfe6548eeebd065ad7e22570bbab8b3a8894091dbb25357757da2", checked := Try.checked }
namespace Rows
def none {H : Type} : Left H := { results := [], args := [] }

/-- 'tripwirelaw17.PredMeets': WHATEVER THE INPUT: true; the input reads as it did. -/
def predMeetsSpec : ChangeSpec := { name := "predMeets", fn := fun _ => fun
  | [d1, d2] => { results := [.lit (.bool true)], args := [d1, d2] }
  | _ => none }
def predMeetsRow : OpenClaim := { program := "ythdcamicjblnkaa", sum := "bbea80a3d08dfe6548eeebd065ad7e22570bbab8b3a8894091dbb25357757da2", func := "tripwire/tripwirelaw17.PredMeets", spec := "predMeets", inPlace := ["internal/bytealg.abigen_runtime_cmpstring"], unfollowed := true, recurses := true, loops := true, apart := false }
def PredMeetsSaid : Prop := predMeetsRow.holds Try.pinned (OpenSpec.ofChange predMeetsSpec)

/-- ITS FALSE NEIGHBOUR: 'it returns false'. Refute it at one input. -/
def predMeetsWrong : ChangeSpec := { name := "predMeets", fn := fun _ => fun
  | [d1, d2] => { results := [.lit (.bool false)], args := [d1, d2] }
  | _ => none }
def PredMeetsWrongFalsely : Prop := predMeetsRow.holds Try.pinned (OpenSpec.ofChange predMeetsWrong)

/-- 'tripwirelaw17.PredOwns': WHATEVER THE INPUT: true; the input reads as it did. -/
def predOwnsSpec : ChangeSpec := { name := "predOwns", fn := fun _ => fun
  | [d1, d2] => { results := [.lit (.bool true)], args := [d1, d2] }
  | _ => none }
def predOwnsRow : OpenClaim := { program := "ythdcamicjblnkaa", sum := "bbea80a3d08dfe6548eeebd065ad7e22570bbab8b3a8894091dbb25357757da2", func := "tripwire/tripwirelaw17.PredOwns", spec := "predOwns", inPlace := ["internal/bytealg.abigen_runtime_cmpstring"], unfollowed := true, recurses := true, apart := false }
def PredOwnsSaid : Prop := predOwnsRow.holds Try.pinned (OpenSpec.ofChange predOwnsSpec)

/-- ITS FALSE NEIGHBOUR: 'it returns false'. Refute it at one input. -/
def predOwnsWrong : ChangeSpec := { name := "predOwns", fn := fun _ => fun
  | [d1, d2] => { results := [.lit (.bool false)], args := [d1, d2] }
  | _ => none }
def PredOwnsWrongFalsely : Prop := predOwnsRow.holds Try.pinned (OpenSpec.ofChange predOwnsWrong)

/- THE SECOND FORM. 'bulk': how many values and letters a reading holds, each counted each time it is reached (what is shared counts as often as it is met; a slice's spare places count too). A statement '..UptoSaid' is the law's where the arguments, and the package variables that the reading takes, are together of bulk at most 1048576: NARROWER than '..Said'. Prove '..Said' where nothing that the law and all that it calls make is longer than what came in: it says more and counts as full. Else prove '..UptoSaid'. A law counts once. -/
mutual
def uptoBulk {H : Type} : DataW H → Nat
  | .lit (.string bytes) => bytes.length + 1
  | .lit _ => 1
  | .nil => 1
  | .ptr d => uptoBulk d + 1
  | .slice elems spare => uptoBulkAll elems + uptoBulkAll spare + 1
  | .agg parts => uptoBulkAll parts + 1
  | .iface _ d => uptoBulk d + 1
  | .map entries => uptoBulkEntries entries + 1
  | .held _ => 1
def uptoBulkAll {H : Type} : List (DataW H) → Nat
  | [] => 0
  | d :: r => uptoBulk d + uptoBulkAll r
def uptoBulkEntries {H : Type} : List (Lit × DataW H) → Nat
  | [] => 0
  | x :: r => uptoBulkEntry x + uptoBulkEntries r
def uptoBulkEntry {H : Type} : Lit × DataW H → Nat
  | (.string bytes, d) => bytes.length + uptoBulk d + 1
  | (_, d) => uptoBulk d + 1
 end
def uptoSmall : (H : Type) → List (DataW H) → Bool := fun _ ds => decide (uptoBulkAll ds ≤ 1048576)
def OpenSpec.upto (s : _root_.Go.ChangeSpec) : _root_.Go.OpenSpec := { _root_.Go.OpenSpec.ofChange s with cond := some uptoSmall }

/-- 'tripwirelaw17.PredMeets', WHERE WHAT IT READS IS OF BULK AT MOST 1048576: true; the input reads as it did. -/
def predMeetsUptoRow : OpenClaim := { program := "ythdcamicjblnkaa", sum := "bbea80a3d08dfe6548eeebd065ad7e22570bbab8b3a8894091dbb25357757da2", func := "tripwire/tripwirelaw17.PredMeets", spec := "predMeets", inPlace := ["internal/bytealg.abigen_runtime_cmpstring"], unfollowed := true, recurses := true, loops := true, apart := false, narrowed := true }
def PredMeetsUptoSaid : Prop := predMeetsUptoRow.holds Try.pinned (OpenSpec.upto predMeetsSpec)

/-- 'tripwirelaw17.PredOwns', WHERE WHAT IT READS IS OF BULK AT MOST 1048576: true; the input reads as it did. -/
def predOwnsUptoRow : OpenClaim := { program := "ythdcamicjblnkaa", sum := "bbea80a3d08dfe6548eeebd065ad7e22570bbab8b3a8894091dbb25357757da2", func := "tripwire/tripwirelaw17.PredOwns", spec := "predOwns", inPlace := ["internal/bytealg.abigen_runtime_cmpstring"], unfollowed := true, recurses := true, apart := false, narrowed := true }
def PredOwnsUptoSaid : Prop := predOwnsUptoRow.holds Try.pinned (OpenSpec.upto predOwnsSpec)

end Rows
end Go.Proofs.Ythdcamicjblnkaa
