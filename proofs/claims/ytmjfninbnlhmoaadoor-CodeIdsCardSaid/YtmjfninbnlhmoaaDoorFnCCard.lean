/- The laws of package code, as the rows and the cards say them: what all of them share. -/
import Derived.Test.YtmjfninbnlhmoaaDoorCards
import Derived.Test.YtmjfninbnlhmoaaDoorTie
import Derived.Test.YtmjfninbnlhmoaaDoorFnVal
import Derived.Test.YtmjfninbnlhmoaaDoorFnPrims
import Derived.Test.YtmjfninbnlhmoaaDoorAbsRead
import Derived.WalkKit
import Derived.ProofKit
import Derived.OpenShut
import Derived.Deep.DeepHandedRow
import Derived.Shelf.Vars
namespace Go.Proofs.YtmjfninbnlhmoaaDoor.shared
open Go.ChangeShapes Go.WideShapes Go.ChangeAt Go.RowKit Go.Abs

theorem own : ownKnob Tryd.prog.godebug = Option.none := by kernel_rfl

/- a datum's cells -/
mutual
def flat : DataW Unit → List Value
  | .lit (.int k n) => [.int k n]
  | .agg ds => flats ds
  | _ => []
def flats : List (DataW Unit) → List Value
  | [] => []
  | d :: ds => flat d ++ flats ds
end
def put (h : Array Obj) (g : Nat) (d : DataW Unit) : Array Obj := h.modify g fun
  | .cells _ t frozen => .cells (flat d).toArray t frozen
  | o => o
/- a world for the witness: the settled one, the tables holding what their initialisers lay -/
noncomputable def laidWorld (os : Os) : World :=
  let w0 := World.holding Tryd.prog os ⟨#[], #[], []⟩
  { w0 with heap := put (put w0.heap 1 Rows.laid_unicode_utf8_first) 2 Rows.laid_unicode_utf8_acceptRanges }

theorem base {W : World} (h : W.ShapedOpen Tryd.prog) : baseOk (G0 W).imm := by
  obtain ⟨m, hm⟩ := cell_of_shapedOpen_int (g := 0) (zero := #[.int .i64 0]) (t := 3) h (of_decide_eq_true (by kernel_rfl)) (by kernel_rfl) rfl (by kernel_rfl) (by kernel_rfl) Tryd.underlying3
  exact ⟨m, (imm0 hm).2⟩
theorem laid_met (os : Os) (args : Array Value) : laidMet Tryd.prog Rows.codeKeysRow.laid ((laidWorld os).forCall (fun _ _ => 0) ⟨#[], args, []⟩).memory :=
  laidMet_of_run' 8 (by kernel_rfl) (by kernel_rfl)
end Go.Proofs.YtmjfninbnlhmoaaDoor.shared
