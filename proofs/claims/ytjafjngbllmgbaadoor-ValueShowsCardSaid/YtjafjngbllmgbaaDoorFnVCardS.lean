/- The law ValueShows, as its row and its card say it: the world, and what it knows. -/
import Derived.Test.YtjafjngbllmgbaaDoorCards
import Derived.Test.YtjafjngbllmgbaaDoorTie
import Derived.Test.YtjafjngbllmgbaaDoorFnPrims
import Derived.Test.YtjafjngbllmgbaaDoorAbsRead
import Derived.WalkKit
import Derived.ProofKit
import Derived.OpenShut
import Derived.Deep.DeepHandedRow
import Derived.Shelf.Vars
import Derived.Lib.LaidTab
namespace Go.Proofs.YtjafjngbllmgbaaDoor.shared
open Go.ChangeShapes Go.WideShapes Go.ChangeAt Go.RowKit Go.Abs

theorem own : ownKnob Tryd.prog.godebug = Option.none := by kernel_rfl

/- a datum's cells -/
mutual
def flat : DataW Unit → List Value
  | .lit (.int k n) => [.int k n]
  | .agg ds => flats ds
  | _ => []
def flats : List (DataW Unit) → List Value
  | [] => []
  | d :: ds => flat d ++ flats ds
end
def put (h : Array Obj) (g : Nat) (d : DataW Unit) : Array Obj := h.modify g fun
  | .cells _ t frozen => .cells (flat d).toArray t frozen
  | o => o
/- a world for the witness: the settled one, the tables holding what their initialisers lay -/
noncomputable def laidWorld (os : Os) : World :=
  let w0 := World.holding Tryd.prog os ⟨#[], #[], []⟩
  { w0 with heap := put (put (put (put (put w0.heap 1 Rows.laid_internal_strconv_uint64pow10) 2 Rows.laid_unicode_utf8_first) 3 Rows.laid_unicode_utf8_acceptRanges) 4 Rows.laid_math_bits_deBruijn32tab) 5 Rows.laid_math_bits_deBruijn64tab }
set_option maxRecDepth 100000 in
theorem laid_met (os : Os) (args : Array Value) : laidMet Tryd.prog Rows.valueShowsRow.laid ((laidWorld os).forCall (fun _ _ => 0) ⟨#[], args, []⟩).memory :=
  laidMet_of_run' 8 (by kernel_rfl) (by kernel_rfl)
theorem tab_cells {W : World} {cs : Array Value} (hv : W.var? Tryd.prog "internal/strconv.uint64pow10" = some cs) : ∃ T f, W.heap[1]? = some (.cells cs T f) := by
  unfold World.var? at hv
  rw [show Tryd.prog.globalNamed "internal/strconv.uint64pow10" = some 1 by kernel_rfl, Option.bind_some] at hv
  cases hh : W.heap[1]? with
  | none => rw [hh] at hv; cases hv
  | some o =>
    rw [hh] at hv
    cases o <;> simp at hv
    subst hv
    exact ⟨_, _, rfl⟩
set_option maxRecDepth 100000 in
theorem base {W : World} (h : W.ShapedOpen Tryd.prog) (hl : laidMet Tryd.prog Rows.valueShowsRow.laid W) : baseOk (G0 W).imm (G0 W).fix := by
  obtain ⟨ps, ⟨_, _, _, _, _, _, _, _, _, _, ⟨_, _, _, _, _, _, _, _, _, _, ⟨g, t, cs, fuel, p, q, hg, ht, hvar, hd, _, _⟩, _⟩, _⟩, _⟩ := hl
  refine ⟨?_, ?_⟩
  · obtain ⟨m, hm⟩ := cell_of_shapedOpen_int (g := 0) (zero := #[.int .i64 0]) (t := 3) h (of_decide_eq_true (by kernel_rfl)) (by kernel_rfl) rfl (by kernel_rfl) (by kernel_rfl) Tryd.underlying3
    exact ⟨m, (imm0 hm).2⟩
  · obtain rfl := Option.some.inj ((show Tryd.prog.globalNamed "internal/strconv.uint64pow10" = some 1 by kernel_rfl).symm.trans hg)
    obtain rfl := Option.some.inj ((show (Tryd.prog.globals[1]?).map (·.type) = some 87 by kernel_rfl).symm.trans ht)
    have hd2 := hd
    rw [show (Rows.laid_internal_strconv_uint64pow10 : DataW Unit) = Lib.tabData .u64 Lib.pow10Tab by kernel_rfl] at hd2
    have hcs := Lib.cells_of_tab Tryd.underlying87 Tryd.underlying59 (by kernel_rfl) (by kernel_rfl) hd2
    obtain ⟨T, f, hb⟩ := tab_cells hvar
    have e : cs = (List.map (fun z => Value.int IntKind.u64 z) Lib.pow10Tab).toArray := by rw [← hcs]
    exact ⟨1, T, f, rfl, by rw [← e]; exact hb⟩
end Go.Proofs.YtjafjngbllmgbaaDoor.shared
