/- The laws of package ast, as the rows and the cards say them: what all of them share. -/
import Derived.Test.YtpmeklllgnnffaaGreatDoorCards
import Derived.Test.YtpmeklllgnnffaaGreatDoorTie
import Derived.Test.YtpmeklllgnnffaaGreatDoorA12
import Derived.WalkKit
import Derived.ProofKit
import Derived.OpenShut
import Derived.Deep.DeepHandedRow
import Derived.Shelf.Vars
import Derived.Lib.LaidCaseMet
import Derived.Lib.LaidTab
set_option linter.unusedSimpArgs false
set_option linter.unusedVariables false

namespace Go.Proofs.YtpmeklllgnnffaaGreatDoor.shared
open Go.ChangeShapes Go.WideShapes Go.ChangeAt Go.RowKit Go.Abs

theorem own : ownKnob Tryz.prog.godebug = Option.none := by kernel_rfl

/- a datum's cells -/
mutual
def flat : DataW Unit → List Value
  | .lit (.int k n) => [.int k n]
  | .agg ds => flats ds
  | _ => []
def flats : List (DataW Unit) → List Value
  | [] => []
  | d :: ds => flat d ++ flats ds
end
def put (h : Array Obj) (g : Nat) (d : DataW Unit) : Array Obj := h.modify g fun
  | .cells _ t frozen => .cells (flat d).toArray t frozen
  | o => o
/- a world for the witness: the settled one, the tables holding what their initialisers lay -/
noncomputable def tabHeap (os : Os) : Array Obj := put (put (put (put (put (World.holding Tryz.prog os ⟨#[], #[], []⟩).heap 2 Rows.laid_internal_strconv_uint64pow10) 3 Rows.laid_unicode_utf8_first) 4 Rows.laid_unicode_utf8_acceptRanges) 7 Rows.laid_math_bits_deBruijn32tab) 8 Rows.laid_math_bits_deBruijn64tab
def caseAt (h : Array Obj) (R : Nat) : Array Obj := h.modify 0 fun
    | .cells _ u frozen => .cells #[.slice (some ⟨R, 0, none⟩) Lib.caseA.size Lib.caseA.size] u frozen
    | o => o
noncomputable def laidWorld (os : Os) : World :=
  { World.holding Tryz.prog os ⟨#[], #[], []⟩ with heap := (caseAt (tabHeap os) (World.holding Tryz.prog os ⟨#[], #[], []⟩).heap.size).push (.cells Lib.caseCells5 248 (0, 0)) }
def caseRen : Go.Shelf.Ren := { Tryz.lays274_ren with g := fun _ => 0 }
theorem caseLays : Lays.n274 Tryz.prog caseRen := { Tryz.lays274 with }

theorem laidVars_split {P : Program} {w : World} : ∀ (l l' : List (String × DataW Unit)) (ps : List MemPlace), DataW.LaidVars P w (l ++ l') ps → ∃ p q, ps = p ++ q ∧ DataW.LaidVars P w l p ∧ DataW.LaidVars P w l' q
  | [], l', ps, h => ⟨[], ps, rfl, rfl, h⟩
  | (n, d) :: l, l', ps, h => by
    obtain ⟨g, t, cs, fuel, p, q, h1, h2, h3, h4, h5, rfl⟩ := h
    obtain ⟨a, b, rfl, h6, h7⟩ := laidVars_split l l' q h5
    exact ⟨MemPlace.row ⟨g, 0, none⟩ cs.size ++ p ++ a, b, by simp [List.append_assoc], ⟨g, t, cs, fuel, p, a, h1, h2, h3, h4, h6, rfl⟩, h7⟩
theorem laidMet_move {P : Program} {w : World} {l l' : List (String × DataW Unit)} {x : String × DataW Unit} (h : laidMet P (l ++ l' ++ [x]) w) : laidMet P (l ++ (x :: l')) w := by
  obtain ⟨ps, h1, h2, h3⟩ := h
  obtain ⟨p, q, rfl, h4, h5⟩ := laidVars_split _ _ _ h1
  obtain ⟨a, b, rfl, h6, h7⟩ := laidVars_split _ _ _ h4
  have hp : List.Perm (a ++ b ++ q) (a ++ (q ++ b)) := by
    rw [List.append_assoc]
    exact List.Perm.append_left a List.perm_append_comm
  exact ⟨a ++ (q ++ b), LaidVars_append h6 (LaidVars_append h5 h7), hp.nodup_iff.1 h2, fun b off hm => h3 b off (hp.mem_iff.2 hm)⟩
theorem tab_cells {W : World} {cs : Array Value} (hv : W.var? Tryz.prog "internal/strconv.uint64pow10" = some cs) : ∃ T f, W.heap[2]? = some (.cells cs T f) := by
  unfold World.var? at hv
  rw [show Tryz.prog.globalNamed "internal/strconv.uint64pow10" = some 2 by kernel_rfl, Option.bind_some] at hv
  cases hh : W.heap[2]? with
  | none => rw [hh] at hv; cases hv
  | some o =>
    rw [hh] at hv
    cases o <;> simp at hv
    subst hv
    exact ⟨_, _, rfl⟩
set_option maxRecDepth 100000 in
theorem base {W : World} (h : W.ShapedOpen Tryz.prog) (hl : laidMet Tryz.prog Rows.astExprsRow.laid W) : baseOk (G0 W).imm (G0 W).fix := by
  refine ⟨?_, ?_⟩
  · obtain ⟨m, hm⟩ := cell_of_shapedOpen_int (g := 1) (zero := #[.int .i64 0]) (t := 3) h (of_decide_eq_true (by kernel_rfl)) (by kernel_rfl) rfl (by kernel_rfl) (by kernel_rfl) Tryz.underlying3
    exact ⟨m, (imm0 hm).2⟩
  · obtain ⟨ps, ⟨_, _, _, _, _, _, _, _, _, _, ⟨_, _, _, _, _, _, _, _, _, _, ⟨g, t, cs, fuel, p, q, hg, ht, hvar, hd, _, _⟩, _⟩, _⟩, _⟩ := hl
    obtain rfl := Option.some.inj ((show Tryz.prog.globalNamed "internal/strconv.uint64pow10" = some 2 by kernel_rfl).symm.trans hg)
    obtain rfl := Option.some.inj ((show (Tryz.prog.globals[2]?).map (·.type) = some 227 by kernel_rfl).symm.trans ht)
    have hd' := hd
    rw [show (Rows.laid_internal_strconv_uint64pow10 : DataW Unit) = Lib.tabData .u64 Lib.pow10Tab by kernel_rfl] at hd'
    have hcs := Lib.cells_of_tab Tryz.underlying227 Tryz.underlying209 (by kernel_rfl) (by kernel_rfl) hd'
    obtain ⟨T, f, hb⟩ := tab_cells hvar
    have e : cs = (List.map (fun z => Value.int IntKind.u64 z) Lib.pow10Tab).toArray := by rw [← hcs]
    exact ⟨2, T, f, rfl, by rw [← e]; exact hb⟩
set_option maxRecDepth 100000 in
theorem laid_met (os : Os) (args : Array Value) : laidMet Tryz.prog Rows.astExprsRow.laid ((laidWorld os).forCall (fun _ _ => 0) ⟨#[], args, []⟩).memory := by
  have h := laidMet_with_case (ρ := caseRen) caseLays (by kernel_rfl) ⟨by kernel_rfl, by kernel_rfl, by kernel_rfl, by kernel_rfl, by kernel_rfl, by kernel_rfl⟩ (w := ((laidWorld os).forCall (fun _ _ => 0) ⟨#[], args, []⟩).memory)
    (l := [("math/bits.deBruijn32tab", Rows.laid_math_bits_deBruijn32tab), ("math/bits.deBruijn64tab", Rows.laid_math_bits_deBruijn64tab), ("internal/strconv.uint64pow10", Rows.laid_internal_strconv_uint64pow10), ("unicode/utf8.acceptRanges", Rows.laid_unicode_utf8_acceptRanges), ("unicode/utf8.first", Rows.laid_unicode_utf8_first)])
    8 (by kernel_rfl) (by kernel_rfl) (by kernel_rfl) (World.holding Tryz.prog os ⟨#[], #[], []⟩).heap.size 248 (of_decide_eq_true (by kernel_rfl)) (by kernel_rfl) (by kernel_rfl) (by kernel_rfl)
  exact laidMet_move (l := [("math/bits.deBruijn32tab", Rows.laid_math_bits_deBruijn32tab), ("math/bits.deBruijn64tab", Rows.laid_math_bits_deBruijn64tab), ("internal/strconv.uint64pow10", Rows.laid_internal_strconv_uint64pow10), ("unicode/utf8.acceptRanges", Rows.laid_unicode_utf8_acceptRanges)]) (l' := [("unicode/utf8.first", Rows.laid_unicode_utf8_first)]) h
end Go.Proofs.YtpmeklllgnnffaaGreatDoor.shared

