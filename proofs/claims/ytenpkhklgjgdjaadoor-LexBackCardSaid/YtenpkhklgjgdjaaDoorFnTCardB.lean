/- The law LexBack, as its row and its card say it: the world, and what it knows. -/
import Derived.Test.YtenpkhklgjgdjaaDoorCards
import Derived.Test.YtenpkhklgjgdjaaDoorTie
import Derived.Test.YtenpkhklgjgdjaaDoorFnPrims
import Derived.Test.YtenpkhklgjgdjaaDoorAbsRead
import Derived.WalkKit
import Derived.ProofKit
import Derived.OpenShut
import Derived.Deep.DeepHandedRow
import Derived.Shelf.Vars
import Derived.Lib.LaidTab
namespace Go.Proofs.YtenpkhklgjgdjaaDoor.shared
open Go.ChangeShapes Go.WideShapes Go.ChangeAt Go.RowKit Go.Abs

theorem own : ownKnob Tryd.prog.godebug = Option.none := by kernel_rfl

/- a datum's cells -/
mutual
def flat : DataW Unit → List Value
  | .lit (.int k n) => [.int k n]
  | .agg ds => flats ds
  | _ => []
def flats : List (DataW Unit) → List Value
  | [] => []
  | d :: ds => flat d ++ flats ds
end
def put (h : Array Obj) (g : Nat) (d : DataW Unit) : Array Obj := h.modify g fun
  | .cells _ t frozen => .cells (flat d).toArray t frozen
  | o => o
/- an error's variable: its text stands in a block of its own -/
def putErr (h : Array Obj) (g : Nat) (s : List UInt8) : Array Obj := (h.modify g fun
  | .cells _ t frozen => .cells #[.iface 117 (.pointer (some ⟨h.size, 0, none⟩))] t frozen
  | o => o).push (.cells #[.string ⟨s.toArray⟩] 119 (0, 0))
/- a world for the witness: the settled one, the tables holding what their initialisers lay -/
noncomputable def laidWorld (os : Os) : World :=
  let w0 := World.holding Tryd.prog os ⟨#[], #[], []⟩
  { w0 with heap := putErr (putErr (put (put (put (put (put w0.heap 6 Rows.laid_math_bits_deBruijn32tab) 7 Rows.laid_math_bits_deBruijn64tab) 0 Rows.laid_internal_strconv_uint64pow10) 4 Rows.laid_unicode_utf8_first) 5 Rows.laid_unicode_utf8_acceptRanges) 3 [118, 97, 108, 117, 101, 32, 111, 117, 116, 32, 111, 102, 32, 114, 97, 110, 103, 101]) 2 [105, 110, 118, 97, 108, 105, 100, 32, 115, 121, 110, 116, 97, 120] }
set_option maxRecDepth 100000 in
theorem laid_met (os : Os) (args : Array Value) : laidMet Tryd.prog Rows.lexBackRow.laid ((laidWorld os).forCall (fun _ _ => 0) ⟨#[], args, []⟩).memory :=
  laidMet_of_run' 8 (by kernel_rfl) (by kernel_rfl)
theorem iface_cells {H : Type} {enc : TypeId × Value → H} {P : Program} {w : World} {base : Nat} {sp : Nat → Bool} {held : Bool} {fuel : Nat} {t : TypeId} {ms : Array (String × TypeId)} {cs : List Value} {x : DataW H × List MemPlace}
    (ht : P.underlying t = some (.interface ms)) (h : DataW.trod enc P w base sp held fuel t cs = some x) : ∃ v, cs = [v] ∧ (v = .nilIface ∨ ∃ te pe, v = .iface te pe) := by
  cases fuel with
  | zero => simp [DataW.trod] at h
  | succ n =>
    cases cs with
    | nil => simp [DataW.trod, ht] at h
    | cons v r =>
      cases r with
      | cons a b => cases v <;> simp [DataW.trod, ht] at h
      | nil => cases v <;> simp [DataW.trod, ht] at h <;> first | exact ⟨_, rfl, .inl rfl⟩ | exact ⟨_, rfl, .inr ⟨_, _, rfl⟩⟩
theorem tab_cells {W : World} {cs : Array Value} (hv : W.var? Tryd.prog "internal/strconv.uint64pow10" = some cs) : ∃ T f, W.heap[0]? = some (.cells cs T f) := by
  unfold World.var? at hv
  rw [show Tryd.prog.globalNamed "internal/strconv.uint64pow10" = some 0 by kernel_rfl, Option.bind_some] at hv
  cases hh : W.heap[0]? with
  | none => rw [hh] at hv; cases hv
  | some o =>
    rw [hh] at hv
    cases o <;> simp at hv
    subst hv
    exact ⟨_, _, rfl⟩
set_option maxRecDepth 100000 in
theorem base {W : World} (h : W.ShapedOpen Tryd.prog) (hl : laidMet Tryd.prog Rows.lexBackRow.laid W) : baseOk (G0 W).imm (G0 W).fix := by
  obtain ⟨ps, ⟨_, _, _, _, _, _, _, _, _, _, ⟨_, _, _, _, _, _, _, _, _, _, ⟨g, t, cs, fuel, p, q, hg, ht, hvar, hd, ⟨_, _, _, _, _, _, _, _, _, _, ⟨g', t', cs', fuel', p', q', hg', ht', hvar', hd', _, _⟩, _⟩, _⟩, _⟩, _⟩, _⟩ := hl
  refine ⟨?_, ?_, ?_⟩
  · obtain ⟨m, hm⟩ := cell_of_shapedOpen_int (g := 1) (zero := #[.int .i64 0]) (t := 3) h (of_decide_eq_true (by kernel_rfl)) (by kernel_rfl) rfl (by kernel_rfl) (by kernel_rfl) Tryd.underlying3
    exact ⟨m, (imm0 hm).2⟩
  · obtain rfl := Option.some.inj ((show Tryd.prog.globalNamed "strconv.ErrRange" = some 3 by kernel_rfl).symm.trans hg')
    obtain rfl := Option.some.inj ((show (Tryd.prog.globals[3]?).map (·.type) = some 68 by kernel_rfl).symm.trans ht')
    obtain ⟨v, hcs, hv⟩ := iface_cells Tryd.underlying68 hd'
    have hc := World.var?_cell (show Tryd.prog.globalNamed "strconv.ErrRange" = some 3 by kernel_rfl) hvar' 0
    have h0 : cs'[0]? = some v := by
      have := congrArg (·[0]?) hcs
      simpa using this
    rw [h0] at hc
    exact ⟨v, (imm0 hc).2, hv⟩
  · obtain rfl := Option.some.inj ((show Tryd.prog.globalNamed "internal/strconv.uint64pow10" = some 0 by kernel_rfl).symm.trans hg)
    obtain rfl := Option.some.inj ((show (Tryd.prog.globals[0]?).map (·.type) = some 100 by kernel_rfl).symm.trans ht)
    have hd2 := hd
    rw [show (Rows.laid_internal_strconv_uint64pow10 : DataW Unit) = Lib.tabData .u64 Lib.pow10Tab by kernel_rfl] at hd2
    have hcs := Lib.cells_of_tab Tryd.underlying100 Tryd.underlying80 (by kernel_rfl) (by kernel_rfl) hd2
    obtain ⟨T, f, hb⟩ := tab_cells hvar
    have e : cs = (List.map (fun z => Value.int IntKind.u64 z) Lib.pow10Tab).toArray := by rw [← hcs]
    exact ⟨0, T, f, rfl, by rw [← e]; exact hb⟩
end Go.Proofs.YtenpkhklgjgdjaaDoor.shared
