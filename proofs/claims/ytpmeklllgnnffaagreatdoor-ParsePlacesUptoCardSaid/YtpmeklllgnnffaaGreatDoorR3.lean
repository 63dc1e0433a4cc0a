/- Each operation on values: the machine does what the abstract one says. -/
import Derived.Test.YtpmeklllgnnffaaGreatDoorR2
import Derived.KernelRfl
import Derived.Laws.StructEq
import Derived.Laws.Tables
import Derived.Laws.BytesString
set_option linter.unusedSimpArgs false
set_option linter.unusedVariables false

namespace Go.Abs
open Go
variable {P : Program} {G : Ghost} {st : St} {W : World}
theorem ti_spec {t : TypeId} {T : TI} (h : ti P t = some T) : ∃ i d z, P.info? t = some i ∧ P.underlying t = some d ∧ i.zero = some z ∧ z.cells.size = i.size ∧
    T.d = dOf d ∧ T.size = i.size ∧ T.bytes = i.bytes ∧ T.zero = ofValue z ∧ T.eqOk = eqOkOf P t d := by
  unfold ti at h
  cases hi : P.info? t with
  | none => simp [hi] at h
  | some i =>
    cases hu : P.underlying t with
    | none => simp [hi, hu] at h
    | some d =>
      cases hz : i.zero with
      | none => simp [hi, hu, hz] at h
      | some z =>
        simp only [hi, hu, hz] at h
        split at h
        · rename_i hs
          cases h
          exact ⟨i, d, z, rfl, rfl, hz, hs, rfl, rfl, rfl, rfl, rfl⟩
        · cases h
theorem dOf_slice {d : TypeDesc} {e : TypeId} (h : D.slice e = dOf d) : d = .slice e := by cases d <;> simp [dOf] at h; rw [h]
theorem dOf_array {d : TypeDesc} {n : Nat} {e : TypeId} (h : D.array n e = dOf d) : d = .array n e := by cases d <;> simp [dOf] at h; rw [h.1, h.2]
theorem dOf_string {d : TypeDesc} (h : D.string = dOf d) : d = .string := by cases d <;> simp [dOf] at h; rfl
theorem dOf_bool {d : TypeDesc} (h : D.bool = dOf d) : d = .bool := by cases d <;> simp [dOf] at h; rfl
theorem dOf_func {d : TypeDesc} (h : D.func = dOf d) : ∃ a b c, d = .func a b c := by cases d <;> simp [dOf] at h; exact ⟨_, _, _, rfl⟩
theorem dOf_pointer {d : TypeDesc} {e : TypeId} (h : D.pointer e = dOf d) : d = .pointer e := by cases d <;> simp [dOf] at h; rw [h]
theorem dOf_int {d : TypeDesc} {k : IntKind} (h : D.int k = dOf d) : d = .int k := by cases d <;> simp [dOf] at h; rw [h]
theorem dOf_struct {d : TypeDesc} {fs : List (Nat × TypeId)} (h : D.struct fs = dOf d) : ∃ F, d = .struct F ∧ fs = F.toList.map fun f => (f.offset, f.type) := by
  cases d <;> simp [dOf] at h; exact ⟨_, rfl, h⟩
theorem run_isAgg {t : TypeId} {d : TypeDesc} (h : P.underlying t = some d) (w : World) : (isAgg t).run P w = .ok (dOf d).isAgg w := by
  unfold isAgg
  rw [Sem.run_bind, run_underlying h w]
  cases d <;> rfl
theorem adr_add (B off n : Nat) : (adr B off).add n = adr B (off + n) := Addr.add_mid B off n
def Lies (G : Ghost) (W : World) (cs : List V) (B off : Nat) : Prop :=
  ∃ vs : List Value, Reps G cs vs ∧ ∀ (i : Nat) (v : Value), vs[i]? = some v → W.cell? (adr B (off + i)) = some v
theorem Lies.of_reads (h : Sim G st W) {cs : List V} {B off : Nat} (hr : Reads G cs B off) : Lies G W cs B off := by
  obtain ⟨vs, h1, _, h3⟩ := hr.exists
  exact ⟨vs, h1, fun i v e => h.cell (h3 i v e)⟩
theorem lies_of (h : Sim G st W) {xa : V} {va : Value} {cs : List V} (ha : Rep G xa va) (hc : cellsAt st xa = some cs) :
    ∃ B off, va = .pointer (some (adr B off)) ∧ Lies G W cs B off := by
  cases xa <;> simp only [cellsAt, Option.map_eq_some_iff, reduceCtorEq, Option.some.injEq] at hc
  case box b off =>
    obtain ⟨cs0, e0, rfl⟩ := hc
    obtain ⟨B, hB, rfl⟩ := ha
    obtain ⟨⟨cs1, c, T, h1, h2, h3⟩, _⟩ := h.box b B hB
    rw [e0] at h1; cases h1
    refine ⟨B, off, rfl, c.toList.drop off, h3.drop off, fun i v e => ?_⟩
    rw [List.getElem?_drop] at e
    simpa [World.cell?, adr, h2] using e
  case ro cs0 =>
    subst hc
    obtain ⟨_, B, off, rfl, h2⟩ := ha
    exact ⟨B, off, rfl, .of_reads h h2⟩
theorem load_sound (h : Sim G st W) {t : TypeId} {xa x : V} {va : Value} (ha : Rep G xa va) (hl : loadV P t xa st = some x) :
    ∃ u, (Instr.loadAt t va).run P W = .ok u W ∧ Rep G x u := by
  unfold loadV at hl
  cases hT : ti P t with
  | none => simp [hT] at hl
  | some T =>
    cases hc : cellsAt st xa with
    | none => simp [hT, hc] at hl
    | some cs =>
      simp only [hT, hc] at hl
      obtain ⟨i, d, z, h1, h2, -, -, h3, h4, -⟩ := ti_spec hT
      obtain ⟨B, off, rfl, vs, k1, k2⟩ := lies_of h ha hc
      unfold takeV at hl
      rw [h3] at hl
      cases hag : (dOf d).isAgg with
      | true =>
        rw [hag, if_pos rfl] at hl
        split at hl
        · rename_i hsz
          cases hl
          have hlen := k1.length
          have hrow : d.isRow = true := by cases d <;> simp_all [dOf, D.isAgg]
          have hr := run_loadAt_mid (P := P) W B off t (vs.take T.size) d (fun j v e => k2 j v (by rw [List.getElem?_take] at e; split at e; exact e; cases e)) h2 hrow
            (by rw [h1]; simp; omega)
          exact ⟨_, hr, vs.take T.size |>.toArray, rfl, by simpa using k1.take T.size⟩
        · cases hl
      | false =>
        rw [hag, if_neg (by simp)] at hl
        cases cs with
        | nil => simp at hl
        | cons y ys =>
          simp only [List.head?_cons, Option.some.injEq] at hl
          subst hl
          obtain ⟨v, r, rfl, k3, _⟩ := k1
          refine ⟨v, ?_, k3⟩
          have := k2 0 v rfl
          simp only [Nat.add_zero] at this
          simp [Instr.loadAt, Instr.sureAddr, loadVar, run_isAgg h2, hag, this]
theorem fieldAddr_sound {t : TypeId} {xa x : V} {va : Value} {f : Nat} (ha : Rep G xa va) (hl : fieldAddrV P t xa f = some x) :
    ∃ u, (Instr.fieldAt t va f).run P W = .ok u W ∧ Rep G x u := by
  unfold fieldAddrV at hl
  cases hT : ti P t with
  | none => simp [hT] at hl
  | some T =>
    obtain ⟨i, d, z, h1, h2, -, -, h3, h4, -⟩ := ti_spec hT
    obtain ⟨D, sz, by_, ze, eq⟩ := T
    simp only at h3
    cases hD : D with
    | struct fs =>
      subst hD
      obtain ⟨F, rfl, rfl⟩ := dOf_struct h3
      rw [hT] at hl
      simp only [List.getElem?_map, Array.getElem?_toList] at hl
      cases hf : F[f]? with
      | none => simp [hf] at hl
      | some fl =>
        simp only [hf, Option.map_some] at hl
        cases hU : ti P fl.type with
        | none => simp [hU] at hl
        | some U =>
          obtain ⟨i', d', z', h1', _, _, _, _, h4', _⟩ := ti_spec hU
          simp only [hU] at hl
          cases xa <;> simp only [reduceCtorEq] at hl
          case box b off =>
            split at hl
            · cases hl
            · rename_i hne
              cases hl
              obtain ⟨B, hB, rfl⟩ := ha
              refine ⟨.pointer (some (adr B (off + fl.offset))), ?_, ⟨B, hB, rfl⟩⟩
              have hne' : i'.size ≠ 0 := by rw [← h4']; exact hne
              simp [Instr.fieldAt, run_underlying h2, hf, Instr.sureAddr, fieldPlace, sizeOf, typeInfo, h1', hne', adr_add]
          case ro cs =>
            split at hl
            · cases hl
            · rename_i hne
              cases hl
              obtain ⟨h0, B, off, rfl, hr⟩ := ha
              refine ⟨.pointer (some (adr B (off + fl.offset))), ?_, ⟨?_, B, off + fl.offset, rfl, hr.drop'⟩⟩
              · have hne' : i'.size ≠ 0 := by rw [← h4']; exact hne
                simp [Instr.fieldAt, run_underlying h2, hf, Instr.sureAddr, fieldPlace, sizeOf, typeInfo, h1', hne', adr_add]
              · exact refsL_nil_iff.2 fun y hy => refsL_nil_iff.1 h0 y (List.mem_of_mem_drop hy)
    | _ => simp [hT, hD] at hl
theorem part_sound {t : TypeId} {cs : List V} {vs : Array Value} {off : Nat} {x : V} (ha : Reps G cs vs.toList) (hl : partV P t cs off = some x) :
    ∃ u, (part t vs off).run P W = .ok u W ∧ Rep G x u := by
  unfold partV at hl
  cases hT : ti P t with
  | none => simp [hT] at hl
  | some T =>
    obtain ⟨i, d, z, h1, h2, -, -, h3, h4, -⟩ := ti_spec hT
    simp only [hT, h3] at hl
    cases hag : (dOf d).isAgg with
    | true =>
      simp only [hag, if_true] at hl
      split at hl
      · cases hl
        refine ⟨.agg (vs.extract off (off + i.size)), ?_, _, rfl, ?_⟩
        · simp [part, run_isAgg h2, hag, sizeOf, typeInfo, h1]
        · rw [h4]
          have := (ha.drop off).take i.size
          simpa [List.extract_eq_take_drop, Nat.add_sub_cancel_left] using this
      · cases hl
    | false =>
      simp only [hag, Bool.false_eq_true, if_false] at hl
      obtain ⟨v, hv, hr⟩ := ha.get hl
      refine ⟨v, ?_, hr⟩
      have : vs[off]? = some v := by simpa using hv
      simp [part, run_isAgg h2, hag, this]
theorem field_sound {t : TypeId} {xa x : V} {va : Value} {f : Nat} (ha : Rep G xa va) (hl : fieldV P t xa f = some x) :
    ∃ u, (Instr.field t va f).run P W = .ok u W ∧ Rep G x u := by
  unfold fieldV at hl
  cases hT : ti P t with
  | none => simp [hT] at hl
  | some T =>
    obtain ⟨i, d, z, h1, h2, -, -, h3, h4, -⟩ := ti_spec hT
    obtain ⟨D, sz, by_, ze, eq⟩ := T
    simp only at h3
    cases hD : D with
    | struct fs =>
      subst hD
      obtain ⟨F, rfl, rfl⟩ := dOf_struct h3
      rw [hT] at hl
      cases xa <;> simp only [reduceCtorEq] at hl
      case agg cs =>
        simp only [List.getElem?_map, Array.getElem?_toList] at hl
        cases hf : F[f]? with
        | none => simp [hf] at hl
        | some fl =>
          simp only [hf, Option.map_some] at hl
          obtain ⟨vs, rfl, hvs⟩ := ha
          obtain ⟨u, k1, k2⟩ := part_sound (W := W) hvs hl
          refine ⟨u, ?_, k2⟩
          simp [Instr.field, run_underlying h2, hf, asAgg, k1]
    | _ => cases xa <;> simp [hT, hD] at hl
theorem indexAddr_sound {t : TypeId} {xa xi x : V} {va vi : Value} (ha : Rep G xa va) (hi : Rep G xi vi) (hl : indexAddrV P t xa xi = some x) :
    ∃ u, (Instr.indexAt t va vi).run P W = .ok u W ∧ Rep G x u := by
  unfold indexAddrV at hl
  cases xi <;> simp only [reduceCtorEq] at hl
  case int k n =>
    simp only [Rep] at hi
    subst hi
    cases hT : ti P t with
    | none => simp [hT] at hl
    | some T =>
      obtain ⟨i, d, z, h1, h2, -, -, h3, h4, -⟩ := ti_spec hT
      obtain ⟨D, sz, by_, ze, eq⟩ := T
      simp only at h3
      cases hD : D with
      | slice e =>
        subst hD
        have := dOf_slice h3
        subst this
        rw [hT] at hl
        cases xa <;> simp only [reduceCtorEq] at hl
        case slice o xs =>
          cases hE : ti P e with
          | none => simp [hE] at hl
          | some E =>
            cases hx : xs[n.toNat]? with
            | none => simp [hE, hx] at hl
            | some y =>
              obtain ⟨i', d', z', h1', _, _, _, _, h4', _⟩ := ti_spec hE
              simp only [hE, hx] at hl
              split at hl
              · rename_i hc
                cases hl
                obtain ⟨hc1, hc2, hc3⟩ := hc
                obtain ⟨a, cap, rfl, _, _, hn, ⟨s, hs⟩, hcase⟩ := ha
                rcases hcase with ⟨rfl, _⟩ | ⟨B, off, rfl, hr⟩
                · simp at hx
                have hmem := List.mem_of_getElem? hx
                have hsE : s = i'.size := by rw [← h4', ← hc3, hs y hmem]
                rw [readsE_flat] at hr
                have key : ∀ (xs : List V) (m o : Nat) (y : V), (∀ x ∈ xs, (vcells x).length = s) → xs[m]? = some y → Reads G (xs.flatMap vcells) B o → Reads G (vcells y) B (o + m * s) := by
                  intro xs
                  induction xs with
                  | nil => intro m o y _ h _; simp at h
                  | cons w ws ih =>
                    intro m o y hall hm hr
                    rw [List.flatMap_cons, Reads.append] at hr
                    cases m with
                    | zero => simp at hm; subst hm; simpa using hr.1
                    | succ m =>
                      have := ih m (o + (vcells w).length) y (fun x hx => hall x (by simp [hx])) (by simpa using hm) hr.2
                      rw [hall w (by simp)] at this
                      rwa [show o + (m + 1) * s = o + s + m * s by rw [Nat.add_mul]; omega]
                have hry := key xs n.toNat off y hs hx hr
                refine ⟨.pointer (some (adr B (off + n.toNat * s))), ?_, ⟨by rw [refs_vcells]; exact hn y hmem, B, _, rfl, hry⟩⟩
                have hc2' : n < (xs.length : Int) := hc2
                simp [Instr.indexAt, asIntOf, run_underlying h2, hc1, hc2', sizeOf, typeInfo, h1', ← hsE, adr_add]
              · cases hl
        case win b off len =>
          cases hE : ti P e with
          | none => simp [hE] at hl
          | some E =>
            obtain ⟨i', d', z', h1', _, _, _, _, h4', _⟩ := ti_spec hE
            simp only [hE] at hl
            split at hl
            · rename_i hc
              cases hl
              obtain ⟨B, cap, hB, _, rfl⟩ := ha
              refine ⟨.pointer (some (adr B (off + n.toNat * E.size))), ?_, ⟨B, hB, rfl⟩⟩
              simp [Instr.indexAt, asIntOf, run_underlying h2, hc.1, hc.2, sizeOf, typeInfo, h1', h4', adr_add]
            · cases hl
      | array len e =>
        subst hD
        have := dOf_array h3
        subst this
        rw [hT] at hl
        cases xa <;> simp only [reduceCtorEq] at hl
        case box b off =>
          cases hE : ti P e with
          | none => simp [hE] at hl
          | some E =>
            obtain ⟨i', d', z', h1', _, _, _, _, h4', _⟩ := ti_spec hE
            simp only [hE] at hl
            split at hl
            · rename_i hc
              cases hl
              obtain ⟨B, hB, rfl⟩ := ha
              refine ⟨.pointer (some (adr B (off + n.toNat * E.size))), ?_, ⟨B, hB, rfl⟩⟩
              simp [Instr.indexAt, asIntOf, run_underlying h2, Instr.sureAddr, hc.1, hc.2, sizeOf, typeInfo, h1', h4', adr_add]
            · cases hl
      | _ => cases xa <;> simp [hT, hD] at hl
end Go.Abs
namespace Go.Abs
open Go
variable {P : Program} {G : Ghost} {st : St} {W : World}
theorem toList_data (s : ByteArray) : s.toList = s.data.toList := by
  have key : ∀ (n i : Nat) (r : List UInt8), s.size - i = n → ByteArray.toList.loop s i r = r.reverse ++ s.data.toList.drop i := by
    intro n
    induction n with
    | zero =>
      intro i r h
      unfold ByteArray.toList.loop
      have : ¬ i < s.size := by omega
      rw [if_neg this, List.drop_of_length_le (by simp; show s.size ≤ i; omega)]; simp
    | succ n ih =>
      intro i r h
      unfold ByteArray.toList.loop
      have hi : i < s.size := by omega
      rw [if_pos hi, ih (i + 1) _ (by omega)]
      have hget : s.data.toList.drop i = s.get! i :: s.data.toList.drop (i + 1) := by
        have hl : i < s.data.toList.length := by simpa using hi
        rw [List.drop_eq_getElem_cons hl]
        congr 1
        have hi' : i < s.data.size := hi
        simp only [ByteArray.get!, Array.getElem_toList]
        rw [getElem!_pos s.data i hi']
      rw [hget]; simp
  have := key s.size 0 [] (by omega)
  simpa [ByteArray.toList] using this
theorem beq_dec {α : Type} [DecidableEq α] [BEq α] [LawfulBEq α] (a b : α) : (a == b) = decide (a = b) := by
  rw [Bool.eq_iff_iff]; simp
theorem index_sound {t : TypeId} {xa xi x : V} {va vi : Value} (ha : Rep G xa va) (hi : Rep G xi vi) (hl : indexV P t xa xi = some x) :
    ∃ u, (Instr.index t va vi).run P W = .ok u W ∧ Rep G x u := by
  unfold indexV at hl
  cases xi <;> simp only [reduceCtorEq] at hl
  case int k n =>
    simp only [Rep] at hi
    subst hi
    cases hT : ti P t with
    | none => simp [hT] at hl
    | some T =>
      obtain ⟨i, d, z, h1, h2, -, -, h3, h4, -⟩ := ti_spec hT
      obtain ⟨D, sz, by_, ze, eq⟩ := T
      simp only at h3
      cases hD : D with
      | string =>
        subst hD
        have := dOf_string h3
        subst this
        rw [hT] at hl
        cases xa <;> simp only [reduceCtorEq] at hl
        case str s =>
          split at hl
          · rename_i hc
            obtain ⟨zs, rfl, hz⟩ := ha
            cases hb : s[n.toNat]? with
            | none => simp [hb] at hl
            | some b =>
              simp only [hb, Option.map_some, Option.some.injEq] at hl
              subst hl
              have hz' : zs[n.toNat]? = some b := by
                subst hz
                have h5 := (List.getElem?_eq_some_iff.1 hb)
                obtain ⟨h6, h7⟩ := h5
                have h8 : n.toNat < zs.size := by simpa using h6
                rw [getElem?_pos zs n.toNat h8]
                simp only [Option.some.injEq]
                rw [← h7]; rfl
              refine ⟨.int .u8 b.toNat, ?_, rfl⟩
              simp [Instr.index, asIntOf, run_underlying h2, hc.1, hz']
          · cases hl
      | array len e =>
        subst hD
        have := dOf_array h3
        subst this
        rw [hT] at hl
        cases xa <;> simp only [reduceCtorEq] at hl
        case agg cs =>
          cases hE : ti P e with
          | none => simp [hE] at hl
          | some E =>
            obtain ⟨i', d', z', h1', _, _, _, _, h4', _⟩ := ti_spec hE
            simp only [hE] at hl
            split at hl
            · rename_i hc
              obtain ⟨vs, rfl, hvs⟩ := ha
              obtain ⟨u, k1, k2⟩ := part_sound (W := W) hvs hl
              refine ⟨u, ?_, k2⟩
              have : (sizeOf e).run P W = .ok E.size W := by simp [sizeOf, typeInfo, h1', h4']
              simp [Instr.index, asIntOf, run_underlying h2, hc.1, hc.2, this, k1]
            · cases hl
      | _ => cases xa <;> simp [hT, hD] at hl
theorem intBin_sound {op : BinOp} {k : IntKind} {a b : Int} {x : V} {t : TypeId} (hl : intBin op k a b = some x) :
    ∃ u, (binOp op t (.int k a) (.int k b)).run P W = .ok u W ∧ Rep G x u := by
  cases op <;> simp only [intBin, Option.some.injEq, reduceCtorEq] at hl
  case quo =>
    split at hl
    · cases hl
    · rename_i hb
      cases hl
      exact ⟨.int k (k.wrap (a.tdiv b)), by simp [binOp, Op.intDiv, hb], rfl⟩
  case rem =>
    split at hl
    · cases hl
    · rename_i hb
      cases hl
      exact ⟨.int k (a.tmod b), by simp [binOp, Op.intDiv, hb], rfl⟩
  all_goals
    subst hl
    refine ⟨_, ?_, rfl⟩
    simp [binOp, Op.intArith, Op.intBits, Op.intCmp, beq_dec, bne]
theorem strBin_sound {op : BinOp} {a b : ByteArray} {x : V} {t : TypeId} (hl : strBin op a.data.toList b.data.toList = some x) :
    ∃ u, (binOp op t (.string a) (.string b)).run P W = .ok u W ∧ Rep G x u := by
  have ha := toList_data a
  have hb := toList_data b
  cases op <;> simp only [strBin, Option.some.injEq, reduceCtorEq] at hl
  case add =>
    split at hl
    · rename_i h
      cases hl
      refine ⟨.string (a ++ b), ?_, a ++ b, rfl, by simp [ByteArray.data_append]⟩
      have h' : ¬ ((a.size + b.size : Nat) : Int) > IntKind.i64.max := by
        have e : IntKind.i64.max = 9223372036854775807 := by decide
        have h2 : a.data.toList.length = a.size := by simp
        have h3 : b.data.toList.length = b.size := by simp
        rw [e]; omega
      simp only [binOp, Op.stringOp]
      rw [if_neg h']
      rfl
    · cases hl
  all_goals
    subst hl
    refine ⟨_, ?_, rfl⟩
    simp [binOp, Op.stringOp, ha, hb, beq_dec]
end Go.Abs
namespace Go.Abs
open Go
variable {P : Program} {G : Ghost} {st : St}
theorem eqOk_struct {t : TypeId} {F : Array Field} (h : eqOkOf P t (.struct F) = true) : (∀ f ∈ F.toList, f.name ≠ "_") ∧ P.stoodInHeld t = false ∧ P.eqGuardType P.depth t = false := by
  simp only [eqOkOf, Bool.and_eq_true, Bool.not_eq_true', Array.all_eq_true_iff_forall_mem, decide_eq_true_eq, ne_eq] at h
  exact ⟨fun f hf => h.1.1 f (by simpa using hf), h.1.2, h.2⟩
theorem veq_both (n : Nat) :
    (∀ (t : TypeId) (x y : V) (u v : Value) (r : Bool), veq P n t x y = some r → Rep G x u → Rep G y v → ∀ d, n ≤ d → ∀ W : World, (Op.equalIn d t u v).run P W = .ok r W) ∧
    (∀ (F : List Field) (xs ys : List V) (us vs : Array Value) (r : Bool), (∀ f ∈ F, f.name ≠ "_") → veqF P n (F.map fun f => (f.offset, f.type)) xs ys = some r →
      Reps G xs us.toList → Reps G ys vs.toList → ∀ d, n ≤ d → ∀ W : World, (Op.eqFields d us vs F).run P W = .ok r W) := by
  induction n with
  | zero => exact ⟨fun t x y u v r h => by simp [veq] at h, fun F xs ys us vs r _ h => by simp [veqF] at h⟩
  | succ n ih =>
    obtain ⟨ih1, ih2⟩ := ih
    constructor
    · intro t x y u v r h hx hy d hd W
      obtain ⟨d, rfl⟩ : ∃ m, d = m + 1 := ⟨d - 1, by omega⟩
      unfold veq at h
      cases hT : ti P t with
      | none => simp [hT] at h
      | some T =>
        obtain ⟨i, de, z, h1, h2, -, -, h3, h4, -, -, h6⟩ := ti_spec hT
        obtain ⟨D, sz, by_, ze, eq⟩ := T
        simp only at h3 h6
        rw [hT] at h
        cases D with
        | bool =>
          have := dOf_bool h3; subst this
          cases x <;> cases y <;> simp only [reduceCtorEq, Option.some.injEq] at h
          simp only [Rep] at hx hy
          subst hx; subst hy; subst h
          simp [Op.equalIn, run_underlying h2, beq_dec]
        | int k =>
          have := dOf_int h3; subst this
          cases x <;> cases y <;> simp only [reduceCtorEq] at h
          split at h
          · rename_i hk
            cases h
            simp only [Rep] at hx hy
            subst hx; subst hy; subst hk
            simp [Op.equalIn, run_underlying h2, beq_dec]
          · cases h
        | string =>
          have := dOf_string h3; subst this
          cases x <;> cases y <;> simp only [reduceCtorEq, Option.some.injEq] at h
          obtain ⟨za, rfl, rfl⟩ := hx
          obtain ⟨zb, rfl, rfl⟩ := hy
          subst h
          rw [run_equalIn_string W d t za zb h2, toList_data, toList_data, beq_dec]
        | struct fs =>
          obtain ⟨F, rfl, rfl⟩ := dOf_struct h3
          cases x <;> cases y <;> simp only [reduceCtorEq] at h
          split at h
          · rename_i he
            rw [h6] at he
            obtain ⟨e1, e2, e3⟩ := eqOk_struct he
            obtain ⟨us, rfl, hus⟩ := hx
            obtain ⟨vs, rfl, hvs⟩ := hy
            have hF : P.fieldsOf t = F := by simp [Program.fieldsOf, h2]
            rw [run_equalIn_struct W d t us vs (by rw [hF]; exact h2) e2, hF]
            exact ih2 F.toList _ _ us vs r e1 h hus hvs d (by omega) W
          · cases h
        | pointer e =>
          have := dOf_pointer h3; subst this
          cases x <;> cases y <;> simp only [reduceCtorEq, Option.some.injEq] at h <;> subst h
          · simp only [Rep] at hx hy; subst hx; subst hy; simp [Op.equalIn, run_underlying h2]
          · simp only [Rep] at hx; obtain ⟨B, _, rfl⟩ := hy; subst hx; simp [Op.equalIn, run_underlying h2]
          · simp only [Rep] at hx; obtain ⟨_, B, o, rfl, _⟩ := hy; subst hx; simp [Op.equalIn, run_underlying h2]
          · simp only [Rep] at hy; obtain ⟨B, _, rfl⟩ := hx; subst hy; simp [Op.equalIn, run_underlying h2]
          · simp only [Rep] at hy; obtain ⟨_, B, o, rfl, _⟩ := hx; subst hy; simp [Op.equalIn, run_underlying h2]
        | func =>
          obtain ⟨p, q, s, rfl⟩ := dOf_func h3
          cases x <;> cases y <;> simp only [reduceCtorEq, Option.some.injEq] at h <;> subst h
          · simp only [Rep] at hy; obtain ⟨_, _, rfl, _⟩ := hx; subst hy; simp [Op.equalIn, run_underlying h2]
          · simp only [Rep] at hx; obtain ⟨_, _, rfl, _⟩ := hy; subst hx; simp [Op.equalIn, run_underlying h2]
          · simp only [Rep] at hx hy; subst hx; subst hy; simp [Op.equalIn, run_underlying h2]
        | _ => cases x <;> cases y <;> simp at h
    · intro F xs ys us vs r hF h hx hy d hd W
      cases F with
      | nil => simp only [List.map_nil, veqF, Option.some.injEq] at h; subst h; simp [Op.eqFields]
      | cons f F =>
        simp only [List.map_cons, veqF] at h
        cases hp : partV P f.type xs f.offset with
        | none => simp [hp] at h
        | some x =>
          cases hq : partV P f.type ys f.offset with
          | none => simp [hp, hq] at h
          | some y =>
            simp only [hp, hq] at h
            cases ha : veq P n f.type x y with
            | none => simp [ha] at h
            | some a =>
              cases hb : veqF P n (F.map fun f => (f.offset, f.type)) xs ys with
              | none => simp [ha, hb] at h
              | some b =>
                simp only [ha, hb, Option.some.injEq] at h
                subst h
                obtain ⟨u, k1, k2⟩ := part_sound (P := P) (W := W) (off := f.offset) hx hp
                obtain ⟨v, k3, k4⟩ := part_sound (P := P) (W := W) (off := f.offset) hy hq
                have e1 := ih1 f.type x y u v a ha k2 k4 d (by omega) W
                have e2 := ih2 F xs ys us vs b (fun g hg => hF g (by simp [hg])) hb hx hy d (by omega) W
                cases a
                · simp [Op.eqFields, hF f (by simp), k1, k3, e1]
                · simp [Op.eqFields, hF f (by simp), k1, k3, e1, e2]
variable {W : World}
theorem eqGuard_ok {op : BinOp} {t : TypeId} {x y : Operand} {a b : V} {u v : Value} {r : Bool} (ha : Rep G a u) (hb : Rep G b v) (h : veq P eqDepth t a b = some r) :
    (eqGuard op t x y u v).run P W = .ok () W := by
  cases a <;> cases b <;> try (simp [veq, eqDepth] at h; split at h <;> simp at h; done)
  case agg.agg xs ys =>
    obtain ⟨us, rfl, _⟩ := ha
    obtain ⟨vs, rfl, _⟩ := hb
    unfold eqDepth veq at h
    cases hT : ti P t with
    | none => simp [hT] at h
    | some T =>
      obtain ⟨i, de, z, h1, h2, -, -, h3, h4, -, -, h6⟩ := ti_spec hT
      obtain ⟨D, sz, by_, ze, eq⟩ := T
      simp only at h3 h6
      rw [hT] at h
      cases D <;> simp only [reduceCtorEq] at h
      case struct fs =>
        obtain ⟨F, rfl, rfl⟩ := dOf_struct h3
        split at h
        · rename_i he
          rw [h6] at he
          exact run_eqGuard_agg W op t x y us vs (eqOk_struct he).2.2
        · cases h
  all_goals
    simp only [Rep] at ha hb
    first
      | (subst ha; subst hb; cases op <;> simp [eqGuard]; done)
      | (subst ha; obtain ⟨_, _, rfl⟩ := hb; cases op <;> simp [eqGuard]; done)
      | (subst ha; obtain ⟨_, _, _, rfl, _⟩ := hb; cases op <;> simp [eqGuard]; done)
      | (subst ha; obtain ⟨_, _, rfl, _⟩ := hb; cases op <;> simp [eqGuard]; done)
      | (subst hb; obtain ⟨_, _, rfl⟩ := ha; cases op <;> simp [eqGuard]; done)
      | (subst hb; obtain ⟨_, _, _, rfl, _⟩ := ha; cases op <;> simp [eqGuard]; done)
      | (subst hb; obtain ⟨_, _, rfl, _⟩ := ha; cases op <;> simp [eqGuard]; done)
      | (obtain ⟨_, rfl, _⟩ := ha; obtain ⟨_, rfl, _⟩ := hb; cases op <;> simp [eqGuard]; done)
end Go.Abs
namespace Go.Abs
open Go
variable {P : Program} {G : Ghost} {st : St} {W : World}
theorem eqRes_sound {op : BinOp} {t : TypeId} {x y : Operand} {a b r : V} {u v : Value} (ha : Rep G a u) (hb : Rep G b v) (h : eqRes op (veq P eqDepth t a b) = some r)
    (hop : binOp .eql t u v = (do pure (.bool (← Op.equal t u v))) ∧ binOp .neq t u v = (do pure (.bool (!(← Op.equal t u v))))) :
    ∃ w, (do eqGuard op t x y u v; binOp op t u v).run P W = .ok w W ∧ Rep G r w := by
  cases hq : veq P eqDepth t a b with
  | none => simp [hq, eqRes] at h
  | some q =>
    have hg := eqGuard_ok (op := op) (x := x) (y := y) (W := W) ha hb hq
    have he : (Op.equal t u v).run P W = .ok q W := (veq_both (P := P) (G := G) eqDepth).1 t a b u v q hq ha hb 10000 (by decide) W
    rw [hq] at h
    cases op <;> simp only [eqRes, Option.some.injEq, reduceCtorEq] at h
    · subst h; exact ⟨.bool q, by simp [hg, hop.1, he], rfl⟩
    · subst h; exact ⟨.bool (!q), by simp [hg, hop.2, he], rfl⟩
theorem binOp_sound {op : BinOp} {t : TypeId} {x y : Operand} {a b r : V} {u v : Value} (ha : Rep G a u) (hb : Rep G b v) (h : binOpV P op t a b = some r) :
    ∃ w, (do eqGuard op t x y u v; binOp op t u v).run P W = .ok w W ∧ Rep G r w := by
  cases a <;> cases b <;> simp only [binOpV, reduceCtorEq] at h
  case int.int k m k' n =>
    simp only [Rep] at ha hb
    subst ha; subst hb
    have hg : ∀ op : BinOp, (eqGuard op t x y (.int k m) (.int k' n)).run P W = .ok () W := fun op => by cases op <;> simp [eqGuard]
    cases op
    case shl =>
      simp only at h
      split at h
      · cases h
      · rename_i hn; cases h; exact ⟨_, by simp [hg, binOp, Op.shift, hn], rfl⟩
    case shr =>
      simp only at h
      split at h
      · cases h
      · rename_i hn; cases h; exact ⟨_, by simp [hg, binOp, Op.shift, hn], rfl⟩
    all_goals
      simp only at h
      split at h
      · rename_i hk
        subst hk
        obtain ⟨w, h1, h2⟩ := intBin_sound (P := P) (G := G) (W := W) (t := t) h
        exact ⟨w, by rw [Sem.run_bind, hg]; exact h1, h2⟩
      · cases h
  case str.str m n =>
    obtain ⟨za, rfl, rfl⟩ := ha
    obtain ⟨zb, rfl, rfl⟩ := hb
    obtain ⟨w, h1, h2⟩ := strBin_sound (P := P) (G := G) (W := W) (t := t) h
    refine ⟨w, ?_, h2⟩
    rw [Sem.run_bind]
    have hg : (eqGuard op t x y (.string za) (.string zb)).run P W = .ok () W := by cases op <;> simp [eqGuard]
    rw [hg]; exact h1
  all_goals
    refine eqRes_sound ha hb h ?_
    simp only [Rep] at ha hb
    first
      | (subst ha; subst hb; exact ⟨rfl, rfl⟩)
      | (subst ha; obtain ⟨_, _, rfl⟩ := hb; exact ⟨rfl, rfl⟩)
      | (subst ha; obtain ⟨_, _, _, rfl, _⟩ := hb; exact ⟨rfl, rfl⟩)
      | (subst ha; obtain ⟨_, _, rfl, _⟩ := hb; exact ⟨rfl, rfl⟩)
      | (subst hb; obtain ⟨_, _, rfl⟩ := ha; exact ⟨rfl, rfl⟩)
      | (subst hb; obtain ⟨_, _, _, rfl, _⟩ := ha; exact ⟨rfl, rfl⟩)
      | (subst hb; obtain ⟨_, _, rfl, _⟩ := ha; exact ⟨rfl, rfl⟩)
      | (obtain ⟨_, rfl, _⟩ := ha; obtain ⟨_, rfl, _⟩ := hb; exact ⟨rfl, rfl⟩)
theorem dOf_iface {d : TypeDesc} (h : D.iface = dOf d) : ∃ ms, d = .interface ms := by cases d <;> simp [dOf] at h; exact ⟨_, rfl⟩
theorem nilCmp_sound {op : BinOp} {t : TypeId} {x : Operand} {a r : V} {u : Value} (ha : Rep G a u) (h : nilCmp P op t a = some r) :
    ∃ w, (do eqGuard op t x (.const .nilIface) u .nilIface; binOp op t u .nilIface).run P W = .ok w W ∧ Rep G r w := by
  unfold nilCmp at h
  cases hT : ti P t with
  | none => simp [hT] at h
  | some T =>
    obtain ⟨i, de, z, h1, h2, -, -, h3, -⟩ := ti_spec hT
    obtain ⟨D, sz, by_, ze, eq⟩ := T
    simp only at h3
    rw [hT] at h
    cases D <;> try (simp at h; done)
    obtain ⟨ms, rfl⟩ := dOf_iface h3
    have fin : ∀ {q : Bool}, (∀ d, (Op.equalIn (d + 1) t u .nilIface).run P W = .ok q W) → ((eqGuard op t x (.const .nilIface) u .nilIface).run P W = .ok () W) →
        (binOp .eql t u .nilIface = (do pure (.bool (← Op.equal t u .nilIface))) ∧ binOp .neq t u .nilIface = (do pure (.bool (!(← Op.equal t u .nilIface))))) → eqRes op (some q) = some r →
        ∃ w, (do eqGuard op t x (.const .nilIface) u .nilIface; binOp op t u .nilIface).run P W = .ok w W ∧ Rep G r w := fun {q} he hg hop hr => by
      have he' : (Op.equal t u .nilIface).run P W = .ok q W := he 9999
      cases op <;> simp only [eqRes, Option.some.injEq, reduceCtorEq] at hr
      · subst hr; exact ⟨.bool q, by simp [hg, hop.1, he'], rfl⟩
      · subst hr; exact ⟨.bool (!q), by simp [hg, hop.2, he'], rfl⟩
    cases a <;> simp only [reduceCtorEq] at h
    case niliface =>
      simp only [Rep] at ha
      subst ha
      exact fin (fun d => by simp [Op.equalIn, run_underlying h2]) (by cases op <;> simp [eqGuard]) ⟨rfl, rfl⟩ h
    case iface ty v =>
      obtain ⟨y, rfl, _⟩ := ha
      exact fin (fun d => by simp [Op.equalIn, run_underlying h2]) (by cases op <;> simp [eqGuard]) ⟨rfl, rfl⟩ h
theorem isNilC_eq {y : Operand} (h : isNilC y = true) : y = .const .nilIface := by
  unfold isNilC at h
  split at h
  · rfl
  · cases h
theorem unOp_sound {op : UnOp} {a r : V} {u : Value} (ha : Rep G a u) (h : unOpV op a = some r) : ∃ w, (Op.unary op u).run P W = .ok w W ∧ Rep G r w := by
  cases op <;> cases a <;> simp only [unOpV, reduceCtorEq, Option.some.injEq] at h
  · simp only [Rep] at ha; subst ha; subst h; exact ⟨_, rfl, rfl⟩
  · simp only [Rep] at ha; subst ha; subst h; exact ⟨_, rfl, rfl⟩
theorem bytes_sound : ∀ {xs : List V} {vs : List Value} {bs : List UInt8}, bytesOf xs = some bs → Reps G xs vs → ∃ ns : List Int, vs = ns.map (.int .u8) ∧ bs = ns.map fun n => UInt8.ofNat n.toNat
  | [], vs, bs, h, hr => by simp only [bytesOf, Option.some.injEq] at h; simp only [Reps] at hr; subst h; subst hr; exact ⟨[], rfl, rfl⟩
  | x :: xs, vs, bs, h, hr => by
    obtain ⟨v, r, rfl, h1, h2⟩ := hr
    cases x <;> try (simp [bytesOf] at h; done)
    case int k n =>
      cases k <;> try (simp [bytesOf] at h; done)
      simp only [bytesOf, Option.map_eq_some_iff] at h
      obtain ⟨bs', h3, rfl⟩ := h
      obtain ⟨ns, h4, h5⟩ := bytes_sound h3 h2
      simp only [Rep] at h1
      subst h1
      exact ⟨n :: ns, by simp [h4], by simp [h5]⟩
theorem bytesOf_len : ∀ {xs : List V} {bs : List UInt8}, bytesOf xs = some bs → xs.flatMap vcells = xs
  | [], _, _ => rfl
  | x :: xs, bs, h => by
    cases x <;> try (simp [bytesOf] at h; done)
    case int k n =>
      cases k <;> try (simp [bytesOf] at h; done)
      simp only [bytesOf, Option.map_eq_some_iff] at h
      obtain ⟨bs', h3, rfl⟩ := h
      simp [vcells, bytesOf_len h3]
theorem foldl_push : ∀ (ns : List Int) (s : ByteArray), (ns.foldl (fun s n => s.push (UInt8.ofNat n.toNat)) s).data.toList = s.data.toList ++ ns.map fun n => UInt8.ofNat n.toNat
  | [], s => by simp
  | n :: ns, s => by simp only [List.foldl_cons, foldl_push ns, List.map_cons]; simp [ByteArray.push]
theorem convert_sound {src dst : TypeId} {a r : V} {u : Value} (h : Sim G st W) (ha : Rep G a u) (hl : convertV P src dst a = some r) :
    ∃ w W', (convert src dst u).run P W = .ok w W' ∧ Good G W G st W' ∧ Rep G r w := by
  unfold convertV at hl
  cases hS : ti P src with
  | none => simp [hS] at hl
  | some S =>
    cases hT : ti P dst with
    | none => simp [hS, hT] at hl
    | some T =>
      obtain ⟨i, d, z, h1, h2, -, -, h3, h4, -⟩ := ti_spec hS
      obtain ⟨i', d', z', h1', h2', -, -, h3', h4', -⟩ := ti_spec hT
      obtain ⟨D, sz, by_, ze, eq⟩ := S
      obtain ⟨D', sz', by_', ze', eq'⟩ := T
      simp only at h3 h3'
      rw [hS, hT] at hl
      cases a <;> try (cases D <;> cases D' <;> simp at hl; done)
      case int k n =>
        cases D' <;> try (cases D <;> simp at hl; done)
        case int k' =>
          have := dOf_int h3'; subst this
          simp only [Option.some.injEq] at hl
          subst hl
          simp only [Rep] at ha; subst ha
          exact ⟨.int k' (k'.wrap n), W, by simp [convert, run_underlying h2, run_underlying h2', Conv.intToInt], .refl h, rfl⟩
      case str s =>
        obtain ⟨zs, rfl, rfl⟩ := ha
        cases D <;> try (cases D' <;> simp at hl; done)
        cases D' <;> try (simp at hl; done)
        case string.string =>
          have := dOf_string h3; subst this
          have := dOf_string h3'; subst this
          simp only [Option.some.injEq] at hl
          subst hl
          exact ⟨.string zs, W, by simp [convert, run_underlying h2, run_underlying h2'], .refl h, zs, rfl, rfl⟩
      case slice o xs =>
        cases D <;> try (cases D' <;> simp at hl; done)
        cases D' <;> try (simp at hl; done)
        case slice.string e =>
          have := dOf_slice h3; subst this
          have := dOf_string h3'; subst this
          simp only at hl
          cases hE : ti P e with
          | none => simp [hE] at hl
          | some E =>
            obtain ⟨D'', sz'', by_'', ze'', eq''⟩ := E
            obtain ⟨i'', d'', z'', h1'', h2'', -, -, h3'', h4'', -⟩ := ti_spec hE
            rw [hE] at hl
            cases D'' <;> try (simp at hl; done)
            case int kk =>
              cases kk <;> try (simp at hl; done)
              have := dOf_int h3''; subst this
              simp only [Option.map_eq_some_iff] at hl
              obtain ⟨bs, hbs, rfl⟩ := hl
              obtain ⟨a, cap, rfl, _, _, hn, _, hcase⟩ := ha
              rcases hcase with rfl | ⟨B, off, rfl, hr⟩
              · simp only [bytesOf, Option.some.injEq] at hbs
                subst hbs
                refine ⟨.string .empty, W, ?_, .refl h, _, rfl, rfl⟩
                rw [run_convert_bytes_string W src dst e _ _ _ h2 h2'' h2']
                cases a with
                | none => simp [Conv.bytesToString]
                | some ad => exact run_bytesToString W ad 0 cap [] (run_loadCells_list (P := P) W ad [] (fun j v e => by simp at e))
              · rw [readsE_flat, bytesOf_len hbs] at hr
                obtain ⟨vs, k1, _, k3⟩ := hr.exists
                obtain ⟨ns, rfl, rfl⟩ := bytes_sound hbs k1
                have hlc := run_loadCells_list (P := P) W (adr B off) (ns.map (Value.int .u8)) (fun j v e => by rw [adr_add]; exact h.cell (k3 j v e))
                have hlen : xs.length = ns.length := by simpa using k1.length
                rw [List.length_map] at hlc
                refine ⟨_, W, ?_, .refl h, _, rfl, foldl_push ns .empty⟩
                rw [run_convert_bytes_string W src dst e _ _ _ h2 h2'' h2', hlen]
                exact run_bytesToString W (adr B off) ns.length cap ns hlc
theorem winStr_sound {src dst : TypeId} {b off n : Nat} {r : V} {u : Value} (h : Sim G st W) (ha : Rep G (.win b off n) u) (hl : winStr P src dst b off n st = some r) :
    ∃ w W', (convert src dst u).run P W = .ok w W' ∧ Good G W G st W' ∧ Rep G r w := by
  unfold winStr at hl
  cases hS : ti P src with
  | none => simp [hS] at hl
  | some S =>
    cases hT : ti P dst with
    | none => simp [hS, hT] at hl
    | some T =>
      obtain ⟨i, d, z, h1, h2, -, -, h3, h4, -⟩ := ti_spec hS
      obtain ⟨i', d', z', h1', h2', -, -, h3', h4', -⟩ := ti_spec hT
      obtain ⟨D, sz, by_, ze, eq⟩ := S
      obtain ⟨D', sz', by_', ze', eq'⟩ := T
      simp only at h3 h3'
      obtain ⟨B, cap, hB, hcap, rfl⟩ := ha
      obtain ⟨⟨cs, c, Ty, e1, e2, e3⟩, _⟩ := h.box b B hB
      rw [hS, hT, e1] at hl
      cases D <;> try (cases D' <;> simp at hl; done)
      cases D' <;> try (simp at hl; done)
      case slice.string e =>
        have := dOf_slice h3; subst this
        have := dOf_string h3'; subst this
        simp only at hl
        cases hE : ti P e with
        | none => simp [hE] at hl
        | some E =>
          obtain ⟨D'', sz'', by_'', ze'', eq''⟩ := E
          obtain ⟨i'', d'', z'', h1'', h2'', -, -, h3'', h4'', -⟩ := ti_spec hE
          rw [hE] at hl
          cases D'' <;> try (simp at hl; done)
          case int kk =>
            cases kk <;> try (simp at hl; done)
            have := dOf_int h3''; subst this
            simp only at hl
            split at hl
            · rename_i hle
              simp only [Option.map_eq_some_iff] at hl
              obtain ⟨bs, hbs, rfl⟩ := hl
              have hcs := e3.length
              obtain ⟨ns, hns, rfl⟩ := bytes_sound hbs ((e3.drop off).take n)
              have hlen : ns.length = n := by
                have := congrArg List.length hns
                simp at this
                have hcs' : cs.length = c.size := by simpa using hcs
                omega
              have hlc := run_loadCells_list (P := P) W (adr B off) (ns.map (Value.int .u8)) (fun j v e => by
                rw [adr_add]
                rw [← hns, List.getElem?_take] at e
                split at e
                · rw [List.getElem?_drop] at e
                  simpa [World.cell?, adr, e2] using e
                · cases e)
              rw [List.length_map] at hlc
              refine ⟨_, W, ?_, .refl h, _, rfl, foldl_push ns .empty⟩
              rw [run_convert_bytes_string W src dst e _ _ _ h2 h2'' h2', ← hlen]
              exact run_bytesToString W (adr B off) ns.length cap ns hlc
            · cases hl
theorem convV_sound {src dst : TypeId} {a r : V} {u : Value} (h : Sim G st W) (ha : Rep G a u) (hl : convV P src dst a st = some r) :
    ∃ w W', (convert src dst u).run P W = .ok w W' ∧ Good G W G st W' ∧ Rep G r w := by
  cases a <;> first | exact convert_sound h ha hl | exact winStr_sound h ha hl
theorem natOf_sound {v : V} {n : Nat} {u : Value} (h : natOf v = some n) (hr : Rep G v u) : ∃ k, u = .int k (n : Int) := by
  cases v <;> simp only [natOf, reduceCtorEq] at h
  case int k m =>
    split at h
    · rename_i hm
      cases h
      simp only [Rep] at hr
      exact ⟨k, by rw [hr]; congr 1; omega⟩
    · cases h
theorem run_bound {k : IntKind} {n y : Nat} {c : BoundsCode} (h : n ≤ y) : (Instr.sliceBound (.int k (n : Int)) y c).run P W = .ok n W := by
  have h' : (n : Int) ≤ (y : Int) := by omega
  simp [Instr.sliceBound, asIntOf, h']
end Go.Abs
namespace Go.Abs
open Go
variable {P : Program} {G : Ghost} {st : St} {W : World}
theorem readsE_cut {G : Ghost} {xs : List V} {B off s : Nat} (hs : ∀ x ∈ xs, (vcells x).length = s) (hr : ReadsE G xs B off) (h l : Nat) (hl : l ≤ h) (hh : h ≤ xs.length) :
    ReadsE G ((xs.take h).drop l) B (off + l * s) := by
  rw [readsE_flat] at hr ⊢
  have e : xs.flatMap vcells = (xs.take l).flatMap vcells ++ (((xs.take h).drop l).flatMap vcells ++ (xs.drop h).flatMap vcells) := by
    rw [← List.flatMap_append, ← List.flatMap_append]
    congr 1
    rw [show xs.take l = (xs.take h).take l by rw [List.take_take, Nat.min_eq_left hl], ← List.append_assoc, List.take_append_drop, List.take_append_drop]
  have hlen : ((xs.take l).flatMap vcells).length = l * s := by
    have : ∀ ys : List V, (∀ x ∈ ys, (vcells x).length = s) → (ys.flatMap vcells).length = ys.length * s := by
      intro ys
      induction ys with
      | nil => simp
      | cons y ys ih =>
        intro hy
        rw [List.flatMap_cons, List.length_append, hy y (by simp), ih (fun x hx => hy x (by simp [hx])), List.length_cons, Nat.add_mul]; omega
    rw [this _ (fun x hx => hs x (List.mem_of_mem_take hx)), List.length_take, Nat.min_eq_left (by omega)]
  rw [e, Reads.append, Reads.append, hlen] at hr
  exact hr.2.1
theorem all_len {xs : List V} {n : Nat} (h : xs.all (fun x => (vcells x).length == n) = true) : ∀ x ∈ xs, (vcells x).length = n := by
  intro x hx
  have := List.all_eq_true.1 h x hx
  simpa using this
theorem sub_rep {o : Own} {xs : List V} {a : Option Addr} {h l n s size : Nat} (hl : l ≤ h) (hh : h ≤ xs.length) (hs : ∀ x ∈ xs, (vcells x).length = size)
    (hn : ∀ x ∈ xs, refs x = []) (hcase : xs = [] ∨ ∃ B off, a = some (adr B off) ∧ ReadsE G xs B off) (hle : h - l ≤ n - l)
    (ho : OwnOk G (if n = l then a else a.map (·.add (l * size))) ((xs.take h).drop l) (n - l) o) (hsz : s = size) :
    Rep G (.slice o ((xs.take h).drop l)) (.slice (if n = l then a else a.map (·.add (l * size))) (h - l) (n - l)) := by
  subst hsz
  have hlen : ((xs.take h).drop l).length = h - l := by simp; omega
  refine ⟨_, n - l, by rw [hlen], by rw [hlen]; exact hle, ho, fun x hx => hn x (List.mem_of_mem_take (List.mem_of_mem_drop hx)), ⟨s, fun x hx => hs x (List.mem_of_mem_take (List.mem_of_mem_drop hx))⟩, ?_⟩
  rcases hcase with rfl | ⟨B, off, rfl, hr⟩
  · left; simp
  · right
    by_cases hnl : n = l
    · rw [if_pos hnl]
      have : (xs.take h).drop l = [] := List.eq_nil_of_length_eq_zero (by rw [hlen]; omega)
      exact ⟨B, off, rfl, by rw [this]; trivial⟩
    · rw [if_neg hnl]
      exact ⟨B, off + l * s, by simp [adr_add], readsE_cut hs hr h l hl hh⟩
theorem slice_sound {t : TypeId} {x r : V} {u : Value} {ev : Operand → V} {ρ : Operand → Value} (hev : ∀ o, Rep G (ev o) (ρ o)) {lo hi mx : Option Operand}
    (hx : Rep G x u) (hl : sliceV P t x (lo.map ev) (hi.map ev) (mx.map ev) = some r) :
    ∃ w, (Instr.sliceAt t u (lo.map ρ) (hi.map ρ) (mx.map ρ)).run P W = .ok w W ∧ Rep G r w := by
  unfold sliceV at hl
  cases hT : ti P t with
  | none => simp [hT] at hl
  | some T =>
    obtain ⟨i, d, z, h1, h2, -, -, h3, h4, -⟩ := ti_spec hT
    obtain ⟨D, sz, by_, ze, eq⟩ := T
    simp only at h3
    rw [hT] at hl
    -- bounds
    have bnd : ∀ {o : Option Operand} {n : Nat} {y : Nat} {c : BoundsCode} {dflt : Nat}, (match o.map ev with | some v => natOf v | none => some dflt) = some n → n ≤ y →
        (match o.map ρ with | some v => Instr.sliceBound v y c | none => pure dflt : Sem Nat).run P W = .ok n W := by
      intro o n y c dflt hn hny
      cases o with
      | none => simp only [Option.map_none, Option.some.injEq] at hn ⊢; subst hn; rfl
      | some o =>
        simp only [Option.map_some] at hn ⊢
        obtain ⟨k, hk⟩ := natOf_sound hn (hev o)
        rw [hk]; exact run_bound hny
    cases D <;> try (cases x <;> cases mx <;> simp at hl; done)
    case string =>
      have := dOf_string h3; subst this
      cases x <;> try (cases mx <;> simp at hl; done)
      case str s =>
        cases mx <;> simp only [Option.map_none, Option.map_some, reduceCtorEq] at hl
        obtain ⟨zs, rfl, rfl⟩ := hx
        split at hl
        · rename_i h l hh hll
          split at hl
          · rename_i hb
            cases hl
            have hsz : zs.data.toList.length = zs.size := by simp
            have b1 := bnd (y := zs.size) (c := .sliceAlen) hh (by omega)
            have b2 := bnd (y := h) (c := .sliceB) hll hb.1
            refine ⟨.string (zs.extract l h), ?_, _, rfl, ?_⟩
            · rw [hsz] at b1
              have hbounds : (Instr.sliceBounds false zs.size zs.size (lo.map ρ) (hi.map ρ) none).run P W = .ok (l, h, zs.size) W := by
                unfold Instr.sliceBounds
                cases hi <;> cases lo <;> simp_all
              simp [Instr.sliceAt, run_underlying h2, Instr.slice, hbounds]
            · rw [ByteArray.data_extract, Array.toList_extract, List.extract_eq_take_drop]
              rw [List.drop_take]
          · cases hl
        · cases hl
    case slice e =>
      have := dOf_slice h3; subst this
      cases x <;> try (cases mx <;> simp at hl; done)
      case slice o xs =>
        cases hE : ti P e with
        | none => cases mx <;> simp [hE] at hl
        | some E =>
          obtain ⟨i', d', z', h1', h2', -, -, -, h4', -⟩ := ti_spec hE
          obtain ⟨a, cap, rfl, hcap, hown, hn, _, hcase⟩ := hx
          cases mx with
          | none =>
            simp only [Option.map_none, hE] at hl
            split at hl
            · rename_i E' h l hE' hh hll
              cases hE'
              split at hl
              · rename_i hb
                cases hl
                obtain ⟨hb1, hb2, hb3⟩ := hb
                have b1 := bnd (y := cap) (c := .sliceAcap) hh (by omega)
                have b2 := bnd (y := h) (c := .sliceB) hll hb1
                have hbounds : (Instr.sliceBounds true xs.length cap (lo.map ρ) (hi.map ρ) none).run P W = .ok (l, h, cap) W := by
                  unfold Instr.sliceBounds
                  cases hi <;> cases lo <;> simp_all
                refine ⟨_, ?_, sub_rep (s := E.size) (n := cap) hb1 hb2 (all_len hb3) hn hcase (by omega) trivial rfl⟩
                simp [Instr.sliceAt, run_underlying h2, Instr.slice, hbounds, sizeOf, typeInfo, h1', h4']
              · cases hl
            · cases hl
          | some m =>
            simp only [Option.map_some, hE] at hl
            split at hl
            · rename_i E' h l m' hE' hh hll hm
              cases hE'
              split at hl
              · rename_i hb
                cases hl
                obtain ⟨hb1, hb2, hb3, hb4⟩ := hb
                cases hi with
                | none => simp at hh
                | some hi =>
                  simp only [Option.map_some] at hh
                  obtain ⟨k1, e1⟩ := natOf_sound hh (hev hi)
                  obtain ⟨k2, e2⟩ := natOf_sound hm (hev m)
                  have b1 : (Instr.sliceBound (ρ hi) m' .slice3B).run P W = .ok h W := by rw [e1]; exact run_bound hb2
                  have b3 : (Instr.sliceBound (ρ m) cap .slice3Acap).run P W = .ok m' W := by rw [e2]; exact run_bound (by omega)
                  have b2 := bnd (y := h) (c := .slice3C) hll hb1
                  have hbounds : (Instr.sliceBounds true xs.length cap (lo.map ρ) (some (ρ hi)) (some (ρ m))).run P W = .ok (l, h, m') W := by
                    unfold Instr.sliceBounds
                    cases lo <;> simp_all
                  refine ⟨_, ?_, sub_rep (s := E.size) (n := m') hb1 (by omega) (all_len hb4) hn hcase (by omega) ?_ rfl⟩
                  · simp [Instr.sliceAt, run_underlying h2, Instr.slice, hbounds, sizeOf, typeInfo, h1', h4']
                  · by_cases hmm : h = m' ∧ 0 < xs.length
                    · rw [if_pos hmm]
                      obtain ⟨rfl, hpos⟩ := hmm
                      refine ⟨by simp; omega, ?_⟩
                      rcases hcase with rfl | ⟨B, off, rfl, _⟩
                      · simp at hpos
                      · split
                        · exact ⟨some (B, off), rfl, fun e => by cases e⟩
                        · exact ⟨some (B, off + l * E.size), by simp [adr_add, addrOf], fun e => by cases e⟩
                    · rw [if_neg hmm]; trivial
              · cases hl
            · cases hl
    case array n e =>
      have := dOf_array h3; subst this
      cases x <;> try (cases mx <;> simp at hl; done)
      case box b off =>
        cases mx <;> simp only [Option.map_none, Option.map_some, reduceCtorEq] at hl
        split at hl
        · rename_i E h l hE hh hll
          split at hl
          · rename_i hb
            cases hl
            obtain ⟨hb1, hb2, hb3⟩ := hb
            obtain ⟨i', d', z', h1', -, -, -, -, h4', -⟩ := ti_spec hE
            obtain ⟨B, hB, rfl⟩ := hx
            have b1 := bnd (y := n) (c := .sliceAlen) hh hb2
            have b2 := bnd (y := h) (c := .sliceB) hll hb1
            have hbounds : (Instr.sliceBounds false n n (lo.map ρ) (hi.map ρ) none).run P W = .ok (l, h, n) W := by
              unfold Instr.sliceBounds
              cases hi <;> cases lo <;> simp_all
            refine ⟨.slice (some (adr B (off + l * E.size))) (h - l) (n - l), ?_, B, n - l, hB, by omega, rfl⟩
            have hne : ¬ n = l := by omega
            simp [Instr.sliceAt, run_underlying h2, Instr.sureAddr, hbounds, sizeOf, typeInfo, h1', h4', hne, adr_add]
          · cases hl
        · cases hl
end Go.Abs
