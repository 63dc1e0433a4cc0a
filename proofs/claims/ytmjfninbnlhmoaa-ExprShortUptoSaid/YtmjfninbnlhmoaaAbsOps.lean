/- Each operation on values: the machine does what the abstract one says. -/
import Derived.Test.YtmjfninbnlhmoaaAbsApp
import Derived.KernelRfl
namespace Go.Abs
open Go

variable {P : Program} {G : Ghost} {st : St} {W : World}

theorem ti_spec {t : TypeId} {T : TI} (h : ti P t = some T) : ∃ i d z, P.info? t = some i ∧ P.underlying t = some d ∧ i.zero = some z ∧ z.cells.size = i.size ∧
    T.d = dOf d ∧ T.size = i.size ∧ T.bytes = i.bytes ∧ T.zero = ofValue z ∧ T.eqOk = eqOkOf P t d := by
  unfold ti at h
  cases hi : P.info? t with
  | none => simp [hi] at h
  | some i =>
    cases hu : P.underlying t with
    | none => simp [hi, hu] at h
    | some d =>
      cases hz : i.zero with
      | none => simp [hi, hu, hz] at h
      | some z =>
        simp only [hi, hu, hz] at h
        split at h
        · rename_i hs
          cases h
          exact ⟨i, d, z, rfl, rfl, hz, hs, rfl, rfl, rfl, rfl, rfl⟩
        · cases h

theorem dOf_slice {d : TypeDesc} {e : TypeId} (h : D.slice e = dOf d) : d = .slice e := by cases d <;> simp [dOf] at h; rw [h]
theorem dOf_array {d : TypeDesc} {n : Nat} {e : TypeId} (h : D.array n e = dOf d) : d = .array n e := by cases d <;> simp [dOf] at h; rw [h.1, h.2]
theorem dOf_string {d : TypeDesc} (h : D.string = dOf d) : d = .string := by cases d <;> simp [dOf] at h; rfl
theorem dOf_bool {d : TypeDesc} (h : D.bool = dOf d) : d = .bool := by cases d <;> simp [dOf] at h; rfl
theorem dOf_func {d : TypeDesc} (h : D.func = dOf d) : ∃ a b c, d = .func a b c := by cases d <;> simp [dOf] at h; exact ⟨_, _, _, rfl⟩
theorem dOf_pointer {d : TypeDesc} {e : TypeId} (h : D.pointer e = dOf d) : d = .pointer e := by cases d <;> simp [dOf] at h; rw [h]
theorem dOf_int {d : TypeDesc} {k : IntKind} (h : D.int k = dOf d) : d = .int k := by cases d <;> simp [dOf] at h; rw [h]
theorem dOf_struct {d : TypeDesc} {fs : List (Nat × TypeId)} (h : D.struct fs = dOf d) : ∃ F, d = .struct F ∧ fs = F.toList.map fun f => (f.offset, f.type) := by
  cases d <;> simp [dOf] at h; exact ⟨_, rfl, h⟩

theorem run_isAgg {t : TypeId} {d : TypeDesc} (h : P.underlying t = some d) (w : World) : (isAgg t).run P w = .ok (dOf d).isAgg w := by
  unfold isAgg
  rw [Sem.run_bind, run_underlying h w]
  cases d <;> rfl

theorem adr_add (B off n : Nat) : (adr B off).add n = adr B (off + n) := Addr.add_mid B off n

/- cells that lie behind an address -/
def Lies (G : Ghost) (W : World) (cs : List V) (B off : Nat) : Prop :=
  ∃ vs : List Value, Reps G cs vs ∧ ∀ (i : Nat) (v : Value), vs[i]? = some v → W.cell? (adr B (off + i)) = some v

theorem Lies.of_reads (h : Sim G st W) {cs : List V} {B off : Nat} (hr : Reads G cs B off) : Lies G W cs B off := by
  obtain ⟨vs, h1, _, h3⟩ := hr.exists
  exact ⟨vs, h1, fun i v e => h.cell (h3 i v e)⟩

theorem lies_of (h : Sim G st W) {xa : V} {va : Value} {cs : List V} (ha : Rep G xa va) (hc : cellsAt st xa = some cs) :
    ∃ B off, va = .pointer (some (adr B off)) ∧ Lies G W cs B off := by
  cases xa <;> simp only [cellsAt, Option.map_eq_some_iff, reduceCtorEq, Option.some.injEq] at hc
  case box b off =>
    obtain ⟨cs0, e0, rfl⟩ := hc
    obtain ⟨B, hB, rfl⟩ := ha
    obtain ⟨⟨cs1, c, T, h1, h2, h3⟩, _⟩ := h.box b B hB
    rw [e0] at h1; cases h1
    refine ⟨B, off, rfl, c.toList.drop off, h3.drop off, fun i v e => ?_⟩
    rw [List.getElem?_drop] at e
    simpa [World.cell?, adr, h2] using e
  case ro cs0 =>
    subst hc
    obtain ⟨_, B, off, rfl, h2⟩ := ha
    exact ⟨B, off, rfl, .of_reads h h2⟩

theorem load_sound (h : Sim G st W) {t : TypeId} {xa x : V} {va : Value} (ha : Rep G xa va) (hl : loadV P t xa st = some x) :
    ∃ u, (Instr.loadAt t va).run P W = .ok u W ∧ Rep G x u := by
  unfold loadV at hl
  cases hT : ti P t with
  | none => simp [hT] at hl
  | some T =>
    cases hc : cellsAt st xa with
    | none => simp [hT, hc] at hl
    | some cs =>
      simp only [hT, hc] at hl
      obtain ⟨i, d, z, h1, h2, -, -, h3, h4, -⟩ := ti_spec hT
      obtain ⟨B, off, rfl, vs, k1, k2⟩ := lies_of h ha hc
      unfold takeV at hl
      rw [h3] at hl
      cases hag : (dOf d).isAgg with
      | true =>
        rw [hag, if_pos rfl] at hl
        split at hl
        · rename_i hsz
          cases hl
          have hlen := k1.length
          have hrow : d.isRow = true := by cases d <;> simp_all [dOf, D.isAgg]
          have hr := run_loadAt_mid (P := P) W B off t (vs.take T.size) d (fun j v e => k2 j v (by rw [List.getElem?_take] at e; split at e; exact e; cases e)) h2 hrow
            (by rw [h1]; simp; omega)
          exact ⟨_, hr, vs.take T.size |>.toArray, rfl, by simpa using k1.take T.size⟩
        · cases hl
      | false =>
        rw [hag, if_neg (by simp)] at hl
        cases cs with
        | nil => simp at hl
        | cons y ys =>
          simp only [List.head?_cons, Option.some.injEq] at hl
          subst hl
          obtain ⟨v, r, rfl, k3, _⟩ := k1
          refine ⟨v, ?_, k3⟩
          have := k2 0 v rfl
          simp only [Nat.add_zero] at this
          simp [Instr.loadAt, Instr.sureAddr, loadVar, run_isAgg h2, hag, this]

theorem fieldAddr_sound {t : TypeId} {xa x : V} {va : Value} {f : Nat} (ha : Rep G xa va) (hl : fieldAddrV P t xa f = some x) :
    ∃ u, (Instr.fieldAt t va f).run P W = .ok u W ∧ Rep G x u := by
  unfold fieldAddrV at hl
  cases hT : ti P t with
  | none => simp [hT] at hl
  | some T =>
    obtain ⟨i, d, z, h1, h2, -, -, h3, h4, -⟩ := ti_spec hT
    obtain ⟨D, sz, by_, ze, eq⟩ := T
    simp only at h3
    cases hD : D with
    | struct fs =>
      subst hD
      obtain ⟨F, rfl, rfl⟩ := dOf_struct h3
      rw [hT] at hl
      simp only [List.getElem?_map, Array.getElem?_toList] at hl
      cases hf : F[f]? with
      | none => simp [hf] at hl
      | some fl =>
        simp only [hf, Option.map_some] at hl
        cases hU : ti P fl.type with
        | none => simp [hU] at hl
        | some U =>
          obtain ⟨i', d', z', h1', _, _, _, _, h4', _⟩ := ti_spec hU
          simp only [hU] at hl
          cases xa <;> simp only [reduceCtorEq] at hl
          case box b off =>
            split at hl
            · cases hl
            · rename_i hne
              cases hl
              obtain ⟨B, hB, rfl⟩ := ha
              refine ⟨.pointer (some (adr B (off + fl.offset))), ?_, ⟨B, hB, rfl⟩⟩
              have hne' : i'.size ≠ 0 := by rw [← h4']; exact hne
              simp [Instr.fieldAt, run_underlying h2, hf, Instr.sureAddr, fieldPlace, sizeOf, typeInfo, h1', hne', adr_add]
          case ro cs =>
            split at hl
            · cases hl
            · rename_i hne
              cases hl
              obtain ⟨h0, B, off, rfl, hr⟩ := ha
              refine ⟨.pointer (some (adr B (off + fl.offset))), ?_, ⟨?_, B, off + fl.offset, rfl, hr.drop'⟩⟩
              · have hne' : i'.size ≠ 0 := by rw [← h4']; exact hne
                simp [Instr.fieldAt, run_underlying h2, hf, Instr.sureAddr, fieldPlace, sizeOf, typeInfo, h1', hne', adr_add]
              · exact refsL_nil_iff.2 fun y hy => refsL_nil_iff.1 h0 y (List.mem_of_mem_drop hy)
    | _ => simp [hT, hD] at hl

theorem part_sound {t : TypeId} {cs : List V} {vs : Array Value} {off : Nat} {x : V} (ha : Reps G cs vs.toList) (hl : partV P t cs off = some x) :
    ∃ u, (part t vs off).run P W = .ok u W ∧ Rep G x u := by
  unfold partV at hl
  cases hT : ti P t with
  | none => simp [hT] at hl
  | some T =>
    obtain ⟨i, d, z, h1, h2, -, -, h3, h4, -⟩ := ti_spec hT
    simp only [hT, h3] at hl
    cases hag : (dOf d).isAgg with
    | true =>
      simp only [hag, if_true] at hl
      split at hl
      · cases hl
        refine ⟨.agg (vs.extract off (off + i.size)), ?_, _, rfl, ?_⟩
        · simp [part, run_isAgg h2, hag, sizeOf, typeInfo, h1]
        · rw [h4]
          have := (ha.drop off).take i.size
          simpa [List.extract_eq_take_drop, Nat.add_sub_cancel_left] using this
      · cases hl
    | false =>
      simp only [hag, Bool.false_eq_true, if_false] at hl
      obtain ⟨v, hv, hr⟩ := ha.get hl
      refine ⟨v, ?_, hr⟩
      have : vs[off]? = some v := by simpa using hv
      simp [part, run_isAgg h2, hag, this]

theorem field_sound {t : TypeId} {xa x : V} {va : Value} {f : Nat} (ha : Rep G xa va) (hl : fieldV P t xa f = some x) :
    ∃ u, (Instr.field t va f).run P W = .ok u W ∧ Rep G x u := by
  unfold fieldV at hl
  cases hT : ti P t with
  | none => simp [hT] at hl
  | some T =>
    obtain ⟨i, d, z, h1, h2, -, -, h3, h4, -⟩ := ti_spec hT
    obtain ⟨D, sz, by_, ze, eq⟩ := T
    simp only at h3
    cases hD : D with
    | struct fs =>
      subst hD
      obtain ⟨F, rfl, rfl⟩ := dOf_struct h3
      rw [hT] at hl
      cases xa <;> simp only [reduceCtorEq] at hl
      case agg cs =>
        simp only [List.getElem?_map, Array.getElem?_toList] at hl
        cases hf : F[f]? with
        | none => simp [hf] at hl
        | some fl =>
          simp only [hf, Option.map_some] at hl
          obtain ⟨vs, rfl, hvs⟩ := ha
          obtain ⟨u, k1, k2⟩ := part_sound (W := W) hvs hl
          refine ⟨u, ?_, k2⟩
          simp [Instr.field, run_underlying h2, hf, asAgg, k1]
    | _ => cases xa <;> simp [hT, hD] at hl

theorem indexAddr_sound {t : TypeId} {xa xi x : V} {va vi : Value} (ha : Rep G xa va) (hi : Rep G xi vi) (hl : indexAddrV P t xa xi = some x) :
    ∃ u, (Instr.indexAt t va vi).run P W = .ok u W ∧ Rep G x u := by
  unfold indexAddrV at hl
  cases xi <;> simp only [reduceCtorEq] at hl
  case int k n =>
    simp only [Rep] at hi
    subst hi
    cases hT : ti P t with
    | none => simp [hT] at hl
    | some T =>
      obtain ⟨i, d, z, h1, h2, -, -, h3, h4, -⟩ := ti_spec hT
      obtain ⟨D, sz, by_, ze, eq⟩ := T
      simp only at h3
      cases hD : D with
      | slice e =>
        subst hD
        have := dOf_slice h3
        subst this
        rw [hT] at hl
        cases xa <;> simp only [reduceCtorEq] at hl
        case slice o xs =>
          cases hE : ti P e with
          | none => simp [hE] at hl
          | some E =>
            cases hx : xs[n.toNat]? with
            | none => simp [hE, hx] at hl
            | some y =>
              obtain ⟨i', d', z', h1', _, _, _, _, h4', _⟩ := ti_spec hE
              simp only [hE, hx] at hl
              split at hl
              · rename_i hc
                cases hl
                obtain ⟨hc1, hc2, hc3⟩ := hc
                obtain ⟨a, cap, rfl, _, _, hn, ⟨s, hs⟩, hcase⟩ := ha
                rcases hcase with ⟨rfl, _⟩ | ⟨B, off, rfl, hr⟩
                · simp at hx
                have hmem := List.mem_of_getElem? hx
                have hsE : s = i'.size := by rw [← h4', ← hc3, hs y hmem]
                rw [readsE_flat] at hr
                have key : ∀ (xs : List V) (m o : Nat) (y : V), (∀ x ∈ xs, (vcells x).length = s) → xs[m]? = some y → Reads G (xs.flatMap vcells) B o → Reads G (vcells y) B (o + m * s) := by
                  intro xs
                  induction xs with
                  | nil => intro m o y _ h _; simp at h
                  | cons w ws ih =>
                    intro m o y hall hm hr
                    rw [List.flatMap_cons, Reads.append] at hr
                    cases m with
                    | zero => simp at hm; subst hm; simpa using hr.1
                    | succ m =>
                      have := ih m (o + (vcells w).length) y (fun x hx => hall x (by simp [hx])) (by simpa using hm) hr.2
                      rw [hall w (by simp)] at this
                      rwa [show o + (m + 1) * s = o + s + m * s by rw [Nat.add_mul]; omega]
                have hry := key xs n.toNat off y hs hx hr
                refine ⟨.pointer (some (adr B (off + n.toNat * s))), ?_, ⟨by rw [refs_vcells]; exact hn y hmem, B, _, rfl, hry⟩⟩
                have hc2' : n < (xs.length : Int) := hc2
                simp [Instr.indexAt, asIntOf, run_underlying h2, hc1, hc2', sizeOf, typeInfo, h1', ← hsE, adr_add]
              · cases hl
      | array len e =>
        subst hD
        have := dOf_array h3
        subst this
        rw [hT] at hl
        cases xa <;> simp only [reduceCtorEq] at hl
        case box b off =>
          cases hE : ti P e with
          | none => simp [hE] at hl
          | some E =>
            obtain ⟨i', d', z', h1', _, _, _, _, h4', _⟩ := ti_spec hE
            simp only [hE] at hl
            split at hl
            · rename_i hc
              cases hl
              obtain ⟨B, hB, rfl⟩ := ha
              refine ⟨.pointer (some (adr B (off + n.toNat * E.size))), ?_, ⟨B, hB, rfl⟩⟩
              simp [Instr.indexAt, asIntOf, run_underlying h2, Instr.sureAddr, hc.1, hc.2, sizeOf, typeInfo, h1', h4', adr_add]
            · cases hl
      | _ => cases xa <;> simp [hT, hD] at hl

end Go.Abs
