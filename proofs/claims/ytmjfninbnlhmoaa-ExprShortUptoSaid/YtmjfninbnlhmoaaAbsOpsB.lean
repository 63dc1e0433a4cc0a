/- Each operation on values, continued: indexes, numbers, strings, comparisons, conversions, slices, literals. -/
import Derived.Test.YtmjfninbnlhmoaaAbsOps
namespace Go.Abs
open Go

variable {P : Program} {G : Ghost} {st : St} {W : World}

theorem toList_data (s : ByteArray) : s.toList = s.data.toList := by
  have key : ∀ (n i : Nat) (r : List UInt8), s.size - i = n → ByteArray.toList.loop s i r = r.reverse ++ s.data.toList.drop i := by
    intro n
    induction n with
    | zero =>
      intro i r h
      unfold ByteArray.toList.loop
      have : ¬ i < s.size := by omega
      rw [if_neg this, List.drop_of_length_le (by simp; show s.size ≤ i; omega)]; simp
    | succ n ih =>
      intro i r h
      unfold ByteArray.toList.loop
      have hi : i < s.size := by omega
      rw [if_pos hi, ih (i + 1) _ (by omega)]
      have hget : s.data.toList.drop i = s.get! i :: s.data.toList.drop (i + 1) := by
        have hl : i < s.data.toList.length := by simpa using hi
        rw [List.drop_eq_getElem_cons hl]
        congr 1
        have hi' : i < s.data.size := hi
        simp only [ByteArray.get!, Array.getElem_toList]
        rw [getElem!_pos s.data i hi']
      rw [hget]; simp
  have := key s.size 0 [] (by omega)
  simpa [ByteArray.toList] using this

theorem beq_dec {α : Type} [DecidableEq α] [BEq α] [LawfulBEq α] (a b : α) : (a == b) = decide (a = b) := by
  rw [Bool.eq_iff_iff]; simp

theorem index_sound {t : TypeId} {xa xi x : V} {va vi : Value} (ha : Rep G xa va) (hi : Rep G xi vi) (hl : indexV P t xa xi = some x) :
    ∃ u, (Instr.index t va vi).run P W = .ok u W ∧ Rep G x u := by
  unfold indexV at hl
  cases xi <;> simp only [reduceCtorEq] at hl
  case int k n =>
    simp only [Rep] at hi
    subst hi
    cases hT : ti P t with
    | none => simp [hT] at hl
    | some T =>
      obtain ⟨i, d, z, h1, h2, -, -, h3, h4, -⟩ := ti_spec hT
      obtain ⟨D, sz, by_, ze, eq⟩ := T
      simp only at h3
      cases hD : D with
      | string =>
        subst hD
        have := dOf_string h3
        subst this
        rw [hT] at hl
        cases xa <;> simp only [reduceCtorEq] at hl
        case str s =>
          split at hl
          · rename_i hc
            obtain ⟨zs, rfl, hz⟩ := ha
            cases hb : s[n.toNat]? with
            | none => simp [hb] at hl
            | some b =>
              simp only [hb, Option.map_some, Option.some.injEq] at hl
              subst hl
              have hz' : zs[n.toNat]? = some b := by
                subst hz
                have h5 := (List.getElem?_eq_some_iff.1 hb)
                obtain ⟨h6, h7⟩ := h5
                have h8 : n.toNat < zs.size := by simpa using h6
                rw [getElem?_pos zs n.toNat h8]
                simp only [Option.some.injEq]
                rw [← h7]; rfl
              refine ⟨.int .u8 b.toNat, ?_, rfl⟩
              simp [Instr.index, asIntOf, run_underlying h2, hc.1, hz']
          · cases hl
      | array len e =>
        subst hD
        have := dOf_array h3
        subst this
        rw [hT] at hl
        cases xa <;> simp only [reduceCtorEq] at hl
        case agg cs =>
          cases hE : ti P e with
          | none => simp [hE] at hl
          | some E =>
            obtain ⟨i', d', z', h1', _, _, _, _, h4', _⟩ := ti_spec hE
            simp only [hE] at hl
            split at hl
            · rename_i hc
              obtain ⟨vs, rfl, hvs⟩ := ha
              obtain ⟨u, k1, k2⟩ := part_sound (W := W) hvs hl
              refine ⟨u, ?_, k2⟩
              have : (sizeOf e).run P W = .ok E.size W := by simp [sizeOf, typeInfo, h1', h4']
              simp [Instr.index, asIntOf, run_underlying h2, hc.1, hc.2, this, k1]
            · cases hl
      | _ => cases xa <;> simp [hT, hD] at hl

theorem intBin_sound {op : BinOp} {k : IntKind} {a b : Int} {x : V} {t : TypeId} (hl : intBin op k a b = some x) :
    ∃ u, (binOp op t (.int k a) (.int k b)).run P W = .ok u W ∧ Rep G x u := by
  cases op <;> simp only [intBin, Option.some.injEq, reduceCtorEq] at hl
  case quo =>
    split at hl
    · cases hl
    · rename_i hb
      cases hl
      exact ⟨.int k (k.wrap (a.tdiv b)), by simp [binOp, Op.intDiv, hb], rfl⟩
  case rem =>
    split at hl
    · cases hl
    · rename_i hb
      cases hl
      exact ⟨.int k (a.tmod b), by simp [binOp, Op.intDiv, hb], rfl⟩
  all_goals
    subst hl
    refine ⟨_, ?_, rfl⟩
    simp [binOp, Op.intArith, Op.intBits, Op.intCmp, beq_dec, bne]

theorem strBin_sound {op : BinOp} {a b : ByteArray} {x : V} {t : TypeId} (hl : strBin op a.data.toList b.data.toList = some x) :
    ∃ u, (binOp op t (.string a) (.string b)).run P W = .ok u W ∧ Rep G x u := by
  have ha := toList_data a
  have hb := toList_data b
  cases op <;> simp only [strBin, Option.some.injEq, reduceCtorEq] at hl
  case add =>
    split at hl
    · rename_i h
      cases hl
      refine ⟨.string (a ++ b), ?_, a ++ b, rfl, by simp [ByteArray.data_append]⟩
      have h' : ¬ ((a.size + b.size : Nat) : Int) > IntKind.i64.max := by
        have e : IntKind.i64.max = 9223372036854775807 := by decide
        have h2 : a.data.toList.length = a.size := by simp
        have h3 : b.data.toList.length = b.size := by simp
        rw [e]; omega
      simp only [binOp, Op.stringOp]
      rw [if_neg h']
      rfl
    · cases hl
  all_goals
    subst hl
    refine ⟨_, ?_, rfl⟩
    simp [binOp, Op.stringOp, ha, hb, beq_dec]

end Go.Abs
