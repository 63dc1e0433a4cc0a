/- Comparisons by '==', conversions, slices, literals. -/
import Derived.Test.YtmjfninbnlhmoaaAbsOpsB
import Derived.Laws.StructEq
import Derived.Laws.Tables
namespace Go.Abs
open Go

variable {P : Program} {G : Ghost} {st : St}

theorem eqOk_struct {t : TypeId} {F : Array Field} (h : eqOkOf P t (.struct F) = true) : (∀ f ∈ F.toList, f.name ≠ "_") ∧ P.stoodInHeld t = false ∧ P.eqGuardType P.depth t = false := by
  simp only [eqOkOf, Bool.and_eq_true, Bool.not_eq_true', Array.all_eq_true_iff_forall_mem, decide_eq_true_eq, ne_eq] at h
  exact ⟨fun f hf => h.1.1 f (by simpa using hf), h.1.2, h.2⟩

theorem veq_both (n : Nat) :
    (∀ (t : TypeId) (x y : V) (u v : Value) (r : Bool), veq P n t x y = some r → Rep G x u → Rep G y v → ∀ d, n ≤ d → ∀ W : World, (Op.equalIn d t u v).run P W = .ok r W) ∧
    (∀ (F : List Field) (xs ys : List V) (us vs : Array Value) (r : Bool), (∀ f ∈ F, f.name ≠ "_") → veqF P n (F.map fun f => (f.offset, f.type)) xs ys = some r →
      Reps G xs us.toList → Reps G ys vs.toList → ∀ d, n ≤ d → ∀ W : World, (Op.eqFields d us vs F).run P W = .ok r W) := by
  induction n with
  | zero => exact ⟨fun t x y u v r h => by simp [veq] at h, fun F xs ys us vs r _ h => by simp [veqF] at h⟩
  | succ n ih =>
    obtain ⟨ih1, ih2⟩ := ih
    constructor
    · intro t x y u v r h hx hy d hd W
      obtain ⟨d, rfl⟩ : ∃ m, d = m + 1 := ⟨d - 1, by omega⟩
      unfold veq at h
      cases hT : ti P t with
      | none => simp [hT] at h
      | some T =>
        obtain ⟨i, de, z, h1, h2, -, -, h3, h4, -, -, h6⟩ := ti_spec hT
        obtain ⟨D, sz, by_, ze, eq⟩ := T
        simp only at h3 h6
        rw [hT] at h
        cases D with
        | bool =>
          have := dOf_bool h3; subst this
          cases x <;> cases y <;> simp only [reduceCtorEq, Option.some.injEq] at h
          simp only [Rep] at hx hy
          subst hx; subst hy; subst h
          simp [Op.equalIn, run_underlying h2, beq_dec]
        | int k =>
          have := dOf_int h3; subst this
          cases x <;> cases y <;> simp only [reduceCtorEq] at h
          split at h
          · rename_i hk
            cases h
            simp only [Rep] at hx hy
            subst hx; subst hy; subst hk
            simp [Op.equalIn, run_underlying h2, beq_dec]
          · cases h
        | string =>
          have := dOf_string h3; subst this
          cases x <;> cases y <;> simp only [reduceCtorEq, Option.some.injEq] at h
          obtain ⟨za, rfl, rfl⟩ := hx
          obtain ⟨zb, rfl, rfl⟩ := hy
          subst h
          rw [run_equalIn_string W d t za zb h2, toList_data, toList_data, beq_dec]
        | struct fs =>
          obtain ⟨F, rfl, rfl⟩ := dOf_struct h3
          cases x <;> cases y <;> simp only [reduceCtorEq] at h
          split at h
          · rename_i he
            rw [h6] at he
            obtain ⟨e1, e2, e3⟩ := eqOk_struct he
            obtain ⟨us, rfl, hus⟩ := hx
            obtain ⟨vs, rfl, hvs⟩ := hy
            have hF : P.fieldsOf t = F := by simp [Program.fieldsOf, h2]
            rw [run_equalIn_struct W d t us vs (by rw [hF]; exact h2) e2, hF]
            exact ih2 F.toList _ _ us vs r e1 h hus hvs d (by omega) W
          · cases h
        | pointer e =>
          have := dOf_pointer h3; subst this
          cases x <;> cases y <;> simp only [reduceCtorEq, Option.some.injEq] at h <;> subst h
          · simp only [Rep] at hx hy; subst hx; subst hy; simp [Op.equalIn, run_underlying h2]
          · simp only [Rep] at hx; obtain ⟨B, _, rfl⟩ := hy; subst hx; simp [Op.equalIn, run_underlying h2]
          · simp only [Rep] at hx; obtain ⟨_, B, o, rfl, _⟩ := hy; subst hx; simp [Op.equalIn, run_underlying h2]
          · simp only [Rep] at hy; obtain ⟨B, _, rfl⟩ := hx; subst hy; simp [Op.equalIn, run_underlying h2]
          · simp only [Rep] at hy; obtain ⟨_, B, o, rfl, _⟩ := hx; subst hy; simp [Op.equalIn, run_underlying h2]
        | func =>
          obtain ⟨p, q, s, rfl⟩ := dOf_func h3
          cases x <;> cases y <;> simp only [reduceCtorEq, Option.some.injEq] at h <;> subst h
          · simp only [Rep] at hy; obtain ⟨_, _, rfl, _⟩ := hx; subst hy; simp [Op.equalIn, run_underlying h2]
          · simp only [Rep] at hx; obtain ⟨_, _, rfl, _⟩ := hy; subst hx; simp [Op.equalIn, run_underlying h2]
          · simp only [Rep] at hx hy; subst hx; subst hy; simp [Op.equalIn, run_underlying h2]
        | _ => cases x <;> cases y <;> simp at h
    · intro F xs ys us vs r hF h hx hy d hd W
      cases F with
      | nil => simp only [List.map_nil, veqF, Option.some.injEq] at h; subst h; simp [Op.eqFields]
      | cons f F =>
        simp only [List.map_cons, veqF] at h
        cases hp : partV P f.type xs f.offset with
        | none => simp [hp] at h
        | some x =>
          cases hq : partV P f.type ys f.offset with
          | none => simp [hp, hq] at h
          | some y =>
            simp only [hp, hq] at h
            cases ha : veq P n f.type x y with
            | none => simp [ha] at h
            | some a =>
              cases hb : veqF P n (F.map fun f => (f.offset, f.type)) xs ys with
              | none => simp [ha, hb] at h
              | some b =>
                simp only [ha, hb, Option.some.injEq] at h
                subst h
                obtain ⟨u, k1, k2⟩ := part_sound (P := P) (W := W) (off := f.offset) hx hp
                obtain ⟨v, k3, k4⟩ := part_sound (P := P) (W := W) (off := f.offset) hy hq
                have e1 := ih1 f.type x y u v a ha k2 k4 d (by omega) W
                have e2 := ih2 F xs ys us vs b (fun g hg => hF g (by simp [hg])) hb hx hy d (by omega) W
                cases a
                · simp [Op.eqFields, hF f (by simp), k1, k3, e1]
                · simp [Op.eqFields, hF f (by simp), k1, k3, e1, e2]

variable {W : World}

theorem eqGuard_ok {op : BinOp} {t : TypeId} {x y : Operand} {a b : V} {u v : Value} {r : Bool} (ha : Rep G a u) (hb : Rep G b v) (h : veq P eqDepth t a b = some r) :
    (eqGuard op t x y u v).run P W = .ok () W := by
  cases a <;> cases b <;> try (simp [veq, eqDepth] at h; split at h <;> simp at h; done)
  case agg.agg xs ys =>
    obtain ⟨us, rfl, _⟩ := ha
    obtain ⟨vs, rfl, _⟩ := hb
    unfold eqDepth veq at h
    cases hT : ti P t with
    | none => simp [hT] at h
    | some T =>
      obtain ⟨i, de, z, h1, h2, -, -, h3, h4, -, -, h6⟩ := ti_spec hT
      obtain ⟨D, sz, by_, ze, eq⟩ := T
      simp only at h3 h6
      rw [hT] at h
      cases D <;> simp only [reduceCtorEq] at h
      case struct fs =>
        obtain ⟨F, rfl, rfl⟩ := dOf_struct h3
        split at h
        · rename_i he
          rw [h6] at he
          exact run_eqGuard_agg W op t x y us vs (eqOk_struct he).2.2
        · cases h
  all_goals
    simp only [Rep] at ha hb
    first
      | (subst ha; subst hb; cases op <;> simp [eqGuard]; done)
      | (subst ha; obtain ⟨_, _, rfl⟩ := hb; cases op <;> simp [eqGuard]; done)
      | (subst ha; obtain ⟨_, _, _, rfl, _⟩ := hb; cases op <;> simp [eqGuard]; done)
      | (subst ha; obtain ⟨_, _, rfl, _⟩ := hb; cases op <;> simp [eqGuard]; done)
      | (subst hb; obtain ⟨_, _, rfl⟩ := ha; cases op <;> simp [eqGuard]; done)
      | (subst hb; obtain ⟨_, _, _, rfl, _⟩ := ha; cases op <;> simp [eqGuard]; done)
      | (subst hb; obtain ⟨_, _, rfl, _⟩ := ha; cases op <;> simp [eqGuard]; done)
      | (obtain ⟨_, rfl, _⟩ := ha; obtain ⟨_, rfl, _⟩ := hb; cases op <;> simp [eqGuard]; done)

end Go.Abs
