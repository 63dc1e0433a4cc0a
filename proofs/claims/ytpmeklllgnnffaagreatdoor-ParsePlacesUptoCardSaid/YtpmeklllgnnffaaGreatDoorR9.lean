/- Runs without a bound on rounds: the least fixed point, and its equations. -/
import Derived.Test.YtpmeklllgnnffaaGreatDoorR8
import Derived.Carry
import Derived.Deep.DeepHandedRow
import Derived.OpenShut
import Derived.Deep.Slices
set_option linter.unusedSimpArgs false
set_option linter.unusedVariables false

namespace Go.Abs
open Go
variable {P : Program} {pr : Prims}
def OLe (cl cl' : Oracle) : Prop := ∀ f a s r, cl f a s = some r → cl' f a s = some r
theorem doCall_one {cl : Oracle} {g : FuncId} {args : List V} {st : St} {r : Res} (h : doCall cl g args st = some r) :
    ∃ as s p, cl g as s = some p ∧ ∀ cl' : Oracle, cl' g as s = some p → doCall cl' g args st = some r := by
  unfold doCall at h
  simp only at h
  cases hrefs : refsL (frzL args) with
  | nil =>
    rw [hrefs] at h
    simp only at h
    cases hc : cl g (frzL args) [] with
    | none => rw [hc] at h; cases h
    | some p =>
      refine ⟨_, _, p, hc, fun cl' hc' => ?_⟩
      unfold doCall
      simp only
      rw [hrefs]
      simp only
      rw [hc'] ; rw [hc] at h; exact h
  | cons r0 rs =>
    rw [hrefs] at h
    simp only at h
    split at h
    · rename_i hcond
      cases hc : cl g (renL ((reach st reachFuel (r0 :: rs) []).idxOf ·) (frzL args)) ((reach st reachFuel (r0 :: rs) []).map fun b => renL ((reach st reachFuel (r0 :: rs) []).idxOf ·) (st.getD b [])) with
      | none => rw [hc] at h; cases h
      | some p =>
        refine ⟨_, _, p, hc, fun cl' hc' => ?_⟩
        unfold doCall
        simp only
        rw [hrefs]
        simp only
        rw [if_pos hcond, hc']; rw [hc] at h; exact h
    · cases h
theorem callOp_one {cl : Oracle} {ev : Operand → V} {c : Call} {st : St} {r : Res} (h : callOp P cl ev c st = some r) :
    (∀ cl' : Oracle, callOp P cl' ev c st = some r) ∨ ∃ g as s p, cl g as s = some p ∧ ∀ cl' : Oracle, cl' g as s = some p → callOp P cl' ev c st = some r := by
  unfold callOp at h
  cases hc : c.callee with
  | invoke x m => simp [hc] at h
  | builtin b => left; intro cl'; unfold callOp; simp only [hc] at h ⊢; exact h
  | value f =>
    simp only [hc] at h
    cases hf : ev f <;> simp only [hf, reduceCtorEq] at h
    case func g first cap =>
      right
      obtain ⟨as, s, p, h1, h2⟩ := doCall_one h
      refine ⟨g, as, s, p, h1, fun cl' h' => ?_⟩
      unfold callOp
      simp only [hc, hf]
      exact h2 cl' h'
theorem opStep_one {cl : Oracle} {ev : Operand → V} {o : Oper} {st : St} {r : Res} (h : opStep P cl ev o st = some r) :
    (∀ cl' : Oracle, opStep P cl' ev o st = some r) ∨ ∃ g as s p, cl g as s = some p ∧ ∀ cl' : Oracle, cl' g as s = some p → opStep P cl' ev o st = some r := by
  obtain ⟨dst, op, type, pos, after, guard⟩ := o
  cases op
  case call c => exact callOp_one (c := c) h
  all_goals exact .inl fun cl' => h
theorem callD_one {cl : Oracle} {ev : Operand → V} {c : Call} {st : St} {r : Res × Option (List Nat × Nat)} (h : callD P cl ev c st = some r) :
    (∀ cl' : Oracle, callD P cl' ev c st = some r) ∨ ∃ g as s p, cl g as s = some p ∧ ∀ cl' : Oracle, cl' g as s = some p → callD P cl' ev c st = some r := by
  unfold callD at h
  cases hc : c.callee with
  | invoke x m => simp [hc] at h
  | builtin b => left; intro cl'; unfold callD; simp only [hc] at h ⊢; exact h
  | value f =>
    simp only [hc] at h
    cases hf : ev f <;> simp only [hf, reduceCtorEq] at h
    case func g first cap =>
      right
      cases hrefs : refsL (frzL (first ++ c.args.toList.map ev ++ cap)) with
      | nil =>
        rw [hrefs] at h
        simp only at h
        cases hcl : cl g (frzL (first ++ c.args.toList.map ev ++ cap)) [] with
        | none => rw [hcl] at h; cases h
        | some p =>
          refine ⟨_, _, _, p, hcl, fun cl' hc' => ?_⟩
          unfold callD
          simp only [hc, hf]
          rw [hrefs]
          simp only
          rw [hc']; rw [hcl] at h; exact h
      | cons r0 rs =>
        rw [hrefs] at h
        simp only at h
        cases hd : doCall cl g (first ++ c.args.toList.map ev ++ cap) st with
        | none => rw [hd] at h; cases h
        | some q =>
          obtain ⟨as, s, p, h1, h2⟩ := doCall_one hd
          refine ⟨g, as, s, p, h1, fun cl' h' => ?_⟩
          unfold callD
          simp only [hc, hf]
          rw [hrefs]
          simp only
          rw [h2 cl' h']; rw [hd] at h; exact h
theorem stepD_one {cl : Oracle} {ev : Operand → V} {o : Oper} {st : St} {r : Res × Fp} (h : stepD P cl ev o st = some r) :
    (∀ cl' : Oracle, stepD P cl' ev o st = some r) ∨ ∃ g as s p, cl g as s = some p ∧ ∀ cl' : Oracle, cl' g as s = some p → stepD P cl' ev o st = some r := by
  obtain ⟨dst, op, type, pos, after, guard⟩ := o
  cases op
  case call c =>
    simp only [stepD] at h
    cases hc : callD P cl ev c st with
    | none => rw [hc] at h; cases h
    | some q =>
      rw [hc] at h
      rcases callD_one hc with h1 | ⟨g, as, s, p, h1, h2⟩
      · exact .inl fun cl' => by simp only [stepD]; rw [h1 cl']; exact h
      · exact .inr ⟨g, as, s, p, h1, fun cl' h' => by simp only [stepD]; rw [h2 cl' h']; exact h⟩
  all_goals exact .inl fun cl' => h
theorem stepR_one {cl : Oracle} {ev : Operand → V} {o : Oper} {st : St} {rs : Option Nat} {r : Res × Fp} (h : stepR P cl ev o st rs = some r) :
    (∀ cl' : Oracle, stepR P cl' ev o st rs = some r) ∨ ∃ g as s p, cl g as s = some p ∧ ∀ cl' : Oracle, cl' g as s = some p → stepR P cl' ev o st rs = some r := by
  cases rs with
  | none => exact stepD_one h
  | some n =>
    obtain ⟨dst, op, type, pos, after, guard⟩ := o
    cases op
    case alloc t => exact .inl fun cl' => h
    all_goals (simp only [stepR] at h ⊢; exact stepD_one h)
structure Lims (cls : Nat → Oracle) (cl : Oracle) : Prop where
  mono : ∀ k k', k ≤ k' → OLe (cls k) (cls k')
  below : ∀ k, OLe (cls k) cl
  reached : ∀ f a s r, cl f a s = some r → ∃ k, cls k f a s = some r
section
variable {cls : Nat → Oracle} {cl : Oracle} (L : Lims cls cl)
theorem opStep_le {cl cl' : Oracle} (hle : OLe cl cl') {ev : Operand → V} {o : Oper} {st : St} {r : Res} (h : opStep P cl ev o st = some r) : opStep P cl' ev o st = some r := by
  rcases opStep_one h with h | ⟨g, as, s, p, h1, h2⟩
  · exact h cl'
  · exact h2 cl' (hle _ _ _ _ h1)
include L in
theorem opStep_lim {ev : Operand → V} {o : Oper} {st : St} {r : Res} (h : opStep P cl ev o st = some r) : ∃ k, ∀ k', k ≤ k' → opStep P (cls k') ev o st = some r := by
  rcases opStep_one h with h | ⟨g, as, s, p, h1, h2⟩
  · exact ⟨0, fun k' _ => h _⟩
  · obtain ⟨k, hk⟩ := L.reached _ _ _ _ h1
    exact ⟨k, fun k' hk' => h2 _ (L.mono _ _ hk' _ _ _ _ hk)⟩
theorem regionL_le {cl cl' : Oracle} (hle : OLe cl cl') {ops : Array Oper} : ∀ {l : List Oper} {env : Env} {st : St} {r : Ex × Env × St}, regionL P cl ops l env st = some r → regionL P cl' ops l env st = some r
  | [], env, st, r, h => h
  | o :: rest, env, st, r, h => by
    simp only [regionL] at h ⊢
    cases hw : want ops env o.guard with
    | none => simp [hw] at h
    | some b =>
      cases b with
      | false => simp only [hw] at h ⊢; exact regionL_le hle h
      | true =>
        simp only [hw] at h ⊢
        cases ho : opStep P cl (opv env) o st with
        | none => simp [ho] at h
        | some q =>
          rw [opStep_le hle ho]
          cases q with
          | val v st' => simp only [ho] at h ⊢; exact regionL_le hle h
          | panic v st' => simp only [ho] at h ⊢; exact h
include L in
theorem regionL_lim {ops : Array Oper} : ∀ {l : List Oper} {env : Env} {st : St} {r : Ex × Env × St}, regionL P cl ops l env st = some r → ∃ k, ∀ k', k ≤ k' → regionL P (cls k') ops l env st = some r
  | [], env, st, r, h => ⟨0, fun _ _ => h⟩
  | o :: rest, env, st, r, h => by
    simp only [regionL] at h ⊢
    cases hw : want ops env o.guard with
    | none => simp [hw] at h
    | some b =>
      cases b with
      | false => simp only [hw] at h ⊢; exact regionL_lim h
      | true =>
        simp only [hw] at h ⊢
        cases ho : opStep P cl (opv env) o st with
        | none => simp [ho] at h
        | some q =>
          obtain ⟨k1, h1⟩ := opStep_lim L ho
          cases q with
          | val v st' =>
            simp only [ho] at h
            obtain ⟨k2, h2⟩ := regionL_lim h
            exact ⟨max k1 k2, fun k' hk => by rw [h1 k' (by omega)]; exact h2 k' (by omega)⟩
          | panic v st' =>
            simp only [ho] at h
            exact ⟨k1, fun k' hk => by rw [h1 k' hk]; exact h⟩
theorem stepR_le {cl cl' : Oracle} (hle : OLe cl cl') {ev : Operand → V} {o : Oper} {st : St} {rs : Option Nat} {r : Res × Fp} (h : stepR P cl ev o st rs = some r) : stepR P cl' ev o st rs = some r := by
  rcases stepR_one h with h | ⟨g, as, s, p, h1, h2⟩
  · exact h cl'
  · exact h2 cl' (hle _ _ _ _ h1)
include L in
theorem stepR_lim {ev : Operand → V} {o : Oper} {st : St} {rs : Option Nat} {r : Res × Fp} (h : stepR P cl ev o st rs = some r) : ∃ k, ∀ k', k ≤ k' → stepR P (cls k') ev o st rs = some r := by
  rcases stepR_one h with h | ⟨g, as, s, p, h1, h2⟩
  · exact ⟨0, fun k' _ => h _⟩
  · obtain ⟨k, hk⟩ := L.reached _ _ _ _ h1
    exact ⟨k, fun k' hk' => h2 _ (L.mono _ _ hk' _ _ _ _ hk)⟩
theorem traceD_le {cl cl' : Oracle} (hle : OLe cl cl') {ops : Array Oper} : ∀ {l : List Oper} {env : Env} {st : St} {rs : Option Nat} {r : Option V × Env × St × List Fp}, traceD P cl ops l env st rs = some r → traceD P cl' ops l env st rs = some r
  | [], env, st, rs, r, h => h
  | o :: rest, env, st, rs, r, h => by
    simp only [traceD] at h ⊢
    cases hw : want ops env o.guard with
    | none => simp [hw] at h
    | some b =>
      cases b with
      | false =>
        simp only [hw] at h ⊢
        cases ht : traceD P cl ops rest (setD env o.dst (.tup [])) st (nxt o rs) with
        | none => rw [ht] at h; cases h
        | some q => rw [traceD_le hle ht]; rw [ht] at h; exact h
      | true =>
        simp only [hw] at h ⊢
        cases ho : stepR P cl (opv env) o st rs with
        | none => simp [ho] at h
        | some q =>
          rw [stepR_le hle ho]
          obtain ⟨q, fp⟩ := q
          cases q with
          | val v st' =>
            simp only [ho] at h ⊢
            cases ht : traceD P cl ops rest (setD env o.dst v) st' (nxt o rs) with
            | none => rw [ht] at h; cases h
            | some q => rw [traceD_le hle ht]; rw [ht] at h; exact h
          | panic v st' => simp only [ho] at h ⊢; exact h
include L in
theorem traceD_lim {ops : Array Oper} : ∀ {l : List Oper} {env : Env} {st : St} {rs : Option Nat} {r : Option V × Env × St × List Fp}, traceD P cl ops l env st rs = some r → ∃ k, ∀ k', k ≤ k' → traceD P (cls k') ops l env st rs = some r
  | [], env, st, rs, r, h => ⟨0, fun _ _ => h⟩
  | o :: rest, env, st, rs, r, h => by
    simp only [traceD] at h ⊢
    cases hw : want ops env o.guard with
    | none => simp [hw] at h
    | some b =>
      cases b with
      | false =>
        simp only [hw] at h ⊢
        cases ht : traceD P cl ops rest (setD env o.dst (.tup [])) st (nxt o rs) with
        | none => rw [ht] at h; cases h
        | some q =>
          obtain ⟨k1, h1⟩ := traceD_lim ht
          exact ⟨k1, fun k' hk => by rw [h1 k' hk]; rw [ht] at h; exact h⟩
      | true =>
        simp only [hw] at h ⊢
        cases ho : stepR P cl (opv env) o st rs with
        | none => simp [ho] at h
        | some q =>
          obtain ⟨k1, h1⟩ := stepR_lim L ho
          obtain ⟨q, fp⟩ := q
          cases q with
          | val v st' =>
            simp only [ho] at h
            cases ht : traceD P cl ops rest (setD env o.dst v) st' (nxt o rs) with
            | none => rw [ht] at h; cases h
            | some q =>
              obtain ⟨k2, h2⟩ := traceD_lim ht
              exact ⟨max k1 k2, fun k' hk => by rw [h1 k' (by omega)]; simp only; rw [h2 k' (by omega)]; rw [ht] at h; exact h⟩
          | panic v st' =>
            simp only [ho] at h
            exact ⟨k1, fun k' hk => by rw [h1 k' hk]; exact h⟩
theorem armX_le {cl cl' : Oracle} (hle : OLe cl cl') {A : Arm} {env : Env} {st : St} {r : Ex × Env × St} (h : armX P cl A env st = some r) : armX P cl' A env st = some r := by
  unfold armX at h ⊢
  cases hr : regionL P cl A.ops A.pre env st with
  | none => rw [hr] at h; cases h
  | some q => rw [regionL_le hle hr]; rw [hr] at h; exact h
theorem regionC_le0 {cl cl' : Oracle} {ops : Array Oper} {env : Env} {st : St} {r : Ex × Env × St} (hd : ∀ r, regionD P cl ops env st = some r → regionD P cl' ops env st = some r) (h : regionC P cl ops env st = some r) : regionC P cl' ops env st = some r := by
  unfold regionC at h ⊢
  cases hq : coinL ops.toList with
  | some q => rw [hq] at h; exact h
  | none => rw [hq] at h; exact hd r h
theorem regionD_le {cl cl' : Oracle} (hle : OLe cl cl') {ops : Array Oper} {env : Env} {st : St} {r : Ex × Env × St} (h : regionD P cl ops env st = some r) : regionD P cl' ops env st = some r := by
  unfold regionD at h ⊢
  split at h
  · rename_i hd
    rw [if_pos hd]
    cases ht : traceD P cl ops ops.toList env (hoist P ops.toList st).2 (hoist P ops.toList st).1 with
    | none => rw [ht] at h; cases h
    | some q => rw [traceD_le hle ht]; rw [ht] at h; exact h
  · cases h
include L in
theorem armX_lim {A : Arm} {env : Env} {st : St} {r : Ex × Env × St} (h : armX P cl A env st = some r) : ∃ k, ∀ k', k ≤ k' → armX P (cls k') A env st = some r := by
  unfold armX at h
  cases hr : regionL P cl A.ops A.pre env st with
  | none => rw [hr] at h; cases h
  | some q =>
    obtain ⟨k, hk⟩ := regionL_lim L hr
    refine ⟨k, fun k' hk' => ?_⟩
    unfold armX
    rw [hk k' hk']; rw [hr] at h; exact h
include L in
theorem regionD_lim {ops : Array Oper} {env : Env} {st : St} {r : Ex × Env × St} (h : regionD P cl ops env st = some r) : ∃ k, ∀ k', k ≤ k' → regionD P (cls k') ops env st = some r := by
  unfold regionD at h
  split at h
  · rename_i hd
    cases ht : traceD P cl ops ops.toList env (hoist P ops.toList st).2 (hoist P ops.toList st).1 with
    | none => rw [ht] at h; cases h
    | some q =>
      obtain ⟨k, hk⟩ := traceD_lim L ht
      refine ⟨k, fun k' hk' => ?_⟩
      unfold regionD
      rw [if_pos hd, hk k' hk']; rw [ht] at h; exact h
  · cases h
end
theorem joinR_le {a b a' b' : Option (Ex × Env × St)} (ha : ∀ r, a = some r → a' = some r) (hb : ∀ r, b = some r → b' = some r) {r : Ex × Env × St} (h : joinR a b = some r) : joinR a' b' = some r := by
  cases a with
  | none => cases h
  | some p =>
    cases b with
    | none => obtain ⟨ex, e, s⟩ := p; cases ex <;> cases h
    | some q => rw [ha p rfl, hb q rfl]; exact h
theorem joinR_some {a b : Option (Ex × Env × St)} {r : Ex × Env × St} (h : joinR a b = some r) : (∃ p, a = some p) ∧ ∃ q, b = some q := by
  cases a with
  | none => cases h
  | some p =>
    cases b with
    | none => obtain ⟨ex, e, s⟩ := p; cases ex <;> cases h
    | some q => exact ⟨⟨p, rfl⟩, ⟨q, rfl⟩⟩
theorem loopN_le {f g : Env → St → Option (Ex × Env × St)} (hfg : ∀ e s r, f e s = some r → g e s = some r) {ts : List Nat} {n : Nat} :
    ∀ {k k' : Nat} {env : Env} {st : St} {r : Ex × Env × St}, k ≤ k' → loopN f ts n k env st = some r → loopN g ts n k' env st = some r
  | 0, _, _, _, _, _, h => by simp [loopN] at h
  | k + 1, 0, _, _, _, hk, _ => by omega
  | k + 1, k' + 1, env, st, r, hk, h => by
    simp only [loopN] at h ⊢
    cases hf : f env st with
    | none => simp [hf] at h
    | some p =>
      obtain ⟨ex, env', st'⟩ := p
      rw [hfg _ _ _ hf]
      cases ex with
      | normal => simp only [hf] at h ⊢; exact loopN_le hfg (by omega) h
      | exit i => simp only [hf] at h ⊢; exact h
      | ret => simp only [hf] at h ⊢; exact h
      | panic v => simp only [hf] at h ⊢; exact h
open Classical in
noncomputable def loopE (f : Env → St → Option (Ex × Env × St)) (ts : List Nat) (n : Nat) (env : Env) (st : St) : Option (Ex × Env × St) :=
  if h : ∃ r k, loopN f ts n k env st = some r then some (Classical.choose h) else none
theorem loopE_some {f : Env → St → Option (Ex × Env × St)} {ts : List Nat} {n : Nat} {env : Env} {st : St} {r : Ex × Env × St} : loopE f ts n env st = some r ↔ ∃ k, loopN f ts n k env st = some r := by
  unfold loopE
  constructor
  · intro h
    split at h
    · rename_i hx
      cases h
      exact Classical.choose_spec hx
    · cases h
  · rintro ⟨k, hk⟩
    have hx : ∃ r k, loopN f ts n k env st = some r := ⟨r, k, hk⟩
    rw [dif_pos hx]
    obtain ⟨k', hk'⟩ := Classical.choose_spec hx
    have h1 := loopN_le (f := f) (g := f) (fun _ _ _ e => e) (Nat.le_max_left k k') hk
    have h2 := loopN_le (f := f) (g := f) (fun _ _ _ e => e) (Nat.le_max_right k k') hk'
    rw [h1] at h2
    exact h2.symm
theorem loopE_eq (f : Env → St → Option (Ex × Env × St)) (ts : List Nat) (n : Nat) (env : Env) (st : St) :
    loopE f ts n env st = match f env st with
      | some (.normal, env', st') => loopE f ts n (roundEnd ts n env' st').1 (roundEnd ts n env' st').2
      | r => r := by
  apply Option.ext
  intro r
  rw [loopE_some]
  cases hf : f env st with
  | none =>
    simp only [reduceCtorEq, iff_false, not_exists]
    intro k hk
    cases k <;> simp [loopN, hf] at hk
  | some p =>
    obtain ⟨ex, env', st'⟩ := p
    cases ex with
    | normal =>
      simp only
      rw [loopE_some]
      constructor
      · rintro ⟨k, hk⟩
        cases k with
        | zero => simp [loopN] at hk
        | succ k => exact ⟨k, by simpa [loopN, hf] using hk⟩
      · rintro ⟨k, hk⟩
        exact ⟨k + 1, by simpa [loopN, hf] using hk⟩
    | _ =>
      constructor
      · rintro ⟨k, hk⟩
        cases k with
        | zero => simp [loopN] at hk
        | succ k => simpa [loopN, hf] using hk
      · intro h
        exact ⟨1, by simpa [loopN, hf] using h⟩
noncomputable def execE (P : Program) (cl : Oracle) : Code → Env → St → Option (Ex × Env × St)
  | .skip, env, st => some (.normal, env, st)
  | .region _ ops false, env, st => regionL P cl ops ops.toList env st
  | .region _ ops true, env, st => regionC P cl ops env st
  | .seq a b, env, st => match execE P cl a env st with
    | some (.normal, env', st') => execE P cl b env' st'
    | r => r
  | .cond c a b, env, st => match opv env c with
    | .bool true => execE P cl a env st
    | .bool false => execE P cl b env st
    | .tip _ => joinR (armW (armOf a) (fun A => armX P cl A env st) (execE P cl a env st)) (execE P cl b env st)
    | _ => none
  | .block id a, env, st => match execE P cl a env st with
    | some (.exit i, env', st') => if i = id then some (.normal, env', st') else some (.exit i, env', st')
    | r => r
  | .loop a, env, st => loopE (execE P cl a) (temps a) st.length env st
  | .exit id, env, st => some (.exit id, env, st)
  | .ret, env, st => some (.ret, env, st)
  | _, _, _ => none
theorem exec_le {cl cl' : Oracle} (hle : OLe cl cl') {k : Nat} : ∀ (c : Code) {env : Env} {st : St} {r : Ex × Env × St}, exec P cl k c env st = some r → execE P cl' c env st = some r := by
  intro c
  induction c with
  | region id ops draw =>
    intro env st r h
    cases draw
    · simp only [exec, execE] at h ⊢; exact regionL_le hle h
    · simp only [exec, execE] at h ⊢; exact regionC_le0 (fun r => regionD_le hle) h
  | seq x y ihx ihy =>
    intro env st r h
    simp only [exec, execE] at h ⊢
    cases hx : exec P cl k x env st with
    | none => simp [hx] at h
    | some p =>
      obtain ⟨ex, env', st'⟩ := p
      rw [ihx hx]
      cases ex <;> simp only [hx] at h ⊢ <;> first | exact ihy h | exact h
  | cond c x y ihx ihy =>
    intro env st r h
    simp only [exec, execE] at h ⊢
    cases hc : opv env c <;> simp only [hc, reduceCtorEq] at h ⊢
    case bool b => cases b <;> simp only at h ⊢ <;> first | exact ihx h | exact ihy h
    case tip m =>
      refine joinR_le (fun r hr => ?_) (fun _ => ihy) h
      cases hA : armOf x with
      | some A => rw [hA] at hr; exact armX_le hle hr
      | none => rw [hA] at hr; exact ihx hr
  | block id x ihx =>
    intro env st r h
    simp only [exec, execE] at h ⊢
    cases hx : exec P cl k x env st with
    | none => simp [hx] at h
    | some p =>
      obtain ⟨ex, env', st'⟩ := p
      rw [ihx hx]
      cases ex <;> simp only [hx] at h ⊢ <;> exact h
  | loop x ihx =>
    intro env st r h
    simp only [exec, execE] at h ⊢
    exact loopE_some.2 ⟨k, loopN_le (fun e s r h => ihx h) (Nat.le_refl _) h⟩
  | _ => intro env st r h; simp_all [exec, execE]
theorem exec_lim {cls : Nat → Oracle} {cl : Oracle} (L : Lims cls cl) : ∀ (c : Code) {env : Env} {st : St} {r : Ex × Env × St}, execE P cl c env st = some r →
    ∃ k, ∀ k', k ≤ k' → exec P (cls k') k' c env st = some r := by
  intro c
  induction c with
  | region id ops draw =>
    intro env st r h
    cases draw
    · simp only [exec, execE] at h ⊢; exact regionL_lim L h
    · simp only [exec, execE] at h ⊢
      unfold regionC at h
      cases hq : coinL ops.toList with
      | some q =>
        rw [hq] at h
        exact ⟨0, fun k' _ => by unfold regionC; rw [hq]; exact h⟩
      | none =>
        rw [hq] at h
        obtain ⟨k, hk⟩ := regionD_lim L h
        exact ⟨k, fun k' hk' => by unfold regionC; rw [hq]; exact hk k' hk'⟩
  | seq x y ihx ihy =>
    intro env st r h
    simp only [exec, execE] at h ⊢
    cases hx : execE P cl x env st with
    | none => simp [hx] at h
    | some p =>
      obtain ⟨ex, env', st'⟩ := p
      obtain ⟨k1, h1⟩ := ihx hx
      cases ex with
      | normal =>
        simp only [hx] at h
        obtain ⟨k2, h2⟩ := ihy h
        exact ⟨max k1 k2, fun k' hk => by rw [h1 k' (by omega)]; exact h2 k' (by omega)⟩
      | _ => simp only [hx] at h; exact ⟨k1, fun k' hk => by rw [h1 k' hk]; exact h⟩
  | cond c x y ihx ihy =>
    intro env st r h
    simp only [exec, execE] at h ⊢
    cases hc : opv env c <;> simp only [hc, reduceCtorEq] at h ⊢
    case bool b => cases b <;> simp only at h ⊢ <;> first | exact ihx h | exact ihy h
    case tip m =>
      obtain ⟨⟨p, hp⟩, q, hq⟩ := joinR_some h
      obtain ⟨k1, h1⟩ : ∃ k, ∀ k', k ≤ k' → armW (armOf x) (fun A => armX P (cls k') A env st) (exec P (cls k') k' x env st) = some p := by
        cases hA : armOf x with
        | some A => rw [hA] at hp; exact armX_lim L hp
        | none => rw [hA] at hp; exact ihx hp
      obtain ⟨k2, h2⟩ := ihy hq
      exact ⟨max k1 k2, fun k' hk => by rw [h1 k' (by omega), h2 k' (by omega)]; rw [hp, hq] at h; exact h⟩
  | block id x ihx =>
    intro env st r h
    simp only [exec, execE] at h ⊢
    cases hx : execE P cl x env st with
    | none => simp [hx] at h
    | some p =>
      obtain ⟨ex, env', st'⟩ := p
      obtain ⟨k1, h1⟩ := ihx hx
      exact ⟨k1, fun k' hk => by rw [h1 k' hk]; rw [hx] at h; exact h⟩
  | loop x ihx =>
    intro env st r h
    simp only [exec, execE] at h ⊢
    obtain ⟨j, hj⟩ := loopE_some.1 h
    have key : ∀ (j : Nat) {env : Env} {st0 : St}, loopN (execE P cl x) (temps x) st.length j env st0 = some r →
        ∃ k, ∀ k', k ≤ k' → loopN (exec P (cls k') k' x) (temps x) st.length j env st0 = some r := by
      intro j
      induction j with
      | zero => intro env st0 h; simp [loopN] at h
      | succ j ih =>
        intro env st0 h
        simp only [loopN] at h ⊢
        cases hx : execE P cl x env st0 with
        | none => simp [hx] at h
        | some p =>
          obtain ⟨ex, env', st'⟩ := p
          obtain ⟨k1, h1⟩ := ihx hx
          cases ex with
          | normal =>
            simp only [hx] at h
            obtain ⟨k2, h2⟩ := ih h
            exact ⟨max k1 k2, fun k' hk => by rw [h1 k' (by omega)]; exact h2 k' (by omega)⟩
          | _ => simp only [hx] at h; exact ⟨k1, fun k' hk => by rw [h1 k' hk]; exact h⟩
    obtain ⟨k, hk⟩ := key j hj
    exact ⟨max k j, fun k' hk' => loopN_le (fun _ _ _ e => e) (show j ≤ k' by omega) (hk k' (by omega))⟩
  | _ => intro env st r h; simp_all [exec, execE]
theorem primRun_one {cl : Oracle} {p : Prim} {args : List V} {st : St} {r : Out × St} (h : primRun cl p args st = some r) :
    (∀ cl' : Oracle, primRun cl' p args st = some r) ∨ ∃ g as s q, cl g as s = some q ∧ ∀ cl' : Oracle, cl' g as s = some q → primRun cl' p args st = some r := by
  cases p with
  | pure f => exact .inl fun _ => h
  | grab t =>
    simp only [primRun] at h
    split at h
    · rename_i g first cap
      cases hd : doCall cl g (first ++ cap) st with
      | none => simp [hd] at h
      | some q =>
        obtain ⟨as, s, p, h1, h2⟩ := doCall_one hd
        refine .inr ⟨g, as, s, p, h1, fun cl' h' => ?_⟩
        simp only [primRun]
        rw [h2 cl' h']
        rw [hd] at h
        exact h
    · cases h
theorem exec_mono {cl cl' : Oracle} (hle : OLe cl cl') {k k' : Nat} (hk : k ≤ k') : ∀ (c : Code) {env : Env} {st : St} {r : Ex × Env × St}, exec P cl k c env st = some r → exec P cl' k' c env st = some r := by
  intro c
  induction c with
  | region id ops draw =>
    intro env st r h
    cases draw
    · simp only [exec] at h ⊢; exact regionL_le hle h
    · simp only [exec] at h ⊢; exact regionC_le0 (fun r => regionD_le hle) h
  | seq x y ihx ihy =>
    intro env st r h
    simp only [exec] at h ⊢
    cases hx : exec P cl k x env st with
    | none => simp [hx] at h
    | some p =>
      obtain ⟨ex, env', st'⟩ := p
      rw [ihx hx]
      cases ex <;> simp only [hx] at h ⊢ <;> first | exact ihy h | exact h
  | cond c x y ihx ihy =>
    intro env st r h
    simp only [exec] at h ⊢
    cases hc : opv env c <;> simp only [hc, reduceCtorEq] at h ⊢
    case bool b => cases b <;> simp only at h ⊢ <;> first | exact ihx h | exact ihy h
    case tip m =>
      refine joinR_le (fun r hr => ?_) (fun _ => ihy) h
      cases hA : armOf x with
      | some A => rw [hA] at hr; exact armX_le hle hr
      | none => rw [hA] at hr; exact ihx hr
  | block id x ihx =>
    intro env st r h
    simp only [exec] at h ⊢
    cases hx : exec P cl k x env st with
    | none => simp [hx] at h
    | some p =>
      obtain ⟨ex, env', st'⟩ := p
      rw [ihx hx]
      cases ex <;> simp only [hx] at h ⊢ <;> exact h
  | loop x ihx =>
    intro env st r h
    simp only [exec] at h ⊢
    exact loopN_le (fun e s r h => ihx h) hk h
  | _ => intro env st r h; simp_all [exec]
theorem run_succ : ∀ k, OLe (run P pr k) (run P pr (k + 1)) := by
  intro k
  induction k with
  | zero => intro f a s r h; simp [run] at h
  | succ k ih =>
    intro f a s r h
    rw [run] at h ⊢
    cases hp : pr f with
    | some p =>
      simp only [hp] at h ⊢
      rcases primRun_one h with h | ⟨g, as, s, q, h1, h2⟩
      · exact h _
      · exact h2 _ (ih _ _ _ _ h1)
    | none =>
      simp only [hp] at h ⊢
      cases hf : P.funcs[f]? with
      | none => simp [hf] at h
      | some fn =>
        simp only [hf] at h ⊢
        cases hb : fn.body with
        | none => simp [hb] at h
        | some c =>
          simp only [hb] at h ⊢
          cases hx : exec P (run P pr k) k c (a ++ List.replicate (fn.ntmps - a.length) .undef) s with
          | none => simp [hx] at h
          | some q => rw [exec_mono ih (Nat.le_succ k) c hx]; rw [hx] at h; exact h
theorem run_mono : ∀ {k k' : Nat}, k ≤ k' → OLe (run P pr k) (run P pr k') := by
  intro k k' h
  induction h with
  | refl => exact fun _ _ _ _ h => h
  | step _ ih => exact fun f a s r h => run_succ _ f a s r (ih f a s r h)
open Classical in
noncomputable def ev (P : Program) (pr : Prims) : Oracle := fun f a s =>
  if h : ∃ r k, run P pr k f a s = some r then some (Classical.choose h) else none
theorem ev_some {f : FuncId} {a : List V} {s : St} {r : Out × St} : ev P pr f a s = some r ↔ ∃ k, run P pr k f a s = some r := by
  unfold ev
  constructor
  · intro h
    split at h
    · rename_i hx
      cases h
      exact Classical.choose_spec hx
    · cases h
  · rintro ⟨k, hk⟩
    have hx : ∃ r k, run P pr k f a s = some r := ⟨r, k, hk⟩
    rw [dif_pos hx]
    obtain ⟨k', hk'⟩ := Classical.choose_spec hx
    have h1 := run_mono (Nat.le_max_left k k') _ _ _ _ hk
    have h2 := run_mono (Nat.le_max_right k k') _ _ _ _ hk'
    rw [h1] at h2
    exact h2.symm
theorem lims : Lims (run P pr) (ev P pr) :=
  ⟨fun _ _ h => run_mono h, fun k _ _ _ _ h => ev_some.2 ⟨k, h⟩, fun _ _ _ _ h => ev_some.1 h⟩
theorem ev_eq (f : FuncId) (a : List V) (s : St) : ev P pr f a s = match pr f with
    | some p => primRun (ev P pr) p a s
    | none => match P.funcs[f]? with
      | some fn => match fn.body with
        | some c => match execE P (ev P pr) c (a ++ List.replicate (fn.ntmps - a.length) .undef) s with
          | some r => iceO f s.length (finish P s.length fn.results.toList r)
          | none => none
        | none => none
      | none => none := by
  apply Option.ext
  intro r
  rw [ev_some]
  constructor
  · rintro ⟨k, h⟩
    cases k with
    | zero => simp [run] at h
    | succ k =>
      rw [run] at h
      cases hp : pr f with
      | some p =>
        simp only [hp] at h ⊢
        rcases primRun_one h with h | ⟨g, as, s, q, h1, h2⟩
        · exact h _
        · exact h2 _ (ev_some.2 ⟨k, h1⟩)
      | none =>
        simp only [hp] at h ⊢
        cases hf : P.funcs[f]? with
        | none => simp [hf] at h
        | some fn =>
          simp only [hf] at h ⊢
          cases hb : fn.body with
          | none => simp [hb] at h
          | some c =>
            simp only [hb] at h ⊢
            cases hx : exec P (run P pr k) k c (a ++ List.replicate (fn.ntmps - a.length) .undef) s with
            | none => simp [hx] at h
            | some q => rw [exec_le (lims.below k) c hx]; rw [hx] at h; exact h
  · intro h
    cases hp : pr f with
    | some p =>
      simp only [hp] at h
      rcases primRun_one h with h | ⟨g, as, s', q, h1, h2⟩
      · exact ⟨1, by rw [run]; simp only [hp]; exact h _⟩
      · obtain ⟨k, hk⟩ := ev_some.1 h1
        exact ⟨k + 1, by rw [run]; simp only [hp]; exact h2 _ hk⟩
    | none =>
      simp only [hp] at h
      cases hf : P.funcs[f]? with
      | none => simp [hf] at h
      | some fn =>
        simp only [hf] at h
        cases hb : fn.body with
        | none => simp [hb] at h
        | some c =>
          simp only [hb] at h
          cases hx : execE P (ev P pr) c (a ++ List.replicate (fn.ntmps - a.length) .undef) s with
          | none => simp [hx] at h
          | some q =>
            obtain ⟨k, hk⟩ := exec_lim lims c hx
            refine ⟨k + 1, ?_⟩
            rw [run]
            simp only [hp, hf, hb]
            rw [hk k (Nat.le_refl _)]
            rw [hx] at h
            exact h
theorem ev_sound (hm : P.follows .mixedOrders = true) (hN : NoNum P) (hp : ∀ f p, pr f = some p → PrimSound P f p) : Sound P (ev P pr) := by
  intro f args st out st' h
  obtain ⟨k, hk⟩ := ev_some.1 h
  exact run_sound hm hN hp k f args st out st' hk
end Go.Abs
namespace Go.Abs
open Go
structure Turned (B : Nat) (c : Array Value) (t : TypeId) (W W' : World) : Prop where
  env : W'.os = W.os ∧ W'.tape = W.tape ∧ W'.output = W.output
  size : W.heap.size ≤ W'.heap.size
  at_ : W'.heap[B]? = some (.cells c t (0, 0))
  other : ∀ k, k ≠ B → k < W.heap.size → W'.heap[k]? = W.heap[k]?
theorem Turned.trans {B : Nat} {c c' : Array Value} {t : TypeId} {U V W : World} (h : Turned B c t U V) (h' : Turned B c' t V W) : Turned B c' t U W :=
  ⟨⟨h'.env.1.trans h.env.1, h'.env.2.1.trans h.env.2.1, h'.env.2.2.trans h.env.2.2⟩, Nat.le_trans h.size h'.size, h'.at_, fun k hk hlt => (h'.other k hk (Nat.lt_of_lt_of_le hlt h.size)).trans (h.other k hk hlt)⟩
theorem Good.turned {G0 G : Ghost} {W0 W W' : World} {st0 st : St} (g : Good G0 W0 G st W) (s0 : Sim G0 st0 W0) {B : Nat} {c : Array Value} {t : TypeId} (h : Turned B c t W W') (hB : W0.heap.size ≤ B) (hi : ∀ o, G.imm B o = none) (ht : ¬ TB G B) : Good G0 W0 G st W' := by
  have old : ∀ {k : Nat} {x : Obj}, k ≠ B → W.heap[k]? = some x → W'.heap[k]? = some x := fun {k x} hk e => by
    rw [h.other k hk (Array.getElem?_eq_some_iff.1 e).1]; exact e
  refine ⟨⟨⟨fun k o v e => ?_, g.sim.dom, fun b k hb => ?_, g.sim.inj, fun b d hd => ?_, g.sim.tinj, g.sim.base, g.sim.res⟩, fun k o e => ?_⟩,
    ⟨g.ext.imm, Nat.le_trans g.ext.size h.size, fun k hk hn => ?_, g.ext.immK, g.ext.tb, ⟨h.env.1.trans g.ext.env.1, h.env.2.1.trans g.ext.env.2.1, h.env.2.2.trans g.ext.env.2.2⟩, g.ext.fix⟩, g.le, g.res⟩
  · obtain ⟨c', T, f, h1, h2⟩ := g.sim.imm k o v e
    exact ⟨c', T, f, old (fun e' => by rw [e', hi] at e; cases e) h1, h2⟩
  · obtain ⟨⟨cs, c', T, h1, h2, h3⟩, h4⟩ := g.sim.box b k hb
    exact ⟨⟨cs, c', T, h1, old (fun e' => ht (.inl ⟨b, e' ▸ hb⟩)) h2, h3⟩, h4⟩
  · have q := g.sim.tip b d hd
    refine ⟨q.st, q.nobox, q.le, q.none, q.pos, fun r => ?_⟩
    obtain ⟨k, c', T, h1, h2, h3⟩ := q.room r
    exact ⟨k, c', T, h1, old (fun e' => ht (.inr ⟨b, d, hd, r, e' ▸ h1⟩)) h2, h3⟩
  · have q := g.sim.fix k o e
    rw [g.ext.fix] at e
    have hk := (Array.getElem?_eq_some_iff.1 (s0.fix k o e).1).1
    exact ⟨old (by omega) q.1, q.2⟩
  · rw [h.other k (by omega) (Nat.lt_of_lt_of_le hk g.ext.size)]
    exact g.ext.keep k hk hn
theorem turned_set {W : World} {B : Nat} {x0 x1 a b : Value} {t : TypeId} (h : W.heap[B]? = some (.cells #[x0, x1] t (0, 0))) :
    Turned B #[a, b] t W ((W.setCell ⟨B, 0, none⟩ a).setCell ⟨B, 1, none⟩ b) := by
  have hlt := (Array.getElem?_eq_some_iff.1 h).1
  refine ⟨⟨rfl, rfl, rfl⟩, by simp [World.setCell], ?_, fun k hk _ => ?_⟩
  · simp [World.setCell, Array.getElem?_modify, h]
  · simp only [World.setCell, Array.getElem?_modify]
    rw [if_neg (Ne.symm hk), if_neg (Ne.symm hk)]
theorem turned_alloc {W : World} {B : Nat} {c : Array Value} {t : TypeId} (h : W.heap[B]? = some (.cells c t (0, 0))) (o : Obj) : Turned B c t W (W.alloc o) :=
  ⟨⟨rfl, rfl, rfl⟩, by simp, by rw [RowKit.Below.heap_alloc _ _ _ (Array.getElem?_eq_some_iff.1 h).1]; exact h, fun k _ hlt => RowKit.Below.heap_alloc _ _ _ hlt⟩
theorem upon_does {P : Program} {o : Oper} {a : Act} {next : Act → World → Prop} {Q : Exit → Act → World → Prop} {g : FuncId} {vs : Array Value} {W : World} {R : Ending → World → Prop} (hd : Does P g vs W R)
    (hn : ∀ u W', R (.returned u) W' → next (a.put o.dst u) W') (hq : ∀ ch W', R (.panicked ch) W' → Q (.panic ch) a W') (ho : ∀ W', ¬ R .outgrown W') : Oper.upon P o a next Q ((callFunc g vs).run P W) := by
  unfold Does at hd
  cases hr : (callFunc g vs).run P W with
  | halt x w => rw [hr] at hd; exact hd.elim
  | ok n W1 =>
    rw [hr] at hd
    cases n <;> try exact hd.elim
    case value v => exact hn v W1 hd
    case enter g' vs' =>
      simp only at hd
      rw [Oper.upon_enter]
      refine Calls.mono hd fun e W2 hR => ?_
      cases e with
      | returned v => exact hn v W2 hR
      | panicked ch => exact hq ch W2 hR
      | outgrown => exact (ho W2 hR).elim
end Go.Abs
namespace Go.Abs
open Go
def G0 (W : World) : Ghost :=
  { imm := fun B o => match W.heap[B]? with
      | some (.cells c _ _) => c[o]?
      | _ => none, box := fun _ => none, hdr := fun _ => none, fix := fun B => W.heap[B]? }
theorem imm_cells {W : World} {B o : Nat} {v : Value} (h : (G0 W).imm B o = some v) : ∃ c T f, W.heap[B]? = some (.cells c T f) ∧ c[o]? = some v := by
  simp only [G0] at h
  cases hb : W.heap[B]? with
  | none => rw [hb] at h; cases h
  | some x =>
    rw [hb] at h
    cases x <;> first | (cases h; done) | exact ⟨_, _, _, rfl, h⟩
theorem tb0 (W : World) (B : Nat) : ¬ TB (G0 W) B := fun t => by
  rcases t with ⟨b, h⟩ | ⟨b, d, h, _⟩ <;> cases h
theorem sim0 {W : World} (hB : baseOk (G0 W).imm (G0 W).fix) : Sim (G0 W) [] W :=
  ⟨⟨fun _ _ _ h => imm_cells h, fun _ _ => ⟨rfl, rfl⟩, fun _ _ h => (by cases h), fun _ _ _ h => (by cases h), fun _ _ h => (by cases h), fun _ _ _ _ h => (by cases h), hB, fun _ h => (by cases h)⟩, fun B _ h => ⟨h, tb0 W B⟩⟩
theorem imm0 {W : World} {a : Addr} {v : Value} (h : W.cell? a = some v) : a.spot = none ∧ (G0 W).imm a.block a.off = some v := by
  unfold World.cell? at h
  cases hb : W.heap[a.block]? with
  | none => rw [hb] at h; cases h
  | some x =>
    rw [hb] at h
    cases x <;> try (cases h; done)
    simp only at h
    split at h
    · cases h
    · rename_i hs
      exact ⟨by simpa using hs, by simp only [G0, hb]; exact h⟩
theorem good_below {G : Ghost} {st : St} {W W' : World} (h : Sim G st W) (hb : RowKit.Below W.heap.size W W') : Good G W G st W' := by
  have old : ∀ {B : Nat} {x : Obj}, W.heap[B]? = some x → W'.heap[B]? = some x := fun {B x} e => by
    rw [hb.block B (Array.getElem?_eq_some_iff.1 e).1]; exact e
  exact mkGood h ⟨fun B o v e => by obtain ⟨c, T, f, h1, h2⟩ := h.imm B o v e; exact ⟨c, T, f, old h1, h2⟩, h.dom,
    fun b B hb => by obtain ⟨⟨cs, c, T, h1, h2, h3⟩, h4⟩ := h.box b B hb; exact ⟨⟨cs, c, T, h1, old h2, h3⟩, h4⟩, h.inj,
    fun b d hd => by
      have t := h.tip b d hd
      exact ⟨t.st, t.nobox, t.le, t.none, t.pos, fun hr => by
        obtain ⟨B, c, T, h1, h2, h3⟩ := t.room hr
        exact ⟨B, c, T, h1, old h2, h3⟩⟩, h.tinj, h.base, h.res⟩
    ⟨fun _ _ _ h => h, hb.size, fun B hB _ => hb.block B hB, fun _ _ _ _ => rfl, fun _ _ h => h, ⟨hb.os, hb.tape, hb.output⟩, rfl⟩ (.refl _) (fun _ h => h)
theorem law_calls {P : Program} {pr : Prims} (hm : P.follows .mixedOrders = true) (hN : NoNum P) (hp : ∀ f p, pr f = some p → PrimSound P f p) {f : FuncId} {fn : Func} {c : Code} (hf : P.funcs[f]? = some fn) (hb : fn.body = some c)
    {args : List V} {vs : Array Value} {W : World} (hB : baseOk (G0 W).imm (G0 W).fix) (hr : Reps (G0 W) args vs.toList) (he : ev P pr f args [] = some (.ret (.bool true), [])) :
    Calls P f vs W fun e W' => e = .returned (.bool true) ∧ RowKit.Below W.heap.size W W' := by
  have h := ev_sound hm hN hp f args [] _ _ he (G0 W) W vs (sim0 hB) hr
  unfold Does at h
  rw [callFunc_enter hN hf hb] at h
  refine Calls.mono h fun e W' ⟨G', u, g, e1, e2⟩ => ?_
  simp only [Rep] at e2
  subst e2
  exact ⟨e1, g.ext.env.1, g.ext.env.2.1, g.ext.env.2.2, g.ext.size, fun k hk => g.ext.keep k hk (tb0 W k)⟩
section
variable {H : Type} {enc : TypeId × Value → H} {P : Program} {W : World}
theorem Below.kept {W W' : World} (h : RowKit.Below W.heap.size W W') (may : MemPlace → Prop) : W.keptBut W' may := by
  refine ⟨h.os, h.output, fun i hi => ?_⟩
  rw [h.block i hi]
  split
  · rename_i h1 h2
    rw [h1] at h2; cases h2
    exact ⟨rfl, rfl, rfl, fun _ _ => rfl⟩
  · rename_i h1 h2
    rw [h1] at h2; cases h2
    exact .inr ⟨rfl, rfl⟩
  · rfl
theorem post_true {fn : Func} {s : ChangeSpec} {W' : World} {args : Array Value} {ds gs : List (DataW H)} {before : List MemPlace} (hl : laidOutB P = true) {tb : TypeId} (hres : fn.resultTypes = #[tb]) (htb : P.underlying tb = some .bool)
    (hpar : ∀ t ∈ fn.params.toList, P.readableRec t = true ∧ t < P.types.size) (hW : DataW.Whole enc P fn.params.toList s.vars false W args.toList ds gs before) (hv : s.vars = [])
    (hs : (s.fn H (ds ++ gs)).results = [.lit (.bool true)] ∧ (s.fn H (ds ++ gs)).args = ds ∧ (s.fn H (ds ++ gs)).vars = []) (hb : RowKit.Below W.heap.size W W') :
    s.post enc P fn false true false false W args (.bool true) W' := by
  have hW0 := hW
  obtain ⟨p, q, hA, hV, rfl, hfz, hnd⟩ := hW
  have hlt : ∀ x ∈ p, x.block < W.heap.size := fun x hx => hW0.lt x (List.mem_append_left _ hx)
  have carry : ∀ {ts : List TypeId} {vs : List Value} {ds : List (DataW H)} {p : List MemPlace}, (∀ t ∈ ts, P.readableRec t = true ∧ t < P.types.size) → (∀ x ∈ p, x.block < W.heap.size) → DataW.TrodAll enc P W 0 (fun _ => true) true ts vs ds p →
      DataW.TrodAll enc P W' 0 (fun b => decide (b < W.heap.size)) true ts vs ds p := by
    intro ts
    induction ts with
    | nil => intro vs ds p _ _ h; obtain ⟨rfl, rfl, rfl⟩ := ChangeShapes.trodAll_nil h; exact rfl
    | cons t ts ih =>
      intro vs ds p ht hlt h
      obtain ⟨v, vs1, d, ds1, a, b, rfl, rfl, rfl, h1, h2⟩ := ChangeShapes.trodAll_cons h
      exact ⟨a, b, RowKit.Below.trod hl (ht t (by simp)).1 (ht t (by simp)).2 h1 hb (fun x hx => hlt x (by simp [hx])), ih (fun t' h' => ht t' (by simp [h'])) (fun x hx => hlt x (by simp [hx])) h2, rfl⟩
  obtain ⟨s1, s2, s3⟩ := hs
  refine ⟨ds, gs, p ++ q, [], p, [], hW0, ?_, ?_, ?_, Below.kept hb _, fun h => by cases h⟩
  · rw [s1, hres]
    exact ⟨[], [], ⟨1, by simp [DataW.trod, Value.cells, htb]⟩, rfl, rfl⟩
  · rw [s2]; exact carry hpar hlt hA
  · rw [s3, hv]; exact rfl
structure Well {α : Type} (P : Program) (t : TypeId) (E : α → V) : Prop where
  len : ∀ a, (vcells (E a)).length = P.cellsOf t
  refs : ∀ a, refs (E a) = []
  ok : ∀ a, (vcells (E a)).all cellOk = true
def Rd {H : Type} (enc : TypeId × Value → H) (P : Program) (W : World) (n : Nat) (t : TypeId) {α : Type} (E : α → V) (Q : α → Prop) : Prop :=
  ∀ cs x, DataW.trod enc P W 0 (fun _ => true) true n t cs = some x → ∃ a, Q a ∧ Reps (G0 W) (vcells (E a)) cs
theorem Rd.map {n : Nat} {t : TypeId} {α β : Type} {E : α → V} {E' : β → V} {Q : α → Prop} {Q' : β → Prop} (h : Rd enc P W n t E Q) (f : α → β) (hf : ∀ a, Q a → Q' (f a) ∧ vcells (E' (f a)) = vcells (E a)) : Rd enc P W n t E' Q' :=
  fun cs x hx => let ⟨a, q, r⟩ := h cs x hx; ⟨f a, (hf a q).1, (hf a q).2 ▸ r⟩
theorem Rd.bool {t : TypeId} (ht : P.underlying t = some .bool) (n : Nat) : Rd enc P W n t V.bool (fun _ => True) := fun cs x h => by
  obtain ⟨b, rfl, _⟩ := DataW.trod_bool ht h
  exact ⟨b, trivial, _, _, rfl, rfl, rfl⟩
theorem Rd.int {t : TypeId} {k : IntKind} (ht : P.underlying t = some (.int k)) (n : Nat) : Rd enc P W n t (V.int k) (fun m => (Lit.int k m).wf = true) := fun cs x h => by
  obtain ⟨m, rfl, _, hw⟩ := DataW.trod_int ht h
  exact ⟨m, hw, _, _, rfl, rfl, rfl⟩
theorem Rd.str {t : TypeId} (ht : P.underlying t = some .string) (n : Nat) : Rd enc P W n t V.str (fun s => s.length ≤ maxLen) := fun cs x h => by
  obtain ⟨s, rfl, _, hs⟩ := DataW.trod_string ht h
  exact ⟨s.data.toList, by simpa using hs, _, _, rfl, ⟨s, rfl, rfl⟩, rfl⟩
theorem cells_of {a : Addr} {m : Nat} {cs : List Value} (h : W.cells? 0 a m = some cs) : cs.length = m ∧ ∀ j, j < m → W.cell? (a.add j) = cs[j]? := by
  unfold World.cells? at h
  rw [if_pos (Nat.zero_le _)] at h
  have : ∀ (l : List Nat) (cs : List Value), l.mapM (fun i => W.cell? (a.add i)) = some cs → cs.length = l.length ∧ ∀ j (hj : j < l.length), W.cell? (a.add l[j]) = cs[j]? := by
    intro l
    induction l with
    | nil => intro cs h; simp at h; subst h; simp
    | cons i l ih =>
      intro cs h
      rw [List.mapM_cons] at h
      cases hc : W.cell? (a.add i) with
      | none => simp [hc] at h
      | some v =>
        cases hr : l.mapM (fun i => W.cell? (a.add i)) with
        | none => simp [hc, hr] at h
        | some vs =>
          simp [hc, hr] at h
          subst h
          obtain ⟨k1, k2⟩ := ih vs hr
          refine ⟨by simp [k1], fun j hj => ?_⟩
          cases j with
          | zero => simpa using hc
          | succ j => simpa using k2 j (by simpa using hj)
  obtain ⟨h1, h2⟩ := this _ _ h
  exact ⟨by simpa using h1, fun j hj => by have := h2 j (by simpa using hj); rwa [List.getElem_range] at this⟩
theorem Rd.slice {t e : TypeId} (ht : P.underlying t = some (.slice e)) {α : Type} {E : α → V} {Q : α → Prop} (hw : Well P e E) (hp : 0 < P.cellsOf e) {n : Nat} (h : ∀ m, m < n → Rd enc P W m e E Q) :
    Rd enc P W n t (fun xs : List α => V.slice .froz (xs.map E)) (fun xs => xs.length ≤ maxLen ∧ ∀ x ∈ xs, Q x) := by
  intro cs x hx
  rcases DataW.trod_slice ht hx with ⟨rfl, _⟩ | ⟨a, len, cap, elems, rest, m, rfl, rfl, _, _, hl, hc, hel, hall, _, _⟩
  · exact ⟨[], ⟨Nat.zero_le _, by simp⟩, _, _, rfl, ⟨none, 0, rfl, Nat.le_refl _, trivial, by simp, ⟨0, by simp⟩, .inl rfl⟩, rfl⟩
  · have each : ∀ i, i < len → ∃ y : α, Q y ∧ ∃ cs', W.cells? 0 (a.add (i * P.cellsOf e)) (P.cellsOf e) = some cs' ∧ Reps (G0 W) (vcells (E y)) cs' := by
      intro i hi
      have := hall i hi
      rw [List.getElem?_eq_getElem (by omega)] at this
      obtain ⟨cs', h1, h2⟩ := Option.bind_eq_some_iff.1 this
      obtain ⟨y, q, r⟩ := h m (Nat.lt_succ_self m) cs' _ h2
      exact ⟨y, q, cs', h1, r⟩
    have build : ∀ k, k ≤ len → ∃ xs : List α, xs.length = k ∧ (∀ y ∈ xs, Q y) ∧ Reads (G0 W) ((xs.map E).flatMap vcells) a.block a.off ∧ (0 < k → a.spot = none) := by
      intro k
      induction k with
      | zero => intro _; exact ⟨[], rfl, by simp, trivial, by omega⟩
      | succ k ih =>
        intro hk
        obtain ⟨xs, e1, e2, e3, e4⟩ := ih (by omega)
        obtain ⟨y, q, cs', h1, r⟩ := each k (by omega)
        obtain ⟨c1, c2⟩ := cells_of h1
        have len_of : ((xs.map E).flatMap vcells).length = k * P.cellsOf e := by
          rw [← e1]
          clear e1 e2 e3
          induction xs with
          | nil => simp
          | cons x xs ih => simp only [List.map_cons, List.flatMap_cons, List.length_append, hw.len, ih, List.length_cons, Nat.add_mul]; omega
        have at_ : ∀ j v, cs'[j]? = some v → (a.add (k * P.cellsOf e)).spot = none ∧ (G0 W).imm a.block (a.off + k * P.cellsOf e + j) = some v := fun j v hv => by
          have hj : j < P.cellsOf e := by rw [← c1]; exact (List.getElem?_eq_some_iff.1 hv).1
          have := imm0 ((c2 j hj).trans hv)
          have hb : ((a.add (k * P.cellsOf e)).add j).block = a.block ∧ ((a.add (k * P.cellsOf e)).add j).off = a.off + k * P.cellsOf e + j := by
            unfold Addr.add
            split <;> split <;> simp_all
          rw [hb.1, hb.2] at this
          refine ⟨?_, this.2⟩
          by_cases hj0 : j = 0
          · subst hj0; simpa [Addr.add] using this.1
          · obtain ⟨v0, hv0⟩ : ∃ v0, cs'[0]? = some v0 := ⟨cs'[0]'(by omega), by simp⟩
            have := imm0 ((c2 0 hp).trans hv0)
            simpa [Addr.add] using this.1
        refine ⟨xs ++ [y], by simp [e1], fun z hz => ?_, ?_, fun _ => ?_⟩
        · rcases List.mem_append.1 hz with hz | hz
          · exact e2 z hz
          · simp at hz; subst hz; exact q
        · rw [List.map_append, List.flatMap_append, Reads.append, len_of]
          refine ⟨e3, ?_⟩
          simp only [List.map_cons, List.map_nil, List.flatMap_cons, List.flatMap_nil, List.append_nil]
          exact Reads.of_reps (fun _ _ _ h => h) r (Reps.one r (hw.ok y)) (by rw [refs_vcells]; exact hw.refs y) fun j v hv => (at_ j v hv).2
        · by_cases hk0 : k = 0
          · subst hk0
            obtain ⟨v0, hv0⟩ : ∃ v0, cs'[0]? = some v0 := ⟨cs'[0]'(by omega), by simp⟩
            simpa [Addr.add] using (at_ 0 v0 hv0).1
          · exact e4 (by omega)
    obtain ⟨xs, e1, e2, e3, e4⟩ := build len (Nat.le_refl _)
    refine ⟨xs, ⟨by omega, e2⟩, _, _, rfl, ⟨some a, cap, by rw [List.length_map, e1], by rw [List.length_map, e1]; exact hl, trivial, ?_, ⟨P.cellsOf e, ?_⟩, ?_⟩, rfl⟩
    · intro z hz
      obtain ⟨y, _, rfl⟩ := List.mem_map.1 hz
      exact hw.refs y
    · intro z hz
      obtain ⟨y, _, rfl⟩ := List.mem_map.1 hz
      exact hw.len y
    · by_cases h0 : len = 0
      · left; rw [List.map_eq_nil_iff]; exact List.eq_nil_of_length_eq_zero (by omega)
      · right
        refine ⟨a.block, a.off, ?_, (readsE_flat _ _ _).2 e3⟩
        obtain ⟨b, o, s⟩ := a
        have := e4 (by omega)
        simp only at this
        subst this
        rfl
def RdF {H : Type} (enc : TypeId × Value → H) (P : Program) (W : World) (n : Nat) (L : Nat) (fs : List (Nat × TypeId)) (off : Nat) {α : Type} (E : α → List V) (Q : α → Prop) : Prop :=
  ∀ cs : List Value, cs.length = L → (∀ f ∈ fs, ∃ y, DataW.trod enc P W 0 (fun _ => true) true n f.2 ((cs.drop f.1).take (P.cellsOf f.2)) = some y) → ∃ a, Q a ∧ Reps (G0 W) (E a) (cs.drop off)
theorem RdF.nil {n L : Nat} : RdF enc P W n L [] L (fun _ : Unit => []) (fun _ => True) := fun cs hl _ => ⟨(), trivial, by rw [List.drop_of_length_le (by omega)]; rfl⟩
theorem RdF.cons {n L off t : Nat} {fs : List (Nat × TypeId)} {α β : Type} {E : α → V} {Q : α → Prop} {E' : β → List V} {Q' : β → Prop} {sz : Nat} (hs : P.cellsOf t = sz) (h : Rd enc P W n t E Q) (h' : RdF enc P W n L fs (off + sz) E' Q') :
    RdF enc P W n L ((off, t) :: fs) off (fun p : α × β => vcells (E p.1) ++ E' p.2) (fun p => Q p.1 ∧ Q' p.2) := fun cs hl hall => by
  obtain ⟨y, hy⟩ := hall (off, t) (by simp)
  obtain ⟨a, q, r⟩ := h _ _ hy
  obtain ⟨b, q', r'⟩ := h' cs hl (fun f hf => hall f (by simp [hf]))
  refine ⟨(a, b), ⟨q, q'⟩, ?_⟩
  have := r.append r'
  rw [hs] at this
  rwa [show (cs.drop off).take sz ++ cs.drop (off + sz) = cs.drop off by rw [← List.drop_drop, List.take_append_drop]] at this
theorem Rd.struct {t : TypeId} {fs : Array Field} (ht : P.underlying t = some (.struct fs)) {n : Nat} {α β : Type} {E : α → List V} {Q : α → Prop} {L : Nat} (hL : P.cellsOf t = L)
    (h : ∀ m, m < n → RdF enc P W m L (fs.toList.map fun f => (f.offset, f.type)) 0 E Q) {E' : β → V} {Q' : β → Prop} (f : α → β) (hf : ∀ a, Q a → Q' (f a) ∧ vcells (E' (f a)) = E a) : Rd enc P W n t E' Q' := by
  intro cs x hx
  obtain ⟨xs, m, rfl, _, hlen, hxs, hall⟩ := DataW.trod_struct ht hx
  obtain ⟨a, q, r⟩ := h m (Nat.lt_succ_self m) cs (hlen.trans hL) fun p hp => by
    obtain ⟨fl, hfl, rfl⟩ := List.mem_map.1 hp
    obtain ⟨i, hi⟩ := List.mem_iff_getElem?.1 hfl
    have hi' : fs[i]? = some fl := by simpa using hi
    have := hall i fl hi'
    have hlt : i < xs.length := by rw [hxs]; exact (Array.getElem?_eq_some_iff.1 hi').1
    rw [List.getElem?_eq_getElem hlt] at this
    exact ⟨_, this⟩
  obtain ⟨q', e⟩ := hf a q
  exact ⟨f a, q', by rw [e]; simpa using r⟩
end
end Go.Abs
