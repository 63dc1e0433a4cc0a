/- A function's equation, once what its text alone says of drawn orders is checked. -/
import Derived.Test.YtmjfninbnlhmoaaAbsTop
namespace Go.Abs
open Go

variable {P : Program} {pr : Prims} {cl : Oracle}

def okDraws : Code → Bool
  | .region _ ops true => drawOk ops
  | .seq a b => okDraws a && okDraws b
  | .cond _ a b => okDraws a && okDraws b
  | .block _ a => okDraws a
  | .loop a => okDraws a
  | _ => true

def fpsOk2 (ops : Array Oper) (fps : List Fp) : Bool := fps.all (fun f => f.writes.isNone) || fpsOk ops fps

theorem fpsOk2_eq (ops : Array Oper) (fps : List Fp) : fpsOk2 ops fps = fpsOk ops fps := by
  unfold fpsOk2
  cases h : fps.all (fun f => f.writes.isNone) with
  | false => rfl
  | true =>
    rw [Bool.true_or]
    symm
    unfold fpsOk
    rw [List.all_eq_true]
    rintro ⟨a, i⟩ _
    rw [List.all_eq_true]
    rintro ⟨b, j⟩ hb
    have := List.all_eq_true.1 h b (List.fst_mem_of_mem_zipIdx hb)
    have hc : clash a b = false := by
      unfold clash
      cases hw : b.writes with
      | none => rfl
      | some x => rw [hw] at this; cases this
    simp [hc]

def regionF (P : Program) (cl : Oracle) (ops : Array Oper) (env : Env) (st : St) : Option (Ex × Env × St) :=
  match traceD P cl ops ops.toList env st with
  | some (none, env', st', fps) => if fpsOk2 ops fps then some (.normal, env', st') else none
  | some (some v, env', st', fps) => if fpsOk2 ops fps && panicOk ops (fps.length - 1) fps then some (.panic v, env', st') else none
  | none => none

noncomputable def execF (P : Program) (cl : Oracle) : Code → Env → St → Option (Ex × Env × St)
  | .skip, env, st => some (.normal, env, st)
  | .region _ ops false, env, st => regionL P cl ops ops.toList env st
  | .region _ ops true, env, st => regionF P cl ops env st
  | .seq a b, env, st => match execF P cl a env st with
    | some (.normal, env', st') => execF P cl b env' st'
    | r => r
  | .cond c a b, env, st => match opv env c with
    | .bool true => execF P cl a env st
    | .bool false => execF P cl b env st
    | _ => none
  | .block id a, env, st => match execF P cl a env st with
    | some (.exit i, env', st') => if i = id then some (.normal, env', st') else some (.exit i, env', st')
    | r => r
  | .loop a, env, st => loopE (execF P cl a) (temps a) st.length env st
  | .exit id, env, st => some (.exit id, env, st)
  | .ret, env, st => some (.ret, env, st)
  | _, _, _ => none

theorem execF_eq : ∀ (c : Code), okDraws c = true → execE P cl c = execF P cl c := by
  intro c
  induction c with
  | region id ops draw =>
    intro h
    cases draw with
    | false => rfl
    | true =>
      funext env st
      simp only [okDraws] at h
      simp only [execE, execF, regionD, regionF, h, if_true, fpsOk2_eq]
      rfl
  | seq a b iha ihb =>
    intro h
    simp only [okDraws, Bool.and_eq_true] at h
    funext env st
    simp only [execE, execF, iha h.1, ihb h.2]
    rfl
  | cond x a b iha ihb =>
    intro h
    simp only [okDraws, Bool.and_eq_true] at h
    funext env st
    simp only [execE, execF, iha h.1, ihb h.2]
    rfl
  | block id a iha =>
    intro h
    simp only [okDraws] at h
    funext env st
    simp only [execE, execF, iha h]
    rfl
  | loop a iha =>
    intro h
    simp only [okDraws] at h
    funext env st
    simp only [execE, execF, iha h]
  | _ => intro _; funext env st; rfl

theorem ev_fn {f : FuncId} {fn : Func} {c : Code} (hp : pr f = none) (hf : P.funcs[f]? = some fn) (hb : fn.body = some c) (ho : okDraws c = true) (a : List V) (s : St) :
    ev P pr f a s = match execF P (ev P pr) c (a ++ List.replicate (fn.ntmps - a.length) .undef) s with
      | some r => finish P s.length fn.results.toList r
      | none => none := by
  rw [ev_eq, hp]
  simp only [hf, hb]
  rw [execF_eq c ho]
  rfl

end Go.Abs
