/- A function's equation, once what its text alone says of drawn orders is checked. -/
import Derived.Test.YtpmeklllgnnffaaGreatDoorR9
set_option linter.unusedSimpArgs false
set_option linter.unusedVariables false

namespace Go.Abs
open Go
variable {P : Program} {pr : Prims} {cl : Oracle}
def okDraws : Code → Bool
  | .region _ ops true => drawOk ops
  | .seq a b => okDraws a && okDraws b
  | .cond _ a b => okDraws a && okDraws b
  | .block _ a => okDraws a
  | .loop a => okDraws a
  | _ => true
def fpsOk2 (ops : Array Oper) (fps : List Fp) : Bool := fps.all (fun f => f.writes.isNone) || fpsOk ops fps
theorem fpsOk2_eq (ops : Array Oper) (fps : List Fp) : fpsOk2 ops fps = fpsOk ops fps := by
  unfold fpsOk2
  cases h : fps.all (fun f => f.writes.isNone) with
  | false => rfl
  | true =>
    rw [Bool.true_or]
    symm
    unfold fpsOk
    rw [List.all_eq_true]
    rintro ⟨a, i⟩ _
    rw [List.all_eq_true]
    rintro ⟨b, j⟩ hb
    have := List.all_eq_true.1 h b (List.fst_mem_of_mem_zipIdx hb)
    have hc : clash a b = false := by
      unfold clash
      cases hw : b.writes with
      | none => rfl
      | some x => rw [hw] at this; cases this
    simp [hc]
def regionF (P : Program) (cl : Oracle) (ops : Array Oper) (env : Env) (st : St) : Option (Ex × Env × St) :=
  match traceD P cl ops ops.toList env (hoist P ops.toList st).2 (hoist P ops.toList st).1 with
  | some (none, env', st', fps) => if fpsOk2 ops fps then some (.normal, env', st') else none
  | some (some v, env', st', fps) => if fpsOk2 ops fps && panicOk P ops env' (fps.length - 1) fps then some (.panic v, env', st') else none
  | none => none
def regionG (P : Program) (cl : Oracle) (ops : Array Oper) (env : Env) (st : St) : Option (Ex × Env × St) :=
  match coinL ops.toList with
  | some q => coinR P q env st
  | none => regionF P cl ops env st
noncomputable def execF (P : Program) (cl : Oracle) : Code → Env → St → Option (Ex × Env × St)
  | .skip, env, st => some (.normal, env, st)
  | .region _ ops false, env, st => regionL P cl ops ops.toList env st
  | .region _ ops true, env, st => regionG P cl ops env st
  | .seq a b, env, st => match execF P cl a env st with
    | some (.normal, env', st') => execF P cl b env' st'
    | r => r
  | .cond c a b, env, st => match opv env c with
    | .bool true => execF P cl a env st
    | .bool false => execF P cl b env st
    | .tip _ => joinR (armW (armOf a) (fun A => armX P cl A env st) (execF P cl a env st)) (execF P cl b env st)
    | _ => none
  | .block id a, env, st => match execF P cl a env st with
    | some (.exit i, env', st') => if i = id then some (.normal, env', st') else some (.exit i, env', st')
    | r => r
  | .loop a, env, st => loopE (execF P cl a) (temps a) st.length env st
  | .exit id, env, st => some (.exit id, env, st)
  | .ret, env, st => some (.ret, env, st)
  | _, _, _ => none
theorem execF_eq : ∀ (c : Code), okDraws c = true → execE P cl c = execF P cl c := by
  intro c
  induction c with
  | region id ops draw =>
    intro h
    cases draw with
    | false => rfl
    | true =>
      funext env st
      simp only [okDraws] at h
      simp only [execE, execF, regionC, regionG, regionD, regionF, h, if_true, fpsOk2_eq]
      rfl
  | seq a b iha ihb =>
    intro h
    simp only [okDraws, Bool.and_eq_true] at h
    funext env st
    simp only [execE, execF, iha h.1, ihb h.2]
    rfl
  | cond x a b iha ihb =>
    intro h
    simp only [okDraws, Bool.and_eq_true] at h
    funext env st
    simp only [execE, execF, iha h.1, ihb h.2]
    rfl
  | block id a iha =>
    intro h
    simp only [okDraws] at h
    funext env st
    simp only [execE, execF, iha h]
    rfl
  | loop a iha =>
    intro h
    simp only [okDraws] at h
    funext env st
    simp only [execE, execF, iha h]
  | _ => intro _; funext env st; rfl
theorem iceO_not {f : FuncId} {n : Nat} (hi : iceF f = false) (r : Option (Out × St)) : iceO f n r = r := by
  cases r with
  | none => rfl
  | some q =>
    obtain ⟨o, st⟩ := q
    cases o <;> simp [iceO, hi]
theorem ev_fn {f : FuncId} {fn : Func} {c : Code} (hp : pr f = none) (hf : P.funcs[f]? = some fn) (hb : fn.body = some c) (ho : okDraws c = true) (a : List V) (s : St) :
    ev P pr f a s = match execF P (ev P pr) c (a ++ List.replicate (fn.ntmps - a.length) .undef) s with
      | some r => iceO f s.length (finish P s.length fn.results.toList r)
      | none => none := by
  rw [ev_eq, hp]
  simp only [hf, hb]
  rw [execF_eq c ho]
  rfl
end Go.Abs
namespace Go.Abs
open Go
inductive Item where
  | code (c : Code)
  | ops (ops : Array Oper) (l : List Oper)
  | drw (ops : Array Oper) (l : List Oper) (fps : List Fp) (r : Option Nat)
  | blk (id : Nat)
  | lp (c : Code) (ts : List Nat) (m : Nat)
  | again (c : Code) (ts : List Nat) (m : Nat)
  | join1 (c : Code) (env : Env) (st : St)
  | join2 (env : Env) (st : St)
  | arm (A : Arm)
section
variable (P : Program) (cl : Oracle) (n : Nat) (rs : List ResultVar)
mutual
noncomputable def mk : List Item → Env → St → Option (Out × St)
  | [], env, st => finish P n rs (.normal, env, st)
  | .code c :: k, env, st => match execF P cl c env st with
    | some (.normal, env', st') => mk k env' st'
    | some (ex, env', st') => unw ex k env' st'
    | none => none
  | .ops ops l :: k, env, st => match regionL P cl ops l env st with
    | some (.normal, env', st') => mk k env' st'
    | some (ex, env', st') => unw ex k env' st'
    | none => none
  | .drw ops l fps r :: k, env, st => match traceD P cl ops l env st r with
    | some (none, env', st', fps') => if fpsOk2 ops (fps.reverse ++ fps') then mk k env' st' else none
    | some (some v, env', st', fps') => if fpsOk2 ops (fps.reverse ++ fps') && panicOk P ops env' ((fps.reverse ++ fps').length - 1) (fps.reverse ++ fps') then unw (.panic v) k env' st' else none
    | none => none
  | .blk _ :: k, env, st => mk k env st
  | .lp c ts m :: k, env, st => match loopE (execF P cl c) ts m env st with
    | some (.normal, env', st') => mk k env' st'
    | some (ex, env', st') => unw ex k env' st'
    | none => none
  | .again c ts m :: k, env, st => match loopE (execF P cl c) ts m (roundEnd ts m env st).1 (roundEnd ts m env st).2 with
    | some (.normal, env', st') => mk k env' st'
    | some (ex, env', st') => unw ex k env' st'
    | none => none
  | .join1 c e0 s0 :: k, env, st => match joinR (some (.normal, env, st)) (execF P cl c e0 s0) with
    | some (_, env', st') => mk k env' st'
    | none => none
  | .join2 e0 s0 :: k, env, st => match joinR (some (.normal, e0, s0)) (some (.normal, env, st)) with
    | some (_, env', st') => mk k env' st'
    | none => none
  | .arm A :: k, env, st => match armS P A env st with
    | some (env', st') => mk k env' st'
    | none => none
noncomputable def unw : Ex → List Item → Env → St → Option (Out × St)
  | ex, [], env, st => finish P n rs (ex, env, st)
  | ex, .blk id :: k, env, st => match ex with
    | .exit i => if i = id then mk k env st else unw (.exit i) k env st
    | ex => unw ex k env st
  | ex, .code _ :: k, env, st => unw ex k env st
  | ex, .ops _ _ :: k, env, st => unw ex k env st
  | ex, .drw _ _ _ _ :: k, env, st => unw ex k env st
  | ex, .lp _ _ _ :: k, env, st => unw ex k env st
  | ex, .again _ _ _ :: k, env, st => unw ex k env st
  | _, .join1 _ _ _ :: _, _, _ => none
  | _, .join2 _ _ :: _, _, _ => none
  | _, .arm _ :: _, _, _ => none
end
end
section
variable {P : Program} {cl : Oracle} {n : Nat} {rs : List ResultVar} {k : List Item} {env : Env} {st : St}
def brB {β : Type} (b : Bool) (x y : β) : β :=
  match b with
  | true => x
  | false => y
theorem brB_true {β : Type} (x y : β) : brB true x y = x := id rfl
theorem brB_false {β : Type} (x y : β) : brB false x y = y := id rfl
def brP {β : Type} (p : Prop) [Decidable p] (x : p → β) (y : ¬ p → β) : β := dite p x y
theorem brB_dec {β : Type} {p : Prop} [Decidable p] (x y : β) : brB (decide p) x y = brP p (fun _ => x) (fun _ => y) := by by_cases h : p <;> simp [h, brB, brP]
theorem brB_beq {β : Type} (a b : Bool) (x y : β) : brB (a == b) x y = brB a (brB b x y) (brB b y x) := by cases a <;> cases b <;> rfl
theorem brB_bne {β : Type} (a b : Bool) (x y : β) : brB (a != b) x y = brB a (brB b y x) (brB b x y) := by cases a <;> cases b <;> rfl
theorem brB_not {β : Type} (b : Bool) (x y : β) : brB (!b) x y = brB b y x := by cases b <;> rfl
theorem brB_and {β : Type} (a b : Bool) (x y : β) : brB (a && b) x y = brB a (brB b x y) y := by cases a <;> rfl
theorem brB_or {β : Type} (a b : Bool) (x y : β) : brB (a || b) x y = brB a x (brB b x y) := by cases a <;> rfl
noncomputable def condK (P : Program) (cl : Oracle) (n : Nat) (rs : List ResultVar) (v : V) (a b : Code) (k : List Item) (env : Env) (st : St) : Option (Out × St) :=
  match v with
  | .bool c => brB c (mk P cl n rs (.code a :: k) env st) (mk P cl n rs (.code b :: k) env st)
  | .tip _ => armW (armOf a) (fun A => mk P cl n rs (.ops A.ops A.pre :: .arm A :: .join1 b env st :: k) env st) (mk P cl n rs (.code a :: .join1 b env st :: k) env st)
  | _ => none
noncomputable def opT (P : Program) (cl : Oracle) (n : Nat) (rs : List ResultVar) (r : Option Res) (dst : Option Tmp) (ops : Array Oper) (l : List Oper) (k : List Item) (env : Env) : Option (Out × St) :=
  match r with
  | some (.val v st') => mk P cl n rs (.ops ops l :: k) (setD env dst v) st'
  | some (.panic v st') => unw P cl n rs (.panic v) k env st'
  | none => none
noncomputable def opK (P : Program) (cl : Oracle) (n : Nat) (rs : List ResultVar) (w : Option Bool) (r : Option Res) (dst : Option Tmp) (ops : Array Oper) (l : List Oper) (k : List Item) (env : Env) (st : St) : Option (Out × St) :=
  match w with
  | some b => brB b (opT P cl n rs r dst ops l k env) (mk P cl n rs (.ops ops l :: k) (setD env dst (.tup [])) st)
  | none => none
noncomputable def drwT (P : Program) (cl : Oracle) (n : Nat) (rs : List ResultVar) (r : Option (Res × Fp)) (dst : Option Tmp) (ops : Array Oper) (l : List Oper) (fps : List Fp) (q : Option Nat) (k : List Item) (env : Env) : Option (Out × St) :=
  match r with
  | some (.val v st', fp) => mk P cl n rs (.drw ops l (fp :: fps) q :: k) (setD env dst v) st'
  | some (.panic v st', fp) => if fpsOk2 ops (fp :: fps).reverse && panicOk P ops env fps.length (fp :: fps).reverse then unw P cl n rs (.panic v) k env st' else none
  | none => none
noncomputable def drwK (P : Program) (cl : Oracle) (n : Nat) (rs : List ResultVar) (w : Option Bool) (r : Option (Res × Fp)) (dst : Option Tmp) (ops : Array Oper) (l : List Oper) (fps : List Fp) (q : Option Nat) (k : List Item) (env : Env) (st : St) : Option (Out × St) :=
  match w with
  | some b => brB b (drwT P cl n rs r dst ops l fps q k env) (mk P cl n rs (.drw ops l (⟨none, none⟩ :: fps) q :: k) (setD env dst (.tup [])) st)
  | none => none
theorem mk_nil : mk P cl n rs [] env st = finish P n rs (.normal, env, st) := by rw [mk]
theorem mk_blk {id : Nat} : mk P cl n rs (.blk id :: k) env st = mk P cl n rs k env st := by rw [mk]
theorem mk_skip : mk P cl n rs (.code .skip :: k) env st = mk P cl n rs k env st := by rw [mk]; rfl
theorem mk_ret' : mk P cl n rs (.code .ret :: k) env st = unw P cl n rs .ret k env st := by rw [mk]; rfl
theorem mk_exit {id : Nat} : mk P cl n rs (.code (.exit id) :: k) env st = unw P cl n rs (.exit id) k env st := by rw [mk]; rfl
theorem mk_seq {a b : Code} : mk P cl n rs (.code (.seq a b) :: k) env st = mk P cl n rs (.code a :: .code b :: k) env st := by
  rw [mk, mk]
  simp only [execF]
  cases h : execF P cl a env st with
  | none => rfl
  | some q =>
    obtain ⟨ex, env', st'⟩ := q
    cases ex
    · simp only; rw [mk]
    · simp only; rw [unw]
    · simp only; rw [unw]
    · simp only; rw [unw]
theorem mk_block {id : Nat} {a : Code} : mk P cl n rs (.code (.block id a) :: k) env st = mk P cl n rs (.code a :: .blk id :: k) env st := by
  rw [mk, mk]
  simp only [execF]
  cases h : execF P cl a env st with
  | none => rfl
  | some q =>
    obtain ⟨ex, env', st'⟩ := q
    cases ex
    · simp only; rw [mk]
    · rename_i i
      by_cases hi : i = id
      · simp only [hi, if_true]; rw [unw, if_pos rfl]
      · simp only [hi, if_false]; rw [unw, if_neg hi]
    · simp only; rw [unw]; intro i e; cases e
    · simp only; rw [unw]; intro i e; cases e
theorem mk_cond {c : Operand} {a b : Code} : mk P cl n rs (.code (.cond c a b) :: k) env st = condK P cl n rs (opv env c) a b k env st := by
  rw [mk]
  simp only [execF]
  unfold condK
  cases h : opv env c <;> try rfl
  case bool x =>
    cases x
    · simp only [brB]; rw [mk]
    · simp only [brB]; rw [mk]
  case tip m =>
    simp only
    cases hA : armOf a with
    | some A =>
      simp only [armW]
      rw [mk]
      unfold armX
      cases hr : regionL P cl A.ops A.pre env st with
      | none => rfl
      | some q =>
        obtain ⟨ex, env', st'⟩ := q
        cases ex
        · simp only
          rw [mk]
          cases hS : armS P A env' st' with
          | none => rfl
          | some q =>
            obtain ⟨e2, s2⟩ := q
            simp only
            rw [mk]
            cases hb : execF P cl b env st with
            | none => rfl
            | some q =>
              obtain ⟨ex2, env2, st2⟩ := q
              cases ex2 <;> simp only [joinR]
              by_cases hs : s2 = st2 ∧ e2.length = env2.length <;> simp only [hs, and_self, if_true, if_false]
        · simp only [joinR]; rw [unw]
        · simp only [joinR]; rw [unw]
        · simp only [joinR]; rw [unw]
    | none =>
    simp only [armW]
    rw [mk]
    cases ha : execF P cl a env st with
    | none => rfl
    | some q =>
      obtain ⟨ex, env', st'⟩ := q
      cases ex
      · simp only
        rw [mk]
        cases hb : execF P cl b env st with
        | none => rfl
        | some q =>
          obtain ⟨ex2, env2, st2⟩ := q
          cases ex2 <;> simp only [joinR]
          by_cases hs : st' = st2 ∧ env'.length = env2.length <;> simp only [hs, and_self, if_true, if_false]
      · simp only [joinR]; rw [unw]
      · simp only [joinR]; rw [unw]
      · simp only [joinR]; rw [unw]
theorem mk_arm {A : Arm} : mk P cl n rs (.arm A :: k) env st = match armS P A env st with
    | some (env', st') => mk P cl n rs k env' st'
    | none => none := by rw [mk]
theorem mk_join1 {c : Code} {e0 : Env} {s0 : St} : mk P cl n rs (.join1 c e0 s0 :: k) env st = mk P cl n rs (.code c :: .join2 env st :: k) e0 s0 := by
  rw [mk, mk]
  cases hb : execF P cl c e0 s0 with
  | none => rfl
  | some q =>
    obtain ⟨ex2, env2, st2⟩ := q
    cases ex2
    · simp only; rw [mk]
    · simp only [joinR]; rw [unw]
    · simp only [joinR]; rw [unw]
    · simp only [joinR]; rw [unw]
theorem mk_join2 {e0 : Env} {s0 : St} (hs : s0 = st) (hl : e0.length = env.length) : mk P cl n rs (.join2 e0 s0 :: k) env st = mk P cl n rs k (meetE e0 env) st := by
  rw [mk]
  simp only [joinR, hs, hl, and_self, if_true]
theorem mk_region {id : Nat} {ops : Array Oper} : mk P cl n rs (.code (.region id ops false) :: k) env st = mk P cl n rs (.ops ops ops.toList :: k) env st := by
  rw [mk, mk]; rfl
theorem mk_ops_nil {ops : Array Oper} : mk P cl n rs (.ops ops [] :: k) env st = mk P cl n rs k env st := by rw [mk]; rfl
theorem mk_ops {ops : Array Oper} {o : Oper} {l : List Oper} : mk P cl n rs (.ops ops (o :: l) :: k) env st = opK P cl n rs (want ops env o.guard) (opStep P cl (opv env) o st) o.dst ops l k env st := by
  rw [mk]
  simp only [regionL]
  unfold opK
  cases hw : want ops env o.guard with
  | none => rfl
  | some b =>
    cases b with
    | false => simp only [brB]; rw [mk]
    | true =>
      simp only [brB]
      unfold opT
      cases ho : opStep P cl (opv env) o st with
      | none => rfl
      | some q =>
        cases q with
        | val v st' => simp only; rw [mk]
        | panic v st' => rfl
theorem coinR_normal {q : Nat × Nat × Nat} {ex : Ex} {e : Env} {s : St} (h : coinR P q env st = some (ex, e, s)) : ex = .normal := by
  unfold coinR at h
  split at h
  · cases h; rfl
  · cases h
theorem mk_coin {id : Nat} {ops : Array Oper} {q : Nat × Nat × Nat} (hq : coinL ops.toList = some q) : mk P cl n rs (.code (.region id ops true) :: k) env st = match coinR P q env st with
    | some (_, env', st') => mk P cl n rs k env' st'
    | none => none := by
  rw [mk]
  simp only [execF, regionG, hq]
  cases hc : coinR P q env st with
  | none => rfl
  | some r =>
    obtain ⟨ex, e, s⟩ := r
    obtain rfl := coinR_normal hc
    rfl
theorem mk_drawn {id : Nat} {ops : Array Oper} (hq : coinL ops.toList = none) : mk P cl n rs (.code (.region id ops true) :: k) env st = mk P cl n rs (.drw ops ops.toList [] (hoist P ops.toList st).1 :: k) env (hoist P ops.toList st).2 := by
  rw [mk, mk]
  simp only [execF, regionG, hq, regionF, List.reverse_nil, List.nil_append]
  cases h : traceD P cl ops ops.toList env (hoist P ops.toList st).2 (hoist P ops.toList st).1 with
  | none => rfl
  | some q =>
    obtain ⟨p, env', st', fps⟩ := q
    cases p with
    | none => cases hc : fpsOk2 ops fps <;> simp only [hc, if_true, if_false, Bool.false_eq_true]
    | some v => cases hc : fpsOk2 ops fps && panicOk P ops env' (fps.length - 1) fps <;> simp only [hc, if_true, if_false, Bool.false_eq_true]
theorem mk_drw_nil {ops : Array Oper} {fps : List Fp} {r : Option Nat} : mk P cl n rs (.drw ops [] fps r :: k) env st = if fpsOk2 ops fps.reverse then mk P cl n rs k env st else none := by
  rw [mk]
  simp only [traceD, List.append_nil]
theorem mk_drw {ops : Array Oper} {o : Oper} {l : List Oper} {fps : List Fp} {r : Option Nat} : mk P cl n rs (.drw ops (o :: l) fps r :: k) env st = drwK P cl n rs (want ops env o.guard) (stepR P cl (opv env) o st r) o.dst ops l fps (nxt o r) k env st := by
  rw [mk]
  simp only [traceD]
  unfold drwK
  cases hw : want ops env o.guard with
  | none => rfl
  | some b =>
    cases b with
    | false =>
      simp only [brB]
      rw [mk]
      cases ht : traceD P cl ops l (setD env o.dst (.tup [])) st (nxt o r) with
      | none => rfl
      | some q => obtain ⟨p, env', st', fps'⟩ := q; cases p <;> simp
    | true =>
      simp only [brB]
      unfold drwT
      cases ho : stepR P cl (opv env) o st r with
      | none => rfl
      | some q =>
        obtain ⟨q, fp⟩ := q
        cases q with
        | val v st' =>
          simp only
          rw [mk]
          cases ht : traceD P cl ops l (setD env o.dst v) st' (nxt o r) with
          | none => rfl
          | some q => obtain ⟨p, env', st', fps'⟩ := q; cases p <;> simp
        | panic v st' => simp
theorem unw_nil {ex : Ex} : unw P cl n rs ex [] env st = finish P n rs (ex, env, st) := by rw [unw]
theorem unw_code {ex : Ex} {c : Code} : unw P cl n rs ex (.code c :: k) env st = unw P cl n rs ex k env st := by rw [unw]
theorem unw_ops {ex : Ex} {ops : Array Oper} {l : List Oper} : unw P cl n rs ex (.ops ops l :: k) env st = unw P cl n rs ex k env st := by rw [unw]
theorem unw_drw {ex : Ex} {ops : Array Oper} {l : List Oper} {fps : List Fp} {r : Option Nat} : unw P cl n rs ex (.drw ops l fps r :: k) env st = unw P cl n rs ex k env st := by rw [unw]
theorem unw_lp {ex : Ex} {c : Code} {ts : List Nat} {m : Nat} : unw P cl n rs ex (.lp c ts m :: k) env st = unw P cl n rs ex k env st := by rw [unw]
theorem unw_again {ex : Ex} {c : Code} {ts : List Nat} {m : Nat} : unw P cl n rs ex (.again c ts m :: k) env st = unw P cl n rs ex k env st := by rw [unw]
theorem mk_again {c : Code} {ts : List Nat} {m : Nat} : mk P cl n rs (.again c ts m :: k) env st = mk P cl n rs (.lp c ts m :: k) (roundEnd ts m env st).1 (roundEnd ts m env st).2 := by rw [mk, mk]
theorem mk_round {c : Code} {ts : List Nat} {m : Nat} : mk P cl n rs (.lp c ts m :: k) env st = mk P cl n rs (.code c :: .again c ts m :: k) env st := by
  rw [mk, mk, loopE_eq]
  cases h : execF P cl c env st with
  | none => rfl
  | some q =>
    obtain ⟨ex, env', st'⟩ := q
    cases ex
    · simp only; rw [mk]
    · simp only; rw [unw]
    · simp only; rw [unw]
    · simp only; rw [unw]
theorem mk_loop {c : Code} {ts : List Nat} (h : temps c = ts) : mk P cl n rs (.code (.loop c) :: k) env st = mk P cl n rs (.lp c ts st.length :: k) env st := by
  rw [mk, mk]
  simp only [execF, h]
theorem lp_inv {c : Code} {ts : List Nat} {m : Nat} {ι : Type} (meas : ι → Nat) (E : ι → Env) (S : ι → St) (F : ι → Option (Out × St))
    (h : ∀ x, (∀ y, meas y < meas x → mk P cl n rs (.lp c ts m :: k) (E y) (S y) = F y) → mk P cl n rs (.code c :: .again c ts m :: k) (E x) (S x) = F x) :
    ∀ x, mk P cl n rs (.lp c ts m :: k) (E x) (S x) = F x := by
  have key : ∀ (j : Nat) x, meas x < j → mk P cl n rs (.lp c ts m :: k) (E x) (S x) = F x := by
    intro j
    induction j with
    | zero => intro x hx; omega
    | succ j ih => intro x hx; rw [mk_round]; exact h x fun y hy => ih y (by omega)
  exact fun x => key (meas x + 1) x (Nat.lt_succ_self _)
theorem unw_exit {i id : Nat} : unw P cl n rs (.exit i) (.blk id :: k) env st = if i = id then mk P cl n rs k env st else unw P cl n rs (.exit i) k env st := by rw [unw]
theorem unw_ret {id : Nat} : unw P cl n rs .ret (.blk id :: k) env st = unw P cl n rs .ret k env st := by rw [unw]; intro i e; cases e
theorem unw_panic {id : Nat} {v : V} : unw P cl n rs (.panic v) (.blk id :: k) env st = unw P cl n rs (.panic v) k env st := by rw [unw]; intro i e; cases e
theorem wrap_i64 {x : Int} (h : -9223372036854775808 ≤ x ∧ x ≤ 9223372036854775807) : IntKind.i64.wrap x = x := by
  simp only [IntKind.wrap, IntKind.bits, IntKind.signed]
  simp
  omega
theorem gc_none {s : St} : gc 0 [] s = some ([], []) := by
  simp [gc, refsL, reach, reachFuel, shut, nodup]
theorem gc_pure {vs : List V} {s : St} (h : refsL vs = []) : gc 0 vs s = some (vs, []) := by
  simp [gc, h, refsL, reach, reachFuel, shut, nodup]
theorem ev_mk0 {pr : Prims} {f : FuncId} {fn : Func} {c : Code} (hp : pr f = none) (hf : P.funcs[f]? = some fn) (hb : fn.body = some c) (ho : okDraws c = true) (a : List V) (s : St) :
    ev P pr f a s = iceO f s.length (mk P (ev P pr) s.length fn.results.toList [.code c] (a ++ List.replicate (fn.ntmps - a.length) .undef) s) := by
  rw [ev_fn hp hf hb ho, mk]
  cases h : execF P (ev P pr) c (a ++ List.replicate (fn.ntmps - a.length) .undef) s with
  | none => rfl
  | some q =>
    obtain ⟨ex, env', st'⟩ := q
    cases ex <;> simp only <;> first | rw [mk] | rw [unw]
theorem ev_mk {pr : Prims} {f : FuncId} {fn : Func} {c : Code} (hp : pr f = none) (hf : P.funcs[f]? = some fn) (hb : fn.body = some c) (ho : okDraws c = true) (hi : iceF f = false) (a : List V) (s : St) :
    ev P pr f a s = mk P (ev P pr) s.length fn.results.toList [.code c] (a ++ List.replicate (fn.ntmps - a.length) .undef) s := by
  rw [ev_mk0 hp hf hb ho, iceO_not hi]
end
end Go.Abs
namespace Go.Abs
open Go
class Stk where
  l : List Item
class OpsI where
  a : Array Oper
section
variable (P : Program) (cl : Oracle) (n : Nat) (rs : List ResultVar)
noncomputable def mki [s : Stk] (env : Env) (st : St) : Option (Out × St) := mk P cl n rs s.l env st
noncomputable def unwi [s : Stk] (ex : Ex) (env : Env) (st : St) : Option (Out × St) := unw P cl n rs ex s.l env st
noncomputable def opTi [s : Stk] (r : Option Res) (dst : Option Tmp) (env : Env) : Option (Out × St) :=
  match r with
  | some (.val v st') => mk P cl n rs s.l (setD env dst v) st'
  | some (.panic v st') => unw P cl n rs (.panic v) s.l env st'
  | none => none
noncomputable def opKi [s : Stk] (w : Option Bool) (r : Option Res) (dst : Option Tmp) (env : Env) (st : St) : Option (Out × St) :=
  match w with
  | some b => brB b (@opTi P cl n rs s r dst env) (mk P cl n rs s.l (setD env dst (.tup [])) st)
  | none => none
def armI [s : Stk] : Option Arm :=
  match s.l with
  | .code x :: _ => armOf x
  | _ => none
noncomputable def armK [s : Stk] (A : Arm) (env : Env) (st : St) : Option (Out × St) := mk P cl n rs (.ops A.ops A.pre :: .arm A :: s.l) env st
noncomputable def tipK [a : Stk] [b : Stk] (o : Option Arm) (env : Env) (st : St) : Option (Out × St) :=
  match a.l, b.l with
  | .code x :: k, .code c :: _ => armW o (fun A => @armK P cl n rs ⟨.join1 c env st :: k⟩ A env st) (mk P cl n rs (.code x :: .join1 c env st :: k) env st)
  | _, _ => none
noncomputable def condKi [a : Stk] [b : Stk] (v : V) (env : Env) (st : St) : Option (Out × St) :=
  match v with
  | .bool c => brB c (mk P cl n rs a.l env st) (mk P cl n rs b.l env st)
  | .tip _ => @tipK P cl n rs a b (@armI a) env st
  | _ => none
end
def wanti [s : OpsI] (env : Env) (g : Option (Nat × Bool)) : Option Bool := want s.a env g
def opS (P : Program) (cl : Oracle) (env : Env) (op : Op) (st : St) : Option Res := opStep P cl (opv env) ⟨none, op, 0, "", #[], none⟩ st
def stepS (P : Program) (cl : Oracle) (env : Env) (op : Op) (st : St) : Option (Res × Fp) := stepD P cl (opv env) ⟨none, op, 0, "", #[], none⟩ st
def stepQ (P : Program) (cl : Oracle) (env : Env) (op : Op) (st : St) (r : Option Nat) : Option (Res × Fp) := stepR P cl (opv env) ⟨none, op, 0, "", #[], none⟩ st r
def altys [s : OpsI] : List TypeId := allocTys s.a.toList
def fpsQ [s : OpsI] (fps : List Fp) : Bool := fpsOk2 s.a fps.reverse
def panQ (P : Program) [s : OpsI] (env : Env) (fps : List Fp) : Bool := fpsOk2 s.a fps.reverse && panicOk P s.a env (fps.length - 1) fps.reverse
section
variable (P : Program) (cl : Oracle) (n : Nat) (rs : List ResultVar)
noncomputable def drTi [s : Stk] [o : OpsI] [l : Stk] (r : Option (Res × Fp)) (dst : Option Tmp) (env : Env) : Option (Out × St) :=
  match l.l, r with
  | .drw _ l fps q :: _, some (.val v st', fp) => mk P cl n rs (.drw o.a l (fp :: fps) q :: s.l) (setD env dst v) st'
  | .drw _ _ fps _ :: _, some (.panic v st', fp) => if @panQ P o env (fp :: fps) then unw P cl n rs (.panic v) s.l env st' else none
  | _, _ => none
noncomputable def drKi [s : Stk] [o : OpsI] [l : Stk] (w : Option Bool) (r : Option (Res × Fp)) (dst : Option Tmp) (env : Env) (st : St) : Option (Out × St) :=
  match l.l, w with
  | .drw _ l' fps q :: _, some b => brB b (@drTi P cl n rs s o l r dst env) (mk P cl n rs (.drw o.a l' (⟨none, none⟩ :: fps) q :: s.l) (setD env dst (.tup [])) st)
  | _, _ => none
noncomputable def drIn [s : Stk] [o : OpsI] (h : Option Nat × St) (env : Env) : Option (Out × St) := mk P cl n rs (.drw o.a o.a.toList [] h.1 :: s.l) env h.2
end
section
variable {P : Program} {cl : Oracle} {n : Nat} {rs : List ResultVar} {k : List Item} {env : Env} {st : St}
theorem i_nil : @mki P cl n rs ⟨[]⟩ env st = finish P n rs (.normal, env, st) := mk_nil
theorem i_blk {id : Nat} : @mki P cl n rs ⟨.blk id :: k⟩ env st = @mki P cl n rs ⟨k⟩ env st := mk_blk
theorem i_skip : @mki P cl n rs ⟨.code .skip :: k⟩ env st = @mki P cl n rs ⟨k⟩ env st := mk_skip
theorem i_ret : @mki P cl n rs ⟨.code .ret :: k⟩ env st = @unwi P cl n rs ⟨k⟩ .ret env st := mk_ret'
theorem i_exit {id : Nat} : @mki P cl n rs ⟨.code (.exit id) :: k⟩ env st = @unwi P cl n rs ⟨k⟩ (.exit id) env st := mk_exit
theorem i_seq {a b : Code} : @mki P cl n rs ⟨.code (.seq a b) :: k⟩ env st = @mki P cl n rs ⟨.code a :: .code b :: k⟩ env st := mk_seq
theorem i_block {id : Nat} {a : Code} : @mki P cl n rs ⟨.code (.block id a) :: k⟩ env st = @mki P cl n rs ⟨.code a :: .blk id :: k⟩ env st := mk_block
theorem i_cond {c : Operand} {a b : Code} : @mki P cl n rs ⟨.code (.cond c a b) :: k⟩ env st = @condKi P cl n rs ⟨.code a :: k⟩ ⟨.code b :: k⟩ (opv env c) env st := mk_cond
theorem i_region' {id : Nat} {l : List Oper} : @mki P cl n rs ⟨.code (.region id ⟨l⟩ false) :: k⟩ env st = @mki P cl n rs ⟨.ops ⟨l⟩ l :: k⟩ env st := mk_region
theorem i_ops_nil {ops : Array Oper} : @mki P cl n rs ⟨.ops ops [] :: k⟩ env st = @mki P cl n rs ⟨k⟩ env st := mk_ops_nil
theorem i_ops {ops : Array Oper} {dst : Option Tmp} {op : Op} {ty : TypeId} {pos : String} {after : Array Edge} {g : Option (Nat × Bool)} {l : List Oper} :
    @mki P cl n rs ⟨.ops ops (⟨dst, op, ty, pos, after, g⟩ :: l) :: k⟩ env st = @opKi P cl n rs ⟨.ops ops l :: k⟩ (@wanti ⟨ops⟩ env g) (opS P cl env op st) dst env st := by
  refine mk_ops.trans ?_
  simp only
  have e : opStep P cl (opv env) ⟨dst, op, ty, pos, after, g⟩ st = opS P cl env op st := by unfold opS; cases op <;> rfl
  rw [e]
  unfold opK opKi
  simp only [wanti]
  cases want ops env g with
  | none => rfl
  | some b =>
    cases b with
    | false => rfl
    | true =>
      simp only [brB]
      unfold opT opTi
      cases opS P cl env op st with
      | none => rfl
      | some q =>
        cases q with
        | val v st' => rfl
        | panic v st' => simp only [unw_ops]
theorem i_join1 {c : Code} {e0 : Env} {s0 : St} : @mki P cl n rs ⟨.join1 c e0 s0 :: k⟩ env st = @mki P cl n rs ⟨.code c :: .join2 env st :: k⟩ e0 s0 := mk_join1
theorem i_join2 {e0 : Env} {s0 : St} (hs : s0 = st) (hl : e0.length = env.length) : @mki P cl n rs ⟨.join2 e0 s0 :: k⟩ env st = @mki P cl n rs ⟨k⟩ (meetE e0 env) st := mk_join2 hs hl
theorem d_in {l : List Oper} {q : Option Nat} : @drIn P cl n rs ⟨k⟩ ⟨⟨l⟩⟩ (q, st) env = @mki P cl n rs ⟨.drw ⟨l⟩ l [] q :: k⟩ env st := id rfl
def alt1 [s : OpsI] (op : Op) : List TypeId := match op with
  | .alloc t => t :: @altys s
  | _ => @altys s
theorem a_nil : @altys ⟨⟨[]⟩⟩ = [] := id rfl
theorem a_cons {dst : Option Tmp} {op : Op} {ty : TypeId} {pos : String} {after : Array Edge} {g : Option (Nat × Bool)} {l : List Oper} : @altys ⟨⟨⟨dst, op, ty, pos, after, g⟩ :: l⟩⟩ = @alt1 ⟨⟨l⟩⟩ op := by
  cases op <;> rfl
theorem h_nil : hoistT P [] st = (none, st) := id rfl
theorem h_one {t : TypeId} : hoistT P [t] st = (none, st) := id rfl
theorem h_two {a b : TypeId} {r : List TypeId} : hoistT P (a :: b :: r) st = match zall P (a :: b :: r) with
    | some zs => (some st.length, st ++ zs)
    | none => (none, st) := id rfl
theorem z_nil : zall P [] = some [] := id rfl
theorem z_cons {t : TypeId} {r : List TypeId} : zall P (t :: r) = match zcells P t, zall P r with
    | some z, some zs => some (z :: zs)
    | _, _ => none := id rfl
theorem z_cells {t : TypeId} : zcells P t = match ti P t with
    | some T => some (vcells (frz T.zero))
    | none => none := id rfl
theorem q_alloc {t : TypeId} {m : Nat} : stepQ P cl env (.alloc t) st (some m) = match zcells P t, st[m]? with
    | some z, some cs => if zeqL cs z then some (.val (.box m 0) st, ⟨some m, none⟩) else none
    | _, _ => none := id rfl
theorem q_some {op : Op} {m : Nat} (h : isAlO op = false) : stepQ P cl env op st (some m) = stepS P cl env op st := by
  unfold stepQ stepS stepR
  cases op <;> first | rfl | (simp [isAlO] at h)
theorem i_drw_nil {ops : Array Oper} {fps : List Fp} {r : Option Nat} : @mki P cl n rs ⟨.drw ops [] fps r :: k⟩ env st = if @fpsQ ⟨ops⟩ fps then @mki P cl n rs ⟨k⟩ env st else none := mk_drw_nil
theorem i_drw {ops : Array Oper} {dst : Option Tmp} {op : Op} {ty : TypeId} {pos : String} {after : Array Edge} {g : Option (Nat × Bool)} {l : List Oper} {fps : List Fp} :
    @mki P cl n rs ⟨.drw ops (⟨dst, op, ty, pos, after, g⟩ :: l) fps none :: k⟩ env st = @drKi P cl n rs ⟨k⟩ ⟨ops⟩ ⟨[.drw ops l fps none]⟩ (@wanti ⟨ops⟩ env g) (stepS P cl env op st) dst env st := by
  refine mk_drw.trans ?_
  simp only
  have e : stepR P cl (opv env) ⟨dst, op, ty, pos, after, g⟩ st none = stepS P cl env op st := by unfold stepS stepR; cases op <;> rfl
  rw [e]
  unfold drwK drKi
  simp only [wanti, nxt]
  cases want ops env g with
  | none => rfl
  | some b =>
    simp only
    congr 1
    unfold drwT drTi
    cases stepS P cl env op st with
    | none => rfl
    | some q =>
      obtain ⟨q, fp⟩ := q
      cases q with
      | val v st' => rfl
      | panic v st' => simp [panQ]
def nxtN (op : Op) (m : Nat) : Nat := match op with
  | .alloc _ => m + 1
  | _ => m
noncomputable def drHi (P : Program) (cl : Oracle) (n : Nat) (rs : List ResultVar) [s : Stk] [o : OpsI] [l : Stk] (w : Option Bool) (r : Option (Res × Fp)) (m : Nat) (dst : Option Tmp) (env : Env) (st : St) : Option (Out × St) :=
  match l.l with
  | .drw _ l' fps _ :: _ => @drKi P cl n rs s o ⟨[.drw o.a l' fps (some m)]⟩ w r dst env st
  | _ => none
theorem i_drh {ops : Array Oper} {dst : Option Tmp} {op : Op} {ty : TypeId} {pos : String} {after : Array Edge} {g : Option (Nat × Bool)} {l : List Oper} {fps : List Fp} {m : Nat} :
    @mki P cl n rs ⟨.drw ops (⟨dst, op, ty, pos, after, g⟩ :: l) fps (some m) :: k⟩ env st = @drHi P cl n rs ⟨k⟩ ⟨ops⟩ ⟨[.drw ops l fps none]⟩ (@wanti ⟨ops⟩ env g) (stepQ P cl env op st (some m)) (nxtN op m) dst env st := by
  refine mk_drw.trans ?_
  simp only
  have e : stepR P cl (opv env) ⟨dst, op, ty, pos, after, g⟩ st (some m) = stepQ P cl env op st (some m) := by unfold stepQ stepR; cases op <;> rfl
  have e2 : nxt ⟨dst, op, ty, pos, after, g⟩ (some m) = some (nxtN op m) := by cases op <;> rfl
  rw [e, e2]
  unfold drwK drHi drKi
  simp only [wanti]
  cases want ops env g with
  | none => rfl
  | some b =>
    simp only
    congr 1
    unfold drwT drTi
    cases stepQ P cl env op st (some m) with
    | none => rfl
    | some q =>
      obtain ⟨q, fp⟩ := q
      cases q with
      | val v st' => rfl
      | panic v st' => simp [panQ]
theorem d_hi {ops ops' : Array Oper} {l : List Oper} {fps : List Fp} {w : Option Bool} {r : Option (Res × Fp)} {q : Option Nat} {m : Nat} {dst : Option Tmp} : @drHi P cl n rs ⟨k⟩ ⟨ops⟩ ⟨[.drw ops' l fps q]⟩ w r m dst env st = @drKi P cl n rs ⟨k⟩ ⟨ops⟩ ⟨[.drw ops l fps (some m)]⟩ w r dst env st := id rfl
theorem i_again {c : Code} {ts : List Nat} {m : Nat} : @mki P cl n rs ⟨.again c ts m :: k⟩ env st = @mki P cl n rs ⟨.lp c ts m :: k⟩ (roundEnd ts m env st).1 (roundEnd ts m env st).2 := mk_again
theorem i_round {c : Code} {ts : List Nat} {m : Nat} : @mki P cl n rs ⟨.lp c ts m :: k⟩ env st = @mki P cl n rs ⟨.code c :: .again c ts m :: k⟩ env st := mk_round
theorem i_loop {c : Code} {ts : List Nat} (h : temps c = ts) : @mki P cl n rs ⟨.code (.loop c) :: k⟩ env st = @mki P cl n rs ⟨.lp c ts st.length :: k⟩ env st := mk_loop h
theorem u_nil {ex : Ex} : @unwi P cl n rs ⟨[]⟩ ex env st = finish P n rs (ex, env, st) := unw_nil
theorem u_code {ex : Ex} {c : Code} : @unwi P cl n rs ⟨.code c :: k⟩ ex env st = @unwi P cl n rs ⟨k⟩ ex env st := unw_code
theorem u_ops {ex : Ex} {ops : Array Oper} {l : List Oper} : @unwi P cl n rs ⟨.ops ops l :: k⟩ ex env st = @unwi P cl n rs ⟨k⟩ ex env st := unw_ops
theorem u_drw {ex : Ex} {ops : Array Oper} {l : List Oper} {fps : List Fp} {r : Option Nat} : @unwi P cl n rs ⟨.drw ops l fps r :: k⟩ ex env st = @unwi P cl n rs ⟨k⟩ ex env st := unw_drw
theorem u_lp {ex : Ex} {c : Code} {ts : List Nat} {m : Nat} : @unwi P cl n rs ⟨.lp c ts m :: k⟩ ex env st = @unwi P cl n rs ⟨k⟩ ex env st := unw_lp
theorem u_again {ex : Ex} {c : Code} {ts : List Nat} {m : Nat} : @unwi P cl n rs ⟨.again c ts m :: k⟩ ex env st = @unwi P cl n rs ⟨k⟩ ex env st := unw_again
theorem u_exit {i id : Nat} : @unwi P cl n rs ⟨.blk id :: k⟩ (.exit i) env st = if i = id then @mki P cl n rs ⟨k⟩ env st else @unwi P cl n rs ⟨k⟩ (.exit i) env st := unw_exit
theorem u_ret {id : Nat} : @unwi P cl n rs ⟨.blk id :: k⟩ .ret env st = @unwi P cl n rs ⟨k⟩ .ret env st := unw_ret
theorem u_panic {id : Nat} {v : V} : @unwi P cl n rs ⟨.blk id :: k⟩ (.panic v) env st = @unwi P cl n rs ⟨k⟩ (.panic v) env st := unw_panic
theorem c_tip {a b : Code} {k k' : List Item} {m : Nat} : @condKi P cl n rs ⟨.code a :: k⟩ ⟨.code b :: k'⟩ (.tip m) env st = @tipK P cl n rs ⟨.code a :: k⟩ ⟨.code b :: k'⟩ (@armI ⟨.code a :: k⟩) env st := id rfl
theorem t_some {a b : Code} {k k' : List Item} {A : Arm} : @tipK P cl n rs ⟨.code a :: k⟩ ⟨.code b :: k'⟩ (some A) env st = @armK P cl n rs ⟨.join1 b env st :: k⟩ A env st := id rfl
theorem t_arm {i j : Nat} {A B : List Oper} {k : List Item} : @armI ⟨.code (.seq (.region i ⟨A⟩ false) (.region j ⟨B⟩ false)) :: k⟩ = arm5 ⟨A⟩ (A.take (A.length - 5)) (A.drop (A.length - 5)) B := id rfl
theorem c_bool {a b : List Item} {c : Bool} : @condKi P cl n rs ⟨a⟩ ⟨b⟩ (.bool c) env st = brB c (@mki P cl n rs ⟨a⟩ env st) (@mki P cl n rs ⟨b⟩ env st) := id rfl
theorem o_some {b : Bool} {r : Option Res} {dst : Option Tmp} : @opKi P cl n rs ⟨k⟩ (some b) r dst env st = brB b (@opTi P cl n rs ⟨k⟩ r dst env) (@mki P cl n rs ⟨k⟩ (setD env dst (.tup [])) st) := id rfl
theorem o_val {v : V} {st' : St} {dst : Option Tmp} : @opTi P cl n rs ⟨k⟩ (some (.val v st')) dst env = @mki P cl n rs ⟨k⟩ (setD env dst v) st' := id rfl
theorem o_panic {v : V} {st' : St} {dst : Option Tmp} : @opTi P cl n rs ⟨k⟩ (some (.panic v st')) dst env = @unwi P cl n rs ⟨k⟩ (.panic v) env st' := id rfl
theorem d_some {ops ops' : Array Oper} {l : List Oper} {fps : List Fp} {q : Option Nat} {b : Bool} {r : Option (Res × Fp)} {dst : Option Tmp} : @drKi P cl n rs ⟨k⟩ ⟨ops⟩ ⟨[.drw ops' l fps q]⟩ (some b) r dst env st =
    brB b (@drTi P cl n rs ⟨k⟩ ⟨ops⟩ ⟨[.drw ops' l fps q]⟩ r dst env) (@mki P cl n rs ⟨.drw ops l (⟨none, none⟩ :: fps) q :: k⟩ (setD env dst (.tup [])) st) := id rfl
theorem d_val {ops ops' : Array Oper} {l : List Oper} {fps : List Fp} {q : Option Nat} {v : V} {st' : St} {fp : Fp} {dst : Option Tmp} : @drTi P cl n rs ⟨k⟩ ⟨ops⟩ ⟨[.drw ops' l fps q]⟩ (some (.val v st', fp)) dst env =
    @mki P cl n rs ⟨.drw ops l (fp :: fps) q :: k⟩ (setD env dst v) st' := id rfl
theorem d_panic {ops ops' : Array Oper} {l : List Oper} {fps : List Fp} {q : Option Nat} {v : V} {st' : St} {fp : Fp} {dst : Option Tmp} : @drTi P cl n rs ⟨k⟩ ⟨ops⟩ ⟨[.drw ops' l fps q]⟩ (some (.panic v st', fp)) dst env =
    if @panQ P ⟨ops⟩ env (fp :: fps) then @unwi P cl n rs ⟨k⟩ (.panic v) env st' else none := id rfl
theorem w_none {ops : Array Oper} : @wanti ⟨ops⟩ env none = some true := id rfl
theorem f_quiet {ops : Array Oper} {fps : List Fp} (h : fps.all (fun f => f.writes.isNone) = true) : @fpsQ ⟨ops⟩ fps = true := by
  have h' : fps.reverse.all (fun f => f.writes.isNone) = true := by rw [List.all_reverse]; exact h
  simp only [fpsQ, fpsOk2, h', Bool.true_or]
theorem i_inv {c : Code} {ts : List Nat} {m : Nat} {ι : Type} (meas : ι → Nat) (E : ι → Env) (S : ι → St) (F : ι → Option (Out × St))
    (h : ∀ x, (∀ y, meas y < meas x → @mki P cl n rs ⟨.lp c ts m :: k⟩ (E y) (S y) = F y) → @mki P cl n rs ⟨.code c :: .again c ts m :: k⟩ (E x) (S x) = F x) :
    ∀ x, @mki P cl n rs ⟨.lp c ts m :: k⟩ (E x) (S x) = F x := lp_inv meas E S F h
theorem ev_mki {pr : Prims} {f : FuncId} {fn : Func} {c : Code} (hp : pr f = none) (hf : P.funcs[f]? = some fn) (hb : fn.body = some c) (ho : okDraws c = true) (hi : iceF f = false) (a : List V) (s : St) :
    ev P pr f a s = @mki P (ev P pr) s.length fn.results.toList ⟨[.code c]⟩ (a ++ List.replicate (fn.ntmps - a.length) .undef) s := ev_mk hp hf hb ho hi a s
theorem ev_mki0 {pr : Prims} {f : FuncId} {fn : Func} {c : Code} (hp : pr f = none) (hf : P.funcs[f]? = some fn) (hb : fn.body = some c) (ho : okDraws c = true) (a : List V) (s : St) :
    ev P pr f a s = iceO f s.length (@mki P (ev P pr) s.length fn.results.toList ⟨[.code c]⟩ (a ++ List.replicate (fn.ntmps - a.length) .undef) s) := ev_mk0 hp hf hb ho a s
end
end Go.Abs
namespace Go.Abs
open Go
def getV : List V → Nat → V
  | [], _ => .undef
  | x :: _, 0 => x
  | _ :: xs, n + 1 => getV xs n
def getO : List V → Nat → Option V
  | [], _ => none
  | x :: _, 0 => some x
  | _ :: xs, n + 1 => getO xs n
def setV : List V → Nat → V → List V
  | [], _, _ => []
  | _ :: xs, 0, v => v :: xs
  | x :: xs, n + 1, v => x :: setV xs n v
def dstI [s : OpsI] (j : Nat) : Option Tmp := (s.a[j]?).bind (·.dst)
theorem getV_eq : ∀ (env : List V) (t : Nat), env.getD t .undef = getV env t
  | [], t => by simp [getV]
  | x :: xs, 0 => rfl
  | x :: xs, t + 1 => by simpa [getV] using getV_eq xs t
theorem getO_eq : ∀ (env : List V) (t : Nat), env[t]? = getO env t
  | [], t => by simp [getO]
  | x :: xs, 0 => rfl
  | x :: xs, t + 1 => by simpa [getO] using getO_eq xs t
theorem setV_eq : ∀ (env : List V) (t : Nat) (v : V), env.set t v = setV env t v
  | [], t, v => rfl
  | x :: xs, 0, v => rfl
  | x :: xs, t + 1, v => by simp [setV, setV_eq xs t v]
theorem g_zero {x : V} {xs : List V} : getV (x :: xs) 0 = x := id rfl
theorem g_succ {x : V} {xs : List V} {n : Nat} : getV (x :: xs) (n + 1) = getV xs n := id rfl
theorem q_nil {n : Nat} : getO [] n = none := id rfl
theorem q_zero {x : V} {xs : List V} : getO (x :: xs) 0 = some x := id rfl
theorem q_succ {x : V} {xs : List V} {n : Nat} : getO (x :: xs) (n + 1) = getO xs n := id rfl
theorem s_zero {x v : V} {xs : List V} : setV (x :: xs) 0 v = v :: xs := id rfl
theorem s_succ {x v : V} {xs : List V} {n : Nat} : setV (x :: xs) (n + 1) v = x :: setV xs n v := id rfl
theorem s_some {env : Env} {t : Tmp} {v : V} : setD env (some t) v = setV env t v := setV_eq env t v
theorem s_none {env : Env} {v : V} : setD env none v = env := id rfl
theorem t_zero {o : Oper} {l : List Oper} : @dstI ⟨⟨o :: l⟩⟩ 0 = o.dst := id rfl
theorem t_succ {o : Oper} {l : List Oper} {n : Nat} : @dstI ⟨⟨o :: l⟩⟩ (n + 1) = @dstI ⟨⟨l⟩⟩ n := by simp [dstI]
def wantG (t : Option Tmp) (env : Env) (b : Bool) : Option Bool :=
  match t with
  | none => some false
  | some t => match getO env t with
    | some (.bool c) => some (c == b)
    | some (.tup []) => some false
    | none => some false
    | _ => none
theorem w_fast {ops : Array Oper} {env : Env} {j : Nat} {b : Bool} : @wanti ⟨ops⟩ env (some (j, b)) = wantG (@dstI ⟨ops⟩ j) env b := by
  unfold wanti want wantG dstI
  simp only
  cases (ops[j]?).bind (·.dst) with
  | none => rfl
  | some t => simp only [getO_eq]; rfl
theorem v_tmp {env : Env} {t : Tmp} : opv env (.tmp t) = getV env t := getV_eq env t
theorem v_const {env : Env} {c : Value} : opv env (.const c) = ofValue c := id rfl
theorem v_func {env : Env} {f : FuncId} : opv env (.func f) = .func f [] [] := id rfl
section
variable {P : Program} {cl : Oracle} {env : Env} {st : St}
theorem r_tmp {t : Tmp} : resV P env st (.tmp t) = some (getV env t) := by simp only [resV]; rw [getV_eq]
theorem r_cell {a : Tmp} {t : TypeId} : resV P env st (.cell a t) = loadV P t (getV env a) st := by simp only [resV]; rw [getV_eq]
theorem p_move {x : Operand} : opS P cl env (.move x) st = some (.val (opv env x) st) := id rfl
theorem p_assign {x : Operand} : opS P cl env (.assign x) st = some (.val (adopt (opv env x) st).1 (adopt (opv env x) st).2) := id rfl
theorem p_pick {c a b : Operand} : opS P cl env (.pick c a b) st = match opv env c with
    | .bool c => some (.val (if c then opv env a else opv env b) st)
    | _ => none := id rfl
theorem p_alloc {t : TypeId} : opS P cl env (.alloc t) st = match ti P t with
    | some T => let r := adoptZ T.zero st; if (vcells T.zero).length = T.size then some (.val (.box r.2.length 0) (r.2 ++ [vcells r.1])) else none
    | none => none := id rfl
theorem p_box {t : TypeId} {x : Operand} : opS P cl env (.box t x) st = match ti P t with
    | some T => if (vcells (opv env x)).length = T.size ∧ (vcells (opv env x)).all cellOk then some (.val (.box st.length 0) (st ++ [vcells (opv env x)])) else none
    | none => none := id rfl
theorem p_build {t : TypeId} {ps : Array (Nat × Operand)} : opS P cl env (.build t ps) st = val? st (buildV P t (ps.toList.map fun p => (p.1, opv env p.2))) := id rfl
theorem p_buildSlice {t : TypeId} {len : Nat} {ps : Array (Nat × Operand)} : opS P cl env (.buildSlice t len ps) st = val? st (buildSliceV P t len (ps.toList.map fun p => (p.1, opv env p.2))) := id rfl
theorem p_load {t : TypeId} {a : Operand} : opS P cl env (.load t a) st = val? st (loadV P t (opv env a) st) := id rfl
theorem p_store {t : TypeId} {a x : Operand} : opS P cl env (.store t a x) st = match storeV P t (opv env a) (opv env x) st with
    | some st' => some (.val (.tup []) st')
    | none => none := id rfl
theorem p_nilCheck {x : Operand} : opS P cl env (.nilCheck x) st = match opv env x with
    | .box b off => some (.val (.box b off) st)
    | .ro cs => some (.val (.ro cs) st)
    | .func f first cap => some (.val (.func f first cap) st)
    | _ => none := id rfl
theorem p_binOp {op : BinOp} {t u : TypeId} {x y : Operand} : opS P cl env (.binOp op t x y u) st = val? st (if isNilC y then nilCmp P op t (opv env x) else binOpV P op t (opv env x) (opv env y)) := id rfl
theorem n_tmp {t : Tmp} : isNilC (.tmp t) = false := id rfl
theorem n_int {k : IntKind} {n : Int} : isNilC (.const (.int k n)) = false := id rfl
theorem n_bool {b : Bool} : isNilC (.const (.bool b)) = false := id rfl
theorem n_str {b : ByteArray} : isNilC (.const (.string b)) = false := id rfl
theorem n_ptr : isNilC (.const (.pointer none)) = false := id rfl
theorem n_fun : isNilC (.const .nilFunc) = false := id rfl
theorem n_iface : isNilC (.const .nilIface) = true := id rfl
theorem p_unOp {op : UnOp} {t : TypeId} {x : Operand} : opS P cl env (.unOp op t x) st = val? st (unOpV op (opv env x)) := id rfl
theorem p_convert {s d : TypeId} {x : Operand} : opS P cl env (.convert s d x) st = val? st (convV P s d (opv env x) st) := id rfl
theorem p_makeSlice {t : TypeId} {l c : Operand} : opS P cl env (.makeSlice t l c) st = match makeSliceV P t (opv env l) (opv env c) st with
    | some (v, st') => some (.val v st')
    | none => none := id rfl
theorem p_makeInterface {t : TypeId} {x : Operand} : opS P cl env (.makeInterface t x) st = match ti P t with
    | some { d := .iface, .. } => none
    | some _ => some (.val (.iface t (opv env x)) st)
    | none => none := id rfl
theorem p_makeFunc {f : FuncId} {first cap : Array Operand} : opS P cl env (.makeFunc (.func f) first cap) st = some (.val (.func f (first.toList.map (opv env)) (cap.toList.map (opv env))) st) := id rfl
theorem p_slice {t : TypeId} {x : Operand} {lo hi mx : Option Operand} : opS P cl env (.slice t x lo hi mx) st = val? st (sliceV P t (opv env x) (lo.map (opv env)) (hi.map (opv env)) (mx.map (opv env))) := id rfl
theorem p_fieldAddr {t : TypeId} {x : Operand} {f : Nat} : opS P cl env (.fieldAddr t x f) st = val? st (fieldAddrV P t (opv env x) f) := id rfl
theorem p_field {t : TypeId} {x : Operand} {f : Nat} : opS P cl env (.field t x f) st = val? st (fieldV P t (opv env x) f) := id rfl
theorem p_indexAddr {t : TypeId} {x i : Operand} : opS P cl env (.indexAddr t x i) st = val? st (indexAddrV P t (opv env x) (opv env i)) := id rfl
theorem p_index {t : TypeId} {x i : Operand} : opS P cl env (.index t x i) st = val? st (indexV P t (opv env x) (opv env i)) := id rfl
theorem p_extract {x : Operand} {i : Nat} : opS P cl env (.extract x i) st = match opv env x with
    | .tup cs => val? st (cs[i]?)
    | _ => none := id rfl
theorem p_callv {f : Operand} {args : Array Operand} {ts : Array TypeId} : opS P cl env (.call ⟨.value f, args, ts⟩) st = match opv env f with
    | .func g first cap => doCall cl g (first ++ args.toList.map (opv env) ++ cap) st
    | _ => none := id rfl
theorem p_callb {b : Builtin} {args : Array Operand} {ts : Array TypeId} : opS P cl env (.call ⟨.builtin b, args, ts⟩) st = builtinV P b ts (args.toList.map (opv env)) st := id rfl
theorem p_panic {x : Operand} : opS P cl env (.panic x) st = match opv env x with
    | .iface t v => some (.panic (.iface t v) st)
    | _ => none := id rfl
def quietR : Option Res → Option (Res × Fp)
  | some r => some (r, ⟨none, none⟩)
  | none => none
def newR (n : Nat) : Option Res → Option (Res × Fp)
  | some r => some (r, ⟨none, some ([], n)⟩)
  | none => none
theorem quiet_val {r : Res} : quietR (some r) = some (r, ⟨none, none⟩) := id rfl
theorem new_val {n : Nat} {r : Res} : newR n (some r) = some (r, ⟨none, some ([], n)⟩) := id rfl
theorem e_assign {x : Operand} : stepS P cl env (.assign x) st = some (.val (opv env x) st, ⟨none, none⟩) := id rfl
theorem e_call {c : Call} : stepS P cl env (.call c) st = match callD P cl (opv env) c st with
    | some (r, w) => some (r, ⟨none, w⟩)
    | none => none := id rfl
theorem e_load {t : TypeId} {a : Operand} : stepS P cl env (.load t a) st = match loadV P t (opv env a) st with
    | some v => some (.val v st, ⟨fpRead (opv env a), none⟩)
    | none => none := id rfl
theorem e_store {t : TypeId} {a x : Operand} : stepS P cl env (.store t a x) st = match storeV P t (opv env a) (opv env x) st with
    | some st' => some (.val (.tup []) st', ⟨none, some ((fpRead (opv env a)).toList, st.length)⟩)
    | none => none := id rfl
theorem e_alloc {t : TypeId} : stepS P cl env (.alloc t) st = newR st.length (opS P cl env (.alloc t) st) := by
  unfold stepS newR; simp only [stepD]; unfold opS; rfl
theorem e_box {t : TypeId} {x : Operand} : stepS P cl env (.box t x) st = newR st.length (opS P cl env (.box t x) st) := by
  unfold stepS newR; simp only [stepD]; unfold opS; rfl
theorem e_move {x : Operand} : stepS P cl env (.move x) st = quietR (opS P cl env (.move x) st) := id rfl
theorem e_pick {c a b : Operand} : stepS P cl env (.pick c a b) st = quietR (opS P cl env (.pick c a b) st) := by unfold stepS quietR; simp only [stepD]; unfold opS; rfl
theorem e_build {t : TypeId} {ps : Array (Nat × Operand)} : stepS P cl env (.build t ps) st = quietR (opS P cl env (.build t ps) st) := by unfold stepS quietR; simp only [stepD]; unfold opS; rfl
theorem e_buildSlice {t : TypeId} {len : Nat} {ps : Array (Nat × Operand)} : stepS P cl env (.buildSlice t len ps) st = quietR (opS P cl env (.buildSlice t len ps) st) := by unfold stepS quietR; simp only [stepD]; unfold opS; rfl
theorem e_nilCheck {x : Operand} : stepS P cl env (.nilCheck x) st = quietR (opS P cl env (.nilCheck x) st) := by unfold stepS quietR; simp only [stepD]; unfold opS; rfl
theorem e_binOp {op : BinOp} {t u : TypeId} {x y : Operand} : stepS P cl env (.binOp op t x y u) st = quietR (opS P cl env (.binOp op t x y u) st) := by unfold stepS quietR; simp only [stepD]; unfold opS; rfl
theorem e_unOp {op : UnOp} {t : TypeId} {x : Operand} : stepS P cl env (.unOp op t x) st = quietR (opS P cl env (.unOp op t x) st) := by unfold stepS quietR; simp only [stepD]; unfold opS; rfl
theorem e_convert {s d : TypeId} {x : Operand} : stepS P cl env (.convert s d x) st = match convV P s d (opv env x) st with
    | some v => some (.val v st, ⟨fpRead (opv env x), none⟩)
    | none => none := id rfl
theorem e_makeSlice {t : TypeId} {l c : Operand} : stepS P cl env (.makeSlice t l c) st = newR st.length (opS P cl env (.makeSlice t l c) st) := by
  unfold stepS newR; simp only [stepD]; unfold opS; rfl
theorem e_makeInterface {t : TypeId} {x : Operand} : stepS P cl env (.makeInterface t x) st = quietR (opS P cl env (.makeInterface t x) st) := by unfold stepS quietR; simp only [stepD]; unfold opS; rfl
theorem e_makeFunc {f : Fn} {first cap : Array Operand} : stepS P cl env (.makeFunc f first cap) st = quietR (opS P cl env (.makeFunc f first cap) st) := by unfold stepS quietR; simp only [stepD]; unfold opS; rfl
theorem e_slice {t : TypeId} {x : Operand} {lo hi mx : Option Operand} : stepS P cl env (.slice t x lo hi mx) st = quietR (opS P cl env (.slice t x lo hi mx) st) := by unfold stepS quietR; simp only [stepD]; unfold opS; rfl
theorem e_fieldAddr {t : TypeId} {x : Operand} {f : Nat} : stepS P cl env (.fieldAddr t x f) st = quietR (opS P cl env (.fieldAddr t x f) st) := by unfold stepS quietR; simp only [stepD]; unfold opS; rfl
theorem e_field {t : TypeId} {x : Operand} {f : Nat} : stepS P cl env (.field t x f) st = quietR (opS P cl env (.field t x f) st) := by unfold stepS quietR; simp only [stepD]; unfold opS; rfl
theorem e_indexAddr {t : TypeId} {x i : Operand} : stepS P cl env (.indexAddr t x i) st = quietR (opS P cl env (.indexAddr t x i) st) := by unfold stepS quietR; simp only [stepD]; unfold opS; rfl
theorem e_index {t : TypeId} {x i : Operand} : stepS P cl env (.index t x i) st = quietR (opS P cl env (.index t x i) st) := by unfold stepS quietR; simp only [stepD]; unfold opS; rfl
theorem e_extract {x : Operand} {i : Nat} : stepS P cl env (.extract x i) st = quietR (opS P cl env (.extract x i) st) := by unfold stepS quietR; simp only [stepD]; unfold opS; rfl
theorem e_panic {x : Operand} : stepS P cl env (.panic x) st = quietR (opS P cl env (.panic x) st) := by unfold stepS quietR; simp only [stepD]; unfold opS; rfl
end
def coinI [s : OpsI] : Option (Nat × Nat × Nat) := coinL s.a.toList
def coinW [s : OpsI] : Option (Nat × Nat × Nat) := coinL s.a.toList
noncomputable def coK (P : Program) (cl : Oracle) (n : Nat) (rs : List ResultVar) [s : Stk] (T : Option TI) (x y : Nat) (v : Option V) (env : Env) (st : St) : Option (Out × St) :=
  if coinT T v = true then @mki P cl n rs s (setV (setV env x (.box st.length 0)) y (.tip 0)) (st ++ [[.tip 0]]) else none
noncomputable def drC (P : Program) (cl : Oracle) (n : Nat) (rs : List ResultVar) [s : Stk] [o : OpsI] (q : Option (Nat × Nat × Nat)) (env : Env) (st : St) : Option (Out × St) :=
  match q with
  | none => @drIn P cl n rs s o (hoistT P (@altys o) st) env
  | some (t, x, y) => @coK P cl n rs s (ti P t) x y (getO env x) env st
section
variable {P : Program} {cl : Oracle} {n : Nat} {rs : List ResultVar} {k : List Item} {env : Env} {st : St}
theorem i_drawn' {id : Nat} {l : List Oper} : @mki P cl n rs ⟨.code (.region id ⟨l⟩ true) :: k⟩ env st = @drC P cl n rs ⟨k⟩ ⟨⟨l⟩⟩ (@coinI ⟨⟨l⟩⟩) env st := by
  unfold drC coinI
  simp only
  cases hq : coinL l with
  | none => exact mk_drawn hq
  | some q =>
    obtain ⟨t, x, y⟩ := q
    refine (mk_coin hq).trans ?_
    unfold coinR coK
    simp only
    rw [getO_eq]
    cases hc : coinT (ti P t) (getO env x) with
    | true => simp only [if_true, setV_eq]; rfl
    | false => simp only [Bool.false_eq_true, if_false]
theorem k_none {ops : Array Oper} : @drC P cl n rs ⟨k⟩ ⟨ops⟩ none env st = @drIn P cl n rs ⟨k⟩ ⟨ops⟩ (hoistT P (@altys ⟨ops⟩) st) env := id rfl
theorem k_some {ops : Array Oper} {t x y : Nat} : @drC P cl n rs ⟨k⟩ ⟨ops⟩ (some (t, x, y)) env st = @coK P cl n rs ⟨k⟩ (ti P t) x y (getO env x) env st := id rfl
theorem k_coin {b : Nat} {e : Bool} {x y : Nat} {v : V} : @coK P cl n rs ⟨k⟩ (some ⟨.bool, 1, b, .bool false, e⟩) x y (some v) env st = @mki P cl n rs ⟨k⟩ (setV (setV env x (.box st.length 0)) y (.tip 0)) (st ++ [[.tip 0]]) := id rfl
end
@[simp] theorem al_move : ∀ {x}, isAlO (.move x) = false := id rfl
@[simp] theorem al_assign : ∀ {x}, isAlO (.assign x) = false := id rfl
@[simp] theorem al_pick : ∀ {c a b}, isAlO (.pick c a b) = false := id rfl
@[simp] theorem al_alloc : ∀ {t}, isAlO (.alloc t) = true := id rfl
@[simp] theorem al_box : ∀ {t x}, isAlO (.box t x) = false := id rfl
@[simp] theorem al_build : ∀ {t ps}, isAlO (.build t ps) = false := id rfl
@[simp] theorem al_buildSlice : ∀ {t n ps}, isAlO (.buildSlice t n ps) = false := id rfl
@[simp] theorem al_load : ∀ {t a}, isAlO (.load t a) = false := id rfl
@[simp] theorem al_store : ∀ {t a x}, isAlO (.store t a x) = false := id rfl
@[simp] theorem al_nilCheck : ∀ {x}, isAlO (.nilCheck x) = false := id rfl
@[simp] theorem al_binOp : ∀ {o t x y u}, isAlO (.binOp o t x y u) = false := id rfl
@[simp] theorem al_unOp : ∀ {o t x}, isAlO (.unOp o t x) = false := id rfl
@[simp] theorem al_convert : ∀ {s d x}, isAlO (.convert s d x) = false := id rfl
@[simp] theorem al_makeSlice : ∀ {t l c}, isAlO (.makeSlice t l c) = false := id rfl
@[simp] theorem al_makeInterface : ∀ {t x}, isAlO (.makeInterface t x) = false := id rfl
@[simp] theorem al_makeFunc : ∀ {f a b}, isAlO (.makeFunc f a b) = false := id rfl
@[simp] theorem al_slice : ∀ {t x lo hi mx}, isAlO (.slice t x lo hi mx) = false := id rfl
@[simp] theorem al_fieldAddr : ∀ {t x f}, isAlO (.fieldAddr t x f) = false := id rfl
@[simp] theorem al_field : ∀ {t x f}, isAlO (.field t x f) = false := id rfl
@[simp] theorem al_indexAddr : ∀ {t x i}, isAlO (.indexAddr t x i) = false := id rfl
@[simp] theorem al_index : ∀ {t x i}, isAlO (.index t x i) = false := id rfl
@[simp] theorem al_extract : ∀ {x i}, isAlO (.extract x i) = false := id rfl
@[simp] theorem al_call : ∀ {c}, isAlO (.call c) = false := id rfl
@[simp] theorem al_panic : ∀ {x}, isAlO (.panic x) = false := id rfl
@[simp] theorem sto_move : ∀ {x}, isStO (.move x) = false := id rfl
@[simp] theorem sto_assign : ∀ {x}, isStO (.assign x) = false := id rfl
@[simp] theorem sto_pick : ∀ {c a b}, isStO (.pick c a b) = false := id rfl
@[simp] theorem sto_alloc : ∀ {t}, isStO (.alloc t) = false := id rfl
@[simp] theorem sto_box : ∀ {t x}, isStO (.box t x) = false := id rfl
@[simp] theorem sto_build : ∀ {t ps}, isStO (.build t ps) = false := id rfl
@[simp] theorem sto_buildSlice : ∀ {t n ps}, isStO (.buildSlice t n ps) = false := id rfl
@[simp] theorem sto_load : ∀ {t a}, isStO (.load t a) = false := id rfl
@[simp] theorem sto_store : ∀ {t a x}, isStO (.store t a x) = true := id rfl
@[simp] theorem sto_nilCheck : ∀ {x}, isStO (.nilCheck x) = false := id rfl
@[simp] theorem sto_binOp : ∀ {o t x y u}, isStO (.binOp o t x y u) = false := id rfl
@[simp] theorem sto_unOp : ∀ {o t x}, isStO (.unOp o t x) = false := id rfl
@[simp] theorem sto_convert : ∀ {s d x}, isStO (.convert s d x) = false := id rfl
@[simp] theorem sto_makeSlice : ∀ {t l c}, isStO (.makeSlice t l c) = false := id rfl
@[simp] theorem sto_makeInterface : ∀ {t x}, isStO (.makeInterface t x) = false := id rfl
@[simp] theorem sto_makeFunc : ∀ {f a b}, isStO (.makeFunc f a b) = false := id rfl
@[simp] theorem sto_slice : ∀ {t x lo hi mx}, isStO (.slice t x lo hi mx) = false := id rfl
@[simp] theorem sto_fieldAddr : ∀ {t x f}, isStO (.fieldAddr t x f) = false := id rfl
@[simp] theorem sto_field : ∀ {t x f}, isStO (.field t x f) = false := id rfl
@[simp] theorem sto_indexAddr : ∀ {t x i}, isStO (.indexAddr t x i) = false := id rfl
@[simp] theorem sto_index : ∀ {t x i}, isStO (.index t x i) = false := id rfl
@[simp] theorem sto_extract : ∀ {x i}, isStO (.extract x i) = false := id rfl
@[simp] theorem sto_call : ∀ {c}, isStO (.call c) = false := id rfl
@[simp] theorem sto_panic : ∀ {x}, isStO (.panic x) = false := id rfl
@[simp] theorem ldo_move : ∀ {x}, isLdO (.move x) = false := id rfl
@[simp] theorem ldo_assign : ∀ {x}, isLdO (.assign x) = false := id rfl
@[simp] theorem ldo_pick : ∀ {c a b}, isLdO (.pick c a b) = false := id rfl
@[simp] theorem ldo_alloc : ∀ {t}, isLdO (.alloc t) = false := id rfl
@[simp] theorem ldo_box : ∀ {t x}, isLdO (.box t x) = false := id rfl
@[simp] theorem ldo_build : ∀ {t ps}, isLdO (.build t ps) = false := id rfl
@[simp] theorem ldo_buildSlice : ∀ {t n ps}, isLdO (.buildSlice t n ps) = false := id rfl
@[simp] theorem ldo_load : ∀ {t a}, isLdO (.load t a) = true := id rfl
@[simp] theorem ldo_store : ∀ {t a x}, isLdO (.store t a x) = false := id rfl
@[simp] theorem ldo_nilCheck : ∀ {x}, isLdO (.nilCheck x) = false := id rfl
@[simp] theorem ldo_binOp : ∀ {o t x y u}, isLdO (.binOp o t x y u) = false := id rfl
@[simp] theorem ldo_unOp : ∀ {o t x}, isLdO (.unOp o t x) = false := id rfl
@[simp] theorem ldo_convert : ∀ {s d x}, isLdO (.convert s d x) = false := id rfl
@[simp] theorem ldo_makeSlice : ∀ {t l c}, isLdO (.makeSlice t l c) = false := id rfl
@[simp] theorem ldo_makeInterface : ∀ {t x}, isLdO (.makeInterface t x) = false := id rfl
@[simp] theorem ldo_makeFunc : ∀ {f a b}, isLdO (.makeFunc f a b) = false := id rfl
@[simp] theorem ldo_slice : ∀ {t x lo hi mx}, isLdO (.slice t x lo hi mx) = false := id rfl
@[simp] theorem ldo_fieldAddr : ∀ {t x f}, isLdO (.fieldAddr t x f) = false := id rfl
@[simp] theorem ldo_field : ∀ {t x f}, isLdO (.field t x f) = false := id rfl
@[simp] theorem ldo_indexAddr : ∀ {t x i}, isLdO (.indexAddr t x i) = false := id rfl
@[simp] theorem ldo_index : ∀ {t x i}, isLdO (.index t x i) = false := id rfl
@[simp] theorem ldo_extract : ∀ {x i}, isLdO (.extract x i) = false := id rfl
@[simp] theorem ldo_call : ∀ {c}, isLdO (.call c) = false := id rfl
@[simp] theorem ldo_panic : ∀ {x}, isLdO (.panic x) = false := id rfl
theorem k_0 : @coinI ⟨⟨[]⟩⟩ = none := id rfl
theorem k_1 {a : Oper} : @coinI ⟨⟨[a]⟩⟩ = none := id rfl
theorem k_2 {a b : Oper} : @coinI ⟨⟨[a, b]⟩⟩ = none := id rfl
theorem k_3 {a b c : Oper} : @coinI ⟨⟨[a, b, c]⟩⟩ = none := id rfl
theorem k_5 {a b c d e : Oper} {l : List Oper} : @coinI ⟨⟨a :: b :: c :: d :: e :: l⟩⟩ = none := id rfl
theorem k_4 {d1 d2 d3 d4 : Option Tmp} {o1 o2 o3 o4 : Op} {t1 t2 t3 t4 : TypeId} {p1 p2 p3 p4 : String} {a1 a2 a3 a4 : Array Edge} {g1 g2 g3 g4 : Option (Nat × Bool)} :
    @coinI ⟨⟨[⟨d1, o1, t1, p1, a1, g1⟩, ⟨d2, o2, t2, p2, a2, g2⟩, ⟨d3, o3, t3, p3, a3, g3⟩, ⟨d4, o4, t4, p4, a4, g4⟩]⟩⟩ =
      if (isAlO o1 && isStO o2 && isStO o3 && isLdO o4) = true then @coinW ⟨⟨[⟨d1, o1, t1, p1, a1, g1⟩, ⟨d2, o2, t2, p2, a2, g2⟩, ⟨d3, o3, t3, p3, a3, g3⟩, ⟨d4, o4, t4, p4, a4, g4⟩]⟩⟩ else none := by
  unfold coinI coinW
  simp only [coinL, coin4]
  cases (isAlO o1 && isStO o2 && isStO o3 && isLdO o4) <;> rfl
section
variable {P : Program} {cl : Oracle} {n : Nat} {rs : List ResultVar} {k : List Item} {env : Env} {st : St}
theorem armS_eq {A : Arm} (hb : A.a5 < env.length ∧ A.a6 < env.length ∧ A.a7 < env.length ∧ A.a8 < env.length ∧ A.b0 < env.length ∧ A.b1 < env.length) : armS P A env st =
    match armV P A.S A.f A.T A.E A.z (getV env A.a0) (getV env A.a3) (getV env A.a4) (getV env A.x) st with
    | some st2 => some (setV (setV (setV (setV (setV (setV env A.a5 .undef) A.a6 .undef) A.a7 .undef) A.a8 .undef) A.b0 .undef) A.b1 .undef, st2)
    | none => none := by
  unfold armS
  rw [if_pos hb]
  simp only [getV_eq, setV_eq]
  rfl
theorem i_arm {ops : Array Oper} {pre : List Oper} {a0 a3 a4 a5 a6 a7 a8 b0 b1 x : Nat} {S : TypeId} {f : Nat} {T E : TypeId} {z : Value} (hb : a5 < env.length ∧ a6 < env.length ∧ a7 < env.length ∧ a8 < env.length ∧ b0 < env.length ∧ b1 < env.length) :
    @mki P cl n rs ⟨.arm ⟨ops, pre, a0, a3, a4, a5, a6, a7, a8, b0, b1, x, S, f, T, E, z⟩ :: k⟩ env st =
    match armV P S f T E z (getV env a0) (getV env a3) (getV env a4) (getV env x) st with
    | some st2 => @mki P cl n rs ⟨k⟩ (setV (setV (setV (setV (setV (setV env a5 .undef) a6 .undef) a7 .undef) a8 .undef) b0 .undef) b1 .undef) st2
    | none => none := by
  refine mk_arm.trans ?_
  rw [armS_eq hb]
  simp only
  cases armV P S f T E z (getV env a0) (getV env a3) (getV env a4) (getV env x) st <;> rfl
theorem k_arm {ops : Array Oper} {pre : List Oper} {a0 a3 a4 a5 a6 a7 a8 b0 b1 x : Nat} {S : TypeId} {f : Nat} {T E : TypeId} {z : Value} :
    @armK P cl n rs ⟨k⟩ ⟨ops, pre, a0, a3, a4, a5, a6, a7, a8, b0, b1, x, S, f, T, E, z⟩ env st = @mki P cl n rs ⟨.ops ops pre :: .arm ⟨ops, pre, a0, a3, a4, a5, a6, a7, a8, b0, b1, x, S, f, T, E, z⟩ :: k⟩ env st := id rfl
end
theorem meet_same {a : V} : meetV a a = a := by unfold meetV; simp
theorem meet_undef {a : V} : meetV a .undef = .undef := by unfold meetV; split <;> simp_all
theorem undef_meet {a : V} : meetV .undef a = .undef := by unfold meetV; split <;> simp_all
theorem meet_cons {a b : V} {x y : Env} : meetE (a :: x) (b :: y) = meetV a b :: meetE x y := by rw [meetE]
theorem meet_nil : meetE [] [] = [] := by rw [meetE]; rintro _ _ _ _ h; cases h
theorem i_at {P : Program} {cl : Oracle} {n : Nat} {rs : List ResultVar} {k : List Item} {env : Env} {st : St} {c : Code} {ts : List Nat} {m : Nat} {ι : Type} (meas : ι → Nat) (upd : ι → Env → Env) (S : ι → St) (F : ι → Option (Out × St)) (x0 : ι) {R : Option (Out × St)}
    (he : upd x0 env = env) (hs : S x0 = st) (hR : F x0 = R)
    (h : ∀ x, (∀ y, meas y < meas x → @mki P cl n rs ⟨.lp c ts m :: k⟩ (upd y env) (S y) = F y) → @mki P cl n rs ⟨.code c :: .again c ts m :: k⟩ (upd x env) (S x) = F x) :
    @mki P cl n rs ⟨.lp c ts m :: k⟩ env st = R := by
  have := i_inv (k := k) meas (fun x => upd x env) S F h x0
  rw [he, hs] at this
  exact this.trans hR
end Go.Abs
