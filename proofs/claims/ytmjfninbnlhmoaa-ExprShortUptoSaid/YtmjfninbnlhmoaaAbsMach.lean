/- A function's code as a stack of what is still to be done: equations to reckon with, step by step. -/
import Derived.Test.YtmjfninbnlhmoaaAbsSpec
namespace Go.Abs
open Go

inductive Item where
  | code (c : Code)
  | ops (ops : Array Oper) (l : List Oper)
  | drw (ops : Array Oper) (l : List Oper) (fps : List Fp)
  | blk (id : Nat)
  | lp (c : Code) (ts : List Nat) (m : Nat)
  | again (c : Code) (ts : List Nat) (m : Nat)

section
variable (P : Program) (cl : Oracle) (n : Nat) (rs : List ResultVar)

mutual
noncomputable def mk : List Item → Env → St → Option (Out × St)
  | [], env, st => finish P n rs (.normal, env, st)
  | .code c :: k, env, st => match execF P cl c env st with
    | some (.normal, env', st') => mk k env' st'
    | some (ex, env', st') => unw ex k env' st'
    | none => none
  | .ops ops l :: k, env, st => match regionL P cl ops l env st with
    | some (.normal, env', st') => mk k env' st'
    | some (ex, env', st') => unw ex k env' st'
    | none => none
  | .drw ops l fps :: k, env, st => match traceD P cl ops l env st with
    | some (none, env', st', fps') => if fpsOk2 ops (fps ++ fps') then mk k env' st' else none
    | some (some v, env', st', fps') => if fpsOk2 ops (fps ++ fps') && panicOk ops ((fps ++ fps').length - 1) (fps ++ fps') then unw (.panic v) k env' st' else none
    | none => none
  | .blk _ :: k, env, st => mk k env st
  | .lp c ts m :: k, env, st => match loopE (execF P cl c) ts m env st with
    | some (.normal, env', st') => mk k env' st'
    | some (ex, env', st') => unw ex k env' st'
    | none => none
  | .again c ts m :: k, env, st => match loopE (execF P cl c) ts m (roundEnd ts m env st).1 (roundEnd ts m env st).2 with
    | some (.normal, env', st') => mk k env' st'
    | some (ex, env', st') => unw ex k env' st'
    | none => none
noncomputable def unw : Ex → List Item → Env → St → Option (Out × St)
  | ex, [], env, st => finish P n rs (ex, env, st)
  | ex, .blk id :: k, env, st => match ex with
    | .exit i => if i = id then mk k env st else unw (.exit i) k env st
    | ex => unw ex k env st
  | ex, .code _ :: k, env, st => unw ex k env st
  | ex, .ops _ _ :: k, env, st => unw ex k env st
  | ex, .drw _ _ _ :: k, env, st => unw ex k env st
  | ex, .lp _ _ _ :: k, env, st => unw ex k env st
  | ex, .again _ _ _ :: k, env, st => unw ex k env st
end
end

section
variable {P : Program} {cl : Oracle} {n : Nat} {rs : List ResultVar} {k : List Item} {env : Env} {st : St}

/- two ways -/
def brB {β : Type} (b : Bool) (x y : β) : β :=
  match b with
  | true => x
  | false => y

theorem brB_true {β : Type} (x y : β) : brB true x y = x := rfl
theorem brB_false {β : Type} (x y : β) : brB false x y = y := rfl
/- two ways, each with what it rests on; opened at the end alone -/
def brP {β : Type} (p : Prop) [Decidable p] (x : p → β) (y : ¬ p → β) : β := dite p x y
theorem brB_dec {β : Type} {p : Prop} [Decidable p] (x y : β) : brB (decide p) x y = brP p (fun _ => x) (fun _ => y) := by by_cases h : p <;> simp [h, brB, brP]
theorem brB_gen {β : Type} {b : Bool} (x y : β) : brB b x y = brP (b = true) (fun _ => x) (fun _ => y) := by cases b <;> rfl
theorem brB_beq {β : Type} (a b : Bool) (x y : β) : brB (a == b) x y = brB a (brB b x y) (brB b y x) := by cases a <;> cases b <;> rfl
theorem brB_bne {β : Type} (a b : Bool) (x y : β) : brB (a != b) x y = brB a (brB b y x) (brB b x y) := by cases a <;> cases b <;> rfl
theorem brB_not {β : Type} (b : Bool) (x y : β) : brB (!b) x y = brB b y x := by cases b <;> rfl
theorem brB_and {β : Type} (a b : Bool) (x y : β) : brB (a && b) x y = brB a (brB b x y) y := by cases a <;> rfl
theorem brB_or {β : Type} (a b : Bool) (x y : β) : brB (a || b) x y = brB a x (brB b x y) := by cases a <;> rfl

/- what a branch asks -/
noncomputable def condK (P : Program) (cl : Oracle) (n : Nat) (rs : List ResultVar) (v : V) (a b : Code) (k : List Item) (env : Env) (st : St) : Option (Out × St) :=
  match v with
  | .bool c => brB c (mk P cl n rs (.code a :: k) env st) (mk P cl n rs (.code b :: k) env st)
  | _ => none

noncomputable def opT (P : Program) (cl : Oracle) (n : Nat) (rs : List ResultVar) (r : Option Res) (dst : Option Tmp) (ops : Array Oper) (l : List Oper) (k : List Item) (env : Env) : Option (Out × St) :=
  match r with
  | some (.val v st') => mk P cl n rs (.ops ops l :: k) (setD env dst v) st'
  | some (.panic v st') => unw P cl n rs (.panic v) k env st'
  | none => none

noncomputable def opK (P : Program) (cl : Oracle) (n : Nat) (rs : List ResultVar) (w : Option Bool) (r : Option Res) (dst : Option Tmp) (ops : Array Oper) (l : List Oper) (k : List Item) (env : Env) (st : St) : Option (Out × St) :=
  match w with
  | some b => brB b (opT P cl n rs r dst ops l k env) (mk P cl n rs (.ops ops l :: k) (setD env dst (.tup [])) st)
  | none => none

noncomputable def drwT (P : Program) (cl : Oracle) (n : Nat) (rs : List ResultVar) (r : Option (Res × Fp)) (dst : Option Tmp) (ops : Array Oper) (l : List Oper) (fps : List Fp) (k : List Item) (env : Env) : Option (Out × St) :=
  match r with
  | some (.val v st', fp) => mk P cl n rs (.drw ops l (fps ++ [fp]) :: k) (setD env dst v) st'
  | some (.panic v st', fp) => if fpsOk2 ops (fps ++ [fp]) && panicOk ops fps.length (fps ++ [fp]) then unw P cl n rs (.panic v) k env st' else none
  | none => none

noncomputable def drwK (P : Program) (cl : Oracle) (n : Nat) (rs : List ResultVar) (w : Option Bool) (r : Option (Res × Fp)) (dst : Option Tmp) (ops : Array Oper) (l : List Oper) (fps : List Fp) (k : List Item) (env : Env) (st : St) : Option (Out × St) :=
  match w with
  | some b => brB b (drwT P cl n rs r dst ops l fps k env) (mk P cl n rs (.drw ops l (fps ++ [⟨none, none⟩]) :: k) (setD env dst (.tup [])) st)
  | none => none

theorem mk_nil : mk P cl n rs [] env st = finish P n rs (.normal, env, st) := by rw [mk]
theorem mk_blk {id : Nat} : mk P cl n rs (.blk id :: k) env st = mk P cl n rs k env st := by rw [mk]
theorem mk_skip : mk P cl n rs (.code .skip :: k) env st = mk P cl n rs k env st := by rw [mk]; rfl
theorem mk_ret' : mk P cl n rs (.code .ret :: k) env st = unw P cl n rs .ret k env st := by rw [mk]; rfl
theorem mk_exit {id : Nat} : mk P cl n rs (.code (.exit id) :: k) env st = unw P cl n rs (.exit id) k env st := by rw [mk]; rfl
theorem mk_seq {a b : Code} : mk P cl n rs (.code (.seq a b) :: k) env st = mk P cl n rs (.code a :: .code b :: k) env st := by
  rw [mk, mk]
  simp only [execF]
  cases h : execF P cl a env st with
  | none => rfl
  | some q =>
    obtain ⟨ex, env', st'⟩ := q
    cases ex
    · simp only; rw [mk]
    · simp only; rw [unw]
    · simp only; rw [unw]
    · simp only; rw [unw]
theorem mk_block {id : Nat} {a : Code} : mk P cl n rs (.code (.block id a) :: k) env st = mk P cl n rs (.code a :: .blk id :: k) env st := by
  rw [mk, mk]
  simp only [execF]
  cases h : execF P cl a env st with
  | none => rfl
  | some q =>
    obtain ⟨ex, env', st'⟩ := q
    cases ex
    · simp only; rw [mk]
    · rename_i i
      by_cases hi : i = id
      · simp only [hi, if_true]; rw [unw, if_pos rfl]
      · simp only [hi, if_false]; rw [unw, if_neg hi]
    · simp only; rw [unw]; intro i e; cases e
    · simp only; rw [unw]; intro i e; cases e
theorem mk_cond {c : Operand} {a b : Code} : mk P cl n rs (.code (.cond c a b) :: k) env st = condK P cl n rs (opv env c) a b k env st := by
  rw [mk]
  simp only [execF]
  unfold condK
  cases h : opv env c <;> try rfl
  rename_i x
  cases x
  · simp only [brB]; rw [mk]
  · simp only [brB]; rw [mk]
theorem mk_region {id : Nat} {ops : Array Oper} : mk P cl n rs (.code (.region id ops false) :: k) env st = mk P cl n rs (.ops ops ops.toList :: k) env st := by
  rw [mk, mk]; rfl
theorem mk_ops_nil {ops : Array Oper} : mk P cl n rs (.ops ops [] :: k) env st = mk P cl n rs k env st := by rw [mk]; rfl
theorem mk_ops {ops : Array Oper} {o : Oper} {l : List Oper} : mk P cl n rs (.ops ops (o :: l) :: k) env st = opK P cl n rs (want ops env o.guard) (opStep P cl (opv env) o st) o.dst ops l k env st := by
  rw [mk]
  simp only [regionL]
  unfold opK
  cases hw : want ops env o.guard with
  | none => rfl
  | some b =>
    cases b with
    | false => simp only [brB]; rw [mk]
    | true =>
      simp only [brB]
      unfold opT
      cases ho : opStep P cl (opv env) o st with
      | none => rfl
      | some q =>
        cases q with
        | val v st' => simp only; rw [mk]
        | panic v st' => rfl
theorem mk_drawn {id : Nat} {ops : Array Oper} : mk P cl n rs (.code (.region id ops true) :: k) env st = mk P cl n rs (.drw ops ops.toList [] :: k) env st := by
  rw [mk, mk]
  simp only [execF, regionF, List.nil_append]
  cases h : traceD P cl ops ops.toList env st with
  | none => rfl
  | some q =>
    obtain ⟨p, env', st', fps⟩ := q
    cases p with
    | none => cases hc : fpsOk2 ops fps <;> simp only [hc, if_true, if_false, Bool.false_eq_true]
    | some v => cases hc : fpsOk2 ops fps && panicOk ops (fps.length - 1) fps <;> simp only [hc, if_true, if_false, Bool.false_eq_true]
theorem mk_drw_nil {ops : Array Oper} {fps : List Fp} : mk P cl n rs (.drw ops [] fps :: k) env st = if fpsOk2 ops fps then mk P cl n rs k env st else none := by
  rw [mk]
  simp only [traceD, List.append_nil]
theorem mk_drw {ops : Array Oper} {o : Oper} {l : List Oper} {fps : List Fp} : mk P cl n rs (.drw ops (o :: l) fps :: k) env st = drwK P cl n rs (want ops env o.guard) (stepD P cl (opv env) o st) o.dst ops l fps k env st := by
  rw [mk]
  simp only [traceD]
  unfold drwK
  cases hw : want ops env o.guard with
  | none => rfl
  | some b =>
    cases b with
    | false =>
      simp only [brB]
      rw [mk]
      cases ht : traceD P cl ops l (setD env o.dst (.tup [])) st with
      | none => rfl
      | some q => obtain ⟨p, env', st', fps'⟩ := q; cases p <;> simp
    | true =>
      simp only [brB]
      unfold drwT
      cases ho : stepD P cl (opv env) o st with
      | none => rfl
      | some q =>
        obtain ⟨q, fp⟩ := q
        cases q with
        | val v st' =>
          simp only
          rw [mk]
          cases ht : traceD P cl ops l (setD env o.dst v) st' with
          | none => rfl
          | some q => obtain ⟨p, env', st', fps'⟩ := q; cases p <;> simp
        | panic v st' => simp

theorem unw_nil {ex : Ex} : unw P cl n rs ex [] env st = finish P n rs (ex, env, st) := by rw [unw]
theorem unw_code {ex : Ex} {c : Code} : unw P cl n rs ex (.code c :: k) env st = unw P cl n rs ex k env st := by rw [unw]
theorem unw_ops {ex : Ex} {ops : Array Oper} {l : List Oper} : unw P cl n rs ex (.ops ops l :: k) env st = unw P cl n rs ex k env st := by rw [unw]
theorem unw_drw {ex : Ex} {ops : Array Oper} {l : List Oper} {fps : List Fp} : unw P cl n rs ex (.drw ops l fps :: k) env st = unw P cl n rs ex k env st := by rw [unw]
theorem unw_lp {ex : Ex} {c : Code} {ts : List Nat} {m : Nat} : unw P cl n rs ex (.lp c ts m :: k) env st = unw P cl n rs ex k env st := by rw [unw]
theorem unw_again {ex : Ex} {c : Code} {ts : List Nat} {m : Nat} : unw P cl n rs ex (.again c ts m :: k) env st = unw P cl n rs ex k env st := by rw [unw]
theorem mk_again {c : Code} {ts : List Nat} {m : Nat} : mk P cl n rs (.again c ts m :: k) env st = mk P cl n rs (.lp c ts m :: k) (roundEnd ts m env st).1 (roundEnd ts m env st).2 := by rw [mk, mk]
theorem mk_round {c : Code} {ts : List Nat} {m : Nat} : mk P cl n rs (.lp c ts m :: k) env st = mk P cl n rs (.code c :: .again c ts m :: k) env st := by
  rw [mk, mk, loopE_eq]
  cases h : execF P cl c env st with
  | none => rfl
  | some q =>
    obtain ⟨ex, env', st'⟩ := q
    cases ex
    · simp only; rw [mk]
    · simp only; rw [unw]
    · simp only; rw [unw]
    · simp only; rw [unw]
theorem mk_loop {c : Code} {ts : List Nat} (h : temps c = ts) : mk P cl n rs (.code (.loop c) :: k) env st = mk P cl n rs (.lp c ts st.length :: k) env st := by
  rw [mk, mk]
  simp only [execF, h]

/- rounds, by what gets less -/
theorem lp_inv {c : Code} {ts : List Nat} {m : Nat} {ι : Type} (meas : ι → Nat) (E : ι → Env) (S : ι → St) (F : ι → Option (Out × St))
    (h : ∀ x, (∀ y, meas y < meas x → mk P cl n rs (.lp c ts m :: k) (E y) (S y) = F y) → mk P cl n rs (.code c :: .again c ts m :: k) (E x) (S x) = F x) :
    ∀ x, mk P cl n rs (.lp c ts m :: k) (E x) (S x) = F x := by
  have key : ∀ (j : Nat) x, meas x < j → mk P cl n rs (.lp c ts m :: k) (E x) (S x) = F x := by
    intro j
    induction j with
    | zero => intro x hx; omega
    | succ j ih => intro x hx; rw [mk_round]; exact h x fun y hy => ih y (by omega)
  exact fun x => key (meas x + 1) x (Nat.lt_succ_self _)

/- the loops of a text, the outer ones first -/
def loopsOf : Code → List Code
  | .seq a b => loopsOf a ++ loopsOf b
  | .cond _ a b => loopsOf a ++ loopsOf b
  | .block _ a => loopsOf a
  | .loop a => a :: loopsOf a
  | _ => []

theorem unw_exit {i id : Nat} : unw P cl n rs (.exit i) (.blk id :: k) env st = if i = id then mk P cl n rs k env st else unw P cl n rs (.exit i) k env st := by rw [unw]
theorem unw_ret {id : Nat} : unw P cl n rs .ret (.blk id :: k) env st = unw P cl n rs .ret k env st := by rw [unw]; intro i e; cases e
theorem unw_panic {id : Nat} {v : V} : unw P cl n rs (.panic v) (.blk id :: k) env st = unw P cl n rs (.panic v) k env st := by rw [unw]; intro i e; cases e

theorem condK_bool {c : Bool} {a b : Code} : condK P cl n rs (.bool c) a b k env st = brB c (mk P cl n rs (.code a :: k) env st) (mk P cl n rs (.code b :: k) env st) := rfl
theorem opK_some {b : Bool} {r : Option Res} {dst : Option Tmp} {ops : Array Oper} {l : List Oper} : opK P cl n rs (some b) r dst ops l k env st = brB b (opT P cl n rs r dst ops l k env) (mk P cl n rs (.ops ops l :: k) (setD env dst (.tup [])) st) := rfl
theorem opT_val {v : V} {st' : St} {dst : Option Tmp} {ops : Array Oper} {l : List Oper} : opT P cl n rs (some (.val v st')) dst ops l k env = mk P cl n rs (.ops ops l :: k) (setD env dst v) st' := rfl
theorem opT_panic {v : V} {st' : St} {dst : Option Tmp} {ops : Array Oper} {l : List Oper} : opT P cl n rs (some (.panic v st')) dst ops l k env = unw P cl n rs (.panic v) k env st' := rfl
theorem drwK_some {b : Bool} {r : Option (Res × Fp)} {dst : Option Tmp} {ops : Array Oper} {l : List Oper} {fps : List Fp} : drwK P cl n rs (some b) r dst ops l fps k env st = brB b (drwT P cl n rs r dst ops l fps k env) (mk P cl n rs (.drw ops l (fps ++ [⟨none, none⟩]) :: k) (setD env dst (.tup [])) st) := rfl
theorem drwT_val {v : V} {st' : St} {fp : Fp} {dst : Option Tmp} {ops : Array Oper} {l : List Oper} {fps : List Fp} : drwT P cl n rs (some (.val v st', fp)) dst ops l fps k env = mk P cl n rs (.drw ops l (fps ++ [fp]) :: k) (setD env dst v) st' := rfl
theorem drwT_panic {v : V} {st' : St} {fp : Fp} {dst : Option Tmp} {ops : Array Oper} {l : List Oper} {fps : List Fp} : drwT P cl n rs (some (.panic v st', fp)) dst ops l fps k env = if fpsOk2 ops (fps ++ [fp]) && panicOk ops fps.length (fps ++ [fp]) then unw P cl n rs (.panic v) k env st' else none := rfl

theorem wrap_i64 {x : Int} (h : -9223372036854775808 ≤ x ∧ x ≤ 9223372036854775807) : IntKind.i64.wrap x = x := by
  simp only [IntKind.wrap, IntKind.bits, IntKind.signed]
  simp
  omega

theorem gc_none {s : St} : gc 0 [] s = some ([], []) := by
  simp [gc, refsL, reach, reachFuel, shut, nodup]
theorem gc_pure {vs : List V} {s : St} (h : refsL vs = []) : gc 0 vs s = some (vs, []) := by
  simp [gc, h, refsL, reach, reachFuel, shut, nodup]

/- a function's equation -/
theorem ev_mk {pr : Prims} {f : FuncId} {fn : Func} {c : Code} (hp : pr f = none) (hf : P.funcs[f]? = some fn) (hb : fn.body = some c) (ho : okDraws c = true) (a : List V) (s : St) :
    ev P pr f a s = mk P (ev P pr) s.length fn.results.toList [.code c] (a ++ List.replicate (fn.ntmps - a.length) .undef) s := by
  rw [ev_fn hp hf hb ho, mk]
  cases h : execF P (ev P pr) c (a ++ List.replicate (fn.ntmps - a.length) .undef) s with
  | none => rfl
  | some q =>
    obtain ⟨ex, env', st'⟩ := q
    cases ex <;> simp only <;> first | rw [mk] | rw [unw]

end
end Go.Abs
