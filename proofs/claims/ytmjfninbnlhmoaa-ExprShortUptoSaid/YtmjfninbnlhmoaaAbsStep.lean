/- The stack machine once more, its stack where a simplifier does not look. -/
import Derived.Test.YtmjfninbnlhmoaaAbsMach
namespace Go.Abs
open Go

class Stk where
  l : List Item
class OpsI where
  a : Array Oper

section
variable (P : Program) (cl : Oracle) (n : Nat) (rs : List ResultVar)

noncomputable def mki [s : Stk] (env : Env) (st : St) : Option (Out × St) := mk P cl n rs s.l env st
noncomputable def unwi [s : Stk] (ex : Ex) (env : Env) (st : St) : Option (Out × St) := unw P cl n rs ex s.l env st
/- how an operation goes on: 's' holds the rest -/
noncomputable def opTi [s : Stk] (r : Option Res) (dst : Option Tmp) (env : Env) : Option (Out × St) :=
  match r with
  | some (.val v st') => mk P cl n rs s.l (setD env dst v) st'
  | some (.panic v st') => unw P cl n rs (.panic v) s.l env st'
  | none => none
noncomputable def opKi [s : Stk] (w : Option Bool) (r : Option Res) (dst : Option Tmp) (env : Env) (st : St) : Option (Out × St) :=
  match w with
  | some b => brB b (@opTi P cl n rs s r dst env) (mk P cl n rs s.l (setD env dst (.tup [])) st)
  | none => none
noncomputable def condKi [a : Stk] [b : Stk] (v : V) (env : Env) (st : St) : Option (Out × St) :=
  match v with
  | .bool c => brB c (mk P cl n rs a.l env st) (mk P cl n rs b.l env st)
  | _ => none
end

def wanti [s : OpsI] (env : Env) (g : Option (Nat × Bool)) : Option Bool := want s.a env g
def opS (P : Program) (cl : Oracle) (env : Env) (op : Op) (st : St) : Option Res := opStep P cl (opv env) ⟨none, op, 0, "", #[], none⟩ st
def stepS (P : Program) (cl : Oracle) (env : Env) (op : Op) (st : St) : Option (Res × Fp) := stepD P cl (opv env) ⟨none, op, 0, "", #[], none⟩ st
def fpsQ [s : OpsI] (fps : List Fp) : Bool := fpsOk2 s.a fps
def panQ [s : OpsI] (fps : List Fp) : Bool := fpsOk2 s.a fps && panicOk s.a (fps.length - 1) fps

section
variable (P : Program) (cl : Oracle) (n : Nat) (rs : List ResultVar)
/- a drawn operation: 's' is the stack below -/
noncomputable def drTi [s : Stk] [o : OpsI] [l : Stk] (r : Option (Res × Fp)) (dst : Option Tmp) (env : Env) : Option (Out × St) :=
  match l.l, r with
  | .drw _ l fps :: _, some (.val v st', fp) => mk P cl n rs (.drw o.a l (fps ++ [fp]) :: s.l) (setD env dst v) st'
  | .drw _ _ fps :: _, some (.panic v st', fp) => if @panQ o (fps ++ [fp]) then unw P cl n rs (.panic v) s.l env st' else none
  | _, _ => none
noncomputable def drKi [s : Stk] [o : OpsI] [l : Stk] (w : Option Bool) (r : Option (Res × Fp)) (dst : Option Tmp) (env : Env) (st : St) : Option (Out × St) :=
  match l.l, w with
  | .drw _ l' fps :: _, some b => brB b (@drTi P cl n rs s o l r dst env) (mk P cl n rs (.drw o.a l' (fps ++ [⟨none, none⟩]) :: s.l) (setD env dst (.tup [])) st)
  | _, _ => none
end

section
variable {P : Program} {cl : Oracle} {n : Nat} {rs : List ResultVar} {k : List Item} {env : Env} {st : St}

theorem mk_mki : mk P cl n rs k env st = @mki P cl n rs ⟨k⟩ env st := rfl
theorem i_nil : @mki P cl n rs ⟨[]⟩ env st = finish P n rs (.normal, env, st) := mk_nil
theorem i_blk {id : Nat} : @mki P cl n rs ⟨.blk id :: k⟩ env st = @mki P cl n rs ⟨k⟩ env st := mk_blk
theorem i_skip : @mki P cl n rs ⟨.code .skip :: k⟩ env st = @mki P cl n rs ⟨k⟩ env st := mk_skip
theorem i_ret : @mki P cl n rs ⟨.code .ret :: k⟩ env st = @unwi P cl n rs ⟨k⟩ .ret env st := mk_ret'
theorem i_exit {id : Nat} : @mki P cl n rs ⟨.code (.exit id) :: k⟩ env st = @unwi P cl n rs ⟨k⟩ (.exit id) env st := mk_exit
theorem i_seq {a b : Code} : @mki P cl n rs ⟨.code (.seq a b) :: k⟩ env st = @mki P cl n rs ⟨.code a :: .code b :: k⟩ env st := mk_seq
theorem i_block {id : Nat} {a : Code} : @mki P cl n rs ⟨.code (.block id a) :: k⟩ env st = @mki P cl n rs ⟨.code a :: .blk id :: k⟩ env st := mk_block
theorem i_cond {c : Operand} {a b : Code} : @mki P cl n rs ⟨.code (.cond c a b) :: k⟩ env st = @condKi P cl n rs ⟨.code a :: k⟩ ⟨.code b :: k⟩ (opv env c) env st := mk_cond
theorem i_region {id : Nat} {ops : Array Oper} : @mki P cl n rs ⟨.code (.region id ops false) :: k⟩ env st = @mki P cl n rs ⟨.ops ops ops.toList :: k⟩ env st := mk_region
theorem i_region' {id : Nat} {l : List Oper} : @mki P cl n rs ⟨.code (.region id ⟨l⟩ false) :: k⟩ env st = @mki P cl n rs ⟨.ops ⟨l⟩ l :: k⟩ env st := mk_region
theorem i_ops_nil {ops : Array Oper} : @mki P cl n rs ⟨.ops ops [] :: k⟩ env st = @mki P cl n rs ⟨k⟩ env st := mk_ops_nil
theorem i_ops {ops : Array Oper} {dst : Option Tmp} {op : Op} {ty : TypeId} {pos : String} {after : Array Edge} {g : Option (Nat × Bool)} {l : List Oper} :
    @mki P cl n rs ⟨.ops ops (⟨dst, op, ty, pos, after, g⟩ :: l) :: k⟩ env st = @opKi P cl n rs ⟨.ops ops l :: k⟩ (@wanti ⟨ops⟩ env g) (opS P cl env op st) dst env st := by
  refine mk_ops.trans ?_
  simp only
  have e : opStep P cl (opv env) ⟨dst, op, ty, pos, after, g⟩ st = opS P cl env op st := by unfold opS; cases op <;> rfl
  rw [e]
  unfold opK opKi
  simp only [wanti]
  cases want ops env g with
  | none => rfl
  | some b =>
    cases b with
    | false => rfl
    | true =>
      simp only [brB]
      unfold opT opTi
      cases opS P cl env op st with
      | none => rfl
      | some q =>
        cases q with
        | val v st' => rfl
        | panic v st' => simp only [unw_ops]
theorem i_drawn {id : Nat} {ops : Array Oper} : @mki P cl n rs ⟨.code (.region id ops true) :: k⟩ env st = @mki P cl n rs ⟨.drw ops ops.toList [] :: k⟩ env st := mk_drawn
theorem i_drawn' {id : Nat} {l : List Oper} : @mki P cl n rs ⟨.code (.region id ⟨l⟩ true) :: k⟩ env st = @mki P cl n rs ⟨.drw ⟨l⟩ l [] :: k⟩ env st := mk_drawn
theorem i_drw_nil {ops : Array Oper} {fps : List Fp} : @mki P cl n rs ⟨.drw ops [] fps :: k⟩ env st = if @fpsQ ⟨ops⟩ fps then @mki P cl n rs ⟨k⟩ env st else none := mk_drw_nil
theorem i_drw {ops : Array Oper} {dst : Option Tmp} {op : Op} {ty : TypeId} {pos : String} {after : Array Edge} {g : Option (Nat × Bool)} {l : List Oper} {fps : List Fp} :
    @mki P cl n rs ⟨.drw ops (⟨dst, op, ty, pos, after, g⟩ :: l) fps :: k⟩ env st = @drKi P cl n rs ⟨k⟩ ⟨ops⟩ ⟨[.drw ops l fps]⟩ (@wanti ⟨ops⟩ env g) (stepS P cl env op st) dst env st := by
  refine mk_drw.trans ?_
  simp only
  have e : stepD P cl (opv env) ⟨dst, op, ty, pos, after, g⟩ st = stepS P cl env op st := by unfold stepS; cases op <;> rfl
  rw [e]
  unfold drwK drKi
  simp only [wanti]
  cases want ops env g with
  | none => rfl
  | some b =>
    simp only
    congr 1
    unfold drwT drTi
    cases stepS P cl env op st with
    | none => rfl
    | some q =>
      obtain ⟨q, fp⟩ := q
      cases q with
      | val v st' => rfl
      | panic v st' => simp [panQ]
theorem i_again {c : Code} {ts : List Nat} {m : Nat} : @mki P cl n rs ⟨.again c ts m :: k⟩ env st = @mki P cl n rs ⟨.lp c ts m :: k⟩ (roundEnd ts m env st).1 (roundEnd ts m env st).2 := mk_again
theorem i_round {c : Code} {ts : List Nat} {m : Nat} : @mki P cl n rs ⟨.lp c ts m :: k⟩ env st = @mki P cl n rs ⟨.code c :: .again c ts m :: k⟩ env st := mk_round
theorem i_loop {c : Code} {ts : List Nat} (h : temps c = ts) : @mki P cl n rs ⟨.code (.loop c) :: k⟩ env st = @mki P cl n rs ⟨.lp c ts st.length :: k⟩ env st := mk_loop h

theorem u_nil {ex : Ex} : @unwi P cl n rs ⟨[]⟩ ex env st = finish P n rs (ex, env, st) := unw_nil
theorem u_code {ex : Ex} {c : Code} : @unwi P cl n rs ⟨.code c :: k⟩ ex env st = @unwi P cl n rs ⟨k⟩ ex env st := unw_code
theorem u_ops {ex : Ex} {ops : Array Oper} {l : List Oper} : @unwi P cl n rs ⟨.ops ops l :: k⟩ ex env st = @unwi P cl n rs ⟨k⟩ ex env st := unw_ops
theorem u_drw {ex : Ex} {ops : Array Oper} {l : List Oper} {fps : List Fp} : @unwi P cl n rs ⟨.drw ops l fps :: k⟩ ex env st = @unwi P cl n rs ⟨k⟩ ex env st := unw_drw
theorem u_lp {ex : Ex} {c : Code} {ts : List Nat} {m : Nat} : @unwi P cl n rs ⟨.lp c ts m :: k⟩ ex env st = @unwi P cl n rs ⟨k⟩ ex env st := unw_lp
theorem u_again {ex : Ex} {c : Code} {ts : List Nat} {m : Nat} : @unwi P cl n rs ⟨.again c ts m :: k⟩ ex env st = @unwi P cl n rs ⟨k⟩ ex env st := unw_again
theorem u_exit {i id : Nat} : @unwi P cl n rs ⟨.blk id :: k⟩ (.exit i) env st = if i = id then @mki P cl n rs ⟨k⟩ env st else @unwi P cl n rs ⟨k⟩ (.exit i) env st := unw_exit
theorem u_ret {id : Nat} : @unwi P cl n rs ⟨.blk id :: k⟩ .ret env st = @unwi P cl n rs ⟨k⟩ .ret env st := unw_ret
theorem u_panic {id : Nat} {v : V} : @unwi P cl n rs ⟨.blk id :: k⟩ (.panic v) env st = @unwi P cl n rs ⟨k⟩ (.panic v) env st := unw_panic

theorem c_bool {a b : List Item} {c : Bool} : @condKi P cl n rs ⟨a⟩ ⟨b⟩ (.bool c) env st = brB c (@mki P cl n rs ⟨a⟩ env st) (@mki P cl n rs ⟨b⟩ env st) := rfl
theorem o_some {b : Bool} {r : Option Res} {dst : Option Tmp} : @opKi P cl n rs ⟨k⟩ (some b) r dst env st = brB b (@opTi P cl n rs ⟨k⟩ r dst env) (@mki P cl n rs ⟨k⟩ (setD env dst (.tup [])) st) := rfl
theorem o_val {v : V} {st' : St} {dst : Option Tmp} : @opTi P cl n rs ⟨k⟩ (some (.val v st')) dst env = @mki P cl n rs ⟨k⟩ (setD env dst v) st' := rfl
theorem o_panic {v : V} {st' : St} {dst : Option Tmp} : @opTi P cl n rs ⟨k⟩ (some (.panic v st')) dst env = @unwi P cl n rs ⟨k⟩ (.panic v) env st' := rfl
theorem d_some {ops ops' : Array Oper} {l : List Oper} {fps : List Fp} {b : Bool} {r : Option (Res × Fp)} {dst : Option Tmp} : @drKi P cl n rs ⟨k⟩ ⟨ops⟩ ⟨[.drw ops' l fps]⟩ (some b) r dst env st =
    brB b (@drTi P cl n rs ⟨k⟩ ⟨ops⟩ ⟨[.drw ops' l fps]⟩ r dst env) (@mki P cl n rs ⟨.drw ops l (fps ++ [⟨none, none⟩]) :: k⟩ (setD env dst (.tup [])) st) := rfl
theorem d_val {ops ops' : Array Oper} {l : List Oper} {fps : List Fp} {v : V} {st' : St} {fp : Fp} {dst : Option Tmp} : @drTi P cl n rs ⟨k⟩ ⟨ops⟩ ⟨[.drw ops' l fps]⟩ (some (.val v st', fp)) dst env =
    @mki P cl n rs ⟨.drw ops l (fps ++ [fp]) :: k⟩ (setD env dst v) st' := rfl
theorem d_panic {ops ops' : Array Oper} {l : List Oper} {fps : List Fp} {v : V} {st' : St} {fp : Fp} {dst : Option Tmp} : @drTi P cl n rs ⟨k⟩ ⟨ops⟩ ⟨[.drw ops' l fps]⟩ (some (.panic v st', fp)) dst env =
    if @panQ ⟨ops⟩ (fps ++ [fp]) then @unwi P cl n rs ⟨k⟩ (.panic v) env st' else none := rfl
theorem w_none {ops : Array Oper} : @wanti ⟨ops⟩ env none = some true := rfl
theorem w_some {ops : Array Oper} {j : Nat} {b : Bool} : @wanti ⟨ops⟩ env (some (j, b)) = match (ops[j]?).bind (·.dst) with
    | none => some false
    | some t => match env[t]? with
      | some (.bool c) => some (c == b)
      | some (.tup []) => some false
      | none => some false
      | _ => none := rfl
theorem f_quiet {ops : Array Oper} {fps : List Fp} (h : fps.all (fun f => f.writes.isNone) = true) : @fpsQ ⟨ops⟩ fps = true := by simp [fpsQ, fpsOk2, h]
theorem f_ops {ops : Array Oper} {fps : List Fp} : @fpsQ ⟨ops⟩ fps = fpsOk2 ops fps := rfl
theorem p_ops {ops : Array Oper} {fps : List Fp} : @panQ ⟨ops⟩ fps = (fpsOk2 ops fps && panicOk ops (fps.length - 1) fps) := rfl

/- rounds, by what gets less -/
theorem i_inv {c : Code} {ts : List Nat} {m : Nat} {ι : Type} (meas : ι → Nat) (E : ι → Env) (S : ι → St) (F : ι → Option (Out × St))
    (h : ∀ x, (∀ y, meas y < meas x → @mki P cl n rs ⟨.lp c ts m :: k⟩ (E y) (S y) = F y) → @mki P cl n rs ⟨.code c :: .again c ts m :: k⟩ (E x) (S x) = F x) :
    ∀ x, @mki P cl n rs ⟨.lp c ts m :: k⟩ (E x) (S x) = F x := lp_inv meas E S F h

theorem ev_mki {pr : Prims} {f : FuncId} {fn : Func} {c : Code} (hp : pr f = none) (hf : P.funcs[f]? = some fn) (hb : fn.body = some c) (ho : okDraws c = true) (a : List V) (s : St) :
    ev P pr f a s = @mki P (ev P pr) s.length fn.results.toList ⟨[.code c]⟩ (a ++ List.replicate (fn.ntmps - a.length) .undef) s := ev_mk hp hf hb ho a s
end
end Go.Abs
