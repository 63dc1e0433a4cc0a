/- Small steps for the simplifier: temporaries by number, one equation an operation. -/
import Derived.Test.YtmjfninbnlhmoaaAbsStep
namespace Go.Abs
open Go

theorem ite_two {α : Type} {p : Prop} [Decidable p] {x y r : α} (h : p → x = r) (h' : ¬ p → y = r) : (if p then x else y) = r := by by_cases hp : p <;> simp [hp, h, h']

def getV : List V → Nat → V
  | [], _ => .undef
  | x :: _, 0 => x
  | _ :: xs, n + 1 => getV xs n
def getO : List V → Nat → Option V
  | [], _ => none
  | x :: _, 0 => some x
  | _ :: xs, n + 1 => getO xs n
def setV : List V → Nat → V → List V
  | [], _, _ => []
  | _ :: xs, 0, v => v :: xs
  | x :: xs, n + 1, v => x :: setV xs n v
def dstI [s : OpsI] (j : Nat) : Option Tmp := (s.a[j]?).bind (·.dst)

theorem getV_eq : ∀ (env : List V) (t : Nat), env.getD t .undef = getV env t
  | [], t => by simp [getV]
  | x :: xs, 0 => rfl
  | x :: xs, t + 1 => by simpa [getV] using getV_eq xs t
theorem getO_eq : ∀ (env : List V) (t : Nat), env[t]? = getO env t
  | [], t => by simp [getO]
  | x :: xs, 0 => rfl
  | x :: xs, t + 1 => by simpa [getO] using getO_eq xs t
theorem setV_eq : ∀ (env : List V) (t : Nat) (v : V), env.set t v = setV env t v
  | [], t, v => rfl
  | x :: xs, 0, v => rfl
  | x :: xs, t + 1, v => by simp [setV, setV_eq xs t v]

theorem g_zero {x : V} {xs : List V} : getV (x :: xs) 0 = x := rfl
theorem g_succ {x : V} {xs : List V} {n : Nat} : getV (x :: xs) (n + 1) = getV xs n := rfl
theorem q_nil {n : Nat} : getO [] n = none := rfl
theorem q_zero {x : V} {xs : List V} : getO (x :: xs) 0 = some x := rfl
theorem q_succ {x : V} {xs : List V} {n : Nat} : getO (x :: xs) (n + 1) = getO xs n := rfl
theorem s_zero {x v : V} {xs : List V} : setV (x :: xs) 0 v = v :: xs := rfl
theorem s_succ {x v : V} {xs : List V} {n : Nat} : setV (x :: xs) (n + 1) v = x :: setV xs n v := rfl
theorem s_some {env : Env} {t : Tmp} {v : V} : setD env (some t) v = setV env t v := setV_eq env t v
theorem s_none {env : Env} {v : V} : setD env none v = env := rfl
theorem t_zero {o : Oper} {l : List Oper} : @dstI ⟨⟨o :: l⟩⟩ 0 = o.dst := rfl
theorem t_succ {o : Oper} {l : List Oper} {n : Nat} : @dstI ⟨⟨o :: l⟩⟩ (n + 1) = @dstI ⟨⟨l⟩⟩ n := by simp [dstI]

def wantG (t : Option Tmp) (env : Env) (b : Bool) : Option Bool :=
  match t with
  | none => some false
  | some t => match getO env t with
    | some (.bool c) => some (c == b)
    | some (.tup []) => some false
    | none => some false
    | _ => none
theorem w_fast {ops : Array Oper} {env : Env} {j : Nat} {b : Bool} : @wanti ⟨ops⟩ env (some (j, b)) = wantG (@dstI ⟨ops⟩ j) env b := by
  unfold wanti want wantG dstI
  simp only
  cases (ops[j]?).bind (·.dst) with
  | none => rfl
  | some t => simp only [getO_eq]; rfl

theorem v_tmp {env : Env} {t : Tmp} : opv env (.tmp t) = getV env t := getV_eq env t
theorem v_const {env : Env} {c : Value} : opv env (.const c) = ofValue c := rfl
theorem v_func {env : Env} {f : FuncId} : opv env (.func f) = .func f [] [] := rfl
theorem k_bool {b : Bool} : ofValue (.bool b) = .bool b := rfl
theorem k_int {k : IntKind} {n : Int} : ofValue (.int k n) = .int k n := rfl
theorem k_str {s : ByteArray} : ofValue (.string s) = .str s.data.toList := rfl

section
variable {P : Program} {cl : Oracle} {env : Env} {st : St}
theorem r_tmp {t : Tmp} : resV P env st (.tmp t) = some (getV env t) := by simp only [resV]; rw [getV_eq]
theorem r_cell {a : Tmp} {t : TypeId} : resV P env st (.cell a t) = loadV P t (getV env a) st := by simp only [resV]; rw [getV_eq]

theorem p_move {x : Operand} : opS P cl env (.move x) st = some (.val (opv env x) st) := rfl
theorem p_assign {x : Operand} : opS P cl env (.assign x) st = some (.val (adopt (opv env x) st).1 (adopt (opv env x) st).2) := rfl
theorem p_pick {c a b : Operand} : opS P cl env (.pick c a b) st = match opv env c with
    | .bool c => some (.val (if c then opv env a else opv env b) st)
    | _ => none := rfl
theorem p_alloc {t : TypeId} : opS P cl env (.alloc t) st = match ti P t with
    | some T => let r := adopt T.zero st; if (vcells T.zero).length = T.size then some (.val (.box r.2.length 0) (r.2 ++ [vcells r.1])) else none
    | none => none := rfl
theorem p_box {t : TypeId} {x : Operand} : opS P cl env (.box t x) st = match ti P t with
    | some T => if (vcells (opv env x)).length = T.size ∧ (vcells (opv env x)).all cellOk then some (.val (.box st.length 0) (st ++ [vcells (opv env x)])) else none
    | none => none := rfl
theorem p_build {t : TypeId} {ps : Array (Nat × Operand)} : opS P cl env (.build t ps) st = val? st (buildV P t (ps.toList.map fun p => (p.1, opv env p.2))) := rfl
theorem p_buildSlice {t : TypeId} {len : Nat} {ps : Array (Nat × Operand)} : opS P cl env (.buildSlice t len ps) st = val? st (buildSliceV P t len (ps.toList.map fun p => (p.1, opv env p.2))) := rfl
theorem p_load {t : TypeId} {a : Operand} : opS P cl env (.load t a) st = val? st (loadV P t (opv env a) st) := rfl
theorem p_store {t : TypeId} {a x : Operand} : opS P cl env (.store t a x) st = match storeV P t (opv env a) (opv env x) st with
    | some st' => some (.val (.tup []) st')
    | none => none := rfl
theorem p_nilCheck {x : Operand} : opS P cl env (.nilCheck x) st = match opv env x with
    | .box b off => some (.val (.box b off) st)
    | .ro cs => some (.val (.ro cs) st)
    | .func f first cap => some (.val (.func f first cap) st)
    | _ => none := rfl
theorem p_binOp {op : BinOp} {t u : TypeId} {x y : Operand} : opS P cl env (.binOp op t x y u) st = val? st (binOpV P op t (opv env x) (opv env y)) := rfl
theorem p_unOp {op : UnOp} {t : TypeId} {x : Operand} : opS P cl env (.unOp op t x) st = val? st (unOpV op (opv env x)) := rfl
theorem p_convert {s d : TypeId} {x : Operand} : opS P cl env (.convert s d x) st = val? st (convertV P s d (opv env x)) := rfl
theorem p_makeInterface {t : TypeId} {x : Operand} : opS P cl env (.makeInterface t x) st = match ti P t with
    | some { d := .iface, .. } => none
    | some _ => some (.val (.iface t (opv env x)) st)
    | none => none := rfl
theorem p_makeFunc {f : FuncId} {first cap : Array Operand} : opS P cl env (.makeFunc (.func f) first cap) st = some (.val (.func f (first.toList.map (opv env)) (cap.toList.map (opv env))) st) := rfl
theorem p_slice {t : TypeId} {x : Operand} {lo hi mx : Option Operand} : opS P cl env (.slice t x lo hi mx) st = val? st (sliceV P t (opv env x) (lo.map (opv env)) (hi.map (opv env)) (mx.map (opv env))) := rfl
theorem p_fieldAddr {t : TypeId} {x : Operand} {f : Nat} : opS P cl env (.fieldAddr t x f) st = val? st (fieldAddrV P t (opv env x) f) := rfl
theorem p_field {t : TypeId} {x : Operand} {f : Nat} : opS P cl env (.field t x f) st = val? st (fieldV P t (opv env x) f) := rfl
theorem p_indexAddr {t : TypeId} {x i : Operand} : opS P cl env (.indexAddr t x i) st = val? st (indexAddrV P t (opv env x) (opv env i)) := rfl
theorem p_index {t : TypeId} {x i : Operand} : opS P cl env (.index t x i) st = val? st (indexV P t (opv env x) (opv env i)) := rfl
theorem p_extract {x : Operand} {i : Nat} : opS P cl env (.extract x i) st = match opv env x with
    | .tup cs => val? st (cs[i]?)
    | _ => none := rfl
theorem p_callv {f : Operand} {args : Array Operand} {ts : Array TypeId} : opS P cl env (.call ⟨.value f, args, ts⟩) st = match opv env f with
    | .func g first cap => doCall cl g (first ++ args.toList.map (opv env) ++ cap) st
    | _ => none := rfl
theorem p_callb {b : Builtin} {args : Array Operand} {ts : Array TypeId} : opS P cl env (.call ⟨.builtin b, args, ts⟩) st = builtinV P b ts (args.toList.map (opv env)) st := rfl
theorem p_panic {x : Operand} : opS P cl env (.panic x) st = match opv env x with
    | .iface t v => some (.panic (.iface t v) st)
    | _ => none := rfl

/- the same, where the order is drawn -/
def quietR : Option Res → Option (Res × Fp)
  | some r => some (r, ⟨none, none⟩)
  | none => none
def newR (n : Nat) : Option Res → Option (Res × Fp)
  | some r => some (r, ⟨none, some ([], n)⟩)
  | none => none
theorem quiet_val {r : Res} : quietR (some r) = some (r, ⟨none, none⟩) := rfl
theorem new_val {n : Nat} {r : Res} : newR n (some r) = some (r, ⟨none, some ([], n)⟩) := rfl
theorem e_assign {x : Operand} : stepS P cl env (.assign x) st = some (.val (opv env x) st, ⟨none, none⟩) := rfl
theorem e_call {c : Call} : stepS P cl env (.call c) st = match callD P cl (opv env) c st with
    | some (r, w) => some (r, ⟨none, w⟩)
    | none => none := rfl
theorem e_load {t : TypeId} {a : Operand} : stepS P cl env (.load t a) st = match loadV P t (opv env a) st with
    | some v => some (.val v st, ⟨fpRead (opv env a), none⟩)
    | none => none := rfl
theorem e_store {t : TypeId} {a x : Operand} : stepS P cl env (.store t a x) st = match storeV P t (opv env a) (opv env x) st with
    | some st' => some (.val (.tup []) st', ⟨none, some ((fpRead (opv env a)).toList, st.length)⟩)
    | none => none := rfl
theorem e_alloc {t : TypeId} : stepS P cl env (.alloc t) st = newR st.length (opS P cl env (.alloc t) st) := by
  unfold stepS newR; simp only [stepD]; unfold opS; rfl
theorem e_box {t : TypeId} {x : Operand} : stepS P cl env (.box t x) st = newR st.length (opS P cl env (.box t x) st) := by
  unfold stepS newR; simp only [stepD]; unfold opS; rfl
theorem e_move {x : Operand} : stepS P cl env (.move x) st = quietR (opS P cl env (.move x) st) := rfl
theorem e_pick {c a b : Operand} : stepS P cl env (.pick c a b) st = quietR (opS P cl env (.pick c a b) st) := by unfold stepS quietR; simp only [stepD]; unfold opS; rfl
theorem e_build {t : TypeId} {ps : Array (Nat × Operand)} : stepS P cl env (.build t ps) st = quietR (opS P cl env (.build t ps) st) := by unfold stepS quietR; simp only [stepD]; unfold opS; rfl
theorem e_buildSlice {t : TypeId} {len : Nat} {ps : Array (Nat × Operand)} : stepS P cl env (.buildSlice t len ps) st = quietR (opS P cl env (.buildSlice t len ps) st) := by unfold stepS quietR; simp only [stepD]; unfold opS; rfl
theorem e_nilCheck {x : Operand} : stepS P cl env (.nilCheck x) st = quietR (opS P cl env (.nilCheck x) st) := by unfold stepS quietR; simp only [stepD]; unfold opS; rfl
theorem e_binOp {op : BinOp} {t u : TypeId} {x y : Operand} : stepS P cl env (.binOp op t x y u) st = quietR (opS P cl env (.binOp op t x y u) st) := by unfold stepS quietR; simp only [stepD]; unfold opS; rfl
theorem e_unOp {op : UnOp} {t : TypeId} {x : Operand} : stepS P cl env (.unOp op t x) st = quietR (opS P cl env (.unOp op t x) st) := by unfold stepS quietR; simp only [stepD]; unfold opS; rfl
theorem e_convert {s d : TypeId} {x : Operand} : stepS P cl env (.convert s d x) st = quietR (opS P cl env (.convert s d x) st) := by unfold stepS quietR; simp only [stepD]; unfold opS; rfl
theorem e_makeInterface {t : TypeId} {x : Operand} : stepS P cl env (.makeInterface t x) st = quietR (opS P cl env (.makeInterface t x) st) := by unfold stepS quietR; simp only [stepD]; unfold opS; rfl
theorem e_makeFunc {f : Fn} {first cap : Array Operand} : stepS P cl env (.makeFunc f first cap) st = quietR (opS P cl env (.makeFunc f first cap) st) := by unfold stepS quietR; simp only [stepD]; unfold opS; rfl
theorem e_slice {t : TypeId} {x : Operand} {lo hi mx : Option Operand} : stepS P cl env (.slice t x lo hi mx) st = quietR (opS P cl env (.slice t x lo hi mx) st) := by unfold stepS quietR; simp only [stepD]; unfold opS; rfl
theorem e_fieldAddr {t : TypeId} {x : Operand} {f : Nat} : stepS P cl env (.fieldAddr t x f) st = quietR (opS P cl env (.fieldAddr t x f) st) := by unfold stepS quietR; simp only [stepD]; unfold opS; rfl
theorem e_field {t : TypeId} {x : Operand} {f : Nat} : stepS P cl env (.field t x f) st = quietR (opS P cl env (.field t x f) st) := by unfold stepS quietR; simp only [stepD]; unfold opS; rfl
theorem e_indexAddr {t : TypeId} {x i : Operand} : stepS P cl env (.indexAddr t x i) st = quietR (opS P cl env (.indexAddr t x i) st) := by unfold stepS quietR; simp only [stepD]; unfold opS; rfl
theorem e_index {t : TypeId} {x i : Operand} : stepS P cl env (.index t x i) st = quietR (opS P cl env (.index t x i) st) := by unfold stepS quietR; simp only [stepD]; unfold opS; rfl
theorem e_extract {x : Operand} {i : Nat} : stepS P cl env (.extract x i) st = quietR (opS P cl env (.extract x i) st) := by unfold stepS quietR; simp only [stepD]; unfold opS; rfl
theorem e_panic {x : Operand} : stepS P cl env (.panic x) st = quietR (opS P cl env (.panic x) st) := by unfold stepS quietR; simp only [stepD]; unfold opS; rfl
end

/- rounds, by what changes in them -/
theorem i_at {P : Program} {cl : Oracle} {n : Nat} {rs : List ResultVar} {k : List Item} {env : Env} {st : St} {c : Code} {ts : List Nat} {m : Nat} {ι : Type} (meas : ι → Nat) (upd : ι → Env → Env) (S : ι → St) (F : ι → Option (Out × St)) (x0 : ι) {R : Option (Out × St)}
    (he : upd x0 env = env) (hs : S x0 = st) (hR : F x0 = R)
    (h : ∀ x, (∀ y, meas y < meas x → @mki P cl n rs ⟨.lp c ts m :: k⟩ (upd y env) (S y) = F y) → @mki P cl n rs ⟨.code c :: .again c ts m :: k⟩ (upd x env) (S x) = F x) :
    @mki P cl n rs ⟨.lp c ts m :: k⟩ env st = R := by
  have := i_inv (k := k) meas (fun x => upd x env) S F h x0
  rw [he, hs] at this
  exact this.trans hR
end Go.Abs
