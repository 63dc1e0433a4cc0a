/- Operations at the machine's own rule. -/
import Derived.Test.YtmjfninbnlhmoaaAbsReg
namespace Go.Abs
open Go

variable {P : Program} {G : Ghost} {st : St} {W : World}

theorem wp_val {o : Oper} {a : Act} {W W' : World} {next : Act → World → Prop} {Q : Exit → Act → World → Prop} {u : Value}
    (hrun : (execOp a.eval o).run P W = .ok (.value u) W') (hk : next (a.put o.dst u) W') : o.wp P a W next Q := by
  unfold Oper.wp; rw [hrun]; exact hk

theorem reps_map {env : Env} {a : Act} (he : Reps G env a.tmps.toList) : ∀ xs : List Operand, Reps G (xs.map (opv env)) (xs.map a.eval)
  | [] => rfl
  | x :: xs => ⟨_, _, rfl, opv_sound he x, reps_map he xs⟩

theorem maxInts_sound {k : IntKind} : ∀ {xs : List V} {vs : List Value} {m n : Int}, maxInts k xs m = some n → Reps G xs vs → (vs.foldlM Builtin.max2 (.int k m)).run P W = .ok (.int k n) W
  | [], _, m, n, h, hr => by simp only [maxInts, Option.some.injEq] at h; simp only [Reps] at hr; subst h; subst hr; simp
  | x :: xs, vs, m, n, h, hr => by
    obtain ⟨v, r, rfl, h1, h2⟩ := hr
    cases x <;> try (simp [maxInts] at h; done)
    case int k' q =>
      simp only [maxInts] at h
      split at h
      · rename_i hk
        subst hk
        simp only [Rep] at h1
        subst h1
        have := maxInts_sound h h2
        simp only [List.foldlM_cons, Builtin.max2, Sem.run_bind, Sem.run_pure, Result.andThen_ok]
        exact this
      · cases h
theorem minInts_sound {k : IntKind} : ∀ {xs : List V} {vs : List Value} {m n : Int}, minInts k xs m = some n → Reps G xs vs → (vs.foldlM Builtin.min2 (.int k m)).run P W = .ok (.int k n) W
  | [], _, m, n, h, hr => by simp only [minInts, Option.some.injEq] at h; simp only [Reps] at hr; subst h; subst hr; simp
  | x :: xs, vs, m, n, h, hr => by
    obtain ⟨v, r, rfl, h1, h2⟩ := hr
    cases x <;> try (simp [minInts] at h; done)
    case int k' q =>
      simp only [minInts] at h
      split at h
      · rename_i hk
        subst hk
        simp only [Rep] at h1
        subst h1
        have := minInts_sound h h2
        simp only [List.foldlM_cons, Builtin.min2, Sem.run_bind, Sem.run_pure, Result.andThen_ok]
        exact this
      · cases h

theorem builtin_sound (h : Sim G st W) {b : Builtin} {argTypes : Array TypeId} {type : TypeId} {consts : Array Bool} {args : List V} {vs : Array Value} {r : Res} (ha : Reps G args vs.toList)
    (hl : builtinV P b argTypes args st = some r) :
    ∃ u W' G' v st', r = .val v st' ∧ (builtin b argTypes type consts vs).run P W = .ok (.value u) W' ∧ Good G W G' st' W' ∧ Rep G' v u := by
  unfold builtinV at hl
  split at hl
  · -- len
    rename_i x
    obtain ⟨v0, r0, e0, h0, h1⟩ := ha
    simp only [Reps] at h1
    subst h1
    have hv : vs = #[v0] := by apply Array.ext'; simpa using e0
    subst hv
    cases ht : argTypes[0]? with
    | none => simp [ht] at hl
    | some t =>
      simp only [ht] at hl
      cases hT : ti P t with
      | none => simp [hT] at hl
      | some T =>
        obtain ⟨i, d, z, h1, h2, -, -, h3, -⟩ := ti_spec hT
        obtain ⟨D, sz, by_, ze, eq⟩ := T
        simp only at h3
        rw [hT] at hl
        cases D <;> try (cases x <;> simp at hl; done)
        case string =>
          have := dOf_string h3; subst this
          cases x <;> simp only [reduceCtorEq, Option.some.injEq] at hl
          subst hl
          obtain ⟨zs, rfl, rfl⟩ := h0
          exact ⟨.int .i64 zs.size, W, G, _, _, rfl, by simp [builtin, Builtin.len_, ht, run_underlying h2, goInt], .refl h, by simp [Rep]⟩
        case slice e =>
          have := dOf_slice h3; subst this
          cases x <;> simp only [reduceCtorEq, Option.some.injEq] at hl
          subst hl
          obtain ⟨a, cap, rfl, _⟩ := h0
          exact ⟨_, W, G, _, _, rfl, by simp [builtin, Builtin.len_, ht, run_underlying h2, goInt], .refl h, rfl⟩
        case array n e =>
          have := dOf_array h3; subst this
          have : r = .val (.int .i64 n) st := by cases x <;> simpa using hl.symm
          subst this
          exact ⟨.int .i64 n, W, G, _, _, rfl, by simp [builtin, Builtin.len_, ht, run_underlying h2, goInt], .refl h, rfl⟩
  · -- append
    rename_i s x
    obtain ⟨v0, r0, e0, h0, v1, r1, rfl, h1, hn⟩ := ha
    simp only [Reps] at hn
    subst hn
    have hv : vs = #[v0, v1] := by apply Array.ext'; simpa using e0
    subst hv
    cases ht : argTypes[0]? with
    | none => simp [ht] at hl
    | some t =>
      cases hu : argTypes[1]? with
      | none => simp [ht, hu] at hl
      | some u =>
        simp only [ht, hu] at hl
        cases hU : ti P u with
        | none => simp [hU] at hl
        | some U =>
          obtain ⟨i, d, z, k1, k2, -, -, k3, -⟩ := ti_spec hU
          obtain ⟨D, sz, by_, ze, eq⟩ := U
          simp only at k3
          rw [hU] at hl
          have hk : (∃ e', P.underlying u = some (.slice e')) ∨ P.underlying u = some .string := by
            cases D <;> try (simp at hl; done)
            · exact .inr (by rw [k2, dOf_string k3])
            · exact .inl ⟨_, by rw [k2, dOf_slice k3]⟩
          have hl' : appendV P t s x st = some r := by cases D <;> first | exact hl | (simp at hl; done)
          obtain ⟨w, W', G', v, st', q1, q2, q3, q4⟩ := append_sound (ty := type) h hk h0 h1 hl'
          refine ⟨w, W', G', v, st', q1, ?_, q3, q4⟩
          have hat : (Builtin.append_ argTypes type #[v0, v1]).run P W = (Builtin.append_ #[t, u] type #[v0, v1]).run P W := by
            simp only [Builtin.append_, ht, hu]
            rfl
          simp [builtin, hat, q2]
  · rename_i k n rest
    obtain ⟨v0, r0, e0, h0, h1⟩ := ha
    simp only [Rep] at h0
    subst h0
    simp only [Option.map_eq_some_iff] at hl
    obtain ⟨m, hm, rfl⟩ := hl
    refine ⟨.int k m, W, G, _, _, rfl, ?_, .refl h, rfl⟩
    simp only [builtin, Builtin.max_, e0, Sem.run_bind, maxInts_sound hm h1, Result.andThen_ok, Sem.run_pure]
  · rename_i k n rest
    obtain ⟨v0, r0, e0, h0, h1⟩ := ha
    simp only [Rep] at h0
    subst h0
    simp only [Option.map_eq_some_iff] at hl
    obtain ⟨m, hm, rfl⟩ := hl
    refine ⟨.int k m, W, G, _, _, rfl, ?_, .refl h, rfl⟩
    simp only [builtin, Builtin.min_, e0, Sem.run_bind, minInts_sound hm h1, Result.andThen_ok, Sem.run_pure]
  · cases hl

/- what an operation's result asks of what follows -/
def Cont (G : Ghost) (W : World) (dst : Option Tmp) (a : Act) (next : Act → World → Prop) (Q : Exit → Act → World → Prop) : Res → Prop
  | .val v st' => ∀ G' W' u, Good G W G' st' W' → Rep G' v u → next (a.put dst u) W'
  | .panic v st' => ∀ G' W' u, Good G W G' st' W' → Rep G' v u → Q (.panic [{ v := u, recovered := false }]) a W'

theorem call_wp {dst : Option Tmp} {c : Call} {type : TypeId} {pos : String} {after : Array Edge} {guard : Option (Nat × Bool)} {a : Act} {r : Res} {f : Operand} (hc : c.callee = .value f) {g : FuncId} {fs cs : Array Value}
    (hfe : a.eval f = .func (.func g) fs cs) (hd : Does P g ((fs ++ c.args.map a.eval) ++ cs) W (ResPost G W r)) {next : Act → World → Prop} {Q : Exit → Act → World → Prop} (hn : Cont G W dst a next Q r) :
    (Oper.mk dst (.call c) type pos after guard).wp P a W next Q := by
  have hrun : (execOp a.eval (Oper.mk dst (.call c) type pos after guard)).run P W = (callFunc g ((fs ++ c.args.map a.eval) ++ cs)).run P W := by
    simp only [execOp, resolve, hc, hfe, Deferred.ofValue, Sem.run_bind, Sem.run_pure, Result.andThen_ok, invoke]
  unfold Oper.wp
  rw [hrun]
  unfold Does at hd
  cases hq : (callFunc g ((fs ++ c.args.map a.eval) ++ cs)).run P W with
  | halt x w => rw [hq] at hd; exact hd.elim
  | ok n W1 =>
    rw [hq] at hd
    cases n <;> try exact hd.elim
    case value v =>
      simp only at hd
      obtain ⟨G', u, hp⟩ := hd
      cases r with
      | val x st' => obtain ⟨g1, e1, e2⟩ := hp; cases e1; exact hn G' W1 v g1 e2
      | panic x st' => obtain ⟨_, e1, _⟩ := hp; cases e1
    case enter g' as =>
      simp only at hd
      rw [Oper.upon_enter]
      refine Calls.mono hd fun e W2 ⟨G', u, hp⟩ => ?_
      cases r with
      | val x st' => obtain ⟨g1, rfl, e2⟩ := hp; exact hn G' W2 u g1 e2
      | panic x st' => obtain ⟨g1, rfl, e2⟩ := hp; exact hn G' W2 u g1 e2

theorem call_sound {cl : Oracle} (hcl : Sound P cl) {dst : Option Tmp} {c : Call} {type : TypeId} {pos : String} {after : Array Edge} {guard : Option (Nat × Bool)} {a : Act} {env : Env} {r : Res}
    (h : Sim G st W) (he : Reps G env a.tmps.toList) (hl : callOp P cl (opv env) c st = some r) {next : Act → World → Prop} {Q : Exit → Act → World → Prop} (hn : Cont G W dst a next Q r) :
    (Oper.mk dst (.call c) type pos after guard).wp P a W next Q := by
  unfold callOp at hl
  have hargs := reps_map he c.args.toList
  cases hc : c.callee with
  | invoke x m => simp [hc] at hl
  | builtin b =>
    simp only [hc] at hl
    have ha : Reps G (c.args.toList.map (opv env)) (c.args.map a.eval).toList := by simpa using hargs
    obtain ⟨u, W', G', v, st', rfl, q2, q3, q4⟩ := builtin_sound (type := type) (consts := c.args.map fun | .const _ => true | _ => false) h ha hl
    refine wp_val (u := u) (W' := W') ?_ (hn G' W' u q3 q4)
    simp only [execOp, resolve, hc, Sem.run_bind, Sem.run_pure, Result.andThen_ok, invoke]
    exact q2
  | value f =>
    simp only [hc] at hl
    have hf := opv_sound he f
    cases hfv : opv env f <;> simp only [hfv, reduceCtorEq] at hl
    case func g first cap =>
      rw [hfv] at hf
      obtain ⟨fs, cs, hfe, hfs, hcs⟩ := hf
      have hall : Reps G (first ++ c.args.toList.map (opv env) ++ cap) ((fs ++ c.args.map a.eval) ++ cs).toList := by
        have := (hfs.append hargs).append hcs
        simpa using this
      have hd := doCall_sound hcl h hall hl
      exact call_wp hc hfe hd hn

end Go.Abs
