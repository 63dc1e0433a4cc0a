/- A region that draws its order: whatever the order, what the text's order says. -/
import Derived.Test.YtpmeklllgnnffaaGreatDoorR5
set_option linter.unusedSimpArgs false
set_option linter.unusedVariables false

namespace Go.Abs
open Go
variable {P : Program} {cl : Oracle}
structure Tr1 (P : Program) (cl : Oracle) (ops : Array Oper) (l : List Oper) (EE : Nat → Env) (SS : Nat → St) (NN : Nat → Option Nat) (VV : Nat → V) (fps : List Fp) (i : Nat) : Prop where
  step : ∀ o, l[i]? = some o → ∃ fp, fps[i]? = some fp ∧ EE (i + 1) = setD (EE i) o.dst (VV i) ∧
    ((want ops (EE i) o.guard = some true ∧ stepR P cl (opv (EE i)) o (SS i) (NN i) = some (.val (VV i) (SS (i + 1)), fp)) ∨
     (want ops (EE i) o.guard = some false ∧ VV i = .tup [] ∧ SS (i + 1) = SS i ∧ fp = ⟨none, none⟩))
def TFin (P : Program) (cl : Oracle) (ops : Array Oper) (l : List Oper) (EE : Nat → Env) (SS : Nat → St) (NN : Nat → Option Nat) (fps : List Fp) (k : Nat) (p : Option V) (env' : Env) (st' : St) : Prop :=
  match p with
  | none => k = l.length ∧ fps.length = k ∧ EE k = env' ∧ SS k = st'
  | some v => fps.length = k + 1 ∧ ∃ o fp, l[k]? = some o ∧ fps[k]? = some fp ∧ want ops (EE k) o.guard = some true ∧ stepR P cl (opv (EE k)) o (SS k) (NN k) = some (.panic v st', fp) ∧ EE k = env'
def nAt : List Oper → Option Nat → Nat → Option Nat
  | _, r, 0 => r
  | [], r, _ + 1 => r
  | o :: l, r, i + 1 => nAt l (nxt o r) i
theorem trace_spec {ops : Array Oper} : ∀ {l : List Oper} {env : Env} {st : St} {p : Option V} {env' : Env} {st' : St} {fps : List Fp} {rs : Option Nat}, traceD P cl ops l env st rs = some (p, env', st', fps) →
    ∃ (EE : Nat → Env) (SS : Nat → St) (VV : Nat → V) (k : Nat), EE 0 = env ∧ SS 0 = st ∧ k ≤ l.length ∧ (∀ i, i < k → Tr1 P cl ops l EE SS (nAt l rs) VV fps i) ∧
      TFin P cl ops l EE SS (nAt l rs) fps k p env' st'
  | [], env, st, p, env', st', fps, rs, h => by
    simp only [traceD, Option.some.injEq, Prod.mk.injEq] at h
    obtain ⟨rfl, rfl, rfl, rfl⟩ := h
    exact ⟨fun _ => env, fun _ => st, fun _ => .undef, 0, rfl, rfl, Nat.le_refl _, fun i hi => by omega, rfl, rfl, rfl, rfl⟩
  | o :: rest, env, st, p, env', st', fps, rs, h => by
    have cons : ∀ {v : V} {st1 : St} {fp : Fp} {fps' : List Fp}, fps = fp :: fps' → traceD P cl ops rest (setD env o.dst v) st1 (nxt o rs) = some (p, env', st', fps') →
        ((want ops env o.guard = some true ∧ stepR P cl (opv env) o st rs = some (.val v st1, fp)) ∨ (want ops env o.guard = some false ∧ v = .tup [] ∧ st1 = st ∧ fp = ⟨none, none⟩)) →
        ∃ (EE : Nat → Env) (SS : Nat → St) (VV : Nat → V) (k : Nat), EE 0 = env ∧ SS 0 = st ∧ k ≤ (o :: rest).length ∧ (∀ i, i < k → Tr1 P cl ops (o :: rest) EE SS (nAt (o :: rest) rs) VV fps i) ∧
          TFin P cl ops (o :: rest) EE SS (nAt (o :: rest) rs) fps k p env' st' := by
      intro v st1 fp fps' hf ht hs
      obtain ⟨EE, SS, VV, k, h1, h2, h3, h4, h5⟩ := trace_spec ht
      refine ⟨fun i => match i with | 0 => env | i + 1 => EE i, fun i => match i with | 0 => st | i + 1 => SS i, fun i => match i with | 0 => v | i + 1 => VV i, k + 1, rfl, rfl, by simp; exact h3, fun i hi => ?_, ?_⟩
      · cases i with
        | zero =>
          refine ⟨fun o' ho' => ?_⟩
          simp only [List.getElem?_cons_zero, Option.some.injEq] at ho'
          subst ho'
          refine ⟨fp, by rw [hf]; rfl, h1, ?_⟩
          rcases hs with ⟨a1, a2⟩ | ⟨a1, a2, a3, a4⟩
          · exact .inl ⟨a1, by show stepR P cl (opv env) o st rs = some (.val v (SS 0), fp); rw [h2]; exact a2⟩
          · exact .inr ⟨a1, a2, by show SS 0 = st; rw [h2]; exact a3, a4⟩
        | succ i =>
          obtain ⟨hstep⟩ := h4 i (by omega)
          refine ⟨fun o' ho' => ?_⟩
          obtain ⟨fp', e1, e2, e3⟩ := hstep o' (by simpa using ho')
          exact ⟨fp', by rw [hf]; simpa using e1, e2, e3⟩
      · cases p with
        | none =>
          obtain ⟨e1, e2, e3, e4⟩ := h5
          exact ⟨by simp [e1], by rw [hf]; simp [e2], e3, e4⟩
        | some v =>
          obtain ⟨e1, o', fp', e2, e3, e4, e5, e6⟩ := h5
          exact ⟨by rw [hf]; simp [e1], o', fp', by simpa using e2, by rw [hf]; simpa using e3, e4, e5, e6⟩
    simp only [traceD] at h
    cases hw : want ops env o.guard with
    | none => simp [hw] at h
    | some b =>
      cases b with
      | true =>
        simp only [hw] at h
        cases hs : stepR P cl (opv env) o st rs with
        | none => simp [hs] at h
        | some q =>
          obtain ⟨r, fp⟩ := q
          cases r with
          | val v st1 =>
            simp only [hs] at h
            cases ht : traceD P cl ops rest (setD env o.dst v) st1 (nxt o rs) with
            | none => simp [ht] at h
            | some q =>
              obtain ⟨p', e', s', f'⟩ := q
              simp only [ht, Option.some.injEq, Prod.mk.injEq] at h
              obtain ⟨rfl, rfl, rfl, rfl⟩ := h
              exact cons rfl ht (.inl ⟨hw, hs⟩)
          | panic v st1 =>
            simp only [hs, Option.some.injEq, Prod.mk.injEq] at h
            obtain ⟨rfl, rfl, rfl, rfl⟩ := h
            exact ⟨fun _ => env, fun _ => st, fun _ => .undef, 0, rfl, rfl, Nat.zero_le _, fun i hi => by omega, rfl, o, fp, rfl, rfl, hw, hs, rfl⟩
      | false =>
        simp only [hw] at h
        cases ht : traceD P cl ops rest (setD env o.dst (.tup [])) st (nxt o rs) with
        | none => simp [ht] at h
        | some q =>
          obtain ⟨p', e', s', f'⟩ := q
          simp only [ht, Option.some.injEq, Prod.mk.injEq] at h
          obtain ⟨rfl, rfl, rfl, rfl⟩ := h
          exact cons rfl ht (.inr ⟨hw, rfl, rfl, rfl⟩)
def DClosed (ops : Array Oper) (D : Nat → Prop) : Prop := ∀ j, D j → ∀ e ∈ edges ops j, D e
theorem ordF_closed {ops : Array Oper} {D : Nat → Prop} (hD : DClosed ops D) : ∀ {k i j : Nat}, ordF ops k i j = true → D j → D i
  | 0, i, j, h, _ => by simp [ordF] at h
  | k + 1, i, j, h, hj => by
    simp only [ordF, List.any_eq_true, Bool.or_eq_true, beq_iff_eq] at h
    obtain ⟨e, he, h⟩ := h
    have hde := hD j hj e he
    rcases h with rfl | h
    · exact hde
    · exact ordF_closed hD h hde
theorem ordF_pred {ops : Array Oper} {D : Nat → Prop} (hD : DClosed ops D) {k i j : Nat} (h : ordF ops k i j = true) (hj : ∀ e ∈ edges ops j, D e) : D i := by
  cases k with
  | zero => simp [ordF] at h
  | succ k =>
    simp only [ordF, List.any_eq_true, Bool.or_eq_true, beq_iff_eq] at h
    obtain ⟨e, he, h⟩ := h
    rcases h with rfl | h
    · exact hj _ he
    · exact ordF_closed hD h (hj e he)
theorem ordF_lt {ops : Array Oper} (he : ∀ j, j < ops.size → ∀ e ∈ edges ops j, e < j) : ∀ {k i j : Nat}, ordF ops k i j = true → j < ops.size → i < j
  | 0, i, j, h, _ => by simp [ordF] at h
  | k + 1, i, j, h, hj => by
    simp only [ordF, List.any_eq_true, Bool.or_eq_true, beq_iff_eq] at h
    obtain ⟨e, hm, h⟩ := h
    have h1 := he j hj e hm
    rcases h with rfl | h
    · exact h1
    · have := ordF_lt he h (by omega); omega
structure DrawOk (ops : Array Oper) : Prop where
  edge : ∀ j, j < ops.size → ∀ e ∈ edges ops j, e < j
  look : ∀ i j, i < ops.size → j < ops.size → i ≠ j → looksB ops i j = true → ordB ops i j = true ∨ ordB ops j i = true
theorem drawOk_spec {ops : Array Oper} (h : drawOk ops = true) : DrawOk ops := by
  simp only [drawOk, Bool.and_eq_true] at h
  obtain ⟨⟨_, h2⟩, h3⟩ := h
  rw [List.all_eq_true] at h2 h3
  refine ⟨fun j hj e he => ?_, fun i j hi hj hne hl => ?_⟩
  · have := List.all_eq_true.1 (h2 j (by simpa using hj)) e he
    simpa using this
  · have := List.all_eq_true.1 (h3 i (by simpa using hi)) j (by simpa using hj)
    simp only [Bool.or_eq_true, beq_iff_eq, hne, false_or, Bool.not_eq_true', hl, Bool.true_eq_false] at this
    exact this
theorem fpsOk_spec {ops : Array Oper} {fps : List Fp} (h : fpsOk ops fps = true) {i j : Nat} {a b : Fp} (hi : fps[i]? = some a) (hj : fps[j]? = some b) (hne : i ≠ j) (hc : clash a b = true) :
    ordB ops i j = true ∨ ordB ops j i = true := by
  unfold fpsOk at h
  rw [List.all_eq_true] at h
  have h1 := h (a, i) (by rw [List.mem_zipIdx_iff_getElem?]; exact hi)
  have h2 := List.all_eq_true.1 h1 (b, j) (by rw [List.mem_zipIdx_iff_getElem?]; exact hj)
  simp only [Bool.or_eq_true, beq_iff_eq, hne, false_or, Bool.not_eq_true', hc, Bool.true_eq_false] at h2
  exact h2
theorem panicOk_spec {ops : Array Oper} {env : Env} {m : Nat} {fps : List Fp} (h : panicOk P ops env m fps = true) :
    (∀ j, j < ops.size → m < j → ordB ops m j = true ∨ safeOp P ops env j = true) ∧ ∀ j b, fps[j]? = some b → b.writes.isSome = true → j ≠ m → ordB ops j m = true := by
  unfold panicOk at h
  rw [Bool.and_eq_true] at h
  obtain ⟨h1, h2⟩ := h
  refine ⟨fun j hj hm => ?_, fun j b hb hw hne => ?_⟩
  · have := List.all_eq_true.1 h1 j (by simpa using hj)
    simp only [Bool.or_eq_true, decide_eq_true_eq, or_assoc] at this
    exact this.resolve_left (by omega)
  · have := List.all_eq_true.1 h2 (b, j) (by rw [List.mem_zipIdx_iff_getElem?]; exact hb)
    simp only [Bool.or_eq_true, beq_iff_eq, hne, or_false] at this
    rcases this with h | h
    · rw [Option.isNone_iff_eq_none] at h; rw [h] at hw; cases hw
    · exact h
theorem safeOp_spec {ops : Array Oper} {env : Env} {j : Nat} (h : safeOp P ops env j = true) : ∃ o t x f v, ops[j]? = some o ∧ o.op = .fieldAddr t (.tmp x) f ∧ o.guard = none ∧ fieldAddrV P t (opv env (.tmp x)) f = some v ∧
    ∀ (i : Nat) (o' : Oper), ops[i]? = some o' → o'.dst ≠ some x := by
  unfold safeOp at h
  cases ho : ops[j]? with
  | none => rw [ho] at h; cases h
  | some o =>
    rw [ho] at h
    simp only at h
    split at h
    · rename_i t x f h1 h2
      rw [Bool.and_eq_true] at h
      obtain ⟨v, hv⟩ := Option.isSome_iff_exists.1 h.1
      refine ⟨o, t, x, f, v, rfl, h1, h2, hv, fun i o' hi => ?_⟩
      have := (Array.all_eq_true.1 h.2) i (Array.getElem?_eq_some_iff.1 hi).1
      rw [(Array.getElem?_eq_some_iff.1 hi).2] at this
      simpa using this
    · cases h
theorem set_get {st : St} {b b' : Nat} {c : List V} (h : b' ≠ b) : (st.set b c)[b']? = st[b']? := List.getElem?_set_ne (Ne.symm h)
theorem app_get {st s : St} {b : Nat} (h : b < st.length) : (st ++ s)[b]? = st[b]? := List.getElem?_append_left h
theorem adopt_app (v : V) (st : St) : ∃ s, (adopt v st).2 = st ++ s := by
  cases v with
  | slice o xs =>
    cases o with
    | full => exact ⟨_, rfl⟩
    | _ => exact ⟨[], (List.append_nil _).symm⟩
  | agg cs => exact ⟨_, rfl⟩
  | _ => exact ⟨[], (List.append_nil _).symm⟩
theorem adoptZ_app (v : V) (st : St) : ∃ s, (adoptZ v st).2 = st ++ s := by
  cases v with
  | agg cs =>
    simp only [adoptZ]
    split
    · exact ⟨[], (List.append_nil _).symm⟩
    · exact adopt_app _ st
  | _ => exact adopt_app _ st
theorem append_fp {t : TypeId} {s x : V} {st : St} {r : Res} (h : appendV P t s x st = some r) :
    ∃ v st', r = .val v st' ∧ ∃ T, appFp st [s, x] = some (T, st.length) ∧ ∀ b, b ∉ T → b < st.length → st'[b]? = st[b]? := by
  unfold appendV at h
  cases hT : ti P t with
  | none => simp [hT] at h
  | some T =>
    obtain ⟨D, sz, by_, ze, eq⟩ := T
    rw [hT] at h
    cases D <;> try (cases s <;> simp at h; done)
    case slice e =>
      cases s <;> try (simp at h; done)
      case slice o xs =>
        simp only at h
        cases hE : ti P e with
        | none => simp [hE] at h
        | some E =>
          simp only [hE] at h
          cases hz : appElems E x with
          | none => simp [hz] at h
          | some zs =>
            simp only [hz] at h
            split at h
            · cases o with
              | froz =>
                simp only at h
                split at h
                · simp only [Option.some.injEq] at h
                  exact ⟨_, _, h.symm, [], rfl, fun b _ _ => rfl⟩
                · cases h
              | full => simp only [Option.some.injEq] at h; exact ⟨_, _, h.symm, [], rfl, fun b _ hb => app_get hb⟩
              | own k =>
                simp only at h
                split at h
                · simp only [Option.some.injEq] at h
                  exact ⟨_, _, h.symm, [k], rfl, fun b hb _ => set_get (by simpa using hb)⟩
                · cases h
            · cases h
theorem writeBack_other (ρ : Nat → Nat) : ∀ (R : List Nat) (cs st : St) (b : Nat), b ∉ R → (writeBack ρ R cs st)[b]? = st[b]?
  | [], _, _, _, _ => by simp [writeBack]
  | r :: R, [], _, _, _ => by simp [writeBack]
  | r :: R, c :: cs, st, b, h => by
    simp only [List.mem_cons, not_or] at h
    simp only [writeBack]
    rw [writeBack_other ρ R cs _ b h.2, set_get h.1]
theorem writeBack_length (ρ : Nat → Nat) : ∀ (R : List Nat) (cs st : St), (writeBack ρ R cs st).length = st.length
  | [], _, _ => by simp [writeBack]
  | r :: R, [], _ => by simp [writeBack]
  | r :: R, c :: cs, st => by simp only [writeBack]; rw [writeBack_length ρ R cs]; simp
theorem doCall_fp {g : FuncId} {args : List V} {st : St} {r : Nat} {rs : List Nat} {q : Res} (hr : refsL (frzL args) = r :: rs) (h : doCall cl g args st = some q) :
    ∀ b, b ∉ reach st reachFuel (r :: rs) [] → b < st.length → (match q with | .val _ s => s | .panic _ s => s)[b]? = st[b]? := by
  unfold doCall at h
  simp only at h
  rw [hr] at h
  simp only at h
  generalize reach st reachFuel (r :: rs) [] = R at h
  intro b hb hlt
  split at h
  · split at h
    · split at h
      · cases h; simp only; rw [app_get (by rw [writeBack_length]; exact hlt), writeBack_other _ _ _ _ _ hb]
      · cases h
    · split at h
      · cases h; simp only; rw [app_get (by rw [writeBack_length]; exact hlt), writeBack_other _ _ _ _ _ hb]
      · cases h
    · cases h
  · cases h
end Go.Abs
namespace Go.Abs
open Go
variable {P : Program} {cl : Oracle}
def quietOp : Op → Bool
  | .assign _ => false
  | .call _ => false
  | .load _ _ => false
  | .store _ _ _ => false
  | .alloc _ => false
  | .box _ _ => false
  | .convert _ _ _ => false
  | .makeSlice _ _ _ => false
  | _ => true
def asRes (st : St) : Option (V × Bool) → Option Res
  | some (v, true) => some (.panic v st)
  | some (v, false) => some (.val v st)
  | none => none
def unRes : Option Res → Option (V × Bool)
  | some (.val v _) => some (v, false)
  | some (.panic v _) => some (v, true)
  | none => none
theorem val_as (st : St) (x : Option V) : val? st x = asRes st (unRes (val? [] x)) := by cases x <;> rfl
theorem opStep_quiet {ev : Operand → V} {o : Oper} (hk : quietOp o.op = true) (st : St) : opStep P cl ev o st = asRes st (unRes (opStep P cl ev o [])) := by
  obtain ⟨dst, op, type, pos, after, guard⟩ := o
  cases op <;> simp only [quietOp, Bool.false_eq_true] at hk <;> simp only [opStep]
  case pick c a b => cases ev c <;> rfl
  case nilCheck x => cases ev x <;> rfl
  case makeInterface t x =>
    cases hT : ti P t with
    | none => rfl
    | some T => obtain ⟨D, a, b, c, d⟩ := T; cases D <;> rfl
  case makeFunc fn first cap => cases fn <;> rfl
  case extract x i =>
    cases ev x <;> try rfl
    exact val_as _ _
  case panic x => cases ev x <;> rfl
  all_goals first | rfl | exact val_as _ _
theorem stepD_quiet {ev : Operand → V} {o : Oper} (hk : quietOp o.op = true) (st : St) :
    stepD P cl ev o st = (asRes st (unRes (opStep P cl ev o []))).map fun r => (r, ⟨none, none⟩) := by
  have := opStep_quiet (P := P) (cl := cl) (ev := ev) hk st
  obtain ⟨dst, op, type, pos, after, guard⟩ := o
  cases op <;> simp only [quietOp, Bool.false_eq_true] at hk <;> simp only [stepD] <;> rw [this] <;>
    cases asRes st (unRes (opStep P cl ev _ [])) <;> rfl
theorem stepD_writes {ev : Operand → V} {o : Oper} {st : St} {v : V} {st' : St} {fp : Fp} (h : stepD P cl ev o st = some (.val v st', fp)) :
    (fp.writes = none → st' = st) ∧ ∀ T n, fp.writes = some (T, n) → n = st.length ∧ ∀ b, b ∉ T → b < n → st'[b]? = st[b]? := by
  have fin : fp = ⟨none, none⟩ ∧ st' = st → (fp.writes = none → st' = st) ∧ ∀ T n, fp.writes = some (T, n) → n = st.length ∧ ∀ b, b ∉ T → b < n → st'[b]? = st[b]? := by
    rintro ⟨rfl, rfl⟩; exact ⟨fun _ => rfl, fun T n e => by cases e⟩
  by_cases hk : quietOp o.op = true
  · rw [stepD_quiet hk] at h
    refine fin ?_
    cases hq : unRes (opStep P cl ev o []) with
    | none => simp [hq, asRes] at h
    | some q =>
      obtain ⟨w, b⟩ := q
      cases b <;> simp [hq, asRes] at h
      exact ⟨h.2.symm, h.1.2.symm⟩
  obtain ⟨dst, op, type, pos, after, guard⟩ := o
  cases op <;> simp only [quietOp, not_true_eq_false] at hk <;> simp only [stepD] at h
  case assign x => simp only [Option.some.injEq, Prod.mk.injEq, Res.val.injEq] at h; exact fin ⟨h.2.symm, h.1.2.symm⟩
  case load t a =>
    split at h
    · simp only [Option.some.injEq, Prod.mk.injEq, Res.val.injEq] at h
      obtain ⟨⟨_, rfl⟩, rfl⟩ := h
      exact ⟨fun _ => rfl, fun T n e => by cases e⟩
    · cases h
  case store t a x =>
    split at h
    · rename_i s hs
      simp only [Option.some.injEq, Prod.mk.injEq, Res.val.injEq] at h
      obtain ⟨⟨_, rfl⟩, rfl⟩ := h
      refine ⟨fun e => (by cases e), fun T n e => ?_⟩
      cases e
      refine ⟨rfl, fun b hb hlt => ?_⟩
      unfold storeV storeW at hs
      cases ha : ev a <;> simp only [ha, reduceCtorEq] at hs
      case box k off =>
        cases hT : ti P t with
        | none => simp [hT] at hs
        | some T =>
          cases hk : st[k]? with
          | none => simp [hT, hk] at hs
          | some cs =>
            simp only [hT, hk] at hs
            split at hs
            · split at hs
              · simp only [Option.some.injEq] at hs
                subst hs
                rw [ha] at hb
                obtain ⟨s', hs'⟩ := adopt_app (iceT t (ev x)) st
                rw [set_get (by simpa [fpRead] using hb), hs', app_get hlt]
              · cases hs
            · cases hs
    · cases h
  case alloc t =>
    split at h
    · rename_i r hr
      simp only [Option.some.injEq, Prod.mk.injEq] at h
      obtain ⟨rfl, rfl⟩ := h
      refine ⟨fun e => (by cases e), fun T n e => ?_⟩
      cases e
      refine ⟨rfl, fun b _ hlt => ?_⟩
      simp only [opStep] at hr
      cases hT : ti P t with
      | none => simp [hT] at hr
      | some T =>
        simp only [hT] at hr
        split at hr
        · simp only [Option.some.injEq, Res.val.injEq] at hr
          obtain ⟨_, rfl⟩ := hr
          obtain ⟨s', hs'⟩ := adoptZ_app T.zero st
          rw [hs', List.append_assoc, app_get hlt]
        · cases hr
    · cases h
  case box t x =>
    split at h
    · rename_i r hr
      simp only [Option.some.injEq, Prod.mk.injEq] at h
      obtain ⟨rfl, rfl⟩ := h
      refine ⟨fun e => (by cases e), fun T n e => ?_⟩
      cases e
      refine ⟨rfl, fun b _ hlt => ?_⟩
      simp only [opStep] at hr
      split at hr
      · split at hr
        · simp only [Option.some.injEq, Res.val.injEq] at hr
          obtain ⟨_, rfl⟩ := hr
          exact app_get hlt
        · cases hr
      · cases hr
    · cases h
  case convert s d x =>
    split at h
    · simp only [Option.some.injEq, Prod.mk.injEq, Res.val.injEq] at h
      obtain ⟨⟨_, rfl⟩, rfl⟩ := h
      exact ⟨fun _ => rfl, fun T n e => by cases e⟩
    · cases h
  case makeSlice t l c =>
    split at h
    · rename_i r hr
      simp only [Option.some.injEq, Prod.mk.injEq] at h
      obtain ⟨rfl, rfl⟩ := h
      refine ⟨fun e => (by cases e), fun T n e => ?_⟩
      cases e
      refine ⟨rfl, fun b _ hlt => ?_⟩
      simp only [opStep] at hr
      split at hr
      · rename_i v s hm
        simp only [Option.some.injEq, Res.val.injEq] at hr
        obtain ⟨_, rfl⟩ := hr
        unfold makeSliceV at hm
        split at hm
        · split at hm
          · split at hm
            · simp only [Option.some.injEq, Prod.mk.injEq] at hm
              obtain ⟨_, rfl⟩ := hm
              exact app_get hlt
            · cases hm
          · cases hm
        · cases hm
      · cases hr
    · cases h
  case call c =>
    split at h
    · rename_i r w hr
      simp only [Option.some.injEq, Prod.mk.injEq] at h
      obtain ⟨rfl, rfl⟩ := h
      unfold callD at hr
      split at hr
      · split at hr
        · split at hr
          · split at hr
            · split at hr
              · simp only [Option.some.injEq, Prod.mk.injEq, Res.val.injEq] at hr
                obtain ⟨⟨_, rfl⟩, rfl⟩ := hr
                exact ⟨fun _ => rfl, fun T n e => by cases e⟩
              · cases hr
            · simp at hr
            · cases hr
          · rename_i r0 rs hrefs
            split at hr
            · rename_i q hq
              simp only [Option.some.injEq, Prod.mk.injEq] at hr
              obtain ⟨rfl, rfl⟩ := hr
              refine ⟨fun e => (by cases e), fun T n e => ?_⟩
              cases e
              exact ⟨rfl, doCall_fp hrefs hq⟩
            · cases hr
        · cases hr
      · rename_i b
        split at hr
        · rename_i q hq
          simp only [Option.some.injEq, Prod.mk.injEq] at hr
          obtain ⟨rfl, rfl⟩ := hr
          unfold builtinV at hq
          split at hq
          · have : st' = st := by
              split at hq
              · split at hq <;> simp only [Option.some.injEq, Res.val.injEq, reduceCtorEq] at hq <;> exact hq.2.symm
              · cases hq
            exact ⟨fun _ => this, fun T n e => by cases e⟩
          · rename_i s x hargs
            have hap : ∃ t, appendV P t s x st = some (.val v st') := by
              split at hq
              · split at hq
                · exact ⟨_, hq⟩
                · exact ⟨_, hq⟩
                · cases hq
              · cases hq
            obtain ⟨t, hap⟩ := hap
            obtain ⟨v', s', e, T, h1, h2⟩ := append_fp hap
            cases e
            rw [hargs]
            simp only
            rw [h1]
            exact ⟨fun e => (by cases e), fun T' n e => by cases e; exact ⟨rfl, h2⟩⟩
          · simp only [Option.map_eq_some_iff, Res.val.injEq] at hq
            obtain ⟨_, _, _, rfl⟩ := hq
            exact ⟨fun _ => rfl, fun T n e => by cases e⟩
          · simp only [Option.map_eq_some_iff, Res.val.injEq] at hq
            obtain ⟨_, _, _, rfl⟩ := hq
            exact ⟨fun _ => rfl, fun T n e => by cases e⟩
          · cases hq
        · cases hr
      · cases hr
    · cases h
def reSt (st : St) : Res → Res
  | .val v _ => .val v st
  | .panic v _ => .panic v st
theorem stepD_same {ev : Operand → V} {o : Oper} {st : St} {r : Res} {fp : Fp} (h : stepD P cl ev o st = some (r, fp)) (hw : fp.writes = none) {st2 : St}
    (hr : ∀ b, fp.reads = some b → st2[b]? = st[b]?) :
    stepD P cl ev o st2 = some (reSt st2 r, fp) := by
  by_cases hk : quietOp o.op = true
  · rw [stepD_quiet hk] at h ⊢
    cases hq : unRes (opStep P cl ev o []) with
    | none => simp [hq, asRes] at h
    | some q =>
      obtain ⟨w, b⟩ := q
      cases b <;> simp [hq, asRes] at h <;> obtain ⟨rfl, rfl⟩ := h <;> rfl
  obtain ⟨dst, op, type, pos, after, guard⟩ := o
  cases op <;> simp only [quietOp, not_true_eq_false] at hk <;> simp only [stepD] at h ⊢
  case assign x => simp only [Option.some.injEq, Prod.mk.injEq] at h; obtain ⟨rfl, rfl⟩ := h; rfl
  case load t a =>
    cases hl : loadV P t (ev a) st with
    | none => simp [hl] at h
    | some v =>
      simp only [hl, Option.some.injEq, Prod.mk.injEq] at h
      obtain ⟨rfl, rfl⟩ := h
      have : loadV P t (ev a) st2 = some v := by
        rw [← hl]
        unfold loadV
        have hc : cellsAt st2 (ev a) = cellsAt st (ev a) := by
          cases hv : ev a <;> try rfl
          case box b off =>
            have := hr b (by simp [hv, fpRead])
            simp only [cellsAt, this]
        rw [hc]
      rw [this]
      rfl
  case store t a x => split at h <;> simp only [Option.some.injEq, Prod.mk.injEq, reduceCtorEq] at h; obtain ⟨_, rfl⟩ := h; cases hw
  case convert s d x =>
    cases hl : convV P s d (ev x) st with
    | none => simp [hl] at h
    | some v =>
      simp only [hl, Option.some.injEq, Prod.mk.injEq] at h
      obtain ⟨rfl, rfl⟩ := h
      have : convV P s d (ev x) st2 = some v := by
        rw [← hl]
        cases hv : ev x <;> try rfl
        case win b off n =>
          have := hr b (by simp [hv, fpRead])
          simp only [convV, winStr, this]
      rw [this]
      rfl
  case makeSlice t l c => split at h <;> simp only [Option.some.injEq, Prod.mk.injEq, reduceCtorEq] at h; obtain ⟨_, rfl⟩ := h; cases hw
  case alloc t => split at h <;> simp only [Option.some.injEq, Prod.mk.injEq, reduceCtorEq] at h; obtain ⟨_, rfl⟩ := h; cases hw
  case box t x => split at h <;> simp only [Option.some.injEq, Prod.mk.injEq, reduceCtorEq] at h; obtain ⟨_, rfl⟩ := h; cases hw
  case call c =>
    split at h
    · rename_i r' w hc
      simp only [Option.some.injEq, Prod.mk.injEq] at h
      obtain ⟨rfl, rfl⟩ := h
      simp only at hw
      subst hw
      have key : callD P cl ev c st2 = some (reSt st2 r', none) := by
        unfold callD at hc ⊢
        cases hcal : c.callee with
        | invoke x m => simp [hcal] at hc
        | value f =>
          simp only [hcal] at hc ⊢
          cases hf : ev f <;> simp only [hf, reduceCtorEq] at hc ⊢
          case func g first cap =>
            cases hrefs : refsL (frzL (first ++ c.args.toList.map ev ++ cap)) with
            | nil =>
              rw [hrefs] at hc
              simp only at hc ⊢
              split at hc
              · split at hc
                · rename_i hcl hemp
                  simp only [Option.some.injEq, Prod.mk.injEq] at hc
                  obtain ⟨rfl, _⟩ := hc
                  simp only [hemp, if_true]
                  rfl
                · cases hc
              · rename_i hcl
                simp only [Option.some.injEq, Prod.mk.injEq] at hc
                obtain ⟨rfl, _⟩ := hc
                rfl
              · cases hc
            | cons r0 rs =>
              rw [hrefs] at hc
              simp only at hc
              split at hc
              · simp only [Option.some.injEq, Prod.mk.injEq, reduceCtorEq, and_false] at hc
              · cases hc
        | builtin b =>
          simp only [hcal] at hc ⊢
          cases hb : builtinV P b c.argTypes (c.args.toList.map ev) st with
          | none => simp [hb] at hc
          | some q =>
            simp only [hb, Option.some.injEq, Prod.mk.injEq] at hc
            obtain ⟨rfl, hw⟩ := hc
            have hne : b ≠ .append := by
              rintro rfl
              simp only at hw
              unfold appFp at hw
              split at hw <;> cases hw
            have : builtinV P b c.argTypes (c.args.toList.map ev) st2 = some (reSt st2 q) := by
              unfold builtinV at hb ⊢
              split at hb
              · split at hb
                · rename_i t ht
                  split at hb
                  · rename_i h1; cases hb; rfl
                  · rename_i h1; cases hb; rfl
                  · rename_i h1; cases hb; rfl
                  · rename_i h1; cases hb; rfl
                  · cases hb
                · cases hb
              · exact absurd rfl hne
              · simp only [Option.map_eq_some_iff] at hb ⊢
                obtain ⟨m, hm, rfl⟩ := hb
                exact ⟨m, hm, rfl⟩
              · simp only [Option.map_eq_some_iff] at hb ⊢
                obtain ⟨m, hm, rfl⟩ := hb
                exact ⟨m, hm, rfl⟩
              · cases hb
            rw [this]
            simp only
      rw [key]
    · cases h
end Go.Abs
namespace Go.Abs
open Go
variable {P : Program} {cl : Oracle} {G : Ghost} {st : St} {W : World}
theorem Good.pure (h : Sim G st W) {G1 : Ghost} {st1 : St} {W1 : World} (g : Good (G.sub []) W G1 st1 W1) :
    Good G W ⟨G1.imm, G.box, G.hdr, G.res, G.fix⟩ st W1 := by
  have nt : ∀ B, ¬ TB (G.sub []) B := fun B t => by
    rcases t with ⟨j, hj⟩ | ⟨j, d, hd, _⟩
    · obtain ⟨b, e, _⟩ := sub_box hj; simp at e
    · obtain ⟨b, e, _⟩ := sub_hdr hd; simp at e
  have le : Le G ⟨G1.imm, G.box, G.hdr, G.res, G.fix⟩ := ⟨g.ext.imm, fun _ _ e => e, fun _ d e => ⟨d, e, .refl d⟩⟩
  refine mkGood h ⟨g.sim.imm, h.dom, fun b B hb => ?_, h.inj, fun b d hd => ?_, h.tinj, baseOk_mono g.ext.imm h.base, h.res⟩
    ⟨g.ext.imm, g.ext.size, fun B hB _ => g.ext.keep B hB (nt B), fun B hB _ o => g.ext.immK B hB (nt B) o, fun B _ t => t, g.ext.env, rfl⟩ le (fun _ h => h)
  · obtain ⟨⟨cs, c, T, h1, h2, h3⟩, h4⟩ := h.box b B hb
    have hB := (h.lt_box hb).2
    exact ⟨⟨cs, c, T, h1, by rw [g.ext.keep B hB (nt B)]; exact h2, h3.le le⟩, fun o => by
      show G1.imm B o = none
      rw [g.ext.immK B hB (nt B) o]; exact h4 o⟩
  · have t := h.tip b d hd
    refine ⟨t.st, t.nobox, t.le, t.none, t.pos, fun r => ?_⟩
    obtain ⟨B, c, T, k1, k2, k3, k4, k5⟩ := t.room r
    have hB : B < W.heap.size := (Array.getElem?_eq_some_iff.1 k2).1
    exact ⟨B, c, T, k1, by rw [g.ext.keep B hB (nt B)]; exact k2, k3, fun o ho => by
      show G1.imm B o = none
      rw [g.ext.immK B hB (nt B) o]; exact k4 o ho, k5⟩
theorem stepD_op {ev : Operand → V} {o : Oper} {st : St} {r : Res} {fp : Fp} (h : stepD P cl ev o st = some (r, fp)) (h1 : ∀ x, o.op ≠ .assign x) (h2 : ∀ c, o.op ≠ .call c) :
    opStep P cl ev o st = some r := by
  obtain ⟨dst, op, type, pos, after, guard⟩ := o
  cases op <;> simp only [stepD] at h
  case assign x => exact absurd rfl (h1 x)
  case call c => exact absurd rfl (h2 c)
  case load t a =>
    simp only [opStep]
    cases hl : loadV P t (ev a) st with
    | none => simp [hl] at h
    | some v => simp only [hl, Option.some.injEq, Prod.mk.injEq] at h; rw [← h.1]; rfl
  case convert s d x =>
    simp only [opStep]
    cases hl : convV P s d (ev x) st with
    | none => simp [hl] at h
    | some v => simp only [hl, Option.some.injEq, Prod.mk.injEq] at h; rw [← h.1]; rfl
  case store t a x =>
    simp only [opStep]
    cases hl : storeV P t (ev a) (ev x) st with
    | none => simp [hl] at h
    | some v => simp only [hl, Option.some.injEq, Prod.mk.injEq] at h; rw [← h.1]
  all_goals
    cases hr : opStep P cl ev ⟨dst, _, type, pos, after, guard⟩ st with
    | none => rw [hr] at h; cases h
    | some q => rw [hr] at h; simp only [Option.some.injEq, Prod.mk.injEq] at h; rw [← h.1]
theorem stepD_sound (hcl : Sound P cl) {o : Oper} {a : Act} {env : Env} {r : Res} {fp : Fp} (h : Sim G st W) (he : Reps G env a.tmps.toList)
    (hl : stepD P cl (opv env) o st = some (r, fp)) {next : Act → World → Prop} {Q : Exit → Act → World → Prop} (hn : Cont G W o.dst a next Q r) : o.wp P a W next Q := by
  by_cases h1 : ∃ x, o.op = .assign x
  · obtain ⟨dst, op, type, pos, after, guard⟩ := o
    obtain ⟨x, rfl⟩ := h1
    simp only [stepD, Option.some.injEq, Prod.mk.injEq] at hl
    obtain ⟨rfl, _⟩ := hl
    exact wp_val (W' := W) (by simp [execOp]) (hn G W _ (.refl h) (opv_sound he x))
  by_cases h2 : ∃ c, o.op = .call c
  · obtain ⟨dst, op, type, pos, after, guard⟩ := o
    obtain ⟨c, rfl⟩ := h2
    simp only [stepD] at hl
    cases hc : callD P cl (opv env) c st with
    | none => simp [hc] at hl
    | some q =>
      obtain ⟨r', w⟩ := q
      simp only [hc, Option.some.injEq, Prod.mk.injEq] at hl
      obtain ⟨rfl, _⟩ := hl
      unfold callD at hc
      have hargs := reps_map he c.args.toList
      cases hcal : c.callee with
      | invoke x m => simp [hcal] at hc
      | builtin b =>
        simp only [hcal] at hc
        cases hb : builtinV P b c.argTypes (c.args.toList.map (opv env)) st with
        | none => simp [hb] at hc
        | some q =>
          simp only [hb, Option.some.injEq, Prod.mk.injEq] at hc
          obtain ⟨rfl, _⟩ := hc
          exact call_sound hcl h he (by unfold callOp; simp only [hcal]; exact hb) hn
      | value f =>
        simp only [hcal] at hc
        have hf := opv_sound he f
        cases hfv : opv env f <;> simp only [hfv, reduceCtorEq] at hc
        case func g first cap =>
          rw [hfv] at hf
          obtain ⟨fs, cs, hfe, hfs, hcs⟩ := hf
          have hall : Reps G (first ++ c.args.toList.map (opv env) ++ cap) ((fs ++ c.args.map a.eval) ++ cs).toList := by
            have := (hfs.append hargs).append hcs
            simpa using this
          refine call_wp hcal hfe ?_ hn
          cases hrefs : refsL (frzL (first ++ c.args.toList.map (opv env) ++ cap)) with
          | cons r0 rs =>
            rw [hrefs] at hc
            simp only at hc
            cases hdc : doCall cl g (first ++ c.args.toList.map (opv env) ++ cap) st with
            | none => rw [hdc] at hc; cases hc
            | some q =>
              simp only [hdc, Option.some.injEq, Prod.mk.injEq] at hc
              obtain ⟨rfl, _⟩ := hc
              exact doCall_sound hcl h hall hdc
          | nil =>
            rw [hrefs] at hc
            simp only at hc
            have hs0 : Sim (G.sub []) (subSt st []) W := h.sub (closed_nil st)
            have hr0 : Reps (G.sub []) (frzL (first ++ c.args.toList.map (opv env) ++ cap)) ((fs ++ c.args.map a.eval) ++ cs).toList := by
              have := Reps.tr (G := G) (G' := G.sub []) (ρ := id) _ _ ⟨fun _ _ _ e => e, by rw [hrefs]; simp, by rw [hrefs]; simp⟩ (Reps.frz _ _ hall)
              rwa [renL_id id _ (fun _ _ => rfl)] at this
            cases hq : cl g (frzL (first ++ c.args.toList.map (opv env) ++ cap)) [] with
            | none => rw [hq] at hc; cases hc
            | some p =>
              obtain ⟨out, st1⟩ := p
              have hdoes := hcl g _ [] out st1 hq (G.sub []) W _ hs0 hr0
              cases out with
              | ret v =>
                simp only [hq] at hc
                split at hc
                · rename_i hemp
                  simp only [Option.some.injEq, Prod.mk.injEq] at hc
                  obtain ⟨rfl, _⟩ := hc
                  refine hdoes.mono fun e W1 ⟨G1, u, g1, e1, e2⟩ => ?_
                  exact ⟨⟨G1.imm, G.box, G.hdr, G.res, G.fix⟩, u, Good.pure h g1, e1, Rep.pure (G := G1) (fun _ _ _ e => e) (by simpa using hemp) (Rep.frz _ _ e2)⟩
                · cases hc
              | panic v =>
                cases st1 with
                | cons c cs => rw [hq] at hc; cases hc
                | nil =>
                  simp only [hq, Option.some.injEq, Prod.mk.injEq] at hc
                  obtain ⟨rfl, _⟩ := hc
                  refine hdoes.mono fun e W1 ⟨G1, u, g1, e1, e2⟩ => ?_
                  have hn : refs v = [] := by
                    cases hv : refs v with
                    | nil => rfl
                    | cons b bs =>
                      have := g1.sim.refs_lt e2 b (by rw [hv]; simp)
                      simp at this
                  exact ⟨⟨G1.imm, G.box, G.hdr, G.res, G.fix⟩, u, Good.pure h g1, e1, Rep.pure (G := G1) (fun _ _ _ e => e) hn e2⟩
  · exact opStep_sound hcl h he (stepD_op hl (fun x e => h1 ⟨x, e⟩) (fun c e => h2 ⟨c, e⟩)) hn
end Go.Abs
namespace Go.Abs
open Go
variable {P : Program} {cl : Oracle}
set_option linter.unusedSimpArgs false in
theorem zeq_eq : ∀ {a b : V}, zeq a b = true → a = b := by
  intro a b h
  cases a <;> cases b <;> simp only [zeq, Bool.false_eq_true, Bool.and_eq_true, beq_iff_eq] at h <;> first | rfl | (subst h; rfl) | (obtain ⟨rfl, rfl⟩ := h; rfl) | skip
  rename_i o xs o' ys
  cases o <;> cases xs <;> cases o' <;> cases ys <;> first | rfl | (simp [zeq] at h)
theorem zeqL_eq : ∀ {l r : List V}, zeqL l r = true → l = r
  | [], [], _ => rfl
  | a :: l, b :: r, h => by
    simp only [zeqL, Bool.and_eq_true] at h
    rw [zeq_eq h.1, zeqL_eq h.2]
  | [], _ :: _, h => by cases h
  | _ :: _, [], h => by cases h
theorem laid_sound {o : Oper} {a : Act} {G : Ghost} {st : St} {W : World} (h : Sim G st W) {t : TypeId} (ho : o.op = .alloc t) {n : Nat} (hn : G.res n = true) {z : List V} (hz : zcells P t = some z) (hs : st[n]? = some z)
    {next : Act → World → Prop} {Q : Exit → Act → World → Prop}
    (hk : ∀ G' W' u, Sim G' st W' → Ext G W G' W' → Le G G' → (∀ b, b ≠ n → G.res b = true → G'.res b = true) → Rep G' (.box n 0) u → next (a.put o.dst u) W') : o.wp P a W next Q := by
  obtain ⟨dst, op, type, pos, after, guard⟩ := o
  simp only at ho
  subst ho
  unfold zcells at hz
  cases hT : ti P t with
  | none => rw [hT] at hz; cases hz
  | some T =>
    rw [hT] at hz
    simp only [Option.some.injEq] at hz
    obtain ⟨i, d, z0, h1, h2, hz0, -, h3, h4, -, h6, -⟩ := ti_spec hT
    have r1 : Rep G (frz T.zero) z0 := Rep.frz _ _ (h6 ▸ ofValue_rep z0)
    have hc : Reps G z z0.cells.toList := by
      rw [← hz]
      cases hv : T.zero
      case agg cs =>
        obtain ⟨zc, rfl⟩ := ofValue_agg (h6 ▸ hv)
        rw [hv] at r1
        simp only [frz] at r1 ⊢
        obtain ⟨us, e, r⟩ := r1
        cases e
        simpa [vcells, Value.cells] using r
      all_goals
        have hnz : ∀ zc, z0 ≠ .agg zc := by
          rintro zc rfl
          rw [h6] at hv
          simp [ofValue] at hv
        have hcz : z0.cells = #[z0] := by cases z0 <;> first | rfl | exact absurd rfl (hnz _)
        rw [hcz]
        rw [hv] at r1
        exact ⟨z0, [], rfl, r1, rfl⟩
    obtain ⟨g1, g2, g3, g4, g5⟩ := Good.fillBox h hn z0.cells t hs hc
    refine wp_val (u := .pointer (some (adr W.heap.size 0))) (W' := W.alloc (.cells z0.cells t)) ?_ (hk _ _ _ g1 g2 g3 g5 ⟨W.heap.size, g4, rfl⟩)
    have q1 : (Instr.alloc t true (.tuple #[])).run P W = .ok (.pointer (some (adr W.heap.size 0))) (W.alloc (.cells z0.cells t)) := by
      simp [Instr.alloc, zeroValue, typeInfo, h1, hz0, newVar, newRow, adr]
    simp only [execOp, Sem.run_bind, q1, Result.andThen_ok, Sem.run_pure]
theorem stepR_cases {ev : Operand → V} {o : Oper} {st : St} {rs : Option Nat} {r : Res} {fp : Fp} (h : stepR P cl ev o st rs = some (r, fp)) :
    stepD P cl ev o st = some (r, fp) ∧ (isAl o = false ∨ rs = none) ∨
    ∃ n t z, rs = some n ∧ o.op = .alloc t ∧ zcells P t = some z ∧ st[n]? = some z ∧ r = .val (.box n 0) st ∧ fp = ⟨some n, none⟩ := by
  cases rs with
  | none => exact .inl ⟨h, .inr rfl⟩
  | some n =>
    obtain ⟨dst, op, type, pos, after, guard⟩ := o
    by_cases ha : ∃ t, op = .alloc t
    · obtain ⟨t, rfl⟩ := ha
      right
      simp only [stepR] at h
      cases hz : zcells P t with
      | none => simp [hz] at h
      | some z =>
        cases hs : st[n]? with
        | none => simp [hz, hs] at h
        | some cs =>
          simp only [hz, hs] at h
          split at h
          · rename_i he
            have he := zeqL_eq he
            subst he
            simp only [Option.some.injEq, Prod.mk.injEq] at h
            exact ⟨n, t, cs, rfl, rfl, hz, hs, h.1.symm, h.2.symm⟩
          · cases h
    · left
      have hna : isAl (⟨dst, op, type, pos, after, guard⟩ : Oper) = false := by
        unfold isAl
        cases op <;> first | rfl | exact absurd ⟨_, rfl⟩ ha
      refine ⟨?_, .inl hna⟩
      have : stepR P cl ev ⟨dst, op, type, pos, after, guard⟩ st (some n) = stepD P cl ev ⟨dst, op, type, pos, after, guard⟩ st := by
        unfold stepR
        cases op <;> first | rfl | exact absurd ⟨_, rfl⟩ ha
      rw [← this]; exact h
theorem stepR_of {ev : Operand → V} {o : Oper} {st : St} {rs : Option Nat} (h : isAl o = false ∨ rs = none) : stepR P cl ev o st rs = stepD P cl ev o st := by
  cases rs with
  | none => rfl
  | some n =>
    rcases h with h | h
    · obtain ⟨dst, op, type, pos, after, guard⟩ := o
      unfold stepR
      cases op <;> first | rfl | (simp [isAl] at h)
    · cases h
theorem stepR_writes {ev : Operand → V} {o : Oper} {st : St} {rs : Option Nat} {v : V} {st' : St} {fp : Fp} (h : stepR P cl ev o st rs = some (.val v st', fp)) :
    (fp.writes = none → st' = st) ∧ ∀ T n, fp.writes = some (T, n) → n = st.length ∧ ∀ b, b ∉ T → b < n → st'[b]? = st[b]? := by
  rcases stepR_cases h with ⟨h, _⟩ | ⟨n, t, z, _, _, _, _, hr, hf⟩
  · exact stepD_writes h
  · cases hr
    subst hf
    exact ⟨fun _ => rfl, fun T n e => by cases e⟩
theorem stepR_same {ev : Operand → V} {o : Oper} {st : St} {rs : Option Nat} {r : Res} {fp : Fp} (h : stepR P cl ev o st rs = some (r, fp)) (hw : fp.writes = none) {st2 : St}
    (hr : ∀ b, fp.reads = some b → st2[b]? = st[b]?) :
    stepR P cl ev o st2 rs = some (reSt st2 r, fp) := by
  rcases stepR_cases h with ⟨h1, h2⟩ | ⟨n, t, z, hn, ho, hz, hs, rfl, rfl⟩
  · rw [stepR_of h2]; exact stepD_same h1 hw hr
  · obtain ⟨dst, op, type, pos, after, guard⟩ := o
    simp only at ho
    subst ho
    subst hn
    have := hr n rfl
    simp only [stepR, hz] at h ⊢
    rw [hs] at h
    rw [this, hs]
    simp only at h ⊢
    split at h
    · rename_i he
      rw [if_pos he]; rfl
    · cases h
theorem callD_congr {ev ev' : Operand → V} {c : Call} {st : St} (h : ∀ x ∈ c.operands, ev x = ev' x) : callD P cl ev c st = callD P cl ev' c st := by
  have hargs : c.args.toList.map ev = c.args.toList.map ev' := List.map_congr_left fun x hx => h x (by simp [Call.operands]; right; simpa using hx)
  unfold callD
  cases hc : c.callee with
  | value f => have hf : ev f = ev' f := h f (by simp [Call.operands, hc]); simp only [hf, hargs]
  | invoke r m => rfl
  | builtin b => simp only [hargs]
theorem callOp_congr {ev ev' : Operand → V} {c : Call} {st : St} (h : ∀ x ∈ c.operands, ev x = ev' x) : callOp P cl ev c st = callOp P cl ev' c st := by
  have hargs : c.args.toList.map ev = c.args.toList.map ev' := List.map_congr_left fun x hx => h x (by simp [Call.operands]; right; simpa using hx)
  unfold callOp
  cases hc : c.callee with
  | value f => have hf : ev f = ev' f := h f (by simp [Call.operands, hc]); simp only [hf, hargs]
  | invoke r m => rfl
  | builtin b => simp only [hargs]
theorem opStep_congr {ev ev' : Operand → V} {o : Oper} {st : St} (h : ∀ x ∈ o.op.operands, ev x = ev' x) : opStep P cl ev o st = opStep P cl ev' o st := by
  obtain ⟨dst, op, type, pos, after, guard⟩ := o
  have pairs : ∀ ps : Array (Nat × Operand), (∀ x ∈ (ps.toList.map (·.2)).toArray, ev x = ev' x) → (ps.toList.map fun p => (p.1, ev p.2)) = ps.toList.map fun p => (p.1, ev' p.2) := fun ps hp =>
    List.map_congr_left fun p hm => by rw [hp p.2 (by simp only [List.mem_toArray]; exact List.mem_map.2 ⟨p, hm, rfl⟩)]
  cases op <;> simp only [Op.operands] at h <;> simp only [opStep]
  case build t ps => rw [pairs ps h]
  case buildSlice t n ps => rw [pairs ps h]
  case makeFunc fn first captured =>
    rw [List.map_congr_left (l := first.toList) fun x hx => h x (by simp; left; simpa using hx), List.map_congr_left (l := captured.toList) fun x hx => h x (by simp; right; simpa using hx)]
  case call c => exact callOp_congr h
  case slice t x lo hi mx =>
    have h1 : ev x = ev' x := h x (by simp)
    have h2 : lo.map ev = lo.map ev' := by cases lo <;> simp_all
    have h3 : hi.map ev = hi.map ev' := by cases hi <;> simp_all
    have h4 : mx.map ev = mx.map ev' := by cases mx <;> simp_all
    rw [h1, h2, h3, h4]
  all_goals (first | rfl | (simp_all; done))
theorem stepD_congr {ev ev' : Operand → V} {o : Oper} {st : St} (h : ∀ x ∈ o.op.operands, ev x = ev' x) : stepD P cl ev o st = stepD P cl ev' o st := by
  have ho := opStep_congr (P := P) (cl := cl) (st := st) h
  obtain ⟨dst, op, type, pos, after, guard⟩ := o
  cases op <;> simp only [Op.operands] at h <;> simp only [stepD]
  case call c => rw [callD_congr h]
  case assign x => rw [h x (by simp)]
  case load t a => rw [h a (by simp)]
  case convert s d x => rw [h x (by simp)]
  case store t a x => rw [h a (by simp), h x (by simp)]
  all_goals rw [ho]
theorem stepR_congr {ev ev' : Operand → V} {o : Oper} {st : St} {rs : Option Nat} (h : ∀ x ∈ o.op.operands, ev x = ev' x) : stepR P cl ev o st rs = stepR P cl ev' o st rs := by
  have hd := stepD_congr (P := P) (cl := cl) (st := st) h
  cases rs with
  | none => exact hd
  | some n =>
    obtain ⟨dst, op, type, pos, after, guard⟩ := o
    unfold stepR
    cases op <;> first | rfl | exact hd
theorem looks_operand {ops : Array Oper} {o : Oper} {t : Tmp} (h : Operand.tmp t ∈ o.op.operands) : t ∈ o.looksAt ops :=
  List.mem_append_left _ (List.mem_filterMap.2 ⟨.tmp t, by simpa using h, rfl⟩)
theorem opv_same {env env' : Env} {ops : Array Oper} {o : Oper} (h : ∀ t ∈ o.looksAt ops, env[t]? = env'[t]?) : ∀ x ∈ o.op.operands, opv env x = opv env' x := by
  intro x hx
  cases x with
  | tmp t => simp only [opv, List.getD_eq_getElem?_getD, h t (looks_operand hx)]
  | _ => rfl
theorem want_same {env env' : Env} {ops : Array Oper} {o : Oper} (h : ∀ t ∈ o.looksAt ops, env[t]? = env'[t]?) : want ops env o.guard = want ops env' o.guard := by
  unfold want
  cases hg : o.guard with
  | none => rfl
  | some p =>
    obtain ⟨j, b⟩ := p
    simp only
    cases ht : (ops[j]?).bind (·.dst) with
    | none => rfl
    | some t => simp only; rw [h t (by simp [Oper.looksAt, hg, ht])]
theorem getD_replicate_false' (m j : Nat) : (Array.replicate m false).getD j false = false := by
  rw [Array.getD_eq_getD_getElem?, Array.getElem?_replicate]
  split <;> rfl
def cntU (listed : Array Bool) : Nat → Nat
  | 0 => 0
  | m + 1 => cntU listed m + if listed.getD m false then 0 else 1
theorem cntU_zero {listed : Array Bool} : ∀ {m : Nat}, cntU listed m = 0 → ∀ j, j < m → listed.getD j false = true
  | 0, _, j, hj => by omega
  | m + 1, h, j, hj => by
    simp only [cntU, Nat.add_eq_zero_iff] at h
    by_cases hjm : j = m
    · subst hjm
      cases hl : listed.getD j false with
      | true => rfl
      | false => rw [hl] at h; simp at h
    · exact cntU_zero h.1 j (by omega)
theorem cntU_set {listed : Array Bool} {x : Nat} (hx : listed.getD x false = false) (hs : x < listed.size) : ∀ {m : Nat}, cntU (listed.setIfInBounds x true) m + (if x < m then 1 else 0) = cntU listed m
  | 0 => by simp [cntU]
  | m + 1 => by
    have ih := cntU_set hx hs (m := m)
    simp only [cntU]
    by_cases hm : x = m
    · subst hm
      rw [if_neg (Nat.lt_irrefl _)] at ih
      have h1 : (listed.setIfInBounds x true).getD x false = true := by simp [hs]
      rw [h1, hx, if_pos (Nat.lt_succ_self x)]
      simp
      omega
    · rw [getD_set_ne false hm]
      have : (x < m + 1) ↔ x < m := by omega
      simp only [this]
      omega
structure Trc (P : Program) (cl : Oracle) (ops : Array Oper) (env0 : Env) (EE : Nat → Env) (SS : Nat → St) (NN : Nat → Option Nat) (VV : Nat → V) (fps : List Fp) (k : Nat) : Prop where
  e0 : EE 0 = env0
  kn : k ≤ ops.size
  step : ∀ i, i < k → Tr1 P cl ops ops.toList EE SS NN VV fps i
  ok : DrawOk ops
  fp : fpsOk ops fps = true
def Wr (fps : List Fp) (j : Nat) : Prop := ∃ fp, fps[j]? = some fp ∧ fp.writes.isSome = true
def Dst (ops : Array Oper) (j : Nat) (t : Tmp) : Prop := ∃ o, ops[j]? = some o ∧ o.dst = some t
section
variable {ops : Array Oper} {env0 : Env} {EE : Nat → Env} {SS : Nat → St} {NN : Nat → Option Nat} {VV : Nat → V} {fps : List Fp} {k : Nat}
theorem Trc.at (T : Trc P cl ops env0 EE SS NN VV fps k) {i : Nat} (hi : i < k) : ∃ o fp, ops[i]? = some o ∧ fps[i]? = some fp ∧ EE (i + 1) = setD (EE i) o.dst (VV i) ∧
    ((want ops (EE i) o.guard = some true ∧ stepR P cl (opv (EE i)) o (SS i) (NN i) = some (.val (VV i) (SS (i + 1)), fp)) ∨
     (want ops (EE i) o.guard = some false ∧ VV i = .tup [] ∧ SS (i + 1) = SS i ∧ fp = ⟨none, none⟩)) := by
  have hlt : i < ops.size := Nat.lt_of_lt_of_le hi T.kn
  obtain ⟨fp, h1, h2, h3⟩ := (T.step i hi).step ops[i] (by simp [hlt])
  exact ⟨ops[i], fp, by simp [hlt], h1, h2, h3⟩
theorem Trc.len (T : Trc P cl ops env0 EE SS NN VV fps k) : ∀ i, i ≤ k → (EE i).length = env0.length
  | 0, _ => by rw [T.e0]
  | i + 1, h => by
    obtain ⟨o, fp, _, _, h3, _⟩ := T.at (i := i) (by omega)
    rw [h3]
    have := T.len i (by omega)
    cases o.dst <;> simpa [setD] using this
theorem Trc.envSame (T : Trc P cl ops env0 EE SS NN VV fps k) {t : Tmp} : ∀ {j i : Nat}, i ≤ j → j ≤ k → (∀ x, i ≤ x → x < j → ¬ Dst ops x t) → (EE j)[t]? = (EE i)[t]?
  | 0, i, hi, _, _ => by obtain rfl : i = 0 := by omega
                         rfl
  | j + 1, i, hi, hk, hn => by
    by_cases he : i = j + 1
    · rw [he]
    · obtain ⟨o, fp, h1, _, h3, _⟩ := T.at (i := j) (by omega)
      have hnd : o.dst ≠ some t := fun e => hn j (by omega) (by omega) ⟨o, h1, e⟩
      rw [h3, ← T.envSame (j := j) (i := i) (by omega) (by omega) (fun x h1 h2 => hn x h1 (by omega))]
      cases hd : o.dst with
      | none => rfl
      | some d =>
        have : d ≠ t := fun e => hnd (by rw [hd, e])
        simp only [setD]
        rw [List.getElem?_set_ne this]
theorem Trc.stStep (T : Trc P cl ops env0 EE SS NN VV fps k) {j : Nat} (hj : j < k) : (¬ Wr fps j → SS (j + 1) = SS j) ∧
    ∀ fp, fps[j]? = some fp → ∀ T n, fp.writes = some (T, n) → ∀ b, b ∉ T → b < n → (SS (j + 1))[b]? = (SS j)[b]? := by
  obtain ⟨o, fp, h1, h2, h3, h4⟩ := T.at hj
  rcases h4 with ⟨_, hs⟩ | ⟨_, _, hss, rfl⟩
  · obtain ⟨w1, w2⟩ := stepR_writes hs
    refine ⟨fun hn => w1 ?_, fun fp' h' T n hT b hb hlt => ?_⟩
    · cases hw : fp.writes with
      | none => rfl
      | some x => exact absurd ⟨fp, h2, by rw [hw]; rfl⟩ hn
    · rw [h2] at h'; cases h'
      exact (w2 T n hT).2 b hb hlt
  · exact ⟨fun _ => hss, fun fp' h' T n hT => by rw [h2] at h'; cases h'; cases hT⟩
theorem Trc.stSame (T : Trc P cl ops env0 EE SS NN VV fps k) : ∀ {j i : Nat}, i ≤ j → j ≤ k → (∀ x, i ≤ x → x < j → ¬ Wr fps x) → SS j = SS i
  | 0, i, hi, _, _ => by obtain rfl : i = 0 := by omega
                         rfl
  | j + 1, i, hi, hk, hn => by
    by_cases he : i = j + 1
    · rw [he]
    · rw [(T.stStep (j := j) (by omega)).1 (hn j (by omega) (by omega))]
      exact T.stSame (by omega) (by omega) fun x h1 h2 => hn x h1 (by omega)
theorem Trc.boxSame (T : Trc P cl ops env0 EE SS NN VV fps k) {b : Nat} : ∀ {j i : Nat}, i ≤ j → j ≤ k → (∀ x fp T n, i ≤ x → x < j → fps[x]? = some fp → fp.writes = some (T, n) → b ∉ T ∧ b < n) → (SS j)[b]? = (SS i)[b]?
  | 0, i, hi, _, _ => by obtain rfl : i = 0 := by omega
                         rfl
  | j + 1, i, hi, hk, hn => by
    by_cases he : i = j + 1
    · rw [he]
    · rw [← T.boxSame (j := j) (i := i) (by omega) (by omega) fun x fp T n h1 h2 => hn x fp T n h1 (by omega)]
      obtain ⟨s1, s2⟩ := T.stStep (j := j) (by omega)
      by_cases hw : Wr fps j
      · obtain ⟨fp, h1, h2⟩ := hw
        obtain ⟨⟨T', n⟩, hT⟩ := Option.isSome_iff_exists.1 h2
        obtain ⟨q1, q2⟩ := hn j fp T' n (by omega) (by omega) h1 hT
        exact s2 fp h1 T' n hT b q1 q2
      · rw [s1 hw]
end
structure InvD (P : Program) (cl : Oracle) (SF : Nat → Prop) (ops : Array Oper) (G0 : Ghost) (W0 : World) (EE : Nat → Env) (SS : Nat → St) (NN : Nat → Option Nat) (fps : List Fp) (k : Nat) (n0 : Nat) (listed : Array Bool) (a : Act) (w : World) : Prop where
  size : listed.size = ops.size
  below : ∀ j, listed.getD j false = true → j < k ∨ SF j
  closed : ∀ j, listed.getD j false = true → ∀ e ∈ edges ops j, listed.getD e false = true
  defers : a.defers = []
  cur : ∃ G env i, Good G0 W0 G (SS i) w ∧ Reps G env a.tmps.toList ∧ env.length = n0 ∧ i ≤ k ∧ (∀ j, j < k → Wr fps j → (listed.getD j false = true ↔ j < i)) ∧
    (∀ t i', i' ≤ k → (∀ j, k ≤ j → Dst ops j t → listed.getD j false = false) → (∀ j, j < k → Dst ops j t → (listed.getD j false = true ↔ j < i')) → env[t]? = (EE i')[t]?) ∧
    ∀ j n o, ops[j]? = some o → listed.getD j false = false → NN j = some n → isAl o = true → G.res n = true
section
variable {SF : Nat → Prop} {ops : Array Oper} {env0 : Env} {EE : Nat → Env} {SS : Nat → St} {NN : Nat → Option Nat} {VV : Nat → V} {fps : List Fp} {k : Nat} {G0 : Ghost} {W0 : World} {listed : Array Bool} {a : Act} {w : World}
theorem edges_of {x e : Nat} {o : Oper} (ho : ops[x]? = some o) (h : e ∈ edges ops x) : ∃ ed ∈ o.after, Region.binds .any ed = true ∧ ed.on = e := by
  simp only [edges, ho, List.mem_map, List.mem_filter] at h
  obtain ⟨ed, ⟨h1, h2⟩, h3⟩ := h
  exact ⟨ed, by simpa using h1, h2, h3⟩
theorem ready_spec (I : InvD P cl SF ops G0 W0 EE SS NN fps k env0.length listed a w) {x : Nat} (hx : x ∈ Region.ready .any ops listed) :
    x < ops.size ∧ listed.getD x false = false ∧ ∀ e ∈ edges ops x, listed.getD e false = true := by
  obtain ⟨h1, o, h2, h3⟩ := mem_ready.1 hx
  have hlt : x < ops.size := (Array.getElem?_eq_some_iff.1 h2).1
  refine ⟨hlt, ?_, fun e he => ?_⟩
  · have : x < listed.size := by rw [I.size]; exact hlt
    simp [this] at h1 ⊢
    exact h1
  · obtain ⟨ed, h4, h5, h6⟩ := edges_of h2 he
    rw [← h6]; exact h3 ed h4 h5
theorem iff_of_ord (I : InvD P cl SF ops G0 W0 EE SS NN fps k env0.length listed a w) (ok : DrawOk ops) {x j : Nat} (hxl : x < ops.size) (hjl : j < ops.size) (hx : listed.getD x false = false)
    (he : ∀ e ∈ edges ops x, listed.getD e false = true) (ho : ordB ops j x = true ∨ ordB ops x j = true) : (listed.getD j false = true ↔ j < x) := by
  have hD : DClosed ops (fun j => listed.getD j false = true) := fun j hj e he => I.closed j hj e he
  rcases ho with ho | ho
  · exact ⟨fun _ => ordF_lt ok.edge ho hxl, fun _ => ordF_pred hD ho he⟩
  · have h1 := ordF_lt ok.edge ho hjl
    refine ⟨fun hj => ?_, fun hlt => by omega⟩
    have := ordF_closed hD ho hj
    rw [hx] at this; cases this
theorem looksB_of {j x : Nat} {oj ox : Oper} {d : Tmp} (h1 : ops[j]? = some oj) (h2 : ops[x]? = some ox) (hd : oj.dst = some d) (h : d ∈ ox.looksAt ops ∨ ox.dst = some d) : looksB ops j x = true := by
  simp only [looksB, h1, h2, hd, Bool.or_eq_true, List.contains_eq_mem, decide_eq_true_eq, beq_iff_eq]
  exact h
theorem set_listed {x j : Nat} (hs : x < listed.size) : (listed.setIfInBounds x true).getD j false = true ↔ (j = x ∨ listed.getD j false = true) := by
  by_cases h : j = x
  · subst h; simp [hs]
  · rw [getD_set_ne false (Ne.symm h)]; simp [h]
theorem InvD.next (T : Trc P cl ops env0 EE SS NN VV fps k) (I : InvD P cl SF ops G0 W0 EE SS NN fps k env0.length listed a w) {x : Nat} (hx : x ∈ Region.ready .any ops listed) (hk : x < k)
    {o : Oper} (ho : ops[x]? = some o) {G : Ghost} {env : Env} (he : Reps G env a.tmps.toList) (hl : env.length = env0.length) (hv : ∀ t i', i' ≤ k → (∀ j, k ≤ j → Dst ops j t → listed.getD j false = false) → (∀ j, j < k → Dst ops j t → (listed.getD j false = true ↔ j < i')) → env[t]? = (EE i')[t]?)
    {i2 : Nat} (hi2 : i2 ≤ k) (hw2 : ∀ j, j < k → Wr fps j → ((j = x ∨ listed.getD j false = true) ↔ j < i2)) {G' : Ghost} {w' : World} {u : Value} (hg : Good G0 W0 G' (SS i2) w') (hle : Le G G') (hr : Rep G' (VV x) u)
    (hres : ∀ j n o, ops[j]? = some o → j ≠ x → listed.getD j false = false → NN j = some n → isAl o = true → G'.res n = true)
    (hdst : EE (x + 1) = setD (EE x) o.dst (VV x)) :
    InvD P cl SF ops G0 W0 EE SS NN fps k env0.length (listed.setIfInBounds x true) (a.put o.dst u) w' := by
  obtain ⟨r1, r2, r3⟩ := ready_spec I hx
  have hs : x < listed.size := by rw [I.size]; exact r1
  refine ⟨by simp [I.size], fun j hj => ?_, fun j hj e he' => ?_, by rw [put_defers]; exact I.defers, G', setD env o.dst (VV x), i2, hg, reps_put (he.le hle) hr, ?_, hi2, fun j hj hW => ?_, fun t i' hi' hS hc => ?_, fun j n oj hoj hlj hnj hal => ?_⟩
  · rcases (set_listed hs).1 hj with rfl | h
    · exact .inl hk
    · exact I.below j h
  · rcases (set_listed hs).1 hj with rfl | h
    · exact (set_listed hs).2 (.inr (r3 e he'))
    · exact (set_listed hs).2 (.inr (I.closed j h e he'))
  · cases o.dst <;> simpa [setD] using hl
  · rw [set_listed hs]; exact hw2 j hj hW
  · by_cases hd : o.dst = some t
    · -- it is written here
      have hxi : x < i' := (hc x hk ⟨o, ho, hd⟩).1 ((set_listed hs).2 (.inl rfl))
      have hno : ∀ y, x + 1 ≤ y → y < i' → ¬ Dst ops y t := fun y h1 h2 ⟨oy, hoy, hdy⟩ => by
        have hy := (hc y (by omega) ⟨oy, hoy, hdy⟩).2 h2
        rcases (set_listed hs).1 hy with rfl | hy
        · omega
        · have hyl : y < ops.size := (Array.getElem?_eq_some_iff.1 hoy).1
          have := T.ok.look x y r1 hyl (by omega) (looksB_of ho hoy hd (.inr hdy))
          have := (iff_of_ord I T.ok r1 hyl r2 r3 this.symm).1 hy
          omega
      rw [T.envSame (j := i') (i := x + 1) hxi hi' hno, hdst, hd]
      simp only [setD]
      have hlen : (EE x).length = env.length := by rw [T.len x (by omega), hl]
      by_cases htl : t < env.length
      · rw [List.getElem?_set_self htl, List.getElem?_set_self (by rw [hlen]; exact htl)]
      · rw [List.getElem?_eq_none (by rw [List.length_set]; exact Nat.le_of_not_lt htl), List.getElem?_eq_none (by rw [List.length_set, hlen]; exact Nat.le_of_not_lt htl)]
    · have h1 : (setD env o.dst (VV x))[t]? = env[t]? := by
        cases hod : o.dst with
        | none => rfl
        | some d =>
          have : d ≠ t := fun e => hd (by rw [hod, e])
          simp only [setD]; rw [List.getElem?_set_ne this]
      rw [h1]
      refine hv t i' hi' (fun j hj hD => by
        have := hS j hj hD
        have h2 : ¬ ((listed.setIfInBounds x true).getD j false = true) := by rw [this]; simp
        rw [set_listed hs, not_or] at h2
        simpa using h2.2) fun j hj hD => ?_
      rw [← hc j hj hD, set_listed hs]
      have hjx : j ≠ x := by
        rintro rfl
        obtain ⟨o', ho', hd'⟩ := hD
        rw [ho] at ho'; cases ho'
        exact hd hd'
      simp [hjx]
  · have h1 : ¬ ((listed.setIfInBounds x true).getD j false = true) := by rw [hlj]; simp
    rw [set_listed hs, not_or] at h1
    exact hres j n oj hoj h1.1 (by simpa using h1.2) hnj hal
end
theorem allocTys_app : ∀ l r : List Oper, allocTys (l ++ r) = allocTys l ++ allocTys r
  | [], r => rfl
  | o :: l, r => by
    obtain ⟨dst, op, type, pos, after, guard⟩ := o
    simp only [List.cons_append, allocTys]
    cases op <;> simp only [allocTys_app l r, List.cons_append]
theorem allocTys_al {o : Oper} (h : isAl o = true) (l : List Oper) : ∃ t, allocTys (o :: l) = t :: allocTys l := by
  obtain ⟨dst, op, type, pos, after, guard⟩ := o
  cases op <;> first | exact ⟨_, rfl⟩ | (simp [isAl] at h)
theorem nAt_none : ∀ (l : List Oper) (i : Nat), nAt l none i = none
  | l, 0 => by cases l <;> rfl
  | [], _ + 1 => rfl
  | o :: l, i + 1 => by rw [nAt]; exact nAt_none l i
theorem nAt_some : ∀ (l : List Oper) (m i : Nat), nAt l (some m) i = some (m + (allocTys (l.take i)).length)
  | l, m, 0 => by cases l <;> rfl
  | [], m, _ + 1 => rfl
  | o :: l, m, i + 1 => by
    rw [nAt, List.take_succ_cons]
    obtain ⟨dst, op, type, pos, after, guard⟩ := o
    cases op <;> first | (show nAt l (some m) i = _; rw [nAt_some l m i]; rfl) | (show nAt l (some (m + 1)) i = _; rw [nAt_some l (m + 1) i]; simp only [allocTys, List.length_cons]; congr 1; omega)
theorem cnt_lt {l : List Oper} {i j : Nat} {o : Oper} (h : l[i]? = some o) (ho : isAl o = true) (hij : i < j) : (allocTys (l.take i)).length < (allocTys (l.take j)).length := by
  have hi := (List.getElem?_eq_some_iff.1 h).1
  have e : l.take j = l.take i ++ (l.drop i).take (j - i) := by
    rw [← List.take_add]; congr 1; omega
  have e2 : l.drop i = o :: l.drop (i + 1) := by
    rw [List.drop_eq_getElem_cons hi]
    obtain ⟨h1, h2⟩ := List.getElem?_eq_some_iff.1 h
    rw [h2]
  have e3 : j - i = (j - i - 1) + 1 := by omega
  rw [e, e2, e3, List.take_succ_cons, allocTys_app]
  obtain ⟨t, ht⟩ := allocTys_al ho ((l.drop (i + 1)).take (j - i - 1))
  rw [ht]
  simp
theorem zall_len : ∀ {ts : List TypeId} {zs : List (List V)}, zall P ts = some zs → zs.length = ts.length
  | [], zs, h => by cases h; rfl
  | t :: ts, zs, h => by
    simp only [zall] at h
    cases h1 : zcells P t with
    | none => rw [h1] at h; cases h
    | some z =>
      cases h2 : zall P ts with
      | none => rw [h1, h2] at h; cases h
      | some zr =>
        rw [h1, h2] at h
        simp only [Option.some.injEq] at h
        subst h
        simp [zall_len h2]
theorem hoist_spec {G0 : Ghost} {st0 : St} {W0 : World} (h : Sim G0 st0 W0) (l : List Oper) :
    ∃ G1, Good G0 W0 G1 (hoist P l st0).2 W0 ∧ (∀ j n o, l[j]? = some o → nAt l (hoist P l st0).1 j = some n → isAl o = true → G1.res n = true ∧ st0.length ≤ n) ∧
      ∀ i j n o o', l[i]? = some o → l[j]? = some o' → isAl o = true → isAl o' = true → nAt l (hoist P l st0).1 i = some n → nAt l (hoist P l st0).1 j = some n → i = j := by
  have dull : hoist P l st0 = (none, st0) → ∃ G1, Good G0 W0 G1 (hoist P l st0).2 W0 ∧ (∀ j n o, l[j]? = some o → nAt l (hoist P l st0).1 j = some n → isAl o = true → G1.res n = true ∧ st0.length ≤ n) ∧
      ∀ i j n o o', l[i]? = some o → l[j]? = some o' → isAl o = true → isAl o' = true → nAt l (hoist P l st0).1 i = some n → nAt l (hoist P l st0).1 j = some n → i = j := by
    intro e
    rw [e]
    refine ⟨G0, .refl h, fun j n o _ hn => ?_, fun i j n o o' _ _ _ _ hn => ?_⟩
    · rw [nAt_none] at hn; cases hn
    · rw [nAt_none] at hn; cases hn
  unfold hoist
  unfold hoist at dull
  generalize hts : allocTys l = ts at dull ⊢
  cases ts with
  | nil => exact dull rfl
  | cons a ts =>
    cases ts with
    | nil => exact dull rfl
    | cons b ts =>
      cases hz : zall P (a :: b :: ts) with
      | none => exact dull (by simp only [hoistT, hz])
      | some zs =>
        have e : hoistT P (a :: b :: ts) st0 = (some st0.length, st0 ++ zs) := by simp only [hoistT, hz]
        rw [e]
        have hlen := zall_len hz
        rw [← hts] at hlen
        refine ⟨_, Good.hold h zs, fun j n o ho hn hal => ?_, fun i j n o o' ho ho' hal hal' hn hn' => ?_⟩
        · rw [nAt_some] at hn
          simp only [Option.some.injEq] at hn
          have := cnt_lt ho hal (List.getElem?_eq_some_iff.1 ho).1
          rw [List.take_length] at this
          refine ⟨?_, by omega⟩
          simp only [Ghost.hold, Bool.or_eq_true, Bool.and_eq_true, decide_eq_true_eq]
          right
          omega
        · rw [nAt_some] at hn hn'
          simp only [Option.some.injEq] at hn hn'
          rcases Nat.lt_trichotomy i j with q | q | q
          · have := cnt_lt ho hal q; omega
          · exact q
          · have := cnt_lt ho' hal' q; omega
theorem regionD_sound (hm : P.follows .mixedOrders = true) (hcl : Sound P cl) {id : Nat} {ops : Array Oper} {G0 : Ghost} {st0 : St} {W0 : World} {a0 : Act} {env0 : Env} {ex : Ex} {env' : Env} {st' : St}
    (h : Sim G0 st0 W0) (he : Reps G0 env0 a0.tmps.toList) (hd : a0.defers = []) (hl : regionD P cl ops env0 st0 = some (ex, env', st')) :
    (Code.region id ops true).wp P (ExPost G0 W0 ex env' st') a0 W0 := by
  unfold regionD at hl
  split at hl
  case isFalse => cases hl
  case isTrue hok =>
  have ok := drawOk_spec hok
  obtain ⟨G1, g1, held, inj⟩ := hoist_spec (P := P) h ops.toList
  generalize (hoist P ops.toList st0).2 = stH at hl g1
  generalize (hoist P ops.toList st0).1 = rsH at hl held inj
  cases ht : traceD P cl ops ops.toList env0 stH rsH with
  | none => rw [ht] at hl; cases hl
  | some q =>
    obtain ⟨p, env1, st1, fps⟩ := q
    rw [ht] at hl
    obtain ⟨EE, SS, VV, k, e0, s0, hkn, hstep, hfin⟩ := trace_spec ht
    have hfps : fpsOk ops fps = true := by
      cases p with
      | none => simp only at hl; split at hl; assumption; cases hl
      | some v => simp only at hl; split at hl; rename_i hc; rw [Bool.and_eq_true] at hc; exact hc.1; cases hl
    have T : Trc P cl ops env0 EE SS (nAt ops.toList rsH) VV fps k := ⟨e0, by simpa using hkn, hstep, ok, hfps⟩
    have g0 : Good G0 W0 G1 stH { W0 with drawn := W0.drawn + 1 } := g1.of_heap rfl ⟨rfl, rfl, rfl⟩
    have hlist : ∀ (j : Nat) (o : Oper), ops[j]? = some o → ops.toList[j]? = some o := fun j o e => by simpa using e
    refine wp_region_any hm ?_
    -- all orders
    obtain ⟨SF, hSF, hSN⟩ : ∃ SF : Nat → Prop, (∀ j, SF j → k < j) ∧ (∀ v, p = some v → ∀ j, k < j → safeOp P ops env1 j = true → SF j) :=
      ⟨fun j => k < j, fun _ h => h, fun _ _ _ h _ => h⟩
    have key : ∀ (fuel : Nat) (listed : Array Bool) (a : Act) (w : World), cntU listed ops.size ≤ fuel → InvD P cl SF ops G0 W0 EE SS (nAt ops.toList rsH) fps k env0.length listed a w →
        wpAny P .any ops (ExPost G0 W0 ex env' st') fuel listed a w := by
      -- where nothing is ready all is done
      have done : ∀ (listed : Array Bool) (a : Act) (w : World), InvD P cl SF ops G0 W0 EE SS (nAt ops.toList rsH) fps k env0.length listed a w → Region.ready .any ops listed = [] → ExPost G0 W0 ex env' st' .normal a w := by
        intro listed a w I hr
        have all : ∀ j, j < ops.size → listed.getD j false = true := by
          intro j
          induction j using Nat.strongRecOn with
          | _ j ih =>
            intro hj
            cases hlj : listed.getD j false with
            | true => rfl
            | false =>
              have hin : j ∈ Region.ready .any ops listed := by
                rw [mem_ready]
                have hjs : j < listed.size := by rw [I.size]; exact hj
                refine ⟨by simp [hjs] at hlj ⊢; exact hlj, ops[j], by simp [hj], fun e hem hb => ?_⟩
                have hlt := ok.edge j hj e.on (by
                  simp only [edges, Array.getElem?_eq_getElem hj, List.mem_map, List.mem_filter]
                  exact ⟨e, ⟨by simpa using hem, hb⟩, rfl⟩)
                exact ih e.on hlt (by omega)
              rw [hr] at hin; cases hin
        have hkk : k = ops.size := by
          have h1 := T.kn
          by_cases he : k = ops.size
          · exact he
          · rcases I.below k (all k (by omega)) with h | h
            · omega
            · have := hSF k h; omega
        cases p with
        | some v =>
          obtain ⟨_, o, fp, ho, _⟩ := hfin
          have := (List.getElem?_eq_some_iff.1 ho).1
          simp at this; omega
        | none =>
          simp only at hl
          rw [if_pos hfps] at hl
          · cases hl
            obtain ⟨_, _, f3, f4⟩ := hfin
            obtain ⟨G, env, i, g, her, hlen, hi, hw, hv, _⟩ := I.cur
            have hst : SS k = SS i := T.stSame hi (Nat.le_refl _) fun x h1 h2 hW => by
              have := (hw x h2 hW).1 (all x (by omega)); omega
            have henv : env = EE k := by
              apply List.ext_getElem?
              intro t
              refine hv t k (Nat.le_refl _) (fun j hj hD => ?_) fun j hj _ => ⟨fun _ => hj, fun _ => all j (by omega)⟩
              obtain ⟨o', ho', _⟩ := hD
              have := (Array.getElem?_eq_some_iff.1 ho').1
              omega
            refine ⟨G, ?_, I.defers, rfl, ?_⟩
            · rw [← f4, hst]; exact g
            · rw [← f3, ← henv]; exact her
      intro fuel
      induction fuel with
      | zero =>
        intro listed a w hcnt I
        have all := cntU_zero (Nat.le_zero.1 hcnt)
        have hr : Region.ready .any ops listed = [] := by
          cases hrr : Region.ready .any ops listed with
          | nil => rfl
          | cons x xs =>
            obtain ⟨r1, r2, _⟩ := ready_spec I (show x ∈ Region.ready .any ops listed by rw [hrr]; simp)
            rw [all x r1] at r2; cases r2
        exact ⟨hr, done listed a w I hr⟩
      | succ fuel ih =>
        intro listed a w hcnt I
        refine ⟨done listed a w I, fun x hx => ?_⟩
        obtain ⟨r1, r2, r3⟩ := ready_spec I hx
        have hs : x < listed.size := by rw [I.size]; exact r1
        have hcnt' : cntU (listed.setIfInBounds x true) ops.size ≤ fuel := by
          have := cntU_set r2 hs (m := ops.size)
          rw [if_pos r1] at this; omega
        have hkl : k < x → listed.getD k false = false := fun hlt => by
          cases hl' : listed.getD k false with
          | false => rfl
          | true =>
            rcases I.below k hl' with h | h
            · omega
            · have := hSF k h; omega
        by_cases hlt : k < x
        · cases p with
          | none => obtain ⟨f1, _⟩ := hfin; simp at f1; omega
          | some v =>
            simp only at hl
            split at hl
            · rename_i hc
              rw [Bool.and_eq_true] at hc
              obtain ⟨f1, _, _, _, _, _, _, henv1⟩ := hfin
              rw [f1, Nat.add_sub_cancel] at hc
              rcases (panicOk_spec hc.2).1 x r1 hlt with hord | hsafe
              · have hD : DClosed ops (fun j => listed.getD j false = true) := fun j hj e he => I.closed j hj e he
                have := ordF_pred hD hord r3
                rw [hkl hlt] at this; cases this
              · have hsf := hSN v rfl x hlt hsafe
                obtain ⟨o, t, y, f, v', ho, hop, hgd, hfa, hno⟩ := safeOp_spec hsafe
                obtain ⟨G, env, i, g, her, hlen, hi, hw, hv, hold⟩ := I.cur
                have hnoD : ∀ j, ¬ Dst ops j y := fun j ⟨o', h1, h2⟩ => hno j o' h1 h2
                have hey : env[y]? = env1[y]? := by
                  rw [hv y k (Nat.le_refl _) (fun j _ hD => absurd hD (hnoD j)) (fun j _ hD => absurd hD (hnoD j)), henv1]
                have hoy : opv env (.tmp y) = opv env1 (.tmp y) := by
                  simp only [opv, List.getD_eq_getElem?_getD, hey]
                have hst : stepD P cl (opv env) o (SS i) = some (.val v' (SS i), ⟨none, none⟩) := by
                  obtain ⟨dst, op, type, pos, after, guard⟩ := o
                  simp only at hop
                  subst hop
                  simp only [stepD, opStep, val?, hoy, hfa]
                unfold wpOp
                rw [ho]
                simp only
                have hw1 := want_sound (ops := ops) her (o := o) (b := true) (by rw [hgd]; rfl)
                rw [hw1]
                simp only [if_true]
                refine .inl ?_
                refine stepD_sound hcl g.sim her hst fun G' W' u g' hr => ?_
                refine ih _ _ _ hcnt' ⟨by simp [I.size], fun j hj => ?_, fun j hj e he' => ?_, by rw [put_defers]; exact I.defers, G', setD env o.dst v', i, g.trans g', reps_put (her.le g'.le) hr, ?_, hi, fun j hj hW => ?_, fun t' i' hi' hS hc' => ?_, fun j n oj hoj hlj hnj hal => ?_⟩
                · rcases (set_listed hs).1 hj with rfl | h
                  · exact .inr hsf
                  · exact I.below j h
                · rcases (set_listed hs).1 hj with rfl | h
                  · exact (set_listed hs).2 (.inr (r3 e he'))
                  · exact (set_listed hs).2 (.inr (I.closed j h e he'))
                · cases o.dst <;> simpa [setD] using hlen
                · rw [set_listed hs]
                  have hjx : j ≠ x := by omega
                  simp only [hjx, false_or]
                  exact hw j hj hW
                · have hd : o.dst ≠ some t' := fun hd => by
                    have := hS x (by omega) ⟨o, ho, hd⟩
                    rw [(set_listed hs).2 (.inl rfl)] at this; cases this
                  have h1 : (setD env o.dst v')[t']? = env[t']? := by
                    cases hod : o.dst with
                    | none => rfl
                    | some d =>
                      have : d ≠ t' := fun e => hd (by rw [hod, e])
                      simp only [setD]; rw [List.getElem?_set_ne this]
                  rw [h1]
                  refine hv t' i' hi' (fun j hj hD => ?_) fun j hj hD => ?_
                  · have := hS j hj hD
                    have h2 : ¬ ((listed.setIfInBounds x true).getD j false = true) := by rw [this]; simp
                    rw [set_listed hs, not_or] at h2
                    simpa using h2.2
                  · rw [← hc' j hj hD, set_listed hs]
                    have hjx : j ≠ x := by omega
                    simp [hjx]
                · have h1 : ¬ ((listed.setIfInBounds x true).getD j false = true) := by rw [hlj]; simp
                  rw [set_listed hs, not_or] at h1
                  exact g'.res _ (hold j n oj hoj (by simpa using h1.2) hnj hal)
            · cases hl
        have hxk : x ≤ k := by omega
        obtain ⟨G, env, i, g, her, hlen, hi, hw, hv, hold⟩ := I.cur
        have hox : ops[x]? = some ops[x] := by simp [r1]
        -- what it looks at
        have hlook : ∀ t ∈ (ops[x]).looksAt ops, env[t]? = (EE x)[t]? := fun t ht => by
          refine hv t x hxk (fun j hj hDj => ?_) fun j hj hDj => ?_
          · cases hlj : listed.getD j false with
            | false => rfl
            | true =>
              obtain ⟨oj, hoj, hdj⟩ := hDj
              by_cases hjx : j = x
              · subst hjx
                rw [r2] at hlj; cases hlj
              · have hjl : j < ops.size := (Array.getElem?_eq_some_iff.1 hoj).1
                have := (iff_of_ord I ok r1 hjl r2 r3 (ok.look j x hjl r1 hjx (looksB_of hoj hox hdj (.inl ht)))).1 hlj
                omega
          obtain ⟨oj, hoj, hdj⟩ := hDj
          by_cases hjx : j = x
          · subst hjx
            rw [r2]; simp
          · have hjl : j < ops.size := (Array.getElem?_eq_some_iff.1 hoj).1
            exact iff_of_ord I ok r1 hjl r2 r3 (ok.look j x hjl r1 hjx (looksB_of hoj hox hdj (.inl ht)))
        have hwant := want_same hlook
        have hstepc : ∀ st, stepR P cl (opv env) ops[x] st (nAt ops.toList rsH x) = stepR P cl (opv (EE x)) ops[x] st (nAt ops.toList rsH x) := fun st => stepR_congr (opv_same hlook)
        -- its state
        have hstate : ∀ fp, fps[x]? = some fp → (fp.writes.isSome = true → SS i = SS x ∧ i ≤ x) ∧ (fp.writes = none → ∀ b, fp.reads = some b → (SS i)[b]? = (SS x)[b]?) := fun fp hfp => by
          have ord : ∀ j fj, j < k → j ≠ x → fps[j]? = some fj → clash fp fj = true ∨ clash fj fp = true → (listed.getD j false = true ↔ j < x) := fun j fj hj hne hfj hc => by
            have hjl : j < ops.size := Nat.lt_of_lt_of_le hj T.kn
            refine iff_of_ord I ok r1 hjl r2 r3 ?_
            rcases hc with hc | hc
            · exact (fpsOk_spec hfps hfp hfj (Ne.symm hne) hc).symm
            · exact fpsOk_spec hfps hfj hfp hne hc
          refine ⟨fun hW => ?_, fun hN b hb => ?_⟩
          · have hix : i ≤ x := by
              rcases Nat.lt_or_ge x i with hlt | hge
              · have := (hw x (by omega) ⟨fp, hfp, hW⟩).2 hlt
                rw [r2] at this; cases this
              · exact hge
            refine ⟨(T.stSame hix hxk fun y h1 h2 hWy => ?_).symm, hix⟩
            obtain ⟨fy, hfy, hwy⟩ := hWy
            have hcl' : clash fy fp = true := by
              obtain ⟨⟨T1, n1⟩, e1⟩ := Option.isSome_iff_exists.1 hW
              simp [clash, e1, hwy]
            have := (ord y fy (by omega) (by omega) hfy (.inr hcl')).2 h2
            have := (hw y (by omega) ⟨fy, hfy, hwy⟩).1 this
            omega
          · have free : ∀ y fy T1 n1, y < k → y ≠ x → ((x ≤ y ∧ y < i) ∨ (i ≤ y ∧ y < x)) → fps[y]? = some fy → fy.writes = some (T1, n1) → b ∉ T1 ∧ b < n1 := fun y fy T1 n1 hyk hyx hrange hfy hwy => by
              have hnc : ¬ (clash fp fy = true) := fun hc => by
                have h1 := ord y fy hyk hyx hfy (.inl hc)
                have h2 := hw y hyk ⟨fy, hfy, by rw [hwy]; rfl⟩
                rw [h1] at h2
                omega
              simp only [clash, hwy, hN, hb, Option.isSome_none, Bool.false_or, Bool.or_eq_true, List.contains_eq_mem, decide_eq_true_eq, not_or] at hnc
              exact ⟨hnc.1, by omega⟩
            rcases Nat.le_total i x with hle | hle
            · exact (T.boxSame hle hxk fun y fy T1 n1 h1 h2 h3 h4 => free y fy T1 n1 (by omega) (by omega) (.inr ⟨h1, h2⟩) h3 h4).symm
            · refine T.boxSame hle hi fun y fy T1 n1 h1 h2 h3 h4 => ?_
              by_cases hyx : y = x
              · subst hyx
                rw [hfp] at h3; cases h3
                rw [hN] at h4; cases h4
              · exact free y fy T1 n1 (by omega) hyx (.inl ⟨h1, h2⟩) h3 h4
        unfold wpOp
        rw [hox]
        simp only
        rcases Nat.lt_or_ge x k with hlt | hge
        · -- a step that goes through
          obtain ⟨o, fp, ho, hfp, hEE, hcase⟩ := T.at hlt
          rw [hox] at ho; cases ho
          obtain ⟨hs1, hs2⟩ := hstate fp hfp
          have hW0 : ∀ fp', fps[x]? = some fp' → fp' = fp := fun fp' h => by rw [hfp] at h; cases h; rfl
          rcases hcase with ⟨hwt, hst⟩ | ⟨hwf, hv0, hss, rfl⟩
          · have hw1 := want_sound (ops := ops) her (o := ops[x]) (b := true) (by rw [hwant]; exact hwt)
            rw [hw1]
            simp only [if_true]
            refine .inl ?_
            cases hfw : fp.writes with
            | none =>
              have := stepR_same hst hfw (st2 := SS i) (hs2 hfw)
              rw [← hstepc] at this
              simp only [reSt] at this
              have hwx : ∀ j, j < k → Wr fps j → ((j = x ∨ listed.getD j false = true) ↔ j < i) := fun j hj hWj => by
                have hjx : j ≠ x := by
                  rintro rfl
                  obtain ⟨f, h1, h2⟩ := hWj
                  rw [hW0 f h1, hfw] at h2; cases h2
                simp only [hjx, false_or]
                exact hw j hj hWj
              rcases stepR_cases this with ⟨this, _⟩ | ⟨n, t, z, hnn, hop, hz, hsn, hrr, _⟩
              · refine stepD_sound hcl g.sim her this fun G' W' u g' hr => ?_
                exact ih _ _ _ hcnt' (InvD.next T I hx hlt hox her hlen hv hi hwx (g.trans g') g'.le hr (fun j n oj hoj _ hlj hnj hal => g'.res _ (hold j n oj hoj hlj hnj hal)) hEE)
              · have hal : isAl ops[x] = true := by simp only [isAl, hop]
                have hge := (held x n _ (hlist x _ hox) hnn hal).2
                refine laid_sound g.sim hop (hold x n _ hox r2 hnn hal) hz hsn fun G' W' u q1 q2 q3 q4 q5 => ?_
                simp only [Res.val.injEq] at hrr
                refine ih _ _ _ hcnt' (InvD.next T I hx hlt hox her hlen hv hi hwx ⟨q1, g.ext.trans q2, g.le.trans q3, fun b hb => q4 b ?_ (g.res b hb)⟩ q3 (by rw [hrr.1]; exact q5) (fun j m oj hoj hjx hlj hnj hal' => q4 m ?_ (hold j m oj hoj hlj hnj hal')) hEE)
                · have := (h.res b hb).1
                  omega
                · rintro rfl
                  exact hjx (inj j x m _ _ (hlist j _ hoj) (hlist x _ hox) hal' hal hnj hnn)
            | some TN =>
              have hsome : fp.writes.isSome = true := by rw [hfw]; rfl
              obtain ⟨hsi, hix⟩ := hs1 hsome
              rw [← hsi] at hst
              rw [← hstepc] at hst
              have hst : stepD P cl (opv env) ops[x] (SS i) = some (.val (VV x) (SS (x + 1)), fp) := by
                rcases stepR_cases hst with ⟨h1, _⟩ | ⟨n, t, z, _, _, _, _, _, hff⟩
                · exact h1
                · rw [hff] at hfw; cases hfw
              refine stepD_sound hcl g.sim her hst fun G' W' u g' hr => ?_
              refine ih _ _ _ hcnt' (InvD.next T I hx hlt hox her hlen hv (i2 := x + 1) (by omega) (fun j hj hWj => ?_) (g.trans g') g'.le hr (fun j n oj hoj _ hlj hnj hal => g'.res _ (hold j n oj hoj hlj hnj hal)) hEE)
              by_cases hjx : j = x
              · subst hjx; simp
              · simp only [hjx, false_or]
                obtain ⟨fj, hfj, hwj⟩ := hWj
                have hjl : j < ops.size := Nat.lt_of_lt_of_le hj T.kn
                have hcl' : clash fj fp = true := by simp [clash, hfw, hwj]
                have := iff_of_ord I ok r1 hjl r2 r3 (fpsOk_spec hfps hfj hfp hjx hcl')
                rw [this]; omega
          · have hw1 := want_sound (ops := ops) her (o := ops[x]) (b := false) (by rw [hwant]; exact hwf)
            rw [hw1]
            simp only [Bool.false_eq_true, if_false]
            refine ih _ _ _ hcnt' (InvD.next T I hx hlt hox her hlen hv hi (fun j hj hWj => ?_) g (.refl _) (by rw [hv0]; exact ⟨#[], rfl, rfl⟩) (fun j n oj hoj _ hlj hnj hal => hold j n oj hoj hlj hnj hal) hEE)
            have hjx : j ≠ x := by
              rintro rfl
              obtain ⟨f, h1, h2⟩ := hWj
              rw [hW0 f h1] at h2; cases h2
            simp only [hjx, false_or]
            exact hw j hj hWj
        · -- the one that panics
          obtain rfl : x = k := by omega
          cases p with
          | none => obtain ⟨f1, _⟩ := hfin; simp at f1; omega
          | some v =>
            obtain ⟨f1, o, fp, ho, hfp, hwt, hst, henv1⟩ := hfin
            have ho' : ops[x]? = some o := by simpa using ho
            rw [hox] at ho'; cases ho'
            simp only at hl
            split at hl
            · rename_i hc
              cases hl
              rw [Bool.and_eq_true] at hc
              rw [f1, Nat.add_sub_cancel] at hc
              have hpo := (panicOk_spec hc.2).2
              obtain ⟨hs1, hs2⟩ := hstate fp hfp
              have hw1 := want_sound (ops := ops) her (o := ops[x]) (b := true) (by rw [hwant]; exact hwt)
              rw [hw1]
              simp only [if_true]
              refine .inl ?_
              have hD : DClosed ops (fun j => listed.getD j false = true) := fun j hj e he => I.closed j hj e he
              have hsi : SS i = SS x := (T.stSame hi (Nat.le_refl _) fun y h1 h2 hWy => by
                obtain ⟨fy, hfy, hwy⟩ := hWy
                have := ordF_pred hD (hpo y fy hfy hwy (by omega)) r3
                have := (hw y h2 ⟨fy, hfy, hwy⟩).1 this
                omega).symm
              rw [← hsi, ← hstepc] at hst
              have hst : stepD P cl (opv env) ops[x] (SS i) = some (.panic v st', fp) := by
                rcases stepR_cases hst with ⟨h1, _⟩ | ⟨n, t, z, _, _, _, _, hff, _⟩
                · exact h1
                · cases hff
              exact stepD_sound hcl g.sim her hst fun G' W' u g' hr => ⟨G', g.trans g', I.defers, u, rfl, hr⟩
            · cases hl
    refine key ops.size _ a0 _ ?_ ⟨by simp, fun j hj => ?_, fun j hj => ?_, hd, G1, env0, 0, by rw [s0]; exact g0, he.le g1.le, rfl, Nat.zero_le _, fun j _ _ => ?_, fun t i' hi' _ hc => ?_, fun j n o ho _ hn hal => (held j n o (hlist j o ho) hn hal).1⟩
    · have : ∀ m, cntU (Array.replicate ops.size false) m ≤ m := by
        intro m
        induction m with
        | zero => simp [cntU]
        | succ m ih => simp only [cntU]; split <;> omega
      exact this _
    · rw [getD_replicate_false'] at hj; cases hj
    · rw [getD_replicate_false'] at hj; cases hj
    · rw [getD_replicate_false']; simp
    · rw [T.envSame (j := i') (i := 0) (Nat.zero_le _) hi' (fun y _ h2 hDy => by
        have := (hc y (by omega) hDy).2 h2
        rw [getD_replicate_false'] at this; cases this), e0]
end Go.Abs
