/- A region that draws its order: whatever the order, what the text's order says. -/
import Derived.Test.YtmjfninbnlhmoaaAbsRegC
namespace Go.Abs
open Go

variable {P : Program} {cl : Oracle}

/- the steps of a trace -/
structure Tr1 (P : Program) (cl : Oracle) (ops : Array Oper) (l : List Oper) (EE : Nat → Env) (SS : Nat → St) (VV : Nat → V) (fps : List Fp) (i : Nat) : Prop where
  step : ∀ o, l[i]? = some o → ∃ fp, fps[i]? = some fp ∧ EE (i + 1) = setD (EE i) o.dst (VV i) ∧
    ((want ops (EE i) o.guard = some true ∧ stepD P cl (opv (EE i)) o (SS i) = some (.val (VV i) (SS (i + 1)), fp)) ∨
     (want ops (EE i) o.guard = some false ∧ VV i = .tup [] ∧ SS (i + 1) = SS i ∧ fp = ⟨none, none⟩))

def TFin (P : Program) (cl : Oracle) (ops : Array Oper) (l : List Oper) (EE : Nat → Env) (SS : Nat → St) (fps : List Fp) (k : Nat) (p : Option V) (env' : Env) (st' : St) : Prop :=
  match p with
  | none => k = l.length ∧ fps.length = k ∧ EE k = env' ∧ SS k = st'
  | some v => fps.length = k + 1 ∧ ∃ o fp, l[k]? = some o ∧ fps[k]? = some fp ∧ want ops (EE k) o.guard = some true ∧ stepD P cl (opv (EE k)) o (SS k) = some (.panic v st', fp) ∧ EE k = env'

theorem trace_spec {ops : Array Oper} : ∀ {l : List Oper} {env : Env} {st : St} {p : Option V} {env' : Env} {st' : St} {fps : List Fp}, traceD P cl ops l env st = some (p, env', st', fps) →
    ∃ (EE : Nat → Env) (SS : Nat → St) (VV : Nat → V) (k : Nat), EE 0 = env ∧ SS 0 = st ∧ k ≤ l.length ∧ (∀ i, i < k → Tr1 P cl ops l EE SS VV fps i) ∧
      TFin P cl ops l EE SS fps k p env' st'
  | [], env, st, p, env', st', fps, h => by
    simp only [traceD, Option.some.injEq, Prod.mk.injEq] at h
    obtain ⟨rfl, rfl, rfl, rfl⟩ := h
    exact ⟨fun _ => env, fun _ => st, fun _ => .undef, 0, rfl, rfl, Nat.le_refl _, fun i hi => by omega, rfl, rfl, rfl, rfl⟩
  | o :: rest, env, st, p, env', st', fps, h => by
    have cons : ∀ {v : V} {st1 : St} {fp : Fp} {fps' : List Fp}, fps = fp :: fps' → traceD P cl ops rest (setD env o.dst v) st1 = some (p, env', st', fps') →
        ((want ops env o.guard = some true ∧ stepD P cl (opv env) o st = some (.val v st1, fp)) ∨ (want ops env o.guard = some false ∧ v = .tup [] ∧ st1 = st ∧ fp = ⟨none, none⟩)) →
        ∃ (EE : Nat → Env) (SS : Nat → St) (VV : Nat → V) (k : Nat), EE 0 = env ∧ SS 0 = st ∧ k ≤ (o :: rest).length ∧ (∀ i, i < k → Tr1 P cl ops (o :: rest) EE SS VV fps i) ∧
          TFin P cl ops (o :: rest) EE SS fps k p env' st' := by
      intro v st1 fp fps' hf ht hs
      obtain ⟨EE, SS, VV, k, h1, h2, h3, h4, h5⟩ := trace_spec ht
      refine ⟨fun i => match i with | 0 => env | i + 1 => EE i, fun i => match i with | 0 => st | i + 1 => SS i, fun i => match i with | 0 => v | i + 1 => VV i, k + 1, rfl, rfl, by simp; exact h3, fun i hi => ?_, ?_⟩
      · cases i with
        | zero =>
          refine ⟨fun o' ho' => ?_⟩
          simp only [List.getElem?_cons_zero, Option.some.injEq] at ho'
          subst ho'
          refine ⟨fp, by rw [hf]; rfl, h1, ?_⟩
          rcases hs with ⟨a1, a2⟩ | ⟨a1, a2, a3, a4⟩
          · exact .inl ⟨a1, by show stepD P cl (opv env) o st = some (.val v (SS 0), fp); rw [h2]; exact a2⟩
          · exact .inr ⟨a1, a2, by show SS 0 = st; rw [h2]; exact a3, a4⟩
        | succ i =>
          obtain ⟨hstep⟩ := h4 i (by omega)
          refine ⟨fun o' ho' => ?_⟩
          obtain ⟨fp', e1, e2, e3⟩ := hstep o' (by simpa using ho')
          exact ⟨fp', by rw [hf]; simpa using e1, e2, e3⟩
      · cases p with
        | none =>
          obtain ⟨e1, e2, e3, e4⟩ := h5
          exact ⟨by simp [e1], by rw [hf]; simp [e2], e3, e4⟩
        | some v =>
          obtain ⟨e1, o', fp', e2, e3, e4, e5, e6⟩ := h5
          exact ⟨by rw [hf]; simp [e1], o', fp', by simpa using e2, by rw [hf]; simpa using e3, e4, e5, e6⟩
    simp only [traceD] at h
    cases hw : want ops env o.guard with
    | none => simp [hw] at h
    | some b =>
      cases b with
      | true =>
        simp only [hw] at h
        cases hs : stepD P cl (opv env) o st with
        | none => simp [hs] at h
        | some q =>
          obtain ⟨r, fp⟩ := q
          cases r with
          | val v st1 =>
            simp only [hs] at h
            cases ht : traceD P cl ops rest (setD env o.dst v) st1 with
            | none => simp [ht] at h
            | some q =>
              obtain ⟨p', e', s', f'⟩ := q
              simp only [ht, Option.some.injEq, Prod.mk.injEq] at h
              obtain ⟨rfl, rfl, rfl, rfl⟩ := h
              exact cons rfl ht (.inl ⟨hw, hs⟩)
          | panic v st1 =>
            simp only [hs, Option.some.injEq, Prod.mk.injEq] at h
            obtain ⟨rfl, rfl, rfl, rfl⟩ := h
            exact ⟨fun _ => env, fun _ => st, fun _ => .undef, 0, rfl, rfl, Nat.zero_le _, fun i hi => by omega, rfl, o, fp, rfl, rfl, hw, hs, rfl⟩
      | false =>
        simp only [hw] at h
        cases ht : traceD P cl ops rest (setD env o.dst (.tup [])) st with
        | none => simp [ht] at h
        | some q =>
          obtain ⟨p', e', s', f'⟩ := q
          simp only [ht, Option.some.injEq, Prod.mk.injEq] at h
          obtain ⟨rfl, rfl, rfl, rfl⟩ := h
          exact cons rfl ht (.inr ⟨hw, rfl, rfl, rfl⟩)

/- order -/
def DClosed (ops : Array Oper) (D : Nat → Prop) : Prop := ∀ j, D j → ∀ e ∈ edges ops j, D e

theorem ordF_closed {ops : Array Oper} {D : Nat → Prop} (hD : DClosed ops D) : ∀ {k i j : Nat}, ordF ops k i j = true → D j → D i
  | 0, i, j, h, _ => by simp [ordF] at h
  | k + 1, i, j, h, hj => by
    simp only [ordF, List.any_eq_true, Bool.or_eq_true, beq_iff_eq] at h
    obtain ⟨e, he, h⟩ := h
    have hde := hD j hj e he
    rcases h with rfl | h
    · exact hde
    · exact ordF_closed hD h hde

/- all that is ahead of j lies in what j's edges reach -/
theorem ordF_pred {ops : Array Oper} {D : Nat → Prop} (hD : DClosed ops D) {k i j : Nat} (h : ordF ops k i j = true) (hj : ∀ e ∈ edges ops j, D e) : D i := by
  cases k with
  | zero => simp [ordF] at h
  | succ k =>
    simp only [ordF, List.any_eq_true, Bool.or_eq_true, beq_iff_eq] at h
    obtain ⟨e, he, h⟩ := h
    rcases h with rfl | h
    · exact hj _ he
    · exact ordF_closed hD h (hj e he)

theorem ordF_lt {ops : Array Oper} (he : ∀ j, j < ops.size → ∀ e ∈ edges ops j, e < j) : ∀ {k i j : Nat}, ordF ops k i j = true → j < ops.size → i < j
  | 0, i, j, h, _ => by simp [ordF] at h
  | k + 1, i, j, h, hj => by
    simp only [ordF, List.any_eq_true, Bool.or_eq_true, beq_iff_eq] at h
    obtain ⟨e, hm, h⟩ := h
    have h1 := he j hj e hm
    rcases h with rfl | h
    · exact h1
    · have := ordF_lt he h (by omega); omega

structure DrawOk (ops : Array Oper) : Prop where
  edge : ∀ j, j < ops.size → ∀ e ∈ edges ops j, e < j
  look : ∀ i j, i < ops.size → j < ops.size → i ≠ j → looksB ops i j = true → ordB ops i j = true ∨ ordB ops j i = true

theorem drawOk_spec {ops : Array Oper} (h : drawOk ops = true) : DrawOk ops := by
  simp only [drawOk, Bool.and_eq_true] at h
  obtain ⟨⟨_, h2⟩, h3⟩ := h
  rw [List.all_eq_true] at h2 h3
  refine ⟨fun j hj e he => ?_, fun i j hi hj hne hl => ?_⟩
  · have := List.all_eq_true.1 (h2 j (by simpa using hj)) e he
    simpa using this
  · have := List.all_eq_true.1 (h3 i (by simpa using hi)) j (by simpa using hj)
    simp only [Bool.or_eq_true, beq_iff_eq, hne, false_or, Bool.not_eq_true', hl, Bool.true_eq_false] at this
    exact this

theorem fpsOk_spec {ops : Array Oper} {fps : List Fp} (h : fpsOk ops fps = true) {i j : Nat} {a b : Fp} (hi : fps[i]? = some a) (hj : fps[j]? = some b) (hne : i ≠ j) (hc : clash a b = true) :
    ordB ops i j = true ∨ ordB ops j i = true := by
  unfold fpsOk at h
  rw [List.all_eq_true] at h
  have h1 := h (a, i) (by rw [List.mem_zipIdx_iff_getElem?]; exact hi)
  have h2 := List.all_eq_true.1 h1 (b, j) (by rw [List.mem_zipIdx_iff_getElem?]; exact hj)
  simp only [Bool.or_eq_true, beq_iff_eq, hne, false_or, Bool.not_eq_true', hc, Bool.true_eq_false] at h2
  exact h2

theorem panicOk_spec {ops : Array Oper} {m : Nat} {fps : List Fp} (h : panicOk ops m fps = true) :
    (∀ j, j < ops.size → m < j → ordB ops m j = true) ∧ ∀ j b, fps[j]? = some b → b.writes.isSome = true → j ≠ m → ordB ops j m = true := by
  unfold panicOk at h
  rw [Bool.and_eq_true] at h
  obtain ⟨h1, h2⟩ := h
  refine ⟨fun j hj hm => ?_, fun j b hb hw hne => ?_⟩
  · have := List.all_eq_true.1 h1 j (by simpa using hj)
    simp only [Bool.or_eq_true, decide_eq_true_eq] at this
    exact this.resolve_left (by omega)
  · have := List.all_eq_true.1 h2 (b, j) (by rw [List.mem_zipIdx_iff_getElem?]; exact hb)
    simp only [Bool.or_eq_true, beq_iff_eq, hne, or_false] at this
    rcases this with h | h
    · rw [Option.isNone_iff_eq_none] at h; rw [h] at hw; cases hw
    · exact h

/- what a step leaves of the boxes -/
theorem set_get {st : St} {b b' : Nat} {c : List V} (h : b' ≠ b) : (st.set b c)[b']? = st[b']? := List.getElem?_set_ne (Ne.symm h)

theorem app_get {st s : St} {b : Nat} (h : b < st.length) : (st ++ s)[b]? = st[b]? := List.getElem?_append_left h

theorem adopt_app (v : V) (st : St) : ∃ s, (adopt v st).2 = st ++ s := by
  cases v with
  | slice o xs =>
    cases o with
    | full => exact ⟨_, rfl⟩
    | _ => exact ⟨[], (List.append_nil _).symm⟩
  | agg cs => exact ⟨_, rfl⟩
  | _ => exact ⟨[], (List.append_nil _).symm⟩

theorem append_fp {t : TypeId} {s x : V} {st : St} {r : Res} (h : appendV P t s x st = some r) :
    ∃ v st', r = .val v st' ∧ ∃ T, appFp st [s, x] = some (T, st.length) ∧ ∀ b, b ∉ T → b < st.length → st'[b]? = st[b]? := by
  unfold appendV at h
  cases hT : ti P t with
  | none => simp [hT] at h
  | some T =>
    obtain ⟨D, sz, by_, ze, eq⟩ := T
    rw [hT] at h
    cases D <;> try (cases s <;> simp at h; done)
    case slice e =>
      cases s <;> try (simp at h; done)
      case slice o xs =>
        simp only at h
        cases hE : ti P e with
        | none => simp [hE] at h
        | some E =>
          simp only [hE] at h
          cases hz : appElems E x with
          | none => simp [hz] at h
          | some zs =>
            simp only [hz] at h
            split at h
            · cases o with
              | froz => simp at h
              | full => simp only [Option.some.injEq] at h; exact ⟨_, _, h.symm, [], rfl, fun b _ hb => app_get hb⟩
              | own k =>
                simp only at h
                split at h
                · simp only [Option.some.injEq] at h
                  exact ⟨_, _, h.symm, [k], rfl, fun b hb _ => set_get (by simpa using hb)⟩
                · cases h
            · cases h

theorem writeBack_other (ρ : Nat → Nat) : ∀ (R : List Nat) (cs st : St) (b : Nat), b ∉ R → (writeBack ρ R cs st)[b]? = st[b]?
  | [], _, _, _, _ => by simp [writeBack]
  | r :: R, [], _, _, _ => by simp [writeBack]
  | r :: R, c :: cs, st, b, h => by
    simp only [List.mem_cons, not_or] at h
    simp only [writeBack]
    rw [writeBack_other ρ R cs _ b h.2, set_get h.1]
theorem writeBack_length (ρ : Nat → Nat) : ∀ (R : List Nat) (cs st : St), (writeBack ρ R cs st).length = st.length
  | [], _, _ => by simp [writeBack]
  | r :: R, [], _ => by simp [writeBack]
  | r :: R, c :: cs, st => by simp only [writeBack]; rw [writeBack_length ρ R cs]; simp

theorem doCall_fp {g : FuncId} {args : List V} {st : St} {r : Nat} {rs : List Nat} {q : Res} (hr : refsL (frzL args) = r :: rs) (h : doCall cl g args st = some q) :
    ∀ b, b ∉ reach st reachFuel (r :: rs) [] → b < st.length → (match q with | .val _ s => s | .panic _ s => s)[b]? = st[b]? := by
  unfold doCall at h
  simp only at h
  rw [hr] at h
  simp only at h
  generalize reach st reachFuel (r :: rs) [] = R at h
  intro b hb hlt
  split at h
  · split at h
    · split at h
      · cases h; simp only; rw [app_get (by rw [writeBack_length]; exact hlt), writeBack_other _ _ _ _ _ hb]
      · cases h
    · split at h
      · cases h; simp only; rw [app_get (by rw [writeBack_length]; exact hlt), writeBack_other _ _ _ _ _ hb]
      · cases h
    · cases h
  · cases h

end Go.Abs
