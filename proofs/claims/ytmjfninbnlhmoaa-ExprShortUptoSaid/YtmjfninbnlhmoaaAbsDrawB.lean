/- A region that draws its order, continued: the steps, and the machine's rule. -/
import Derived.Test.YtmjfninbnlhmoaaAbsDraw
namespace Go.Abs
open Go

variable {P : Program} {cl : Oracle}

/- the operations that neither read nor write boxes -/
def quietOp : Op → Bool
  | .assign _ => false
  | .call _ => false
  | .load _ _ => false
  | .store _ _ _ => false
  | .alloc _ => false
  | .box _ _ => false
  | _ => true

def asRes (st : St) : Option (V × Bool) → Option Res
  | some (v, true) => some (.panic v st)
  | some (v, false) => some (.val v st)
  | none => none

def unRes : Option Res → Option (V × Bool)
  | some (.val v _) => some (v, false)
  | some (.panic v _) => some (v, true)
  | none => none

theorem val_as (st : St) (x : Option V) : val? st x = asRes st (unRes (val? [] x)) := by cases x <;> rfl

theorem opStep_quiet {ev : Operand → V} {o : Oper} (hk : quietOp o.op = true) (st : St) : opStep P cl ev o st = asRes st (unRes (opStep P cl ev o [])) := by
  obtain ⟨dst, op, type, pos, after, guard⟩ := o
  cases op <;> simp only [quietOp, Bool.false_eq_true] at hk <;> simp only [opStep]
  case pick c a b => cases ev c <;> rfl
  case nilCheck x => cases ev x <;> rfl
  case makeInterface t x =>
    cases hT : ti P t with
    | none => rfl
    | some T => obtain ⟨D, a, b, c, d⟩ := T; cases D <;> rfl
  case makeFunc fn first cap => cases fn <;> rfl
  case extract x i =>
    cases ev x <;> try rfl
    exact val_as _ _
  case panic x => cases ev x <;> rfl
  all_goals first | rfl | exact val_as _ _

theorem stepD_quiet {ev : Operand → V} {o : Oper} (hk : quietOp o.op = true) (st : St) :
    stepD P cl ev o st = (asRes st (unRes (opStep P cl ev o []))).map fun r => (r, ⟨none, none⟩) := by
  have := opStep_quiet (P := P) (cl := cl) (ev := ev) hk st
  obtain ⟨dst, op, type, pos, after, guard⟩ := o
  cases op <;> simp only [quietOp, Bool.false_eq_true] at hk <;> simp only [stepD] <;> rw [this] <;>
    cases asRes st (unRes (opStep P cl ev _ [])) <;> rfl

/- what a step writes -/
theorem stepD_writes {ev : Operand → V} {o : Oper} {st : St} {v : V} {st' : St} {fp : Fp} (h : stepD P cl ev o st = some (.val v st', fp)) :
    (fp.writes = none → st' = st) ∧ ∀ T n, fp.writes = some (T, n) → n = st.length ∧ ∀ b, b ∉ T → b < n → st'[b]? = st[b]? := by
  have fin : fp = ⟨none, none⟩ ∧ st' = st → (fp.writes = none → st' = st) ∧ ∀ T n, fp.writes = some (T, n) → n = st.length ∧ ∀ b, b ∉ T → b < n → st'[b]? = st[b]? := by
    rintro ⟨rfl, rfl⟩; exact ⟨fun _ => rfl, fun T n e => by cases e⟩
  by_cases hk : quietOp o.op = true
  · rw [stepD_quiet hk] at h
    refine fin ?_
    cases hq : unRes (opStep P cl ev o []) with
    | none => simp [hq, asRes] at h
    | some q =>
      obtain ⟨w, b⟩ := q
      cases b <;> simp [hq, asRes] at h
      exact ⟨h.2.symm, h.1.2.symm⟩
  obtain ⟨dst, op, type, pos, after, guard⟩ := o
  cases op <;> simp only [quietOp, not_true_eq_false] at hk <;> simp only [stepD] at h
  case assign x => simp only [Option.some.injEq, Prod.mk.injEq, Res.val.injEq] at h; exact fin ⟨h.2.symm, h.1.2.symm⟩
  case load t a =>
    split at h
    · simp only [Option.some.injEq, Prod.mk.injEq, Res.val.injEq] at h
      obtain ⟨⟨_, rfl⟩, rfl⟩ := h
      exact ⟨fun _ => rfl, fun T n e => by cases e⟩
    · cases h
  case store t a x =>
    split at h
    · rename_i s hs
      simp only [Option.some.injEq, Prod.mk.injEq, Res.val.injEq] at h
      obtain ⟨⟨_, rfl⟩, rfl⟩ := h
      refine ⟨fun e => (by cases e), fun T n e => ?_⟩
      cases e
      refine ⟨rfl, fun b hb hlt => ?_⟩
      unfold storeV at hs
      cases ha : ev a <;> simp only [ha, reduceCtorEq] at hs
      case box k off =>
        cases hT : ti P t with
        | none => simp [hT] at hs
        | some T =>
          cases hk : st[k]? with
          | none => simp [hT, hk] at hs
          | some cs =>
            simp only [hT, hk] at hs
            split at hs
            · split at hs
              · simp only [Option.some.injEq] at hs
                subst hs
                rw [ha] at hb
                obtain ⟨s', hs'⟩ := adopt_app (ev x) st
                rw [set_get (by simpa [fpRead] using hb), hs', app_get hlt]
              · cases hs
            · cases hs
    · cases h
  case alloc t =>
    split at h
    · rename_i r hr
      simp only [Option.some.injEq, Prod.mk.injEq] at h
      obtain ⟨rfl, rfl⟩ := h
      refine ⟨fun e => (by cases e), fun T n e => ?_⟩
      cases e
      refine ⟨rfl, fun b _ hlt => ?_⟩
      simp only [opStep] at hr
      cases hT : ti P t with
      | none => simp [hT] at hr
      | some T =>
        simp only [hT] at hr
        split at hr
        · simp only [Option.some.injEq, Res.val.injEq] at hr
          obtain ⟨_, rfl⟩ := hr
          obtain ⟨s', hs'⟩ := adopt_app T.zero st
          rw [hs', List.append_assoc, app_get hlt]
        · cases hr
    · cases h
  case box t x =>
    split at h
    · rename_i r hr
      simp only [Option.some.injEq, Prod.mk.injEq] at h
      obtain ⟨rfl, rfl⟩ := h
      refine ⟨fun e => (by cases e), fun T n e => ?_⟩
      cases e
      refine ⟨rfl, fun b _ hlt => ?_⟩
      simp only [opStep] at hr
      split at hr
      · split at hr
        · simp only [Option.some.injEq, Res.val.injEq] at hr
          obtain ⟨_, rfl⟩ := hr
          exact app_get hlt
        · cases hr
      · cases hr
    · cases h
  case call c =>
    split at h
    · rename_i r w hr
      simp only [Option.some.injEq, Prod.mk.injEq] at h
      obtain ⟨rfl, rfl⟩ := h
      unfold callD at hr
      split at hr
      · split at hr
        · split at hr
          · split at hr
            · split at hr
              · simp only [Option.some.injEq, Prod.mk.injEq, Res.val.injEq] at hr
                obtain ⟨⟨_, rfl⟩, rfl⟩ := hr
                exact ⟨fun _ => rfl, fun T n e => by cases e⟩
              · cases hr
            · simp at hr
            · cases hr
          · rename_i r0 rs hrefs
            split at hr
            · rename_i q hq
              simp only [Option.some.injEq, Prod.mk.injEq] at hr
              obtain ⟨rfl, rfl⟩ := hr
              refine ⟨fun e => (by cases e), fun T n e => ?_⟩
              cases e
              exact ⟨rfl, doCall_fp hrefs hq⟩
            · cases hr
        · cases hr
      · rename_i b
        split at hr
        · rename_i q hq
          simp only [Option.some.injEq, Prod.mk.injEq] at hr
          obtain ⟨rfl, rfl⟩ := hr
          unfold builtinV at hq
          split at hq
          · have : st' = st := by
              split at hq
              · split at hq <;> simp only [Option.some.injEq, Res.val.injEq, reduceCtorEq] at hq <;> exact hq.2.symm
              · cases hq
            exact ⟨fun _ => this, fun T n e => by cases e⟩
          · rename_i s x hargs
            have hap : ∃ t, appendV P t s x st = some (.val v st') := by
              split at hq
              · split at hq
                · exact ⟨_, hq⟩
                · exact ⟨_, hq⟩
                · cases hq
              · cases hq
            obtain ⟨t, hap⟩ := hap
            obtain ⟨v', s', e, T, h1, h2⟩ := append_fp hap
            cases e
            rw [hargs]
            simp only
            rw [h1]
            exact ⟨fun e => (by cases e), fun T' n e => by cases e; exact ⟨rfl, h2⟩⟩
          · simp only [Option.map_eq_some_iff, Res.val.injEq] at hq
            obtain ⟨_, _, _, rfl⟩ := hq
            exact ⟨fun _ => rfl, fun T n e => by cases e⟩
          · simp only [Option.map_eq_some_iff, Res.val.injEq] at hq
            obtain ⟨_, _, _, rfl⟩ := hq
            exact ⟨fun _ => rfl, fun T n e => by cases e⟩
          · cases hq
        · cases hr
      · cases hr
    · cases h

def reSt (st : St) : Res → Res
  | .val v _ => .val v st
  | .panic v _ => .panic v st

/- a step that writes nothing hangs on what it reads alone -/
theorem stepD_same {ev : Operand → V} {o : Oper} {st : St} {r : Res} {fp : Fp} (h : stepD P cl ev o st = some (r, fp)) (hw : fp.writes = none) {st2 : St}
    (hr : ∀ b, fp.reads = some b → st2[b]? = st[b]?) :
    stepD P cl ev o st2 = some (reSt st2 r, fp) := by
  by_cases hk : quietOp o.op = true
  · rw [stepD_quiet hk] at h ⊢
    cases hq : unRes (opStep P cl ev o []) with
    | none => simp [hq, asRes] at h
    | some q =>
      obtain ⟨w, b⟩ := q
      cases b <;> simp [hq, asRes] at h <;> obtain ⟨rfl, rfl⟩ := h <;> rfl
  obtain ⟨dst, op, type, pos, after, guard⟩ := o
  cases op <;> simp only [quietOp, not_true_eq_false] at hk <;> simp only [stepD] at h ⊢
  case assign x => simp only [Option.some.injEq, Prod.mk.injEq] at h; obtain ⟨rfl, rfl⟩ := h; rfl
  case load t a =>
    cases hl : loadV P t (ev a) st with
    | none => simp [hl] at h
    | some v =>
      simp only [hl, Option.some.injEq, Prod.mk.injEq] at h
      obtain ⟨rfl, rfl⟩ := h
      have : loadV P t (ev a) st2 = some v := by
        rw [← hl]
        unfold loadV
        have hc : cellsAt st2 (ev a) = cellsAt st (ev a) := by
          cases hv : ev a <;> try rfl
          case box b off =>
            have := hr b (by simp [hv, fpRead])
            simp only [cellsAt, this]
        rw [hc]
      rw [this]
      rfl
  case store t a x => split at h <;> simp only [Option.some.injEq, Prod.mk.injEq, reduceCtorEq] at h; obtain ⟨_, rfl⟩ := h; cases hw
  case alloc t => split at h <;> simp only [Option.some.injEq, Prod.mk.injEq, reduceCtorEq] at h; obtain ⟨_, rfl⟩ := h; cases hw
  case box t x => split at h <;> simp only [Option.some.injEq, Prod.mk.injEq, reduceCtorEq] at h; obtain ⟨_, rfl⟩ := h; cases hw
  case call c =>
    split at h
    · rename_i r' w hc
      simp only [Option.some.injEq, Prod.mk.injEq] at h
      obtain ⟨rfl, rfl⟩ := h
      simp only at hw
      subst hw
      have key : callD P cl ev c st2 = some (reSt st2 r', none) := by
        unfold callD at hc ⊢
        cases hcal : c.callee with
        | invoke x m => simp [hcal] at hc
        | value f =>
          simp only [hcal] at hc ⊢
          cases hf : ev f <;> simp only [hf, reduceCtorEq] at hc ⊢
          case func g first cap =>
            cases hrefs : refsL (frzL (first ++ c.args.toList.map ev ++ cap)) with
            | nil =>
              rw [hrefs] at hc
              simp only at hc ⊢
              split at hc
              · split at hc
                · rename_i hcl hemp
                  simp only [Option.some.injEq, Prod.mk.injEq] at hc
                  obtain ⟨rfl, _⟩ := hc
                  simp only [hemp, if_true]
                  rfl
                · cases hc
              · rename_i hcl
                simp only [Option.some.injEq, Prod.mk.injEq] at hc
                obtain ⟨rfl, _⟩ := hc
                rfl
              · cases hc
            | cons r0 rs =>
              rw [hrefs] at hc
              simp only at hc
              split at hc
              · simp only [Option.some.injEq, Prod.mk.injEq, reduceCtorEq, and_false] at hc
              · cases hc
        | builtin b =>
          simp only [hcal] at hc ⊢
          cases hb : builtinV P b c.argTypes (c.args.toList.map ev) st with
          | none => simp [hb] at hc
          | some q =>
            simp only [hb, Option.some.injEq, Prod.mk.injEq] at hc
            obtain ⟨rfl, hw⟩ := hc
            have hne : b ≠ .append := by
              rintro rfl
              simp only at hw
              unfold appFp at hw
              split at hw <;> cases hw
            have : builtinV P b c.argTypes (c.args.toList.map ev) st2 = some (reSt st2 q) := by
              unfold builtinV at hb ⊢
              split at hb
              · split at hb
                · rename_i t ht
                  split at hb
                  · rename_i h1; cases hb; rfl
                  · rename_i h1; cases hb; rfl
                  · rename_i h1; cases hb; rfl
                  · cases hb
                · cases hb
              · exact absurd rfl hne
              · simp only [Option.map_eq_some_iff] at hb ⊢
                obtain ⟨m, hm, rfl⟩ := hb
                exact ⟨m, hm, rfl⟩
              · simp only [Option.map_eq_some_iff] at hb ⊢
                obtain ⟨m, hm, rfl⟩ := hb
                exact ⟨m, hm, rfl⟩
              · cases hb
            rw [this]
            simp only
      rw [key]
    · cases h

end Go.Abs
