/- All operations; plain regions. -/
import Derived.Test.YtmjfninbnlhmoaaAbsRegB
namespace Go.Abs
open Go

variable {P : Program} {G : Ghost} {st : St} {W : World}

theorem valQ {st : St} {x : Option V} {r : Res} (h : val? st x = some r) : ∃ v, x = some v ∧ r = .val v st := by
  cases x with
  | none => simp [val?] at h
  | some v => simp only [val?, Option.some.injEq] at h; exact ⟨v, rfl, h.symm⟩

theorem opStep_sound {cl : Oracle} (hcl : Sound P cl) {o : Oper} {a : Act} {env : Env} {r : Res} (h : Sim G st W) (he : Reps G env a.tmps.toList)
    (hl : opStep P cl (opv env) o st = some r) {next : Act → World → Prop} {Q : Exit → Act → World → Prop} (hn : Cont G W o.dst a next Q r) : o.wp P a W next Q := by
  have ho := fun x => opv_sound he x
  have pairs : ∀ ps : Array (Nat × Operand), (ps.toList.map fun p => (p.1, opv env p.2)).length = (ps.map fun (i, x) => (i, a.eval x)).toList.length ∧
      ∀ (i : Nat) p q, (ps.toList.map fun p => (p.1, opv env p.2))[i]? = some p → (ps.map fun (i, x) => (i, a.eval x)).toList[i]? = some q → p.1 = q.1 ∧ Rep G p.2 q.2 := fun ps => by
    refine ⟨by simp, fun i p q hp hq => ?_⟩
    rw [Array.toList_map] at hq
    rw [List.getElem?_map] at hp hq
    cases hx : ps.toList[i]? with
    | none => simp [hx] at hp
    | some y =>
      rw [hx] at hp hq
      simp only [Option.map_some, Option.some.injEq] at hp hq
      subst hp; subst hq
      exact ⟨rfl, ho _⟩
  obtain ⟨dst, op, type, pos, after, guard⟩ := o
  simp only at hn
  cases op <;> simp only [opStep, reduceCtorEq] at hl
  case move x =>
    cases hl
    exact wp_val (W' := W) (by simp [execOp]) (hn G W _ (.refl h) (ho x))
  case assign x =>
    cases hl
    obtain ⟨G', g, hr⟩ := adopt_sound h (ho x)
    exact wp_val (W' := W) (by simp [execOp]) (hn G' W _ g hr)
  case pick c x y =>
    have hc := ho c
    cases hcv : opv env c <;> simp only [hcv, reduceCtorEq, Option.some.injEq] at hl
    case bool b =>
      subst hl
      rw [hcv] at hc
      simp only [Rep] at hc
      refine wp_val (u := if b then a.eval x else a.eval y) (W' := W) ?_ (hn G W _ (.refl h) ?_)
      · simp [execOp, hc, asBool]
      · cases b <;> exact ho _
  case alloc t =>
    cases hT : ti P t with
    | none => simp [hT] at hl
    | some T =>
      simp only [hT] at hl
      split at hl
      · cases hl
        obtain ⟨u, W', G', q1, q2, q3⟩ := alloc_sound h hT
        refine wp_val (u := u) (W' := W') ?_ (hn G' W' u q2 q3)
        simp only [execOp, Sem.run_bind, q1, Result.andThen_ok, Sem.run_pure]
      · cases hl
  case box t x =>
    cases hT : ti P t with
    | none => simp [hT] at hl
    | some T =>
      simp only [hT] at hl
      split at hl
      · rename_i hc
        cases hl
        obtain ⟨u, W', G', q1, q2, q3⟩ := box_sound (P := P) (t := t) h (ho x) hc.2
        refine wp_val (u := u) (W' := W') ?_ (hn G' W' u q2 q3)
        simp only [execOp, Sem.run_bind, q1, Result.andThen_ok, Sem.run_pure]
      · cases hl
  case build t parts =>
    obtain ⟨v, hv, rfl⟩ := valQ hl
    obtain ⟨p1, p2⟩ := pairs parts
    obtain ⟨w, q1, q2⟩ := build_sound (W := W) hv p1 p2
    refine wp_val (u := w) (W' := W) ?_ (hn G W w (.refl h) q2)
    simp only [execOp, Sem.run_bind, q1, Result.andThen_ok, Sem.run_pure]
  case buildSlice t len parts =>
    obtain ⟨v, hv, rfl⟩ := valQ hl
    obtain ⟨p1, p2⟩ := pairs parts
    obtain ⟨w, W', G', q1, q2, q3⟩ := buildSlice_sound h hv p1 p2
    refine wp_val (u := w) (W' := W') ?_ (hn G' W' w q2 q3)
    simp only [execOp, Sem.run_bind, q1, Result.andThen_ok, Sem.run_pure]
  case load t x =>
    obtain ⟨v, hv, rfl⟩ := valQ hl
    obtain ⟨u, q1, q2⟩ := load_sound h (ho x) hv
    refine wp_val (u := u) (W' := W) ?_ (hn G W u (.refl h) q2)
    simp only [execOp, Sem.run_bind, q1, Result.andThen_ok, Sem.run_pure]
  case store t x y =>
    cases hs : storeV P t (opv env x) (opv env y) st with
    | none => simp [hs] at hl
    | some st' =>
      simp only [hs, Option.some.injEq] at hl
      subst hl
      obtain ⟨W', G', q1, q2⟩ := store_sound h (ho x) (ho y) hs
      unfold Oper.wp
      have hrun : (execOp a.eval ⟨dst, .store t x y, type, pos, after, guard⟩).run P W = .ok .skip W' := by
        simp only [execOp, Sem.run_bind, q1, Result.andThen_ok, Sem.run_pure]
      rw [hrun]
      exact hn G' W' undef q2 ⟨#[], rfl, rfl⟩
  case nilCheck x =>
    have hx := ho x
    cases hxv : opv env x <;> simp only [hxv, reduceCtorEq, Option.some.injEq] at hl <;> subst hl <;> rw [hxv] at hx
    · obtain ⟨B, hB, e⟩ := hx
      exact wp_val (u := .pointer (some (adr B _))) (W' := W) (by simp [execOp, e]) (hn G W _ (.refl h) ⟨B, hB, rfl⟩)
    · obtain ⟨h0, B, off, e, hr⟩ := hx
      exact wp_val (u := .pointer (some (adr B off))) (W' := W) (by simp [execOp, e]) (hn G W _ (.refl h) ⟨h0, B, off, rfl, hr⟩)
    · obtain ⟨fs, cs, e, h1, h2⟩ := hx
      exact wp_val (u := .func (.func _) fs cs) (W' := W) (by simp [execOp, e]) (hn G W _ (.refl h) ⟨fs, cs, rfl, h1, h2⟩)
  case binOp op t x y ty =>
    obtain ⟨v, hv, rfl⟩ := valQ hl
    obtain ⟨u, q1, q2⟩ := binOp_sound (W := W) (x := x) (y := y) (ho x) (ho y) hv
    refine wp_val (u := u) (W' := W) ?_ (hn G W u (.refl h) q2)
    simp only [execOp]
    rw [Sem.run_bind, q1]; rfl
  case unOp op t x =>
    obtain ⟨v, hv, rfl⟩ := valQ hl
    obtain ⟨u, q1, q2⟩ := unOp_sound (P := P) (W := W) (ho x) hv
    refine wp_val (u := u) (W' := W) ?_ (hn G W u (.refl h) q2)
    simp only [execOp, Sem.run_bind, q1, Result.andThen_ok, Sem.run_pure]
  case convert s d x =>
    obtain ⟨v, hv, rfl⟩ := valQ hl
    obtain ⟨u, W', q1, q2, q3⟩ := convert_sound h (ho x) hv
    refine wp_val (u := u) (W' := W') ?_ (hn G W' u q2 q3)
    simp only [execOp, Sem.run_bind, q1, Result.andThen_ok, Sem.run_pure]
  case makeInterface t x =>
    cases hT : ti P t with
    | none => simp [hT] at hl
    | some T =>
      obtain ⟨i, d, z, h1, h2, -, -, h3, -⟩ := ti_spec hT
      obtain ⟨D, sz, by_, ze, eq⟩ := T
      simp only at h3
      rw [hT] at hl
      have hr : r = .val (.iface t (opv env x)) st ∧ ∀ ms, d ≠ .interface ms := by
        cases D <;> simp only [reduceCtorEq, Option.some.injEq] at hl <;> exact ⟨hl.symm, fun ms e => by subst e; simp [dOf] at h3⟩
      obtain ⟨rfl, hd⟩ := hr
      refine wp_val (u := .iface t (a.eval x)) (W' := W) ?_ (hn G W _ (.refl h) ⟨_, rfl, ho x⟩)
      have : (Instr.makeInterface t (a.eval x)).run P W = .ok (.iface t (a.eval x)) W := by
        simp only [Instr.makeInterface, Sem.run_bind, run_underlying h2, Result.andThen_ok]
        cases d <;> first | rfl | exact absurd rfl (hd _)
      simp only [execOp, Sem.run_bind, this, Result.andThen_ok, Sem.run_pure]
  case makeFunc fn first cap =>
    cases fn <;> simp only [reduceCtorEq, Option.some.injEq] at hl
    case func f =>
      subst hl
      refine wp_val (u := .func (.func f) (first.map a.eval) (cap.map a.eval)) (W' := W) (by simp [execOp, Instr.makeFunc]) (hn G W _ (.refl h) ?_)
      exact ⟨_, _, rfl, by simpa using reps_map he first.toList, by simpa using reps_map he cap.toList⟩
  case slice t x lo hi mx =>
    obtain ⟨v, hv, rfl⟩ := valQ hl
    obtain ⟨u, q1, q2⟩ := slice_sound (W := W) ho (ho x) hv
    refine wp_val (u := u) (W' := W) ?_ (hn G W u (.refl h) q2)
    simp only [execOp, Sem.run_bind, q1, Result.andThen_ok, Sem.run_pure]
  case fieldAddr t x f =>
    obtain ⟨v, hv, rfl⟩ := valQ hl
    obtain ⟨u, q1, q2⟩ := fieldAddr_sound (W := W) (ho x) hv
    refine wp_val (u := u) (W' := W) ?_ (hn G W u (.refl h) q2)
    simp only [execOp, Sem.run_bind, q1, Result.andThen_ok, Sem.run_pure]
  case field t x f =>
    obtain ⟨v, hv, rfl⟩ := valQ hl
    obtain ⟨u, q1, q2⟩ := field_sound (W := W) (ho x) hv
    refine wp_val (u := u) (W' := W) ?_ (hn G W u (.refl h) q2)
    simp only [execOp, Sem.run_bind, q1, Result.andThen_ok, Sem.run_pure]
  case indexAddr t x i =>
    obtain ⟨v, hv, rfl⟩ := valQ hl
    obtain ⟨u, q1, q2⟩ := indexAddr_sound (W := W) (ho x) (ho i) hv
    refine wp_val (u := u) (W' := W) ?_ (hn G W u (.refl h) q2)
    simp only [execOp, Sem.run_bind, q1, Result.andThen_ok, Sem.run_pure]
  case index t x i =>
    obtain ⟨v, hv, rfl⟩ := valQ hl
    obtain ⟨u, q1, q2⟩ := index_sound (W := W) (ho x) (ho i) hv
    refine wp_val (u := u) (W' := W) ?_ (hn G W u (.refl h) q2)
    simp only [execOp, Sem.run_bind, q1, Result.andThen_ok, Sem.run_pure]
  case extract x i =>
    have hx := ho x
    cases hxv : opv env x <;> simp only [hxv, reduceCtorEq] at hl
    case tup cs =>
      obtain ⟨v, hv, rfl⟩ := valQ hl
      rw [hxv] at hx
      obtain ⟨vs, e, hr⟩ := hx
      obtain ⟨u, hu, hr'⟩ := hr.get hv
      refine wp_val (u := u) (W' := W) ?_ (hn G W u (.refl h) hr')
      have : vs[i]? = some u := by simpa using hu
      simp [execOp, e, Instr.extract, this]
  case call c => exact call_sound hcl h he hl hn
  case panic x =>
    have hx := ho x
    cases hxv : opv env x <;> simp only [hxv, reduceCtorEq, Option.some.injEq] at hl
    case iface t y =>
      subst hl
      rw [hxv] at hx
      have hx' := hx
      obtain ⟨w, e, hr⟩ := hx
      unfold Oper.wp
      have hrun : (execOp a.eval ⟨dst, .panic x, type, pos, after, guard⟩).run P W = .halt (.panic (.iface t w)) W := by
        simp [execOp, e, run_panic_iface]
      rw [hrun]
      exact hn G W (.iface t w) (.refl h) ⟨w, rfl, hr⟩

theorem want_sound {ops : Array Oper} {env : Env} {a : Act} (he : Reps G env a.tmps.toList) {o : Oper} {b : Bool} (h : want ops env o.guard = some b) :
    Region.wanted o (yielded ops a.tmps) = b := by
  unfold want at h
  unfold Region.wanted
  cases hg : o.guard with
  | none => simp [hg] at h; simp [h]
  | some p =>
    obtain ⟨j, w⟩ := p
    simp only [hg] at h
    show (yielded ops a.tmps j == some w) = b
    cases ht : (ops[j]?).bind (·.dst) with
    | none =>
      have hy : yielded ops a.tmps j = none := by unfold yielded; rw [ht]; rfl
      simp only [ht, Option.some.injEq] at h
      subst h; rw [hy]; rfl
    | some t =>
      have hy : yielded ops a.tmps j = (match a.tmps[t]? with | some (.bool b) => some b | _ => none) := by unfold yielded; rw [ht]; rfl
      simp only [ht] at h
      cases hv : env[t]? with
      | none =>
        simp only [hv, Option.some.injEq] at h
        subst h
        have : a.tmps[t]? = none := by
          rw [List.getElem?_eq_none_iff] at hv
          rw [Array.getElem?_eq_none_iff]
          have := he.length
          simp at this; omega
        rw [hy, this]; rfl
      | some x =>
        obtain ⟨v, hv', hr⟩ := he.get hv
        have hv'' : a.tmps[t]? = some v := by simpa using hv'
        rw [hy, hv'']
        cases x <;> simp only [hv, reduceCtorEq, Option.some.injEq] at h
        case bool c =>
          simp only [Rep] at hr
          subst hr; subst h
          cases c <;> cases w <;> rfl
        case tup cs =>
          cases cs <;> simp only [reduceCtorEq, Option.some.injEq] at h
          subst h
          obtain ⟨vs, rfl, hr⟩ := hr
          rfl

theorem upon_mono {o : Oper} {a : Act} {next next' : Act → World → Prop} {Q Q' : Exit → Act → World → Prop} (hn : ∀ a w, next a w → next' a w) (hq : ∀ e a w, Q e a w → Q' e a w)
    {r : Result Next} (h : o.upon P a next Q r) : o.upon P a next' Q' r := by
  cases r with
  | ok n w =>
    cases n <;> simp only [Oper.upon] at h ⊢ <;>
      first
        | exact hn _ _ h
        | exact Calls.mono h (fun e w'' he => by
            cases e
            · exact hn _ _ he
            · exact hq _ _ _ he
            · obtain ⟨a0, w0, h0⟩ := he; exact ⟨a0, w0, hq _ _ _ h0⟩)
        | exact Rows.mono h (fun _ _ he => hn _ _ he)
  | halt x w => cases x <;> simp only [Oper.upon] at h ⊢ <;> exact hq _ _ _ h

theorem wpList_mono {ops : Array Oper} {Q Q' : Exit → Act → World → Prop} (hq : ∀ e a w, Q e a w → Q' e a w) : ∀ {l : List Oper} {a : Act} {w : World}, wpList P ops Q l a w → wpList P ops Q' l a w
  | [], _, _, h => hq _ _ _ h
  | o :: rest, a, w, h => by
    unfold wpList at h ⊢
    split
    · rename_i hw
      rw [if_pos hw] at h
      rcases h with h | ⟨h1, a0, w0, h2⟩
      · exact .inl (upon_mono (fun _ _ => wpList_mono hq) hq h)
      · exact .inr ⟨h1, a0, w0, hq _ _ _ h2⟩
    · rename_i hw
      rw [if_neg hw] at h
      exact wpList_mono hq h

theorem reps_put {env : Env} {a : Act} {dst : Option Tmp} {v : V} {u : Value} (he : Reps G env a.tmps.toList) (hr : Rep G v u) : Reps G (setD env dst v) (a.put dst u).tmps.toList := by
  cases dst with
  | none => exact he
  | some t => simpa [setD, Act.put] using he.set t hr

theorem put_defers {a : Act} {dst : Option Tmp} {u : Value} : (a.put dst u).defers = a.defers := by cases dst <;> rfl

/- what an exit of the abstract code asks of the machine's -/
def ExPost (G : Ghost) (W : World) (ex : Ex) (env' : Env) (st' : St) (e : Exit) (a' : Act) (W' : World) : Prop :=
  ∃ G', Good G W G' st' W' ∧ a'.defers = [] ∧ (match ex with
    | .normal => e = .normal ∧ Reps G' env' a'.tmps.toList
    | .exit id => e = .exit id ∧ Reps G' env' a'.tmps.toList
    | .ret => e = .ret ∧ Reps G' env' a'.tmps.toList
    | .panic v => ∃ u, e = .panic [{ v := u, recovered := false }] ∧ Rep G' v u)

theorem ExPost.trans {G1 : Ghost} {st1 : St} {W1 : World} (g : Good G W G1 st1 W1) {ex : Ex} {env' : Env} {st' : St} {e : Exit} {a' : Act} {W' : World}
    (h : ExPost G1 W1 ex env' st' e a' W') : ExPost G W ex env' st' e a' W' := by
  obtain ⟨G', g', h1, h2⟩ := h
  exact ⟨G', g.trans g', h1, h2⟩

theorem regionL_sound {cl : Oracle} (hcl : Sound P cl) {ops : Array Oper} : ∀ (l : List Oper) {G : Ghost} {st : St} {W : World} {a : Act} {env : Env} {ex : Ex} {env' : Env} {st' : St},
    Sim G st W → Reps G env a.tmps.toList → a.defers = [] → regionL P cl ops l env st = some (ex, env', st') →
    wpList P ops (ExPost G W ex env' st') l a W
  | [], G, st, W, a, env, ex, env', st', h, he, hd, hl => by
    simp only [regionL, Option.some.injEq, Prod.mk.injEq] at hl
    obtain ⟨rfl, rfl, rfl⟩ := hl
    exact wpList_nil ⟨G, .refl h, hd, rfl, he⟩
  | o :: rest, G, st, W, a, env, ex, env', st', h, he, hd, hl => by
    simp only [regionL] at hl
    refine wpList_step fun K hK => ?_
    cases hw : want ops env o.guard with
    | none => simp [hw] at hl
    | some b =>
      rw [want_sound he hw]
      cases b with
      | false =>
        simp only [hw] at hl
        simp only [Bool.false_eq_true, if_false]
        exact hK _ _ (regionL_sound hcl rest h (reps_put (v := .tup []) he ⟨#[], rfl, rfl⟩) (by rw [put_defers]; exact hd) hl)
      | true =>
        simp only [hw] at hl
        simp only [if_true]
        cases ho : opStep P cl (opv env) o st with
        | none => simp [ho] at hl
        | some r =>
          refine opStep_sound hcl h he ho ?_
          cases r with
          | val v st1 =>
            simp only [ho] at hl
            intro G1 W1 u g hr
            refine hK _ _ ?_
            have := regionL_sound hcl rest g.sim (reps_put (he.le g.le) hr) (by rw [put_defers]; exact hd) hl
            exact wpList_mono (fun e a w q => ExPost.trans g q) this
          | panic v st1 =>
            simp only [ho, Option.some.injEq, Prod.mk.injEq] at hl
            obtain ⟨rfl, rfl, rfl⟩ := hl
            intro G1 W1 u g hr
            exact ⟨G1, g, hd, u, rfl, hr⟩

end Go.Abs
