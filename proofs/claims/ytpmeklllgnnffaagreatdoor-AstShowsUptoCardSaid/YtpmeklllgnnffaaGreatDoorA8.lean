/- Code, results, whole runs: what the abstract interpreter says, the machine does. -/
import Derived.Test.YtpmeklllgnnffaaGreatDoorA7
import Derived.LoopN
import Derived.Carry
set_option linter.unusedSimpArgs false
set_option linter.unusedVariables false

namespace Go.Abs
open Go

variable {P : Program} {G : Ghost} {st : St} {W : World}

theorem dropT_reps (ts : List Nat) : ∀ {env : Env} {vs : List Value} (i : Nat), Reps G env vs → Reps G (dropT ts i env) vs
  | [], _, _, h => h
  | v :: r, _, i, h => by
    obtain ⟨u, us, rfl, h1, h2⟩ := h
    refine ⟨u, us, rfl, ?_, dropT_reps ts (i + 1) h2⟩
    cases ts.contains i
    · exact h1
    · trivial

theorem clean_reps {n : Nat} : ∀ {env : Env} {vs : List Value}, Reps G env vs → Reps (G.cut n) (env.map (cleanV n)) vs
  | [], _, h => h
  | v :: r, _, h => by
    obtain ⟨u, us, rfl, h1, h2⟩ := h
    refine ⟨u, us, rfl, ?_, clean_reps h2⟩
    unfold cleanV
    split
    · rename_i hc
      exact h1.cut fun b hb => by have := List.all_eq_true.1 hc b hb; simpa using this
    · trivial

theorem roundEnd_sound {G0 : Ghost} {st0 : St} {W0 : World} (s0 : Sim G0 st0 W0) (g : Good G0 W0 G st W) {env : Env} {vs : List Value} (he : Reps G env vs) (ts : List Nat) :
    ∃ G', Good G0 W0 G' (roundEnd ts st0.length env st).2 W ∧ Reps G' (roundEnd ts st0.length env st).1 vs := by
  unfold roundEnd
  have hd := dropT_reps ts 0 he
  split
  · rename_i hc
    refine ⟨G.cut st0.length, ⟨g.sim.cut fun b hb r hr => ?_, g.ext.cut _, g.le.cut s0 (Nat.le_refl _), fun b hb => by have := (s0.res b hb).1; simp [Ghost.cut, this, g.res b hb]⟩, clean_reps hd⟩
    rw [List.all_eq_true] at hc
    cases hx : st[b]? with
    | none => simp [List.getD, hx, refsL] at hr
    | some cs =>
      have hm : cs ∈ st.take st0.length := List.mem_of_getElem? (by rw [List.getElem?_take_of_lt hb]; exact hx)
      have := List.all_eq_true.1 (hc cs hm) r (by simpa [List.getD, hx] using hr)
      simpa using this
  · exact ⟨G, g, hd⟩

theorem exec_sound (hm : P.follows .mixedOrders = true) {cl : Oracle} (hcl : Sound P cl) {k : Nat} : ∀ (c : Code) {G : Ghost} {st : St} {W : World} {a : Act} {env : Env} {ex : Ex} {env' : Env} {st' : St},
    Sim G st W → Reps G env a.tmps.toList → a.defers = [] → exec P cl k c env st = some (ex, env', st') → c.wp P (ExPost G W ex env' st') a W := by
  intro c
  induction c with
  | skip =>
    intro G st W a env ex env' st' h he hd hl
    simp only [exec, Option.some.injEq, Prod.mk.injEq] at hl
    obtain ⟨rfl, rfl, rfl⟩ := hl
    exact wp_skip ⟨G, .refl h, hd, rfl, he⟩
  | region id ops draw =>
    intro G st W a env ex env' st' h he hd hl
    cases draw with
    | true => simp only [exec] at hl; exact regionD_sound hm hcl h he hd hl
    | false =>
      simp only [exec] at hl
      exact wp_region_list (regionL_sound hcl ops.toList h he hd hl)
  | seq x y ihx ihy =>
    intro G st W a env ex env' st' h he hd hl
    simp only [exec] at hl
    refine wp_seq ?_
    cases hx : exec P cl k x env st with
    | none => simp [hx] at hl
    | some p =>
      obtain ⟨ex1, env1, st1⟩ := p
      refine wp_mono (ihx h he hd hx) fun e a' W' hp => ?_
      cases ex1 with
      | normal =>
        simp only [hx] at hl
        obtain ⟨G1, g1, hd1, rfl, he1⟩ := hp
        exact wp_mono (ihy g1.sim he1 hd1 hl) fun e a' W' q => ExPost.trans g1 q
      | exit i =>
        simp only [hx, Option.some.injEq, Prod.mk.injEq] at hl
        obtain ⟨rfl, rfl, rfl⟩ := hl
        have hp' := hp
        obtain ⟨G1, g1, hd1, rfl, he1⟩ := hp
        exact hp'
      | ret =>
        simp only [hx, Option.some.injEq, Prod.mk.injEq] at hl
        obtain ⟨rfl, rfl, rfl⟩ := hl
        have hp' := hp
        obtain ⟨G1, g1, hd1, rfl, he1⟩ := hp
        exact hp'
      | panic v =>
        simp only [hx, Option.some.injEq, Prod.mk.injEq] at hl
        obtain ⟨rfl, rfl, rfl⟩ := hl
        have hp' := hp
        obtain ⟨G1, g1, hd1, u, rfl, he1⟩ := hp
        exact hp'
  | cond c x y ihx ihy =>
    intro G st W a env ex env' st' h he hd hl
    simp only [exec] at hl
    have hc := opv_sound he c
    cases hcv : opv env c <;> simp only [hcv, reduceCtorEq] at hl
    case bool b =>
      rw [hcv] at hc
      simp only [Rep] at hc
      cases b with
      | true => exact wp_cond_true hc (ihx h he hd hl)
      | false => exact wp_cond_false hc (ihy h he hd hl)
  | block id x ihx =>
    intro G st W a env ex env' st' h he hd hl
    simp only [exec] at hl
    refine wp_block ?_
    cases hx : exec P cl k x env st with
    | none => simp [hx] at hl
    | some p =>
      obtain ⟨ex1, env1, st1⟩ := p
      refine wp_mono (ihx h he hd hx) fun e a' W' hp => ?_
      cases ex1 with
      | exit i =>
        simp only [hx] at hl
        obtain ⟨G1, g1, hd1, rfl, he1⟩ := hp
        by_cases hi : i = id
        · simp only [hi, if_true, Option.some.injEq, Prod.mk.injEq] at hl
          obtain ⟨rfl, rfl, rfl⟩ := hl
          simp only [Exit.inBlock, hi, if_true]
          exact ⟨G1, g1, hd1, rfl, he1⟩
        · simp only [hi, if_false, Option.some.injEq, Prod.mk.injEq] at hl
          obtain ⟨rfl, rfl, rfl⟩ := hl
          simp only [Exit.inBlock, hi, if_false]
          exact ⟨G1, g1, hd1, rfl, he1⟩
      | normal =>
        simp only [hx, Option.some.injEq, Prod.mk.injEq] at hl
        obtain ⟨rfl, rfl, rfl⟩ := hl
        have hp' := hp
        obtain ⟨G1, g1, hd1, rfl, he1⟩ := hp
        exact hp'
      | ret =>
        simp only [hx, Option.some.injEq, Prod.mk.injEq] at hl
        obtain ⟨rfl, rfl, rfl⟩ := hl
        have hp' := hp
        obtain ⟨G1, g1, hd1, rfl, he1⟩ := hp
        exact hp'
      | panic v =>
        simp only [hx, Option.some.injEq, Prod.mk.injEq] at hl
        obtain ⟨rfl, rfl, rfl⟩ := hl
        have hp' := hp
        obtain ⟨G1, g1, hd1, u, rfl, he1⟩ := hp
        exact hp'
  | loop x ihx =>
    intro G0 st0 W0 a env ex env' st' h0 he hd hl
    simp only [exec] at hl
    refine wp_loop_rounds k ?_
    have key : ∀ (j : Nat) {G : Ghost} {st : St} {W : World} {a : Act} {env : Env}, Good G0 W0 G st W → Reps G env a.tmps.toList → a.defers = [] →
        loopN (exec P cl k x) (temps x) st0.length j env st = some (ex, env', st') → Code.rounds P x (ExPost G0 W0 ex env' st') j a W := by
      intro j
      induction j with
      | zero => intro G st W a env _ _ _ hl; simp [loopN] at hl
      | succ j ih =>
        intro G st W a env g he hd hl
        rw [rounds_succ]
        simp only [loopN] at hl
        cases hx : exec P cl k x env st with
        | none => simp [hx] at hl
        | some p =>
          obtain ⟨ex1, env1, st1⟩ := p
          refine wp_mono (ihx g.sim he hd hx) fun e a' W' hp => ?_
          cases ex1 with
          | normal =>
            simp only [hx] at hl
            obtain ⟨G1, g1, hd1, rfl, he1⟩ := hp
            obtain ⟨G2, g2, he2⟩ := roundEnd_sound h0 (g.trans g1) he1 (temps x)
            exact ih g2 he2 hd1 hl
          | exit i =>
            simp only [hx, Option.some.injEq, Prod.mk.injEq] at hl
            obtain ⟨rfl, rfl, rfl⟩ := hl
            have hp' := ExPost.trans g hp
            obtain ⟨G1, g1, hd1, rfl, he1⟩ := hp
            exact hp'
          | ret =>
            simp only [hx, Option.some.injEq, Prod.mk.injEq] at hl
            obtain ⟨rfl, rfl, rfl⟩ := hl
            have hp' := ExPost.trans g hp
            obtain ⟨G1, g1, hd1, rfl, he1⟩ := hp
            exact hp'
          | panic v =>
            simp only [hx, Option.some.injEq, Prod.mk.injEq] at hl
            obtain ⟨rfl, rfl, rfl⟩ := hl
            have hp' := ExPost.trans g hp
            obtain ⟨G1, g1, hd1, u, rfl, he1⟩ := hp
            exact hp'
    exact key k (.refl h0) he hd hl
  | exit id =>
    intro G st W a env ex env' st' h he hd hl
    simp only [exec, Option.some.injEq, Prod.mk.injEq] at hl
    obtain ⟨rfl, rfl, rfl⟩ := hl
    exact wp_exit ⟨G, .refl h, hd, rfl, he⟩
  | ret =>
    intro G st W a env ex env' st' h he hd hl
    simp only [exec, Option.some.injEq, Prod.mk.injEq] at hl
    obtain ⟨rfl, rfl, rfl⟩ := hl
    exact wp_ret ⟨G, .refl h, hd, rfl, he⟩
  | _ => intro G st W a env ex env' st' h he hd hl; simp [exec] at hl

/- results -/
theorem resL_sound {tmps : Array Value} {env : Env} (h : Sim G st W) (he : Reps G env tmps.toList) :
    ∀ {rs : List ResultVar} {vs : List V}, resL P env st rs = some vs → ∃ us, Reps G vs us ∧ ∀ fr : ResultVar → Sem Value, (∀ t, fr (.tmp t) = pure (tmps.getD t undef)) →
      (∀ a t, fr (.cell a t) = do loadVar t (← asAddr (tmps.getD a undef))) → (rs.mapM fr).run P W = .ok us W
  | [], vs, hl => by simp only [resL, Option.some.injEq] at hl; subst hl; exact ⟨[], rfl, by simp⟩
  | r :: rs, vs, hl => by
    simp only [resL] at hl
    cases hr : resV P env st r with
    | none => simp [hr] at hl
    | some v =>
      cases hq : resL P env st rs with
      | none => simp [hr, hq] at hl
      | some vs' =>
        simp only [hr, hq, Option.some.injEq] at hl
        subst hl
        obtain ⟨us, k2, k1⟩ := resL_sound h he hq
        have hget : ∀ t, Rep G (env.getD t .undef) (tmps.getD t undef) := fun t => by
          have := he.getD t undef
          simpa [Array.getD_eq_getD_getElem?, List.getD_eq_getElem?_getD] using this
        have : ∃ u, Rep G v u ∧ ∀ fr : ResultVar → Sem Value, (∀ t, fr (.tmp t) = pure (tmps.getD t undef)) →
            (∀ a t, fr (.cell a t) = do loadVar t (← asAddr (tmps.getD a undef))) → (fr r).run P W = .ok u W := by
          cases r with
          | tmp t => simp only [resV, Option.some.injEq] at hr; subst hr; exact ⟨_, hget t, fun fr h1 _ => by rw [h1]; rfl⟩
          | cell t ty =>
            simp only [resV] at hr
            have hg := hget t
            obtain ⟨u, q1, q2⟩ := load_sound h hg hr
            refine ⟨u, q2, fun fr _ h2 => ?_⟩
            rw [h2]
            generalize tmps.getD t undef = va at q1
            cases va <;> try (simp [Instr.loadAt, Instr.sureAddr] at q1; done)
            rename_i ad
            cases ad
            · simp [Instr.loadAt, Instr.sureAddr] at q1
            · simpa [Instr.loadAt, Instr.sureAddr, asAddr] using q1
        obtain ⟨u, q2, q1⟩ := this
        exact ⟨u :: us, ⟨u, us, rfl, q2, k2⟩, fun fr h1 h2 => by simp [List.mapM_cons, q1 fr h1 h2, k1 fr h1 h2]⟩

theorem single_rep {vs : List V} {us : List Value} (h : Reps G vs us) : Rep G (single vs) (if h : us.toArray.size = 1 then us.toArray[0] else .tuple us.toArray) := by
  have hl := h.length
  match vs, us, h with
  | [], us, h => simp only [Reps] at h; subst h; exact ⟨#[], rfl, rfl⟩
  | [v], us, h =>
    obtain ⟨u, r, rfl, h1, h2⟩ := h
    simp only [Reps] at h2
    subst h2
    exact h1
  | v :: w :: vs, us, h =>
    have hne : ¬ us.toArray.size = 1 := by simp at hl ⊢; omega
    rw [dif_neg hne]
    exact ⟨us.toArray, rfl, h⟩

theorem normTop_sound (h : Sim G st W) {v : V} {u : Value} (hr : Rep G v u) : ∃ G', Good G W G' (normTop v st).2 W ∧ Rep G' (normTop v st).1 u := by
  cases v <;> try exact ⟨G, .refl h, Rep.frz _ _ hr⟩
  case slice o xs =>
    cases o with
    | froz => exact ⟨G, .refl h, Rep.frz _ _ hr⟩
    | full => exact adopt_full h hr
    | own b =>
      simp only [normTop]
      split
      · exact ⟨G, .refl h, hr⟩
      · exact ⟨G, .refl h, Rep.frz _ _ hr⟩

theorem normL_sound : ∀ {vs : List V} {us : List Value} {G : Ghost} {st : St}, Sim G st W → Reps G vs us → ∃ G', Good G W G' (normL vs st).2 W ∧ Reps G' (normL vs st).1 us
  | [], us, G, st, h, hr => ⟨G, .refl h, hr⟩
  | v :: vs, us, G, st, h, hr => by
    obtain ⟨u, r, rfl, h1, h2⟩ := hr
    obtain ⟨G1, g1, r1⟩ := normTop_sound h h1
    obtain ⟨G2, g2, r2⟩ := normL_sound g1.sim (h2.le g1.le)
    exact ⟨G2, g1.trans g2, u, r, rfl, r1.le g2.le, r2⟩

theorem gc_sound {G0 : Ghost} {st0 : St} {W0 : World} (s0 : Sim G0 st0 W0) (g : Good G0 W0 G st W) {vs vs' : List V} {st' : St} {us : List Value} (hr : Reps G vs us) (hl : gc st0.length vs st = some (vs', st')) :
    ∃ G', Good G0 W0 G' st' W ∧ Reps G' vs' us := by
  unfold gc at hl
  simp only at hl
  generalize reach st reachFuel (refsL vs ++ refsL (st.take st0.length).flatten) (List.range st0.length) = seen at hl
  split at hl
  · rename_i hc
    simp only [Bool.and_eq_true, beq_iff_eq] at hc
    obtain ⟨⟨⟨k1, k2⟩, k3⟩, k4⟩ := hc
    have hR := closed_of k1 k2
    have hvs : ∀ b ∈ refsL vs, b ∈ seen := fun b hb => by have := List.all_eq_true.1 k3 b hb; simpa using this
    have hget : ∀ b, b < st0.length → seen[b]? = some b := fun b hb => by
      have : (seen.take st0.length)[b]? = some b := by rw [k4]; simp [hb]
      rwa [List.getElem?_take_of_lt hb] at this
    split at hl
    · rename_i hlen
      cases hl
      have hseen : seen = List.range st0.length := by rw [← k4, ← hlen, List.take_length]
      have hlt : ∀ b ∈ seen, b < st0.length := fun b hb => by rw [hseen] at hb; simpa using hb
      refine ⟨G.cut st0.length, ⟨g.sim.cut fun b hb r hr => hlt r (hR.sub b (by rw [hseen]; simpa using hb) r hr), g.ext.cut _, g.le.cut s0 (Nat.le_refl _), fun b hb => by have := (s0.res b hb).1; simp [Ghost.cut, this, g.res b hb]⟩, hr.cut fun b hb => hlt b (hvs b hb)⟩
    · cases hl
      refine ⟨G.sub seen, ⟨g.sim.sub hR, ⟨g.ext.imm, g.ext.size, g.ext.keep, g.ext.immK, fun B hB t => g.ext.tb B hB (sub_tb t), g.ext.env, g.ext.fix⟩, ⟨g.le.imm, fun b B e => ?_, fun b d e => ?_⟩, fun b hb => ?_⟩, Reps.tr _ _ (Tr.sub hvs) hr⟩
      · have := (s0.lt_box e).1
        simp [Ghost.sub, hget b this, g.le.box b B e]
      · have := s0.lt_hdr e
        obtain ⟨d', e', l⟩ := g.le.hdr b d e
        exact ⟨d', by simp [Ghost.sub, hget b this, e'], l⟩
      · have := (s0.res b hb).1
        simp [Ghost.sub, hget b this, g.res b hb]
  · cases hl

/- runs -/
def NoNum (P : Program) : Prop := ∀ (f : FuncId) (fn : Func), P.funcs[f]? = some fn → (fn.name == "runtime.NumGoroutine") = false

theorem callFunc_enter (hN : NoNum P) {f : FuncId} {fn : Func} {c : Code} (hf : P.funcs[f]? = some fn) (hb : fn.body = some c) (vs : Array Value) (W : World) :
    (callFunc f vs).run P W = .ok (.enter f vs) W := by
  have : ¬ fn.name = "runtime.NumGoroutine" := by simpa using hN f fn hf
  simp [callFunc, hf, hb, this]

def PrimSound (P : Program) (f : FuncId) (p : Prim) : Prop :=
  ∀ cl, Sound P cl → ∀ args st out st', primRun cl p args st = some (out, st') → ∀ G W vs, Sim G st W → Reps G args vs.toList → Does P f vs W (Post G W out st')

theorem reps_single {x : V} {xs : List V} {us : List Value} (h : Reps G xs us) (e : xs = [x]) : ∃ u, us = [u] ∧ Rep G x u := by
  subst e
  obtain ⟨u, r, rfl, h1, h2⟩ := h
  simp only [Reps] at h2
  subst h2
  exact ⟨u, rfl, h1⟩

theorem gc_length {n : Nat} {vs vs' : List V} {st st' : St} (h : gc n vs st = some (vs', st')) : vs'.length = vs.length := by
  unfold gc at h
  simp only at h
  split at h
  · split at h
    · cases h; rfl
    · cases h; exact renL_length _ _
  · cases h

theorem normL_length : ∀ (vs : List V) (st : St), (normL vs st).1.length = vs.length
  | [], _ => rfl
  | v :: vs, st => by simp [normL, normL_length vs]

theorem run_sound (hm : P.follows .mixedOrders = true) (hN : NoNum P) {pr : Prims} (hp : ∀ f p, pr f = some p → PrimSound P f p) : ∀ k, Sound P (run P pr k) := by
  intro k
  induction k with
  | zero => intro f args st out st' h; simp [run] at h
  | succ k ih =>
    intro f args st out st' hl G W vs h ha
    simp only [run] at hl
    cases hpr : pr f with
    | some p =>
      rw [hpr] at hl
      exact hp f p hpr _ ih args st out st' hl G W vs h ha
    | none =>
      rw [hpr] at hl
      simp only at hl
      cases hf : P.funcs[f]? with
      | none => simp [hf] at hl
      | some fn =>
        simp only [hf] at hl
        cases hb : fn.body with
        | none => simp [hb] at hl
        | some c =>
          simp only [hb] at hl
          cases hx : exec P (run P pr k) k c (args ++ List.replicate (fn.ntmps - args.length) .undef) st with
          | none => simp [hx] at hl
          | some r =>
            obtain ⟨ex, env1, st1⟩ := r
            simp only [hx] at hl
            unfold Does
            rw [callFunc_enter hN hf hb]
            simp only
            refine calls_of_wp hf hb ?_
            have hlen : args.length = vs.size := by have := ha.length; simpa using this
            have henv : Reps G (args ++ List.replicate (fn.ntmps - args.length) .undef) (vs ++ Array.replicate (fn.ntmps - vs.size) undef).toList := by
              rw [Array.toList_append, Array.toList_replicate, ← hlen]
              exact ha.append (reps_undef _ _ (by simp))
            refine wp_mono (exec_sound hm ih c (a := { tmps := vs ++ Array.replicate (fn.ntmps - vs.size) undef, defers := [] }) h henv rfl hx) fun e a' W' hpost => ?_
            obtain ⟨G1, g1, hd1, hm⟩ := hpost
            have done : ∀ {out : Out} {st' : St}, Reps G1 env1 a'.tmps.toList → (match resL P env1 st1 fn.results.toList with
                | some vs => let r := normL vs st1
                  match gc st.length r.1 r.2 with
                  | some (vs', st') => some (Out.ret (single vs'), st')
                  | none => none
                | none => none) = some (out, st') → a'.defers = [] ∧ ∃ v, (results fn a'.tmps).run P W' = .ok v W' ∧ Post G W out st' (.returned v) W' := by
              intro out st' he1 hl
              cases hr : resL P env1 st1 fn.results.toList with
              | none => simp [hr] at hl
              | some ws =>
                simp only [hr] at hl
                obtain ⟨us, q2, q1⟩ := resL_sound g1.sim he1 hr
                obtain ⟨G2, g2, r2⟩ := normL_sound g1.sim q2
                cases hg : gc st.length (normL ws st1).1 (normL ws st1).2 with
                | none => simp [hg] at hl
                | some p =>
                  obtain ⟨vs', st2⟩ := p
                  simp only [hg, Option.some.injEq, Prod.mk.injEq] at hl
                  obtain ⟨rfl, rfl⟩ := hl
                  obtain ⟨G3, g3, r3⟩ := gc_sound h (g1.trans g2) r2 hg
                  refine ⟨hd1, _, ?_, G3, _, g3, rfl, single_rep r3⟩
                  unfold results
                  rw [Sem.run_bind, Array.mapM_eq_mapM_toList, Sem.run_map, q1]
                  · rfl
                  · exact fun _ => rfl
                  · exact fun _ _ => rfl
            cases ex with
            | normal => obtain ⟨rfl, he1⟩ := hm; exact done he1 hl
            | ret => obtain ⟨rfl, he1⟩ := hm; exact done he1 hl
            | exit i => simp [finish] at hl
            | panic v =>
              obtain ⟨u, rfl, hr⟩ := hm
              simp only [finish] at hl
              cases hg : gc st.length [frz v] st1 with
              | none => simp [hg] at hl
              | some p =>
                obtain ⟨vs', st2⟩ := p
                have hvl := gc_length hg
                match vs', hvl with
                | [v'], _ =>
                  simp only [hg, Option.some.injEq, Prod.mk.injEq] at hl
                  obtain ⟨rfl, rfl⟩ := hl
                  obtain ⟨G3, g3, r3⟩ := gc_sound h g1 (vs := [frz v]) (us := [u]) ⟨u, [], rfl, Rep.frz _ _ hr, rfl⟩ hg
                  obtain ⟨u', e, r4⟩ := reps_single r3 rfl
                  cases e
                  exact ⟨hd1, G3, u, g3, rfl, r4⟩

end Go.Abs

namespace Go.Abs
open Go

variable {P : Program} {pr : Prims}

def OLe (cl cl' : Oracle) : Prop := ∀ f a s r, cl f a s = some r → cl' f a s = some r

/- a call asks once -/
theorem doCall_one {cl : Oracle} {g : FuncId} {args : List V} {st : St} {r : Res} (h : doCall cl g args st = some r) :
    ∃ as s p, cl g as s = some p ∧ ∀ cl' : Oracle, cl' g as s = some p → doCall cl' g args st = some r := by
  unfold doCall at h
  simp only at h
  cases hrefs : refsL (frzL args) with
  | nil =>
    rw [hrefs] at h
    simp only at h
    cases hc : cl g (frzL args) [] with
    | none => rw [hc] at h; cases h
    | some p =>
      refine ⟨_, _, p, hc, fun cl' hc' => ?_⟩
      unfold doCall
      simp only
      rw [hrefs]
      simp only
      rw [hc'] ; rw [hc] at h; exact h
  | cons r0 rs =>
    rw [hrefs] at h
    simp only at h
    split at h
    · rename_i hcond
      cases hc : cl g (renL ((reach st reachFuel (r0 :: rs) []).idxOf ·) (frzL args)) ((reach st reachFuel (r0 :: rs) []).map fun b => renL ((reach st reachFuel (r0 :: rs) []).idxOf ·) (st.getD b [])) with
      | none => rw [hc] at h; cases h
      | some p =>
        refine ⟨_, _, p, hc, fun cl' hc' => ?_⟩
        unfold doCall
        simp only
        rw [hrefs]
        simp only
        rw [if_pos hcond, hc']; rw [hc] at h; exact h
    · cases h

theorem callOp_one {cl : Oracle} {ev : Operand → V} {c : Call} {st : St} {r : Res} (h : callOp P cl ev c st = some r) :
    (∀ cl' : Oracle, callOp P cl' ev c st = some r) ∨ ∃ g as s p, cl g as s = some p ∧ ∀ cl' : Oracle, cl' g as s = some p → callOp P cl' ev c st = some r := by
  unfold callOp at h
  cases hc : c.callee with
  | invoke x m => simp [hc] at h
  | builtin b => left; intro cl'; unfold callOp; simp only [hc] at h ⊢; exact h
  | value f =>
    simp only [hc] at h
    cases hf : ev f <;> simp only [hf, reduceCtorEq] at h
    case func g first cap =>
      right
      obtain ⟨as, s, p, h1, h2⟩ := doCall_one h
      refine ⟨g, as, s, p, h1, fun cl' h' => ?_⟩
      unfold callOp
      simp only [hc, hf]
      exact h2 cl' h'

theorem opStep_one {cl : Oracle} {ev : Operand → V} {o : Oper} {st : St} {r : Res} (h : opStep P cl ev o st = some r) :
    (∀ cl' : Oracle, opStep P cl' ev o st = some r) ∨ ∃ g as s p, cl g as s = some p ∧ ∀ cl' : Oracle, cl' g as s = some p → opStep P cl' ev o st = some r := by
  obtain ⟨dst, op, type, pos, after, guard⟩ := o
  cases op
  case call c => exact callOp_one (c := c) h
  all_goals exact .inl fun cl' => h

theorem callD_one {cl : Oracle} {ev : Operand → V} {c : Call} {st : St} {r : Res × Option (List Nat × Nat)} (h : callD P cl ev c st = some r) :
    (∀ cl' : Oracle, callD P cl' ev c st = some r) ∨ ∃ g as s p, cl g as s = some p ∧ ∀ cl' : Oracle, cl' g as s = some p → callD P cl' ev c st = some r := by
  unfold callD at h
  cases hc : c.callee with
  | invoke x m => simp [hc] at h
  | builtin b => left; intro cl'; unfold callD; simp only [hc] at h ⊢; exact h
  | value f =>
    simp only [hc] at h
    cases hf : ev f <;> simp only [hf, reduceCtorEq] at h
    case func g first cap =>
      right
      cases hrefs : refsL (frzL (first ++ c.args.toList.map ev ++ cap)) with
      | nil =>
        rw [hrefs] at h
        simp only at h
        cases hcl : cl g (frzL (first ++ c.args.toList.map ev ++ cap)) [] with
        | none => rw [hcl] at h; cases h
        | some p =>
          refine ⟨_, _, _, p, hcl, fun cl' hc' => ?_⟩
          unfold callD
          simp only [hc, hf]
          rw [hrefs]
          simp only
          rw [hc']; rw [hcl] at h; exact h
      | cons r0 rs =>
        rw [hrefs] at h
        simp only at h
        cases hd : doCall cl g (first ++ c.args.toList.map ev ++ cap) st with
        | none => rw [hd] at h; cases h
        | some q =>
          obtain ⟨as, s, p, h1, h2⟩ := doCall_one hd
          refine ⟨g, as, s, p, h1, fun cl' h' => ?_⟩
          unfold callD
          simp only [hc, hf]
          rw [hrefs]
          simp only
          rw [h2 cl' h']; rw [hd] at h; exact h

theorem stepD_one {cl : Oracle} {ev : Operand → V} {o : Oper} {st : St} {r : Res × Fp} (h : stepD P cl ev o st = some r) :
    (∀ cl' : Oracle, stepD P cl' ev o st = some r) ∨ ∃ g as s p, cl g as s = some p ∧ ∀ cl' : Oracle, cl' g as s = some p → stepD P cl' ev o st = some r := by
  obtain ⟨dst, op, type, pos, after, guard⟩ := o
  cases op
  case call c =>
    simp only [stepD] at h
    cases hc : callD P cl ev c st with
    | none => rw [hc] at h; cases h
    | some q =>
      rw [hc] at h
      rcases callD_one hc with h1 | ⟨g, as, s, p, h1, h2⟩
      · exact .inl fun cl' => by simp only [stepD]; rw [h1 cl']; exact h
      · exact .inr ⟨g, as, s, p, h1, fun cl' h' => by simp only [stepD]; rw [h2 cl' h']; exact h⟩
  all_goals exact .inl fun cl' => h

theorem stepR_one {cl : Oracle} {ev : Operand → V} {o : Oper} {st : St} {rs : Option Nat} {r : Res × Fp} (h : stepR P cl ev o st rs = some r) :
    (∀ cl' : Oracle, stepR P cl' ev o st rs = some r) ∨ ∃ g as s p, cl g as s = some p ∧ ∀ cl' : Oracle, cl' g as s = some p → stepR P cl' ev o st rs = some r := by
  cases rs with
  | none => exact stepD_one h
  | some n =>
    obtain ⟨dst, op, type, pos, after, guard⟩ := o
    cases op
    case alloc t => exact .inl fun cl' => h
    all_goals (simp only [stepR] at h ⊢; exact stepD_one h)

/- what the parts share: an oracle that grows, and its limit -/
structure Lims (cls : Nat → Oracle) (cl : Oracle) : Prop where
  mono : ∀ k k', k ≤ k' → OLe (cls k) (cls k')
  below : ∀ k, OLe (cls k) cl
  reached : ∀ f a s r, cl f a s = some r → ∃ k, cls k f a s = some r

section
variable {cls : Nat → Oracle} {cl : Oracle} (L : Lims cls cl)

theorem opStep_le {cl cl' : Oracle} (hle : OLe cl cl') {ev : Operand → V} {o : Oper} {st : St} {r : Res} (h : opStep P cl ev o st = some r) : opStep P cl' ev o st = some r := by
  rcases opStep_one h with h | ⟨g, as, s, p, h1, h2⟩
  · exact h cl'
  · exact h2 cl' (hle _ _ _ _ h1)

include L in
theorem opStep_lim {ev : Operand → V} {o : Oper} {st : St} {r : Res} (h : opStep P cl ev o st = some r) : ∃ k, ∀ k', k ≤ k' → opStep P (cls k') ev o st = some r := by
  rcases opStep_one h with h | ⟨g, as, s, p, h1, h2⟩
  · exact ⟨0, fun k' _ => h _⟩
  · obtain ⟨k, hk⟩ := L.reached _ _ _ _ h1
    exact ⟨k, fun k' hk' => h2 _ (L.mono _ _ hk' _ _ _ _ hk)⟩

theorem regionL_le {cl cl' : Oracle} (hle : OLe cl cl') {ops : Array Oper} : ∀ {l : List Oper} {env : Env} {st : St} {r : Ex × Env × St}, regionL P cl ops l env st = some r → regionL P cl' ops l env st = some r
  | [], env, st, r, h => h
  | o :: rest, env, st, r, h => by
    simp only [regionL] at h ⊢
    cases hw : want ops env o.guard with
    | none => simp [hw] at h
    | some b =>
      cases b with
      | false => simp only [hw] at h ⊢; exact regionL_le hle h
      | true =>
        simp only [hw] at h ⊢
        cases ho : opStep P cl (opv env) o st with
        | none => simp [ho] at h
        | some q =>
          rw [opStep_le hle ho]
          cases q with
          | val v st' => simp only [ho] at h ⊢; exact regionL_le hle h
          | panic v st' => simp only [ho] at h ⊢; exact h

include L in
theorem regionL_lim {ops : Array Oper} : ∀ {l : List Oper} {env : Env} {st : St} {r : Ex × Env × St}, regionL P cl ops l env st = some r → ∃ k, ∀ k', k ≤ k' → regionL P (cls k') ops l env st = some r
  | [], env, st, r, h => ⟨0, fun _ _ => h⟩
  | o :: rest, env, st, r, h => by
    simp only [regionL] at h ⊢
    cases hw : want ops env o.guard with
    | none => simp [hw] at h
    | some b =>
      cases b with
      | false => simp only [hw] at h ⊢; exact regionL_lim h
      | true =>
        simp only [hw] at h ⊢
        cases ho : opStep P cl (opv env) o st with
        | none => simp [ho] at h
        | some q =>
          obtain ⟨k1, h1⟩ := opStep_lim L ho
          cases q with
          | val v st' =>
            simp only [ho] at h
            obtain ⟨k2, h2⟩ := regionL_lim h
            exact ⟨max k1 k2, fun k' hk => by rw [h1 k' (by omega)]; exact h2 k' (by omega)⟩
          | panic v st' =>
            simp only [ho] at h
            exact ⟨k1, fun k' hk => by rw [h1 k' hk]; exact h⟩
theorem stepR_le {cl cl' : Oracle} (hle : OLe cl cl') {ev : Operand → V} {o : Oper} {st : St} {rs : Option Nat} {r : Res × Fp} (h : stepR P cl ev o st rs = some r) : stepR P cl' ev o st rs = some r := by
  rcases stepR_one h with h | ⟨g, as, s, p, h1, h2⟩
  · exact h cl'
  · exact h2 cl' (hle _ _ _ _ h1)

include L in
theorem stepR_lim {ev : Operand → V} {o : Oper} {st : St} {rs : Option Nat} {r : Res × Fp} (h : stepR P cl ev o st rs = some r) : ∃ k, ∀ k', k ≤ k' → stepR P (cls k') ev o st rs = some r := by
  rcases stepR_one h with h | ⟨g, as, s, p, h1, h2⟩
  · exact ⟨0, fun k' _ => h _⟩
  · obtain ⟨k, hk⟩ := L.reached _ _ _ _ h1
    exact ⟨k, fun k' hk' => h2 _ (L.mono _ _ hk' _ _ _ _ hk)⟩

theorem traceD_le {cl cl' : Oracle} (hle : OLe cl cl') {ops : Array Oper} : ∀ {l : List Oper} {env : Env} {st : St} {rs : Option Nat} {r : Option V × Env × St × List Fp}, traceD P cl ops l env st rs = some r → traceD P cl' ops l env st rs = some r
  | [], env, st, rs, r, h => h
  | o :: rest, env, st, rs, r, h => by
    simp only [traceD] at h ⊢
    cases hw : want ops env o.guard with
    | none => simp [hw] at h
    | some b =>
      cases b with
      | false =>
        simp only [hw] at h ⊢
        cases ht : traceD P cl ops rest (setD env o.dst (.tup [])) st (nxt o rs) with
        | none => rw [ht] at h; cases h
        | some q => rw [traceD_le hle ht]; rw [ht] at h; exact h
      | true =>
        simp only [hw] at h ⊢
        cases ho : stepR P cl (opv env) o st rs with
        | none => simp [ho] at h
        | some q =>
          rw [stepR_le hle ho]
          obtain ⟨q, fp⟩ := q
          cases q with
          | val v st' =>
            simp only [ho] at h ⊢
            cases ht : traceD P cl ops rest (setD env o.dst v) st' (nxt o rs) with
            | none => rw [ht] at h; cases h
            | some q => rw [traceD_le hle ht]; rw [ht] at h; exact h
          | panic v st' => simp only [ho] at h ⊢; exact h

include L in
theorem traceD_lim {ops : Array Oper} : ∀ {l : List Oper} {env : Env} {st : St} {rs : Option Nat} {r : Option V × Env × St × List Fp}, traceD P cl ops l env st rs = some r → ∃ k, ∀ k', k ≤ k' → traceD P (cls k') ops l env st rs = some r
  | [], env, st, rs, r, h => ⟨0, fun _ _ => h⟩
  | o :: rest, env, st, rs, r, h => by
    simp only [traceD] at h ⊢
    cases hw : want ops env o.guard with
    | none => simp [hw] at h
    | some b =>
      cases b with
      | false =>
        simp only [hw] at h ⊢
        cases ht : traceD P cl ops rest (setD env o.dst (.tup [])) st (nxt o rs) with
        | none => rw [ht] at h; cases h
        | some q =>
          obtain ⟨k1, h1⟩ := traceD_lim ht
          exact ⟨k1, fun k' hk => by rw [h1 k' hk]; rw [ht] at h; exact h⟩
      | true =>
        simp only [hw] at h ⊢
        cases ho : stepR P cl (opv env) o st rs with
        | none => simp [ho] at h
        | some q =>
          obtain ⟨k1, h1⟩ := stepR_lim L ho
          obtain ⟨q, fp⟩ := q
          cases q with
          | val v st' =>
            simp only [ho] at h
            cases ht : traceD P cl ops rest (setD env o.dst v) st' (nxt o rs) with
            | none => rw [ht] at h; cases h
            | some q =>
              obtain ⟨k2, h2⟩ := traceD_lim ht
              exact ⟨max k1 k2, fun k' hk => by rw [h1 k' (by omega)]; simp only; rw [h2 k' (by omega)]; rw [ht] at h; exact h⟩
          | panic v st' =>
            simp only [ho] at h
            exact ⟨k1, fun k' hk => by rw [h1 k' hk]; exact h⟩

theorem regionD_le {cl cl' : Oracle} (hle : OLe cl cl') {ops : Array Oper} {env : Env} {st : St} {r : Ex × Env × St} (h : regionD P cl ops env st = some r) : regionD P cl' ops env st = some r := by
  unfold regionD at h ⊢
  split at h
  · rename_i hd
    rw [if_pos hd]
    cases ht : traceD P cl ops ops.toList env (hoist P ops.toList st).2 (hoist P ops.toList st).1 with
    | none => rw [ht] at h; cases h
    | some q => rw [traceD_le hle ht]; rw [ht] at h; exact h
  · cases h

include L in
theorem regionD_lim {ops : Array Oper} {env : Env} {st : St} {r : Ex × Env × St} (h : regionD P cl ops env st = some r) : ∃ k, ∀ k', k ≤ k' → regionD P (cls k') ops env st = some r := by
  unfold regionD at h
  split at h
  · rename_i hd
    cases ht : traceD P cl ops ops.toList env (hoist P ops.toList st).2 (hoist P ops.toList st).1 with
    | none => rw [ht] at h; cases h
    | some q =>
      obtain ⟨k, hk⟩ := traceD_lim L ht
      refine ⟨k, fun k' hk' => ?_⟩
      unfold regionD
      rw [if_pos hd, hk k' hk']; rw [ht] at h; exact h
  · cases h
end

/- rounds without a bound -/
theorem loopN_le {f g : Env → St → Option (Ex × Env × St)} (hfg : ∀ e s r, f e s = some r → g e s = some r) {ts : List Nat} {n : Nat} :
    ∀ {k k' : Nat} {env : Env} {st : St} {r : Ex × Env × St}, k ≤ k' → loopN f ts n k env st = some r → loopN g ts n k' env st = some r
  | 0, _, _, _, _, _, h => by simp [loopN] at h
  | k + 1, 0, _, _, _, hk, _ => by omega
  | k + 1, k' + 1, env, st, r, hk, h => by
    simp only [loopN] at h ⊢
    cases hf : f env st with
    | none => simp [hf] at h
    | some p =>
      obtain ⟨ex, env', st'⟩ := p
      rw [hfg _ _ _ hf]
      cases ex with
      | normal => simp only [hf] at h ⊢; exact loopN_le hfg (by omega) h
      | exit i => simp only [hf] at h ⊢; exact h
      | ret => simp only [hf] at h ⊢; exact h
      | panic v => simp only [hf] at h ⊢; exact h

open Classical in
noncomputable def loopE (f : Env → St → Option (Ex × Env × St)) (ts : List Nat) (n : Nat) (env : Env) (st : St) : Option (Ex × Env × St) :=
  if h : ∃ r k, loopN f ts n k env st = some r then some (Classical.choose h) else none

theorem loopE_some {f : Env → St → Option (Ex × Env × St)} {ts : List Nat} {n : Nat} {env : Env} {st : St} {r : Ex × Env × St} : loopE f ts n env st = some r ↔ ∃ k, loopN f ts n k env st = some r := by
  unfold loopE
  constructor
  · intro h
    split at h
    · rename_i hx
      cases h
      exact Classical.choose_spec hx
    · cases h
  · rintro ⟨k, hk⟩
    have hx : ∃ r k, loopN f ts n k env st = some r := ⟨r, k, hk⟩
    rw [dif_pos hx]
    obtain ⟨k', hk'⟩ := Classical.choose_spec hx
    have h1 := loopN_le (f := f) (g := f) (fun _ _ _ e => e) (Nat.le_max_left k k') hk
    have h2 := loopN_le (f := f) (g := f) (fun _ _ _ e => e) (Nat.le_max_right k k') hk'
    rw [h1] at h2
    exact h2.symm

theorem loopE_eq (f : Env → St → Option (Ex × Env × St)) (ts : List Nat) (n : Nat) (env : Env) (st : St) :
    loopE f ts n env st = match f env st with
      | some (.normal, env', st') => loopE f ts n (roundEnd ts n env' st').1 (roundEnd ts n env' st').2
      | r => r := by
  apply Option.ext
  intro r
  rw [loopE_some]
  cases hf : f env st with
  | none =>
    simp only [reduceCtorEq, iff_false, not_exists]
    intro k hk
    cases k <;> simp [loopN, hf] at hk
  | some p =>
    obtain ⟨ex, env', st'⟩ := p
    cases ex with
    | normal =>
      simp only
      rw [loopE_some]
      constructor
      · rintro ⟨k, hk⟩
        cases k with
        | zero => simp [loopN] at hk
        | succ k => exact ⟨k, by simpa [loopN, hf] using hk⟩
      · rintro ⟨k, hk⟩
        exact ⟨k + 1, by simpa [loopN, hf] using hk⟩
    | _ =>
      constructor
      · rintro ⟨k, hk⟩
        cases k with
        | zero => simp [loopN] at hk
        | succ k => simpa [loopN, hf] using hk
      · intro h
        exact ⟨1, by simpa [loopN, hf] using h⟩

noncomputable def execE (P : Program) (cl : Oracle) : Code → Env → St → Option (Ex × Env × St)
  | .skip, env, st => some (.normal, env, st)
  | .region _ ops false, env, st => regionL P cl ops ops.toList env st
  | .region _ ops true, env, st => regionD P cl ops env st
  | .seq a b, env, st => match execE P cl a env st with
    | some (.normal, env', st') => execE P cl b env' st'
    | r => r
  | .cond c a b, env, st => match opv env c with
    | .bool true => execE P cl a env st
    | .bool false => execE P cl b env st
    | _ => none
  | .block id a, env, st => match execE P cl a env st with
    | some (.exit i, env', st') => if i = id then some (.normal, env', st') else some (.exit i, env', st')
    | r => r
  | .loop a, env, st => loopE (execE P cl a) (temps a) st.length env st
  | .exit id, env, st => some (.exit id, env, st)
  | .ret, env, st => some (.ret, env, st)
  | _, _, _ => none

theorem exec_le {cl cl' : Oracle} (hle : OLe cl cl') {k : Nat} : ∀ (c : Code) {env : Env} {st : St} {r : Ex × Env × St}, exec P cl k c env st = some r → execE P cl' c env st = some r := by
  intro c
  induction c with
  | region id ops draw =>
    intro env st r h
    cases draw
    · simp only [exec, execE] at h ⊢; exact regionL_le hle h
    · simp only [exec, execE] at h ⊢; exact regionD_le hle h
  | seq x y ihx ihy =>
    intro env st r h
    simp only [exec, execE] at h ⊢
    cases hx : exec P cl k x env st with
    | none => simp [hx] at h
    | some p =>
      obtain ⟨ex, env', st'⟩ := p
      rw [ihx hx]
      cases ex <;> simp only [hx] at h ⊢ <;> first | exact ihy h | exact h
  | cond c x y ihx ihy =>
    intro env st r h
    simp only [exec, execE] at h ⊢
    cases hc : opv env c <;> simp only [hc, reduceCtorEq] at h ⊢
    case bool b => cases b <;> simp only at h ⊢ <;> first | exact ihx h | exact ihy h
  | block id x ihx =>
    intro env st r h
    simp only [exec, execE] at h ⊢
    cases hx : exec P cl k x env st with
    | none => simp [hx] at h
    | some p =>
      obtain ⟨ex, env', st'⟩ := p
      rw [ihx hx]
      cases ex <;> simp only [hx] at h ⊢ <;> exact h
  | loop x ihx =>
    intro env st r h
    simp only [exec, execE] at h ⊢
    exact loopE_some.2 ⟨k, loopN_le (fun e s r h => ihx h) (Nat.le_refl _) h⟩
  | _ => intro env st r h; simp_all [exec, execE]

theorem exec_lim {cls : Nat → Oracle} {cl : Oracle} (L : Lims cls cl) : ∀ (c : Code) {env : Env} {st : St} {r : Ex × Env × St}, execE P cl c env st = some r →
    ∃ k, ∀ k', k ≤ k' → exec P (cls k') k' c env st = some r := by
  intro c
  induction c with
  | region id ops draw =>
    intro env st r h
    cases draw
    · simp only [exec, execE] at h ⊢; exact regionL_lim L h
    · simp only [exec, execE] at h ⊢; exact regionD_lim L h
  | seq x y ihx ihy =>
    intro env st r h
    simp only [exec, execE] at h ⊢
    cases hx : execE P cl x env st with
    | none => simp [hx] at h
    | some p =>
      obtain ⟨ex, env', st'⟩ := p
      obtain ⟨k1, h1⟩ := ihx hx
      cases ex with
      | normal =>
        simp only [hx] at h
        obtain ⟨k2, h2⟩ := ihy h
        exact ⟨max k1 k2, fun k' hk => by rw [h1 k' (by omega)]; exact h2 k' (by omega)⟩
      | _ => simp only [hx] at h; exact ⟨k1, fun k' hk => by rw [h1 k' hk]; exact h⟩
  | cond c x y ihx ihy =>
    intro env st r h
    simp only [exec, execE] at h ⊢
    cases hc : opv env c <;> simp only [hc, reduceCtorEq] at h ⊢
    case bool b => cases b <;> simp only at h ⊢ <;> first | exact ihx h | exact ihy h
  | block id x ihx =>
    intro env st r h
    simp only [exec, execE] at h ⊢
    cases hx : execE P cl x env st with
    | none => simp [hx] at h
    | some p =>
      obtain ⟨ex, env', st'⟩ := p
      obtain ⟨k1, h1⟩ := ihx hx
      exact ⟨k1, fun k' hk => by rw [h1 k' hk]; rw [hx] at h; exact h⟩
  | loop x ihx =>
    intro env st r h
    simp only [exec, execE] at h ⊢
    obtain ⟨j, hj⟩ := loopE_some.1 h
    have key : ∀ (j : Nat) {env : Env} {st0 : St}, loopN (execE P cl x) (temps x) st.length j env st0 = some r →
        ∃ k, ∀ k', k ≤ k' → loopN (exec P (cls k') k' x) (temps x) st.length j env st0 = some r := by
      intro j
      induction j with
      | zero => intro env st0 h; simp [loopN] at h
      | succ j ih =>
        intro env st0 h
        simp only [loopN] at h ⊢
        cases hx : execE P cl x env st0 with
        | none => simp [hx] at h
        | some p =>
          obtain ⟨ex, env', st'⟩ := p
          obtain ⟨k1, h1⟩ := ihx hx
          cases ex with
          | normal =>
            simp only [hx] at h
            obtain ⟨k2, h2⟩ := ih h
            exact ⟨max k1 k2, fun k' hk => by rw [h1 k' (by omega)]; exact h2 k' (by omega)⟩
          | _ => simp only [hx] at h; exact ⟨k1, fun k' hk => by rw [h1 k' hk]; exact h⟩
    obtain ⟨k, hk⟩ := key j hj
    exact ⟨max k j, fun k' hk' => loopN_le (fun _ _ _ e => e) (show j ≤ k' by omega) (hk k' (by omega))⟩
  | _ => intro env st r h; simp_all [exec, execE]

theorem primRun_one {cl : Oracle} {p : Prim} {args : List V} {st : St} {r : Out × St} (h : primRun cl p args st = some r) :
    (∀ cl' : Oracle, primRun cl' p args st = some r) ∨ ∃ g as s q, cl g as s = some q ∧ ∀ cl' : Oracle, cl' g as s = some q → primRun cl' p args st = some r := by
  cases p with
  | pure f => exact .inl fun _ => h
  | grab t =>
    simp only [primRun] at h
    split at h
    · rename_i g first cap
      cases hd : doCall cl g (first ++ cap) st with
      | none => simp [hd] at h
      | some q =>
        obtain ⟨as, s, p, h1, h2⟩ := doCall_one hd
        refine .inr ⟨g, as, s, p, h1, fun cl' h' => ?_⟩
        simp only [primRun]
        rw [h2 cl' h']
        rw [hd] at h
        exact h
    · cases h

theorem exec_mono {cl cl' : Oracle} (hle : OLe cl cl') {k k' : Nat} (hk : k ≤ k') : ∀ (c : Code) {env : Env} {st : St} {r : Ex × Env × St}, exec P cl k c env st = some r → exec P cl' k' c env st = some r := by
  intro c
  induction c with
  | region id ops draw =>
    intro env st r h
    cases draw
    · simp only [exec] at h ⊢; exact regionL_le hle h
    · simp only [exec] at h ⊢; exact regionD_le hle h
  | seq x y ihx ihy =>
    intro env st r h
    simp only [exec] at h ⊢
    cases hx : exec P cl k x env st with
    | none => simp [hx] at h
    | some p =>
      obtain ⟨ex, env', st'⟩ := p
      rw [ihx hx]
      cases ex <;> simp only [hx] at h ⊢ <;> first | exact ihy h | exact h
  | cond c x y ihx ihy =>
    intro env st r h
    simp only [exec] at h ⊢
    cases hc : opv env c <;> simp only [hc, reduceCtorEq] at h ⊢
    case bool b => cases b <;> simp only at h ⊢ <;> first | exact ihx h | exact ihy h
  | block id x ihx =>
    intro env st r h
    simp only [exec] at h ⊢
    cases hx : exec P cl k x env st with
    | none => simp [hx] at h
    | some p =>
      obtain ⟨ex, env', st'⟩ := p
      rw [ihx hx]
      cases ex <;> simp only [hx] at h ⊢ <;> exact h
  | loop x ihx =>
    intro env st r h
    simp only [exec] at h ⊢
    exact loopN_le (fun e s r h => ihx h) hk h
  | _ => intro env st r h; simp_all [exec]

theorem run_succ : ∀ k, OLe (run P pr k) (run P pr (k + 1)) := by
  intro k
  induction k with
  | zero => intro f a s r h; simp [run] at h
  | succ k ih =>
    intro f a s r h
    rw [run] at h ⊢
    cases hp : pr f with
    | some p =>
      simp only [hp] at h ⊢
      rcases primRun_one h with h | ⟨g, as, s, q, h1, h2⟩
      · exact h _
      · exact h2 _ (ih _ _ _ _ h1)
    | none =>
      simp only [hp] at h ⊢
      cases hf : P.funcs[f]? with
      | none => simp [hf] at h
      | some fn =>
        simp only [hf] at h ⊢
        cases hb : fn.body with
        | none => simp [hb] at h
        | some c =>
          simp only [hb] at h ⊢
          cases hx : exec P (run P pr k) k c (a ++ List.replicate (fn.ntmps - a.length) .undef) s with
          | none => simp [hx] at h
          | some q => rw [exec_mono ih (Nat.le_succ k) c hx]; rw [hx] at h; exact h

theorem run_mono : ∀ {k k' : Nat}, k ≤ k' → OLe (run P pr k) (run P pr k') := by
  intro k k' h
  induction h with
  | refl => exact fun _ _ _ _ h => h
  | step _ ih => exact fun f a s r h => run_succ _ f a s r (ih f a s r h)

open Classical in
/- WHAT A CALL COMES TO -/
noncomputable def ev (P : Program) (pr : Prims) : Oracle := fun f a s =>
  if h : ∃ r k, run P pr k f a s = some r then some (Classical.choose h) else none

theorem ev_some {f : FuncId} {a : List V} {s : St} {r : Out × St} : ev P pr f a s = some r ↔ ∃ k, run P pr k f a s = some r := by
  unfold ev
  constructor
  · intro h
    split at h
    · rename_i hx
      cases h
      exact Classical.choose_spec hx
    · cases h
  · rintro ⟨k, hk⟩
    have hx : ∃ r k, run P pr k f a s = some r := ⟨r, k, hk⟩
    rw [dif_pos hx]
    obtain ⟨k', hk'⟩ := Classical.choose_spec hx
    have h1 := run_mono (Nat.le_max_left k k') _ _ _ _ hk
    have h2 := run_mono (Nat.le_max_right k k') _ _ _ _ hk'
    rw [h1] at h2
    exact h2.symm

theorem lims : Lims (run P pr) (ev P pr) :=
  ⟨fun _ _ h => run_mono h, fun k _ _ _ _ h => ev_some.2 ⟨k, h⟩, fun _ _ _ _ h => ev_some.1 h⟩

/- its equation -/
theorem ev_eq (f : FuncId) (a : List V) (s : St) : ev P pr f a s = match pr f with
    | some p => primRun (ev P pr) p a s
    | none => match P.funcs[f]? with
      | some fn => match fn.body with
        | some c => match execE P (ev P pr) c (a ++ List.replicate (fn.ntmps - a.length) .undef) s with
          | some r => finish P s.length fn.results.toList r
          | none => none
        | none => none
      | none => none := by
  apply Option.ext
  intro r
  rw [ev_some]
  constructor
  · rintro ⟨k, h⟩
    cases k with
    | zero => simp [run] at h
    | succ k =>
      rw [run] at h
      cases hp : pr f with
      | some p =>
        simp only [hp] at h ⊢
        rcases primRun_one h with h | ⟨g, as, s, q, h1, h2⟩
        · exact h _
        · exact h2 _ (ev_some.2 ⟨k, h1⟩)
      | none =>
        simp only [hp] at h ⊢
        cases hf : P.funcs[f]? with
        | none => simp [hf] at h
        | some fn =>
          simp only [hf] at h ⊢
          cases hb : fn.body with
          | none => simp [hb] at h
          | some c =>
            simp only [hb] at h ⊢
            cases hx : exec P (run P pr k) k c (a ++ List.replicate (fn.ntmps - a.length) .undef) s with
            | none => simp [hx] at h
            | some q => rw [exec_le (lims.below k) c hx]; rw [hx] at h; exact h
  · intro h
    cases hp : pr f with
    | some p =>
      simp only [hp] at h
      rcases primRun_one h with h | ⟨g, as, s', q, h1, h2⟩
      · exact ⟨1, by rw [run]; simp only [hp]; exact h _⟩
      · obtain ⟨k, hk⟩ := ev_some.1 h1
        exact ⟨k + 1, by rw [run]; simp only [hp]; exact h2 _ hk⟩
    | none =>
      simp only [hp] at h
      cases hf : P.funcs[f]? with
      | none => simp [hf] at h
      | some fn =>
        simp only [hf] at h
        cases hb : fn.body with
        | none => simp [hb] at h
        | some c =>
          simp only [hb] at h
          cases hx : execE P (ev P pr) c (a ++ List.replicate (fn.ntmps - a.length) .undef) s with
          | none => simp [hx] at h
          | some q =>
            obtain ⟨k, hk⟩ := exec_lim lims c hx
            refine ⟨k + 1, ?_⟩
            rw [run]
            simp only [hp, hf, hb]
            rw [hk k (Nat.le_refl _)]
            rw [hx] at h
            exact h

theorem ev_sound (hm : P.follows .mixedOrders = true) (hN : NoNum P) (hp : ∀ f p, pr f = some p → PrimSound P f p) : Sound P (ev P pr) := by
  intro f args st out st' h
  obtain ⟨k, hk⟩ := ev_some.1 h
  exact run_sound hm hN hp k f args st out st' hk

end Go.Abs

namespace Go.Abs
open Go

/- one block that nobody tracks is turned -/
structure Turned (B : Nat) (c : Array Value) (t : TypeId) (W W' : World) : Prop where
  env : W'.os = W.os ∧ W'.tape = W.tape ∧ W'.output = W.output
  size : W.heap.size ≤ W'.heap.size
  at_ : W'.heap[B]? = some (.cells c t (0, 0))
  other : ∀ k, k ≠ B → k < W.heap.size → W'.heap[k]? = W.heap[k]?

theorem Turned.trans {B : Nat} {c c' : Array Value} {t : TypeId} {U V W : World} (h : Turned B c t U V) (h' : Turned B c' t V W) : Turned B c' t U W :=
  ⟨⟨h'.env.1.trans h.env.1, h'.env.2.1.trans h.env.2.1, h'.env.2.2.trans h.env.2.2⟩, Nat.le_trans h.size h'.size, h'.at_, fun k hk hlt => (h'.other k hk (Nat.lt_of_lt_of_le hlt h.size)).trans (h.other k hk hlt)⟩

theorem Good.turned {G0 G : Ghost} {W0 W W' : World} {st0 st : St} (g : Good G0 W0 G st W) (s0 : Sim G0 st0 W0) {B : Nat} {c : Array Value} {t : TypeId} (h : Turned B c t W W') (hB : W0.heap.size ≤ B) (hi : ∀ o, G.imm B o = none) (ht : ¬ TB G B) : Good G0 W0 G st W' := by
  have old : ∀ {k : Nat} {x : Obj}, k ≠ B → W.heap[k]? = some x → W'.heap[k]? = some x := fun {k x} hk e => by
    rw [h.other k hk (Array.getElem?_eq_some_iff.1 e).1]; exact e
  refine ⟨⟨⟨fun k o v e => ?_, g.sim.dom, fun b k hb => ?_, g.sim.inj, fun b d hd => ?_, g.sim.tinj, g.sim.base, g.sim.res⟩, fun k o e => ?_⟩,
    ⟨g.ext.imm, Nat.le_trans g.ext.size h.size, fun k hk hn => ?_, g.ext.immK, g.ext.tb, ⟨h.env.1.trans g.ext.env.1, h.env.2.1.trans g.ext.env.2.1, h.env.2.2.trans g.ext.env.2.2⟩, g.ext.fix⟩, g.le, g.res⟩
  · obtain ⟨c', T, f, h1, h2⟩ := g.sim.imm k o v e
    exact ⟨c', T, f, old (fun e' => by rw [e', hi] at e; cases e) h1, h2⟩
  · obtain ⟨⟨cs, c', T, h1, h2, h3⟩, h4⟩ := g.sim.box b k hb
    exact ⟨⟨cs, c', T, h1, old (fun e' => ht (.inl ⟨b, e' ▸ hb⟩)) h2, h3⟩, h4⟩
  · have q := g.sim.tip b d hd
    refine ⟨q.st, q.nobox, q.le, q.none, q.pos, fun r => ?_⟩
    obtain ⟨k, c', T, h1, h2, h3⟩ := q.room r
    exact ⟨k, c', T, h1, old (fun e' => ht (.inr ⟨b, d, hd, r, e' ▸ h1⟩)) h2, h3⟩
  · have q := g.sim.fix k o e
    rw [g.ext.fix] at e
    have hk := (Array.getElem?_eq_some_iff.1 (s0.fix k o e).1).1
    exact ⟨old (by omega) q.1, q.2⟩
  · rw [h.other k (by omega) (Nat.lt_of_lt_of_le hk g.ext.size)]
    exact g.ext.keep k hk hn

theorem turned_set {W : World} {B : Nat} {x0 x1 a b : Value} {t : TypeId} (h : W.heap[B]? = some (.cells #[x0, x1] t (0, 0))) :
    Turned B #[a, b] t W ((W.setCell ⟨B, 0, none⟩ a).setCell ⟨B, 1, none⟩ b) := by
  have hlt := (Array.getElem?_eq_some_iff.1 h).1
  refine ⟨⟨rfl, rfl, rfl⟩, by simp [World.setCell], ?_, fun k hk _ => ?_⟩
  · simp [World.setCell, Array.getElem?_modify, h]
  · simp only [World.setCell, Array.getElem?_modify]
    rw [if_neg (Ne.symm hk), if_neg (Ne.symm hk)]

theorem turned_alloc {W : World} {B : Nat} {c : Array Value} {t : TypeId} (h : W.heap[B]? = some (.cells c t (0, 0))) (o : Obj) : Turned B c t W (W.alloc o) :=
  ⟨⟨rfl, rfl, rfl⟩, by simp, by rw [RowKit.Below.heap_alloc _ _ _ (Array.getElem?_eq_some_iff.1 h).1]; exact h, fun k _ hlt => RowKit.Below.heap_alloc _ _ _ hlt⟩

theorem upon_does {P : Program} {o : Oper} {a : Act} {next : Act → World → Prop} {Q : Exit → Act → World → Prop} {g : FuncId} {vs : Array Value} {W : World} {R : Ending → World → Prop} (hd : Does P g vs W R)
    (hn : ∀ u W', R (.returned u) W' → next (a.put o.dst u) W') (hq : ∀ ch W', R (.panicked ch) W' → Q (.panic ch) a W') (ho : ∀ W', ¬ R .outgrown W') : Oper.upon P o a next Q ((callFunc g vs).run P W) := by
  unfold Does at hd
  cases hr : (callFunc g vs).run P W with
  | halt x w => rw [hr] at hd; exact hd.elim
  | ok n W1 =>
    rw [hr] at hd
    cases n <;> try exact hd.elim
    case value v => exact hn v W1 hd
    case enter g' vs' =>
      simp only at hd
      rw [Oper.upon_enter]
      refine Calls.mono hd fun e W2 hR => ?_
      cases e with
      | returned v => exact hn v W2 hR
      | panicked ch => exact hq ch W2 hR
      | outgrown => exact (ho W2 hR).elim

end Go.Abs

