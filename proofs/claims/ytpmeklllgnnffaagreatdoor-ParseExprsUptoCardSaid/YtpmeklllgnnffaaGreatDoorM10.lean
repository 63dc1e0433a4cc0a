/- Code, results, whole runs: what the abstract interpreter says, the machine does. -/
import Derived.Test.YtpmeklllgnnffaaGreatDoorM9
import Derived.LoopN
set_option linter.unusedSimpArgs false
set_option linter.unusedVariables false

namespace Go.Abs
open Go

variable {P : Program} {G : Ghost} {st : St} {W : World}

theorem dropT_reps (ts : List Nat) : ∀ {env : Env} {vs : List Value} (i : Nat), Reps G env vs → Reps G (dropT ts i env) vs
  | [], _, _, h => h
  | v :: r, _, i, h => by
    obtain ⟨u, us, rfl, h1, h2⟩ := h
    refine ⟨u, us, rfl, ?_, dropT_reps ts (i + 1) h2⟩
    cases ts.contains i
    · exact h1
    · trivial

theorem clean_reps {n : Nat} : ∀ {env : Env} {vs : List Value}, Reps G env vs → Reps (G.cut n) (env.map (cleanV n)) vs
  | [], _, h => h
  | v :: r, _, h => by
    obtain ⟨u, us, rfl, h1, h2⟩ := h
    refine ⟨u, us, rfl, ?_, clean_reps h2⟩
    unfold cleanV
    split
    · rename_i hc
      exact h1.cut fun b hb => by have := List.all_eq_true.1 hc b hb; simpa using this
    · trivial

theorem roundEnd_sound {G0 : Ghost} {st0 : St} {W0 : World} (s0 : Sim G0 st0 W0) (g : Good G0 W0 G st W) {env : Env} {vs : List Value} (he : Reps G env vs) (ts : List Nat) :
    ∃ G', Good G0 W0 G' (roundEnd ts st0.length env st).2 W ∧ Reps G' (roundEnd ts st0.length env st).1 vs := by
  unfold roundEnd
  have hd := dropT_reps ts 0 he
  split
  · rename_i hc
    refine ⟨G.cut st0.length, ⟨g.sim.cut fun b hb r hr => ?_, g.ext.cut _, g.le.cut s0 (Nat.le_refl _), fun b hb => by have := (s0.res b hb).1; simp [Ghost.cut, this, g.res b hb]⟩, clean_reps hd⟩
    rw [List.all_eq_true] at hc
    cases hx : st[b]? with
    | none => simp [List.getD, hx, refsL] at hr
    | some cs =>
      have hm : cs ∈ st.take st0.length := List.mem_of_getElem? (by rw [List.getElem?_take_of_lt hb]; exact hx)
      have := List.all_eq_true.1 (hc cs hm) r (by simpa [List.getD, hx] using hr)
      simpa using this
  · exact ⟨G, g, hd⟩

theorem exec_sound (hm : P.follows .mixedOrders = true) {cl : Oracle} (hcl : Sound P cl) {k : Nat} : ∀ (c : Code) {G : Ghost} {st : St} {W : World} {a : Act} {env : Env} {ex : Ex} {env' : Env} {st' : St},
    Sim G st W → Reps G env a.tmps.toList → a.defers = [] → exec P cl k c env st = some (ex, env', st') → c.wp P (ExPost G W ex env' st') a W := by
  intro c
  induction c with
  | skip =>
    intro G st W a env ex env' st' h he hd hl
    simp only [exec, Option.some.injEq, Prod.mk.injEq] at hl
    obtain ⟨rfl, rfl, rfl⟩ := hl
    exact wp_skip ⟨G, .refl h, hd, rfl, he⟩
  | region id ops draw =>
    intro G st W a env ex env' st' h he hd hl
    cases draw with
    | true => simp only [exec] at hl; exact regionD_sound hm hcl h he hd hl
    | false =>
      simp only [exec] at hl
      exact wp_region_list (regionL_sound hcl ops.toList h he hd hl)
  | seq x y ihx ihy =>
    intro G st W a env ex env' st' h he hd hl
    simp only [exec] at hl
    refine wp_seq ?_
    cases hx : exec P cl k x env st with
    | none => simp [hx] at hl
    | some p =>
      obtain ⟨ex1, env1, st1⟩ := p
      refine wp_mono (ihx h he hd hx) fun e a' W' hp => ?_
      cases ex1 with
      | normal =>
        simp only [hx] at hl
        obtain ⟨G1, g1, hd1, rfl, he1⟩ := hp
        exact wp_mono (ihy g1.sim he1 hd1 hl) fun e a' W' q => ExPost.trans g1 q
      | exit i =>
        simp only [hx, Option.some.injEq, Prod.mk.injEq] at hl
        obtain ⟨rfl, rfl, rfl⟩ := hl
        have hp' := hp
        obtain ⟨G1, g1, hd1, rfl, he1⟩ := hp
        exact hp'
      | ret =>
        simp only [hx, Option.some.injEq, Prod.mk.injEq] at hl
        obtain ⟨rfl, rfl, rfl⟩ := hl
        have hp' := hp
        obtain ⟨G1, g1, hd1, rfl, he1⟩ := hp
        exact hp'
      | panic v =>
        simp only [hx, Option.some.injEq, Prod.mk.injEq] at hl
        obtain ⟨rfl, rfl, rfl⟩ := hl
        have hp' := hp
        obtain ⟨G1, g1, hd1, u, rfl, he1⟩ := hp
        exact hp'
  | cond c x y ihx ihy =>
    intro G st W a env ex env' st' h he hd hl
    simp only [exec] at hl
    have hc := opv_sound he c
    cases hcv : opv env c <;> simp only [hcv, reduceCtorEq] at hl
    case bool b =>
      rw [hcv] at hc
      simp only [Rep] at hc
      cases b with
      | true => exact wp_cond_true hc (ihx h he hd hl)
      | false => exact wp_cond_false hc (ihy h he hd hl)
  | block id x ihx =>
    intro G st W a env ex env' st' h he hd hl
    simp only [exec] at hl
    refine wp_block ?_
    cases hx : exec P cl k x env st with
    | none => simp [hx] at hl
    | some p =>
      obtain ⟨ex1, env1, st1⟩ := p
      refine wp_mono (ihx h he hd hx) fun e a' W' hp => ?_
      cases ex1 with
      | exit i =>
        simp only [hx] at hl
        obtain ⟨G1, g1, hd1, rfl, he1⟩ := hp
        by_cases hi : i = id
        · simp only [hi, if_true, Option.some.injEq, Prod.mk.injEq] at hl
          obtain ⟨rfl, rfl, rfl⟩ := hl
          simp only [Exit.inBlock, hi, if_true]
          exact ⟨G1, g1, hd1, rfl, he1⟩
        · simp only [hi, if_false, Option.some.injEq, Prod.mk.injEq] at hl
          obtain ⟨rfl, rfl, rfl⟩ := hl
          simp only [Exit.inBlock, hi, if_false]
          exact ⟨G1, g1, hd1, rfl, he1⟩
      | normal =>
        simp only [hx, Option.some.injEq, Prod.mk.injEq] at hl
        obtain ⟨rfl, rfl, rfl⟩ := hl
        have hp' := hp
        obtain ⟨G1, g1, hd1, rfl, he1⟩ := hp
        exact hp'
      | ret =>
        simp only [hx, Option.some.injEq, Prod.mk.injEq] at hl
        obtain ⟨rfl, rfl, rfl⟩ := hl
        have hp' := hp
        obtain ⟨G1, g1, hd1, rfl, he1⟩ := hp
        exact hp'
      | panic v =>
        simp only [hx, Option.some.injEq, Prod.mk.injEq] at hl
        obtain ⟨rfl, rfl, rfl⟩ := hl
        have hp' := hp
        obtain ⟨G1, g1, hd1, u, rfl, he1⟩ := hp
        exact hp'
  | loop x ihx =>
    intro G0 st0 W0 a env ex env' st' h0 he hd hl
    simp only [exec] at hl
    refine wp_loop_rounds k ?_
    have key : ∀ (j : Nat) {G : Ghost} {st : St} {W : World} {a : Act} {env : Env}, Good G0 W0 G st W → Reps G env a.tmps.toList → a.defers = [] →
        loopN (exec P cl k x) (temps x) st0.length j env st = some (ex, env', st') → Code.rounds P x (ExPost G0 W0 ex env' st') j a W := by
      intro j
      induction j with
      | zero => intro G st W a env _ _ _ hl; simp [loopN] at hl
      | succ j ih =>
        intro G st W a env g he hd hl
        rw [rounds_succ]
        simp only [loopN] at hl
        cases hx : exec P cl k x env st with
        | none => simp [hx] at hl
        | some p =>
          obtain ⟨ex1, env1, st1⟩ := p
          refine wp_mono (ihx g.sim he hd hx) fun e a' W' hp => ?_
          cases ex1 with
          | normal =>
            simp only [hx] at hl
            obtain ⟨G1, g1, hd1, rfl, he1⟩ := hp
            obtain ⟨G2, g2, he2⟩ := roundEnd_sound h0 (g.trans g1) he1 (temps x)
            exact ih g2 he2 hd1 hl
          | exit i =>
            simp only [hx, Option.some.injEq, Prod.mk.injEq] at hl
            obtain ⟨rfl, rfl, rfl⟩ := hl
            have hp' := ExPost.trans g hp
            obtain ⟨G1, g1, hd1, rfl, he1⟩ := hp
            exact hp'
          | ret =>
            simp only [hx, Option.some.injEq, Prod.mk.injEq] at hl
            obtain ⟨rfl, rfl, rfl⟩ := hl
            have hp' := ExPost.trans g hp
            obtain ⟨G1, g1, hd1, rfl, he1⟩ := hp
            exact hp'
          | panic v =>
            simp only [hx, Option.some.injEq, Prod.mk.injEq] at hl
            obtain ⟨rfl, rfl, rfl⟩ := hl
            have hp' := ExPost.trans g hp
            obtain ⟨G1, g1, hd1, u, rfl, he1⟩ := hp
            exact hp'
    exact key k (.refl h0) he hd hl
  | exit id =>
    intro G st W a env ex env' st' h he hd hl
    simp only [exec, Option.some.injEq, Prod.mk.injEq] at hl
    obtain ⟨rfl, rfl, rfl⟩ := hl
    exact wp_exit ⟨G, .refl h, hd, rfl, he⟩
  | ret =>
    intro G st W a env ex env' st' h he hd hl
    simp only [exec, Option.some.injEq, Prod.mk.injEq] at hl
    obtain ⟨rfl, rfl, rfl⟩ := hl
    exact wp_ret ⟨G, .refl h, hd, rfl, he⟩
  | _ => intro G st W a env ex env' st' h he hd hl; simp [exec] at hl

/- results -/
theorem resL_sound {tmps : Array Value} {env : Env} (h : Sim G st W) (he : Reps G env tmps.toList) :
    ∀ {rs : List ResultVar} {vs : List V}, resL P env st rs = some vs → ∃ us, Reps G vs us ∧ ∀ fr : ResultVar → Sem Value, (∀ t, fr (.tmp t) = pure (tmps.getD t undef)) →
      (∀ a t, fr (.cell a t) = do loadVar t (← asAddr (tmps.getD a undef))) → (rs.mapM fr).run P W = .ok us W
  | [], vs, hl => by simp only [resL, Option.some.injEq] at hl; subst hl; exact ⟨[], rfl, by simp⟩
  | r :: rs, vs, hl => by
    simp only [resL] at hl
    cases hr : resV P env st r with
    | none => simp [hr] at hl
    | some v =>
      cases hq : resL P env st rs with
      | none => simp [hr, hq] at hl
      | some vs' =>
        simp only [hr, hq, Option.some.injEq] at hl
        subst hl
        obtain ⟨us, k2, k1⟩ := resL_sound h he hq
        have hget : ∀ t, Rep G (env.getD t .undef) (tmps.getD t undef) := fun t => by
          have := he.getD t undef
          simpa [Array.getD_eq_getD_getElem?, List.getD_eq_getElem?_getD] using this
        have : ∃ u, Rep G v u ∧ ∀ fr : ResultVar → Sem Value, (∀ t, fr (.tmp t) = pure (tmps.getD t undef)) →
            (∀ a t, fr (.cell a t) = do loadVar t (← asAddr (tmps.getD a undef))) → (fr r).run P W = .ok u W := by
          cases r with
          | tmp t => simp only [resV, Option.some.injEq] at hr; subst hr; exact ⟨_, hget t, fun fr h1 _ => by rw [h1]; rfl⟩
          | cell t ty =>
            simp only [resV] at hr
            have hg := hget t
            obtain ⟨u, q1, q2⟩ := load_sound h hg hr
            refine ⟨u, q2, fun fr _ h2 => ?_⟩
            rw [h2]
            generalize tmps.getD t undef = va at q1
            cases va <;> try (simp [Instr.loadAt, Instr.sureAddr] at q1; done)
            rename_i ad
            cases ad
            · simp [Instr.loadAt, Instr.sureAddr] at q1
            · simpa [Instr.loadAt, Instr.sureAddr, asAddr] using q1
        obtain ⟨u, q2, q1⟩ := this
        exact ⟨u :: us, ⟨u, us, rfl, q2, k2⟩, fun fr h1 h2 => by simp [List.mapM_cons, q1 fr h1 h2, k1 fr h1 h2]⟩

theorem single_rep {vs : List V} {us : List Value} (h : Reps G vs us) : Rep G (single vs) (if h : us.toArray.size = 1 then us.toArray[0] else .tuple us.toArray) := by
  have hl := h.length
  match vs, us, h with
  | [], us, h => simp only [Reps] at h; subst h; exact ⟨#[], rfl, rfl⟩
  | [v], us, h =>
    obtain ⟨u, r, rfl, h1, h2⟩ := h
    simp only [Reps] at h2
    subst h2
    exact h1
  | v :: w :: vs, us, h =>
    have hne : ¬ us.toArray.size = 1 := by simp at hl ⊢; omega
    rw [dif_neg hne]
    exact ⟨us.toArray, rfl, h⟩

theorem normTop_sound (h : Sim G st W) {v : V} {u : Value} (hr : Rep G v u) : ∃ G', Good G W G' (normTop v st).2 W ∧ Rep G' (normTop v st).1 u := by
  cases v <;> try exact ⟨G, .refl h, Rep.frz _ _ hr⟩
  case slice o xs =>
    cases o with
    | froz => exact ⟨G, .refl h, Rep.frz _ _ hr⟩
    | full => exact adopt_full h hr
    | own b =>
      simp only [normTop]
      split
      · exact ⟨G, .refl h, hr⟩
      · exact ⟨G, .refl h, Rep.frz _ _ hr⟩

theorem normL_sound {vs : List V} {us : List Value} {G : Ghost} {st : St} (h : Sim G st W) (hr : Reps G vs us) : ∃ G', Good G W G' (normL vs st).2 W ∧ Reps G' (normL vs st).1 us := by
  match vs, hr with
  | [v], hr =>
    obtain ⟨u, r, rfl, h1, h2⟩ := hr
    obtain ⟨G1, g1, r1⟩ := normTop_sound h h1
    exact ⟨G1, g1, u, r, rfl, r1, h2⟩
  | [], hr => exact ⟨G, .refl h, hr⟩
  | v :: w :: vs, hr => exact ⟨G, .refl h, Reps.frz _ _ hr⟩
theorem tip_frz {st : St} {b n : Nat} (h : st[b]? = some [.tip n]) : (st.map frzL)[b]? = some [.tip n] := by
  rw [List.getElem?_map, h]; rfl
theorem Sim.ice (h : Sim G st W) : Sim G (st.map frzL) W :=
  ⟨⟨h.imm, fun b hb => h.dom b (by simpa using hb), fun b B hb => by
      obtain ⟨⟨cs, c, T, h1, h2, h3⟩, h4⟩ := h.box b B hb
      exact ⟨⟨frzL cs, c, T, by rw [List.getElem?_map, h1]; rfl, h2, Reps.frz _ _ h3⟩, h4⟩, h.inj, fun b d hd => by
      have t := h.tip b d hd
      exact ⟨tip_frz t.st, t.nobox, t.le, t.none, t.pos, t.room⟩, h.tinj, h.base, fun b hb => by simpa using h.res b hb⟩, h.fix⟩

theorem gc_sound {G0 : Ghost} {st0 : St} {W0 : World} (s0 : Sim G0 st0 W0) (g : Good G0 W0 G st W) {vs vs' : List V} {st' : St} {us : List Value} (hr : Reps G vs us) (hl : gc st0.length vs st = some (vs', st')) :
    ∃ G', Good G0 W0 G' st' W ∧ Reps G' vs' us := by
  unfold gc at hl
  simp only at hl
  generalize reach st reachFuel (refsL vs ++ refsL (st.take st0.length).flatten) (List.range st0.length) = seen at hl
  split at hl
  · rename_i hc
    simp only [Bool.and_eq_true, beq_iff_eq] at hc
    obtain ⟨⟨⟨k1, k2⟩, k3⟩, k4⟩ := hc
    have hR := closed_of k1 k2
    have hvs : ∀ b ∈ refsL vs, b ∈ seen := fun b hb => by have := List.all_eq_true.1 k3 b hb; simpa using this
    have hget : ∀ b, b < st0.length → seen[b]? = some b := fun b hb => by
      have : (seen.take st0.length)[b]? = some b := by rw [k4]; simp [hb]
      rwa [List.getElem?_take_of_lt hb] at this
    split at hl
    · rename_i hlen
      cases hl
      have hseen : seen = List.range st0.length := by rw [← k4, ← hlen, List.take_length]
      have hlt : ∀ b ∈ seen, b < st0.length := fun b hb => by rw [hseen] at hb; simpa using hb
      refine ⟨G.cut st0.length, ⟨g.sim.cut fun b hb r hr => hlt r (hR.sub b (by rw [hseen]; simpa using hb) r hr), g.ext.cut _, g.le.cut s0 (Nat.le_refl _), fun b hb => by have := (s0.res b hb).1; simp [Ghost.cut, this, g.res b hb]⟩, hr.cut fun b hb => hlt b (hvs b hb)⟩
    · cases hl
      refine ⟨G.sub seen, ⟨g.sim.sub hR, ⟨g.ext.imm, g.ext.size, g.ext.keep, g.ext.immK, fun B hB t => g.ext.tb B hB (sub_tb t), g.ext.env, g.ext.fix⟩, ⟨g.le.imm, fun b B e => ?_, fun b d e => ?_⟩, fun b hb => ?_⟩, Reps.tr _ _ (Tr.sub hvs) hr⟩
      · have := (s0.lt_box e).1
        simp [Ghost.sub, hget b this, g.le.box b B e]
      · have := s0.lt_hdr e
        obtain ⟨d', e', l⟩ := g.le.hdr b d e
        exact ⟨d', by simp [Ghost.sub, hget b this, e'], l⟩
      · have := (s0.res b hb).1
        simp [Ghost.sub, hget b this, g.res b hb]
  · cases hl

/- runs -/
def NoNum (P : Program) : Prop := ∀ (f : FuncId) (fn : Func), P.funcs[f]? = some fn → (fn.name == "runtime.NumGoroutine") = false

theorem callFunc_enter (hN : NoNum P) {f : FuncId} {fn : Func} {c : Code} (hf : P.funcs[f]? = some fn) (hb : fn.body = some c) (vs : Array Value) (W : World) :
    (callFunc f vs).run P W = .ok (.enter f vs) W := by
  have : ¬ fn.name = "runtime.NumGoroutine" := by simpa using hN f fn hf
  simp [callFunc, hf, hb, this]

def PrimSound (P : Program) (f : FuncId) (p : Prim) : Prop :=
  ∀ cl, Sound P cl → ∀ args st out st', primRun cl p args st = some (out, st') → ∀ G W vs, Sim G st W → Reps G args vs.toList → Does P f vs W (Post G W out st')

theorem reps_single {x : V} {xs : List V} {us : List Value} (h : Reps G xs us) (e : xs = [x]) : ∃ u, us = [u] ∧ Rep G x u := by
  subst e
  obtain ⟨u, r, rfl, h1, h2⟩ := h
  simp only [Reps] at h2
  subst h2
  exact ⟨u, rfl, h1⟩

theorem gc_length {n : Nat} {vs vs' : List V} {st st' : St} (h : gc n vs st = some (vs', st')) : vs'.length = vs.length := by
  unfold gc at h
  simp only at h
  split at h
  · split at h
    · cases h; rfl
    · cases h; exact renL_length _ _
  · cases h

theorem normL_length : ∀ (vs : List V) (st : St), (normL vs st).1.length = vs.length
  | [], _ => rfl
  | [v], _ => rfl
  | v :: w :: vs, st => frzL_length (v :: w :: vs)

theorem ice_sound {f : FuncId} {out out' : Out} {st0 st1 st2 : St} {G : Ghost} {W W' : World} (s0 : Sim G st0 W) (hi : iceO f st0.length (some (out, st1)) = some (out', st2)) {e : Ending} (h : Post G W out st1 e W') : Post G W out' st2 e W' := by
  obtain ⟨G1, u, g, h⟩ := h
  have g1 : Good G W G1 (st1.map frzL) W' := ⟨g.sim.ice, g.ext, g.le, g.res⟩
  cases hf : iceF f with
  | false =>
    cases out <;> simp only [iceO, hf, Bool.false_eq_true, if_false, Option.some.injEq, Prod.mk.injEq] at hi <;> obtain ⟨rfl, rfl⟩ := hi <;> exact ⟨G1, u, g, h⟩
  | true =>
    cases out with
    | ret v =>
      simp only [iceO, hf, if_true] at hi
      simp only at h
      cases hg : gc st0.length [frz v] (st1.map frzL) with
      | none => simp [hg] at hi
      | some p =>
        obtain ⟨vs', st3⟩ := p
        have hvl := gc_length hg
        match vs', hvl with
        | [v'], _ =>
          simp only [hg, Option.some.injEq, Prod.mk.injEq] at hi
          obtain ⟨rfl, rfl⟩ := hi
          obtain ⟨G3, g3, r3⟩ := gc_sound s0 g1 (vs := [frz v]) (us := [u]) ⟨u, [], rfl, Rep.frz _ _ h.2, rfl⟩ hg
          obtain ⟨u', e', r4⟩ := reps_single r3 rfl
          cases e'
          exact ⟨G3, u, g3, h.1, r4⟩
    | panic v =>
      simp only [iceO, hf, if_true] at hi
      simp only at h
      cases hg : gc st0.length [frz v] (st1.map frzL) with
      | none => simp [hg] at hi
      | some p =>
        obtain ⟨vs', st3⟩ := p
        have hvl := gc_length hg
        match vs', hvl with
        | [v'], _ =>
          simp only [hg, Option.some.injEq, Prod.mk.injEq] at hi
          obtain ⟨rfl, rfl⟩ := hi
          obtain ⟨G3, g3, r3⟩ := gc_sound s0 g1 (vs := [frz v]) (us := [u]) ⟨u, [], rfl, Rep.frz _ _ h.2, rfl⟩ hg
          obtain ⟨u', e', r4⟩ := reps_single r3 rfl
          cases e'
          exact ⟨G3, u, g3, h.1, r4⟩

theorem run_sound (hm : P.follows .mixedOrders = true) (hN : NoNum P) {pr : Prims} (hp : ∀ f p, pr f = some p → PrimSound P f p) : ∀ k, Sound P (run P pr k) := by
  intro k
  induction k with
  | zero => intro f args st out st' h; simp [run] at h
  | succ k ih =>
    intro f args st out st' hl G W vs h ha
    simp only [run] at hl
    cases hpr : pr f with
    | some p =>
      rw [hpr] at hl
      exact hp f p hpr _ ih args st out st' hl G W vs h ha
    | none =>
      rw [hpr] at hl
      simp only at hl
      cases hf : P.funcs[f]? with
      | none => simp [hf] at hl
      | some fn =>
        simp only [hf] at hl
        cases hb : fn.body with
        | none => simp [hb] at hl
        | some c =>
          simp only [hb] at hl
          cases hx : exec P (run P pr k) k c (args ++ List.replicate (fn.ntmps - args.length) .undef) st with
          | none => simp [hx] at hl
          | some r =>
            obtain ⟨ex, env1, st1⟩ := r
            simp only [hx] at hl
            obtain ⟨out0, st0, hl0⟩ : ∃ out0 st0, finish P st.length fn.results.toList (ex, env1, st1) = some (out0, st0) := by
              cases hfin : finish P st.length fn.results.toList (ex, env1, st1) with
              | none => rw [hfin] at hl; cases hl
              | some q => exact ⟨q.1, q.2, rfl⟩
            rw [hl0] at hl
            refine Does.mono ?_ fun e W' hp => ice_sound h hl hp
            clear hl
            have hl := hl0
            clear hl0
            unfold Does
            rw [callFunc_enter hN hf hb]
            simp only
            refine calls_of_wp hf hb ?_
            have hlen : args.length = vs.size := by have := ha.length; simpa using this
            have henv : Reps G (args ++ List.replicate (fn.ntmps - args.length) .undef) (vs ++ Array.replicate (fn.ntmps - vs.size) undef).toList := by
              rw [Array.toList_append, Array.toList_replicate, ← hlen]
              exact ha.append (reps_undef _ _ (by simp))
            refine wp_mono (exec_sound hm ih c (a := { tmps := vs ++ Array.replicate (fn.ntmps - vs.size) undef, defers := [] }) h henv rfl hx) fun e a' W' hpost => ?_
            obtain ⟨G1, g1, hd1, hm⟩ := hpost
            have done : ∀ {out : Out} {st' : St}, Reps G1 env1 a'.tmps.toList → (match resL P env1 st1 fn.results.toList with
                | some vs => let r := normL vs st1
                  match gc st.length r.1 r.2 with
                  | some (vs', st') => some (Out.ret (single vs'), st')
                  | none => none
                | none => none) = some (out, st') → a'.defers = [] ∧ ∃ v, (results fn a'.tmps).run P W' = .ok v W' ∧ Post G W out st' (.returned v) W' := by
              intro out st' he1 hl
              cases hr : resL P env1 st1 fn.results.toList with
              | none => simp [hr] at hl
              | some ws =>
                simp only [hr] at hl
                obtain ⟨us, q2, q1⟩ := resL_sound g1.sim he1 hr
                obtain ⟨G2, g2, r2⟩ := normL_sound g1.sim q2
                cases hg : gc st.length (normL ws st1).1 (normL ws st1).2 with
                | none => simp [hg] at hl
                | some p =>
                  obtain ⟨vs', st2⟩ := p
                  simp only [hg, Option.some.injEq, Prod.mk.injEq] at hl
                  obtain ⟨rfl, rfl⟩ := hl
                  obtain ⟨G3, g3, r3⟩ := gc_sound h (g1.trans g2) r2 hg
                  refine ⟨hd1, _, ?_, G3, _, g3, rfl, single_rep r3⟩
                  unfold results
                  rw [Sem.run_bind, Array.mapM_eq_mapM_toList, Sem.run_map, q1]
                  · rfl
                  · exact fun _ => rfl
                  · exact fun _ _ => rfl
            cases ex with
            | normal => obtain ⟨rfl, he1⟩ := hm; exact done he1 hl
            | ret => obtain ⟨rfl, he1⟩ := hm; exact done he1 hl
            | exit i => simp [finish] at hl
            | panic v =>
              obtain ⟨u, rfl, hr⟩ := hm
              simp only [finish] at hl
              cases hg : gc st.length [frz v] st1 with
              | none => simp [hg] at hl
              | some p =>
                obtain ⟨vs', st2⟩ := p
                have hvl := gc_length hg
                match vs', hvl with
                | [v'], _ =>
                  simp only [hg, Option.some.injEq, Prod.mk.injEq] at hl
                  obtain ⟨rfl, rfl⟩ := hl
                  obtain ⟨G3, g3, r3⟩ := gc_sound h g1 (vs := [frz v]) (us := [u]) ⟨u, [], rfl, Rep.frz _ _ hr, rfl⟩ hg
                  obtain ⟨u', e, r4⟩ := reps_single r3 rfl
                  cases e
                  exact ⟨hd1, G3, u, g3, rfl, r4⟩

end Go.Abs

