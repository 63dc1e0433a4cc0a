/- A region that draws its order: the machine's rule. -/
import Derived.Test.YtmjfninbnlhmoaaAbsDrawB
namespace Go.Abs
open Go

variable {P : Program} {cl : Oracle} {G : Ghost} {st : St} {W : World}

theorem Good.pure (h : Sim G st W) {G1 : Ghost} {st1 : St} {W1 : World} (g : Good (G.sub []) W G1 st1 W1) :
    Good G W ⟨G1.imm, G.box, G.hdr⟩ st W1 := by
  have nt : ∀ B, ¬ TB (G.sub []) B := fun B t => by
    rcases t with ⟨j, hj⟩ | ⟨j, d, hd, _⟩
    · obtain ⟨b, e, _⟩ := sub_box hj; simp at e
    · obtain ⟨b, e, _⟩ := sub_hdr hd; simp at e
  have le : Le G ⟨G1.imm, G.box, G.hdr⟩ := ⟨g.ext.imm, fun _ _ e => e, fun _ d e => ⟨d, e, .refl d⟩⟩
  refine ⟨⟨g.sim.imm, h.dom, fun b B hb => ?_, h.inj, fun b d hd => ?_, h.tinj⟩,
    ⟨g.ext.imm, g.ext.size, fun B hB _ => g.ext.keep B hB (nt B), fun B hB _ o => g.ext.immK B hB (nt B) o, fun B _ t => t, g.ext.env⟩, le⟩
  · obtain ⟨⟨cs, c, T, h1, h2, h3⟩, h4⟩ := h.box b B hb
    have hB := (h.lt_box hb).2
    exact ⟨⟨cs, c, T, h1, by rw [g.ext.keep B hB (nt B)]; exact h2, h3.le le⟩, fun o => by
      show G1.imm B o = none
      rw [g.ext.immK B hB (nt B) o]; exact h4 o⟩
  · have t := h.tip b d hd
    refine ⟨t.st, t.nobox, t.le, t.none, t.pos, fun r => ?_⟩
    obtain ⟨B, c, T, k1, k2, k3, k4, k5⟩ := t.room r
    have hB : B < W.heap.size := (Array.getElem?_eq_some_iff.1 k2).1
    exact ⟨B, c, T, k1, by rw [g.ext.keep B hB (nt B)]; exact k2, k3, fun o ho => by
      show G1.imm B o = none
      rw [g.ext.immK B hB (nt B) o]; exact k4 o ho, k5⟩

theorem stepD_op {ev : Operand → V} {o : Oper} {st : St} {r : Res} {fp : Fp} (h : stepD P cl ev o st = some (r, fp)) (h1 : ∀ x, o.op ≠ .assign x) (h2 : ∀ c, o.op ≠ .call c) :
    opStep P cl ev o st = some r := by
  obtain ⟨dst, op, type, pos, after, guard⟩ := o
  cases op <;> simp only [stepD] at h
  case assign x => exact absurd rfl (h1 x)
  case call c => exact absurd rfl (h2 c)
  case load t a =>
    simp only [opStep]
    cases hl : loadV P t (ev a) st with
    | none => simp [hl] at h
    | some v => simp only [hl, Option.some.injEq, Prod.mk.injEq] at h; rw [← h.1]; rfl
  case store t a x =>
    simp only [opStep]
    cases hl : storeV P t (ev a) (ev x) st with
    | none => simp [hl] at h
    | some v => simp only [hl, Option.some.injEq, Prod.mk.injEq] at h; rw [← h.1]
  all_goals
    cases hr : opStep P cl ev ⟨dst, _, type, pos, after, guard⟩ st with
    | none => rw [hr] at h; cases h
    | some q => rw [hr] at h; simp only [Option.some.injEq, Prod.mk.injEq] at h; rw [← h.1]

theorem stepD_sound (hcl : Sound P cl) {o : Oper} {a : Act} {env : Env} {r : Res} {fp : Fp} (h : Sim G st W) (he : Reps G env a.tmps.toList)
    (hl : stepD P cl (opv env) o st = some (r, fp)) {next : Act → World → Prop} {Q : Exit → Act → World → Prop} (hn : Cont G W o.dst a next Q r) : o.wp P a W next Q := by
  by_cases h1 : ∃ x, o.op = .assign x
  · obtain ⟨dst, op, type, pos, after, guard⟩ := o
    obtain ⟨x, rfl⟩ := h1
    simp only [stepD, Option.some.injEq, Prod.mk.injEq] at hl
    obtain ⟨rfl, _⟩ := hl
    exact wp_val (W' := W) (by simp [execOp]) (hn G W _ (.refl h) (opv_sound he x))
  by_cases h2 : ∃ c, o.op = .call c
  · obtain ⟨dst, op, type, pos, after, guard⟩ := o
    obtain ⟨c, rfl⟩ := h2
    simp only [stepD] at hl
    cases hc : callD P cl (opv env) c st with
    | none => simp [hc] at hl
    | some q =>
      obtain ⟨r', w⟩ := q
      simp only [hc, Option.some.injEq, Prod.mk.injEq] at hl
      obtain ⟨rfl, _⟩ := hl
      unfold callD at hc
      have hargs := reps_map he c.args.toList
      cases hcal : c.callee with
      | invoke x m => simp [hcal] at hc
      | builtin b =>
        simp only [hcal] at hc
        cases hb : builtinV P b c.argTypes (c.args.toList.map (opv env)) st with
        | none => simp [hb] at hc
        | some q =>
          simp only [hb, Option.some.injEq, Prod.mk.injEq] at hc
          obtain ⟨rfl, _⟩ := hc
          exact call_sound hcl h he (by unfold callOp; simp only [hcal]; exact hb) hn
      | value f =>
        simp only [hcal] at hc
        have hf := opv_sound he f
        cases hfv : opv env f <;> simp only [hfv, reduceCtorEq] at hc
        case func g first cap =>
          rw [hfv] at hf
          obtain ⟨fs, cs, hfe, hfs, hcs⟩ := hf
          have hall : Reps G (first ++ c.args.toList.map (opv env) ++ cap) ((fs ++ c.args.map a.eval) ++ cs).toList := by
            have := (hfs.append hargs).append hcs
            simpa using this
          refine call_wp hcal hfe ?_ hn
          cases hrefs : refsL (frzL (first ++ c.args.toList.map (opv env) ++ cap)) with
          | cons r0 rs =>
            rw [hrefs] at hc
            simp only at hc
            cases hdc : doCall cl g (first ++ c.args.toList.map (opv env) ++ cap) st with
            | none => rw [hdc] at hc; cases hc
            | some q =>
              simp only [hdc, Option.some.injEq, Prod.mk.injEq] at hc
              obtain ⟨rfl, _⟩ := hc
              exact doCall_sound hcl h hall hdc
          | nil =>
            rw [hrefs] at hc
            simp only at hc
            have hs0 : Sim (G.sub []) (subSt st []) W := h.sub (closed_nil st)
            have hr0 : Reps (G.sub []) (frzL (first ++ c.args.toList.map (opv env) ++ cap)) ((fs ++ c.args.map a.eval) ++ cs).toList := by
              have := Reps.tr (G := G) (G' := G.sub []) (ρ := id) _ _ ⟨fun _ _ _ e => e, by rw [hrefs]; simp, by rw [hrefs]; simp⟩ (Reps.frz _ _ hall)
              rwa [renL_id id _ (fun _ _ => rfl)] at this
            cases hq : cl g (frzL (first ++ c.args.toList.map (opv env) ++ cap)) [] with
            | none => rw [hq] at hc; cases hc
            | some p =>
              obtain ⟨out, st1⟩ := p
              have hdoes := hcl g _ [] out st1 hq (G.sub []) W _ hs0 hr0
              cases out with
              | ret v =>
                simp only [hq] at hc
                split at hc
                · rename_i hemp
                  simp only [Option.some.injEq, Prod.mk.injEq] at hc
                  obtain ⟨rfl, _⟩ := hc
                  refine hdoes.mono fun e W1 ⟨G1, u, g1, e1, e2⟩ => ?_
                  exact ⟨⟨G1.imm, G.box, G.hdr⟩, u, Good.pure h g1, e1, Rep.pure (G := G1) (fun _ _ _ e => e) (by simpa using hemp) (Rep.frz _ _ e2)⟩
                · cases hc
              | panic v =>
                cases st1 with
                | cons c cs => rw [hq] at hc; cases hc
                | nil =>
                  simp only [hq, Option.some.injEq, Prod.mk.injEq] at hc
                  obtain ⟨rfl, _⟩ := hc
                  refine hdoes.mono fun e W1 ⟨G1, u, g1, e1, e2⟩ => ?_
                  have hn : refs v = [] := by
                    cases hv : refs v with
                    | nil => rfl
                    | cons b bs =>
                      have := g1.sim.refs_lt e2 b (by rw [hv]; simp)
                      simp at this
                  exact ⟨⟨G1.imm, G.box, G.hdr⟩, u, Good.pure h g1, e1, Rep.pure (G := G1) (fun _ _ _ e => e) hn e2⟩
  · exact opStep_sound hcl h he (stepD_op hl (fun x e => h1 ⟨x, e⟩) (fun c e => h2 ⟨c, e⟩)) hn

end Go.Abs
