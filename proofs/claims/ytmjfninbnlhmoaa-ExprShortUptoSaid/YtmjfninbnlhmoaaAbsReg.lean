/- Operations, regions, calls: the machine does what the abstract one says. -/
import Derived.Test.YtmjfninbnlhmoaaAbsCall
import Derived.WalkSmall
import Derived.Tactics
namespace Go.Abs
open Go

variable {P : Program} {G : Ghost} {st : St} {W : World}

/- what a call comes to -/
def Does (P : Program) (f : FuncId) (vs : Array Value) (W : World) (R : Ending → World → Prop) : Prop :=
  match (callFunc f vs).run P W with
  | .ok (.enter g as) W1 => Calls P g as W1 R
  | .ok (.value v) W1 => R (.returned v) W1
  | _ => False

theorem Does.mono {f : FuncId} {vs : Array Value} {R R' : Ending → World → Prop} (h : Does P f vs W R) (hr : ∀ e w, R e w → R' e w) : Does P f vs W R' := by
  unfold Does at *
  cases hq : (callFunc f vs).run P W with
  | ok n w =>
    rw [hq] at h
    cases n <;> first | exact h | exact hr _ _ h | exact Calls.mono h hr
  | halt x w => rw [hq] at h; exact h

def Post (G : Ghost) (W : World) (out : Out) (st' : St) (e : Ending) (W' : World) : Prop :=
  ∃ G' u, Good G W G' st' W' ∧ (match out with
    | .ret v => e = .returned u ∧ Rep G' v u
    | .panic v => e = .panicked [{ v := u, recovered := false }] ∧ Rep G' v u)

def ResPost (G : Ghost) (W : World) (r : Res) (e : Ending) (W' : World) : Prop :=
  ∃ G' u, match r with
    | .val v st' => Good G W G' st' W' ∧ e = .returned u ∧ Rep G' v u
    | .panic v st' => Good G W G' st' W' ∧ e = .panicked [{ v := u, recovered := false }] ∧ Rep G' v u

def Sound (P : Program) (cl : Oracle) : Prop :=
  ∀ f args st out st', cl f args st = some (out, st') → ∀ G W vs, Sim G st W → Reps G args vs.toList → Does P f vs W (Post G W out st')

theorem closed_nil (st : St) : Closed st [] := ⟨List.nodup_nil, by simp, by simp⟩

theorem backR_nil (n : Nat) : backR [] n = (fun j => n + j) := by funext j; simp [backR]

theorem doCall_sound {cl : Oracle} (hcl : Sound P cl) {g : FuncId} {args : List V} {vs : Array Value} {r : Res} (h : Sim G st W) (ha : Reps G args vs.toList) (hl : doCall cl g args st = some r) :
    Does P g vs W (ResPost G W r) := by
  unfold doCall at hl
  have hf := Reps.frz _ _ ha
  generalize frzL args = as at hl hf
  simp only at hl
  cases hrefs : refsL as with
  | nil =>
    rw [hrefs] at hl
    simp only at hl
    have hs0 : Sim (G.sub []) (subSt st []) W := h.sub (closed_nil st)
    have hr0 : Reps (G.sub []) as vs.toList := by
      have := Reps.tr (G := G) (G' := G.sub []) (ρ := id) _ _ ⟨fun _ _ _ e => e, by rw [hrefs]; simp, by rw [hrefs]; simp⟩ hf
      rwa [renL_id id as (fun _ _ => rfl)] at this
    cases hc : cl g as [] with
    | none => simp [hc] at hl
    | some p =>
      obtain ⟨out, st1⟩ := p
      have hd := hcl g as [] out st1 hc (G.sub []) W vs hs0 hr0
      have fin : ∀ {G1 : Ghost} {W1 : World}, Good (G.sub []) W G1 st1 W1 → ∃ G', Good G W G' (st ++ st1.map (renL (backR [] st.length))) W1 ∧
          ∀ (x : V) (v : Value), Rep G1 x v → Rep G' (ren (backR [] st.length) x) v := fun {G1 W1} g1 => by
        obtain ⟨q1, q2⟩ := Good.call h (closed_nil st) g1 (by simp)
        exact ⟨_, by simpa [writeBack] using q1, q2⟩
      have pure : ∀ {G1 : Ghost} {W1 : World} {x : V} {v : Value}, st1 = [] → Good (G.sub []) W G1 st1 W1 → Rep G1 x v → ren (backR [] st.length) x = x := fun {G1 W1 x v} e g1 hr => by
        subst e
        refine ren_id _ x fun b hb => ?_
        have := g1.sim.refs_lt hr b hb
        simp at this
      cases out with
      | ret v =>
        cases st1 with
        | nil =>
          simp only [hc, Option.some.injEq] at hl
          subst hl
          refine hd.mono fun e W1 ⟨G1, u, g1, e1, e2⟩ => ?_
          obtain ⟨G', q1, q2⟩ := fin g1
          have := q2 v u e2
          rw [pure rfl g1 e2] at this
          exact ⟨G', u, by simpa using q1, e1, this⟩
        | cons c cs =>
          simp only [hc, Option.some.injEq] at hl
          subst hl
          refine hd.mono fun e W1 ⟨G1, u, g1, e1, e2⟩ => ?_
          obtain ⟨G', q1, q2⟩ := fin g1
          exact ⟨G', u, q1, e1, q2 v u e2⟩
      | panic v =>
        cases st1 with
        | nil =>
          simp only [hc, Option.some.injEq] at hl
          subst hl
          refine hd.mono fun e W1 ⟨G1, u, g1, e1, e2⟩ => ?_
          obtain ⟨G', q1, q2⟩ := fin g1
          have := q2 v u e2
          rw [pure rfl g1 e2] at this
          exact ⟨G', u, by simpa using q1, e1, this⟩
        | cons c cs => simp [hc] at hl
  | cons r0 rs =>
    rw [hrefs] at hl
    simp only at hl
    generalize reach st reachFuel (r0 :: rs) [] = R at hl
    split at hl
    · rename_i hcond
      simp only [Bool.and_eq_true] at hcond
      obtain ⟨⟨k1, k2⟩, k3⟩ := hcond
      have hR := closed_of k1 k2
      have hsub : ∀ b ∈ refsL as, b ∈ R := fun b hb => by
        rw [hrefs] at hb
        have := List.all_eq_true.1 k3 b hb
        simpa using this
      have hs := h.sub hR
      have hr1 := Reps.tr as vs.toList (Tr.sub hsub) hf
      cases hc : cl g (renL (R.idxOf ·) as) (R.map fun b => renL (R.idxOf ·) (st.getD b [])) with
      | none => rw [hc] at hl; cases hl
      | some p =>
        obtain ⟨out, st1⟩ := p
        have hd := hcl g _ _ out st1 hc (G.sub R) W vs hs hr1
        cases out with
        | ret v =>
          simp only [hc] at hl
          split at hl
          · rename_i hlen
            cases hl
            refine hd.mono fun e W1 ⟨G1, u, g1, e1, e2⟩ => ?_
            obtain ⟨q1, q2⟩ := Good.call h hR g1 hlen
            exact ⟨_, u, q1, e1, q2 v u e2⟩
          · cases hl
        | panic v =>
          simp only [hc] at hl
          split at hl
          · rename_i hlen
            cases hl
            refine hd.mono fun e W1 ⟨G1, u, g1, e1, e2⟩ => ?_
            obtain ⟨q1, q2⟩ := Good.call h hR g1 hlen
            exact ⟨_, u, q1, e1, q2 v u e2⟩
          · cases hl
    · cases hl

theorem opv_sound {env : Env} {a : Act} (h : Reps G env a.tmps.toList) (x : Operand) : Rep G (opv env x) (a.eval x) := by
  cases x with
  | tmp t =>
    have := h.getD t undef
    simpa [opv, Act.eval, Array.getD_eq_getD_getElem?, List.getD_eq_getElem?_getD] using this
  | const v => exact ofValue_rep v
  | global g => trivial
  | func f => exact ⟨#[], #[], rfl, rfl, rfl⟩

end Go.Abs
