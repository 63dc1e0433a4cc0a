/- A slice's literal, what becomes owned, new variables, stores, append. -/
import Derived.Test.YtmjfninbnlhmoaaAbsOpsF
namespace Go.Abs
open Go

variable {P : Program} {G : Ghost} {st : St} {W : World}

theorem adopt_full (h : Sim G st W) {xs : List V} {u : Value} (hr : Rep G (.slice .full xs) u) :
    ∃ G', Good G W G' (st ++ [[.tip xs.length]]) W ∧ Rep G' (.slice (.own st.length) xs) u := by
  obtain ⟨a, cap, rfl, h2, h3, h4, ⟨s, h5⟩, h6⟩ := hr
  obtain ⟨hcap, ad, had, hnone⟩ := h3
  have hg := Good.pushFull h ⟨ad, cap, s, xs.length⟩ hcap hnone
  have hi : ∀ B o v, G.imm B o = some v → (G.addHdr st.length ⟨ad, cap, s, xs.length⟩).imm B o = some v := fun _ _ _ e => e
  refine ⟨_, hg, a, cap, rfl, h2, ⟨⟨ad, cap, s, xs.length⟩, by simp [Ghost.addHdr], Nat.le_refl _, fun _ => ⟨had, rfl⟩, h5⟩, h4, ⟨s, h5⟩, ?_⟩
  rcases h6 with h6 | ⟨B, off, rfl, h7⟩
  · exact .inl h6
  · exact .inr ⟨B, off, rfl, ReadsE.tr (ρ := id) xs B off ⟨hi, by simp [refsL_nil_iff.2 h4], by simp [refsL_nil_iff.2 h4]⟩ (refsL_nil_iff.2 h4) h7⟩

theorem adoptL_sound : ∀ {cs : List V} {us : List Value} {G : Ghost} {st : St}, Sim G st W → Reps G cs us →
    ∃ G', Good G W G' (st ++ (adoptL st.length cs).2) W ∧ Reps G' (adoptL st.length cs).1 us
  | [], us, G, st, h, hr => ⟨G, by simpa [adoptL] using Good.refl h, hr⟩
  | c :: cs, us, G, st, h, hr => by
    obtain ⟨u, r, rfl, h1, h2⟩ := hr
    by_cases hc : ∃ xs, c = .slice .full xs
    · obtain ⟨xs, rfl⟩ := hc
      obtain ⟨G1, g1, r1⟩ := adopt_full h h1
      obtain ⟨G2, g2, r2⟩ := adoptL_sound g1.sim (h2.le g1.le)
      refine ⟨G2, ?_, ?_⟩
      · have := g1.trans g2
        simpa [adoptL] using this
      · refine ⟨u, r, rfl, r1.le g2.le, ?_⟩
        simpa [adoptL] using r2
    · have e : adoptL st.length (c :: cs) = (c :: (adoptL st.length cs).1, (adoptL st.length cs).2) := by
        cases c <;> try rfl
        case slice o xs => cases o <;> first | rfl | exact absurd ⟨xs, rfl⟩ hc
      rw [e]
      obtain ⟨G2, g2, r2⟩ := adoptL_sound h h2
      exact ⟨G2, g2, u, r, rfl, h1.le g2.le, r2⟩

theorem adopt_sound (h : Sim G st W) {v : V} {u : Value} (hr : Rep G v u) : ∃ G', Good G W G' (adopt v st).2 W ∧ Rep G' (adopt v st).1 u := by
  cases v <;> try exact ⟨G, .refl h, hr⟩
  case slice o xs =>
    cases o <;> try exact ⟨G, .refl h, hr⟩
    exact adopt_full h hr
  case agg cs =>
    obtain ⟨us, rfl, h2⟩ := hr
    obtain ⟨G', g, r⟩ := adoptL_sound h h2
    exact ⟨G', g, us, rfl, r⟩

theorem adoptL_len : ∀ (cs : List V) (n : Nat), (adoptL n cs).1.length = cs.length
  | [], n => rfl
  | c :: cs, n => by
    by_cases hc : ∃ xs, c = .slice .full xs
    · obtain ⟨xs, rfl⟩ := hc
      simp [adoptL, adoptL_len cs]
    · have e : adoptL n (c :: cs) = (c :: (adoptL n cs).1, (adoptL n cs).2) := by
        cases c <;> try rfl
        case slice o xs => cases o <;> first | rfl | exact absurd ⟨xs, rfl⟩ hc
      rw [e]; simp [adoptL_len cs]

theorem adoptL_ok : ∀ (cs : List V) (n : Nat), (adoptL n cs).1.all cellOk = cs.all cellOk
  | [], n => rfl
  | c :: cs, n => by
    by_cases hc : ∃ xs, c = .slice .full xs
    · obtain ⟨xs, rfl⟩ := hc
      simp [adoptL, adoptL_ok cs, cellOk]
    · have e : adoptL n (c :: cs) = (c :: (adoptL n cs).1, (adoptL n cs).2) := by
        cases c <;> try rfl
        case slice o xs => cases o <;> first | rfl | exact absurd ⟨xs, rfl⟩ hc
      rw [e]; simp [adoptL_ok cs]

theorem adopt_cells (v : V) (st : St) : (vcells (adopt v st).1).length = (vcells v).length ∧ (vcells (adopt v st).1).all cellOk = (vcells v).all cellOk := by
  cases v <;> try exact ⟨rfl, rfl⟩
  case slice o xs => cases o <;> exact ⟨rfl, rfl⟩
  case agg cs => exact ⟨adoptL_len cs _, adoptL_ok cs _⟩

theorem ofValue_agg {z : Value} {cs : List V} (h : ofValue z = .agg cs) : ∃ zc, z = .agg zc := by
  cases z with
  | agg zc => exact ⟨zc, rfl⟩
  | iface t v => simp [ofValue] at h
  | _ => simp only [ofValue, ofScalar] at h; first | (cases h; done) | (split at h <;> cases h)

/- new variables -/
theorem alloc_sound (h : Sim G st W) {t : TypeId} {T : TI} (hT : ti P t = some T) :
    ∃ u W' G', (Instr.alloc t true (.tuple #[])).run P W = .ok u W' ∧ Good G W G' ((adopt T.zero st).2 ++ [vcells (adopt T.zero st).1]) W' ∧ Rep G' (.box (adopt T.zero st).2.length 0) u := by
  obtain ⟨i, d, z, h1, h2, hz, -, h3, h4, -, h6, -⟩ := ti_spec hT
  obtain ⟨G1, g1, r1⟩ := adopt_sound h (ofValue_rep (G := G) z)
  rw [← h6] at g1 r1
  have hc : Reps G1 (vcells (adopt T.zero st).1) z.cells.toList := by
    cases hv : T.zero
    case agg cs =>
      obtain ⟨zc, rfl⟩ := ofValue_agg (h6 ▸ hv)
      rw [hv] at r1
      obtain ⟨us, e, r⟩ := r1
      cases e
      simpa [vcells, Value.cells, adopt] using r
    all_goals
      have hnz : ∀ zc, z ≠ .agg zc := by
        rintro zc rfl
        rw [h6] at hv
        simp [ofValue] at hv
      have hcz : z.cells = #[z] := by cases z <;> first | rfl | exact absurd rfl (hnz _)
      rw [hcz]
      rw [hv] at r1
      first
        | exact ⟨z, [], rfl, r1, rfl⟩
        | (rename_i o xs; cases o <;> exact ⟨z, [], rfl, r1, rfl⟩)
  have g2 := Good.pushBox g1.sim z.cells t hc
  refine ⟨.pointer (some (adr W.heap.size 0)), W.alloc (.cells z.cells t), _, ?_, g1.trans g2.1, ⟨W.heap.size, g2.2, rfl⟩⟩
  simp [Instr.alloc, zeroValue, typeInfo, h1, hz, newVar, newRow, adr]

theorem box_sound (h : Sim G st W) {t : TypeId} {x : V} {u : Value} (hr : Rep G x u) (hc : (vcells x).all cellOk = true) :
    ∃ w W' G', (Instr.box t u).run P W = .ok w W' ∧ Good G W G' (st ++ [vcells x]) W' ∧ Rep G' (.box st.length 0) w := by
  have g2 := Good.pushBox h u.cells t (hr.cells hc).1
  refine ⟨.pointer (some (adr W.heap.size 0)), W.alloc (.cells u.cells t), _, ?_, g2.1, ⟨W.heap.size, g2.2, rfl⟩⟩
  simp [Instr.box, newVar, newRow, adr]

theorem store_sound (h : Sim G st W) {t : TypeId} {a x : V} {va vx : Value} {st' : St} (ha : Rep G a va) (hx : Rep G x vx) (hl : storeV P t a x st = some st') :
    ∃ W' G', (Instr.storeAt t va vx).run P W = .ok () W' ∧ Good G W G' st' W' := by
  unfold storeV at hl
  cases a <;> simp only [reduceCtorEq] at hl
  case box b off =>
    obtain ⟨B, hB, rfl⟩ := ha
    cases hT : ti P t with
    | none => simp [hT] at hl
    | some T =>
      obtain ⟨⟨cs, c, T', e1, e2, e3⟩, _⟩ := h.box b B hB
      simp only [hT, e1] at hl
      split at hl
      · rename_i hcond
        obtain ⟨hsz, hok⟩ := hcond
        obtain ⟨i, d, z, h1, h2, hz, -, h3, h4, -⟩ := ti_spec hT
        cases ho : overlay cs off (vcells (adopt x st).1) with
        | none => simp [ho] at hl
        | some cs' =>
          simp only [ho, Option.some.injEq] at hl
          subst hl
          obtain ⟨G1, g1, r1⟩ := adopt_sound h hx
          obtain ⟨a1, a2⟩ := adopt_cells x st
          have hok1 : (vcells (adopt x st).1).all cellOk = true := by rw [a2]; exact hok
          obtain ⟨k1, k2⟩ := r1.cells hok1
          obtain ⟨o1, o2⟩ := overlay_reps ho (e3.le g1.le) k1
          have hone : ∀ v ∈ vx.cells.toList, v.oneCell' = true := Reps.one k1 hok1
          have hst := run_storeCells_at P B off T' vx.cells.toList 0 c W e2 (by simpa using o1) hone
          have g2 := Good.setBox g1.sim (g1.le.box b B hB) (c' := (c.toList.take off ++ vx.cells.toList ++ c.toList.drop (off + vx.cells.toList.length)).toArray) (cs' := cs') (by simpa using o2)
          refine ⟨_, _, ?_, g1.trans g2⟩
          have hlen : vx.cells.size = i.size := by have := k1.length; rw [a1, hsz, h4] at this; simpa using this.symm
          simp only [Nat.add_zero] at hst
          simp [Instr.storeAt, Instr.sureAddr, storeVar, sizeOf, typeInfo, h1, hlen, adr]
          simpa [hlen] using hst
      · cases hl

end Go.Abs
