/- Literals, what becomes owned, stores, append. -/
import Derived.Test.YtpmeklllgnnffaaGreatDoorR3
set_option linter.unusedSimpArgs false
set_option linter.unusedVariables false

namespace Go.Abs
set_option linter.unusedSimpArgs false
open Go
variable {P : Program} {G : Ghost} {st : St} {W : World}
theorem overlay_reps {cs vs : List V} {off : Nat} {cs' : List V} {us ws : List Value} (h : overlay cs off vs = some cs') (hc : Reps G cs us) (hv : Reps G vs ws) :
    off + ws.length ≤ us.length ∧ Reps G cs' (us.take off ++ ws ++ us.drop (off + ws.length)) := by
  unfold overlay at h
  split at h
  · rename_i hle
    cases h
    have e1 := hc.length
    have e2 := hv.length
    refine ⟨by omega, ?_⟩
    rw [← e2]
    exact ((hc.take off).append hv).append (hc.drop _)
  · cases h
theorem foldl_set (off : Nat) : ∀ (vs : List Value) (k : Nat) (c : Array Value), off + k + vs.length ≤ c.size →
    ((vs.zipIdx k).foldl (fun cs p => cs.setIfInBounds (off + p.2) p.1) c).toList = c.toList.take (off + k) ++ vs ++ c.toList.drop (off + k + vs.length)
  | [], k, c, _ => by simp
  | v :: vs, k, c, h => by
    simp only [List.zipIdx_cons, List.foldl_cons]
    rw [foldl_set off vs (k + 1) _ (by simp at h ⊢; omega)]
    have e := list_seg_step c.toList (off + k) v vs (by simp at h ⊢; omega)
    simpa [Array.toList_setIfInBounds, Nat.add_assoc] using e
theorem fill_sound {place : Nat → Option (Nat × Nat)} : ∀ {parts : List (Nat × V)} {parts' : List (Nat × Value)} {cs cs' : List V} {c : Array Value},
    fillV place cs parts = some cs' → parts.length = parts'.length → (∀ (i : Nat) p q, parts[i]? = some p → parts'[i]? = some q → p.1 = q.1 ∧ Rep G p.2 q.2) → Reps G cs c.toList →
    ∃ c', Instr.fill place c parts' = some c' ∧ Reps G cs' c'.toList
  | [], [], cs, cs', c, h, _, _, hc => by simp only [fillV, Option.some.injEq] at h; subst h; exact ⟨c, rfl, hc⟩
  | (i, v) :: rest, (j, w) :: rest', cs, cs', c, h, hl, hp, hc => by
    obtain ⟨hij, hr⟩ := hp 0 (i, v) (j, w) rfl rfl
    simp only at hij hr
    subst hij
    simp only [fillV] at h
    cases hpl : place i with
    | none => simp [hpl] at h
    | some os =>
      obtain ⟨off, size⟩ := os
      simp only [hpl] at h
      split at h
      · rename_i hsz'
        obtain ⟨hsz, hcell⟩ := hsz'
        cases ho : overlay cs off (vcells v) with
        | none => simp [ho] at h
        | some cs1 =>
          simp only [ho] at h
          have hcl := (hr.cells hcell).1
          obtain ⟨h1, h2⟩ := overlay_reps ho hc hcl
          have hws : w.cells.size = size := by have := hcl.length; simp at this; omega
          have hf : ((w.cells.zipIdx.foldl (fun cs p => cs.setIfInBounds (off + p.2) p.1) c)).toList = c.toList.take off ++ w.cells.toList ++ c.toList.drop (off + w.cells.toList.length) := by
            rw [← Array.foldl_toList, Array.toList_zipIdx]
            have := foldl_set off w.cells.toList 0 c (by simpa using h1)
            simpa using this
          obtain ⟨c', k1, k2⟩ := fill_sound (parts := rest) (parts' := rest') (cs := cs1) (cs' := cs') (c := w.cells.zipIdx.foldl (fun cs p => cs.setIfInBounds (off + p.2) p.1) c) h (by simpa using hl)
            (fun i p q e1 e2 => hp (i + 1) p q (by simpa using e1) (by simpa using e2)) (by rw [hf]; exact h2)
          refine ⟨c', ?_, k2⟩
          simp only [Instr.fill, hpl]
          rw [if_neg]
          · exact k1
          · have : off + w.cells.size ≤ c.size := by simpa using h1
            simp only [ne_eq, Bool.or_eq_true, decide_eq_true_eq, not_or, hws, not_true, not_false_eq_true, true_and]
            omega
      · cases h
  | [], _ :: _, _, _, _, _, hl, _, _ => by simp at hl
  | _ :: _, [], _, _, _, _, hl, _, _ => by simp at hl
theorem ofScalar_rep (v : Value) : Rep G (ofScalar v) v := by
  unfold ofScalar
  split
  · rfl
  · rfl
  · exact ⟨_, rfl, rfl⟩
  · rfl
  · exact ⟨none, 0, rfl, Nat.le_refl _, ⟨rfl, none, rfl, fun _ => rfl⟩, by simp, ⟨0, by simp⟩, .inl rfl⟩
  · rfl
  · rfl
  · trivial
theorem ofScalars_rep : ∀ vs : List Value, Reps G (vs.map ofScalar) vs
  | [] => rfl
  | v :: vs => ⟨v, vs, rfl, ofScalar_rep v, ofScalars_rep vs⟩
theorem ofValue_rep (v : Value) : Rep G (ofValue v) v := by
  unfold ofValue
  split
  · exact ⟨_, rfl, ofScalars_rep _⟩
  · exact ⟨_, rfl, ofScalar_rep _⟩
  · exact ofScalar_rep v
theorem vcells_scalar (v : Value) : vcells (ofScalar v) = [ofScalar v] := by
  unfold ofScalar
  split <;> rfl
theorem ofValue_cells (v : Value) : Reps G (vcells (ofValue v)) v.cells.toList := by
  have hr := ofValue_rep (G := G) v
  cases v with
  | agg cs => simpa [ofValue, vcells, Value.cells] using ofScalars_rep (G := G) cs.toList
  | iface t v => exact ⟨_, [], rfl, hr, rfl⟩
  | _ =>
    simp only [ofValue] at hr ⊢
    rw [vcells_scalar]
    exact ⟨_, [], rfl, hr, rfl⟩
theorem build_sound {t : TypeId} {parts : List (Nat × V)} {r : V} {parts' : Array (Nat × Value)} (hl : buildV P t parts = some r) (hlen : parts.length = parts'.toList.length)
    (hp : ∀ (i : Nat) p q, parts[i]? = some p → parts'.toList[i]? = some q → p.1 = q.1 ∧ Rep G p.2 q.2) :
    ∃ w, (Instr.build t parts').run P W = .ok w W ∧ Rep G r w := by
  unfold buildV at hl
  cases hT : ti P t with
  | none => simp [hT] at hl
  | some T =>
    obtain ⟨i, d, z, h1, h2, hz, -, h3, h4, -, h6, -⟩ := ti_spec hT
    obtain ⟨D, sz, by_, ze, eq⟩ := T
    simp only at h3 h6
    rw [hT] at hl
    cases ze <;> try (cases D <;> simp at hl; done)
    case agg zs =>
      have hzc := ofValue_cells (G := G) z
      rw [← h6] at hzc
      simp only [vcells] at hzc
      cases D <;> try (simp at hl; done)
      case array n e =>
        have := dOf_array h3; subst this
        simp only at hl
        cases hE : ti P e with
        | none => simp [hE] at hl
        | some E =>
          obtain ⟨i', d', z', h1', h2', -, -, -, h4', -⟩ := ti_spec hE
          simp only [hE, Option.map_eq_some_iff] at hl
          obtain ⟨cs', hf, rfl⟩ := hl
          obtain ⟨c', k1, k2⟩ := fill_sound hf hlen hp hzc
          refine ⟨.agg c', run_build W t parts' c' ?_, c', rfl, k2⟩
          simp only [Program.built, h1, h2, hz, h1']
          rw [← h4']; exact k1
      case struct fs =>
        obtain ⟨F, rfl, rfl⟩ := dOf_struct h3
        simp only at hl
        split at hl
        · rename_i hall
          simp only [Option.map_eq_some_iff] at hl
          obtain ⟨cs', hf, rfl⟩ := hl
          have hpl : ∀ (fs : List Field), (fs.map fun f => (f.offset, f.type)).all (fun f => (ti P f.2).isSome) = true →
              ∃ places, fs.mapM (fun f => (P.info? f.type).map fun i => (f.offset, i.size)) = some places ∧
                ∀ i : Nat, places[i]? = ((fs.map fun f => (f.offset, f.type))[i]?).bind fun (f : Nat × TypeId) => (ti P f.2).map fun T => (f.1, T.size) := by
            intro fs
            induction fs with
            | nil => intro _; exact ⟨[], rfl, by simp⟩
            | cons f fs ih =>
              intro ha
              simp only [List.map_cons, List.all_cons, Bool.and_eq_true] at ha
              obtain ⟨places, q1, q2⟩ := ih ha.2
              obtain ⟨U, hU⟩ := Option.isSome_iff_exists.1 ha.1
              obtain ⟨i', d', z', h1', -, -, -, -, h4', -⟩ := ti_spec hU
              refine ⟨(f.offset, i'.size) :: places, by simp [h1', q1], fun i => ?_⟩
              cases i with
              | zero => simp [hU, h4']
              | succ i => simpa using q2 i
          obtain ⟨places, q1, q2⟩ := hpl F.toList hall
          have hfe : (fun (i : Nat) => ((F.toList.map fun f => (f.offset, f.type))[i]?).bind fun (f : Nat × TypeId) => (ti P f.2).map fun T => (f.1, T.size)) = (fun (i : Nat) => places.toArray[i]?) := by
            funext i; rw [← q2 i]; simp
          rw [hfe] at hf
          obtain ⟨c', k1, k2⟩ := fill_sound hf hlen hp hzc
          refine ⟨.agg c', run_build W t parts' c' ?_, c', rfl, k2⟩
          simp only [Program.built, h1, h2, hz, q1]
          exact k1
        · cases hl
end Go.Abs
namespace Go.Abs
open Go
variable {P : Program} {G : Ghost} {st : St} {W : World}
theorem adopt_full (h : Sim G st W) {xs : List V} {u : Value} (hr : Rep G (.slice .full xs) u) :
    ∃ G', Good G W G' (st ++ [[.tip xs.length]]) W ∧ Rep G' (.slice (.own st.length) xs) u := by
  obtain ⟨a, cap, rfl, h2, h3, h4, ⟨s, h5⟩, h6⟩ := hr
  obtain ⟨hcap, ad, had, hnone⟩ := h3
  have hg := Good.pushFull h ⟨ad, cap, s, xs.length⟩ hcap hnone
  have hi : ∀ B o v, G.imm B o = some v → (G.addHdr st.length ⟨ad, cap, s, xs.length⟩).imm B o = some v := fun _ _ _ e => e
  refine ⟨_, hg, a, cap, rfl, h2, ⟨⟨ad, cap, s, xs.length⟩, by simp [Ghost.addHdr], Nat.le_refl _, fun _ => ⟨had, rfl⟩, h5⟩, h4, ⟨s, h5⟩, ?_⟩
  rcases h6 with h6 | ⟨B, off, rfl, h7⟩
  · exact .inl h6
  · exact .inr ⟨B, off, rfl, ReadsE.tr (ρ := id) xs B off ⟨hi, by simp [refsL_nil_iff.2 h4], by simp [refsL_nil_iff.2 h4]⟩ (refsL_nil_iff.2 h4) h7⟩
theorem adoptL_sound : ∀ {cs : List V} {us : List Value} {G : Ghost} {st : St}, Sim G st W → Reps G cs us →
    ∃ G', Good G W G' (st ++ (adoptL st.length cs).2) W ∧ Reps G' (adoptL st.length cs).1 us
  | [], us, G, st, h, hr => ⟨G, by simpa [adoptL] using Good.refl h, hr⟩
  | c :: cs, us, G, st, h, hr => by
    obtain ⟨u, r, rfl, h1, h2⟩ := hr
    by_cases hc : ∃ xs, c = .slice .full xs
    · obtain ⟨xs, rfl⟩ := hc
      obtain ⟨G1, g1, r1⟩ := adopt_full h h1
      obtain ⟨G2, g2, r2⟩ := adoptL_sound g1.sim (h2.le g1.le)
      refine ⟨G2, ?_, ?_⟩
      · have := g1.trans g2
        simpa [adoptL] using this
      · refine ⟨u, r, rfl, r1.le g2.le, ?_⟩
        simpa [adoptL] using r2
    · have e : adoptL st.length (c :: cs) = (c :: (adoptL st.length cs).1, (adoptL st.length cs).2) := by
        cases c <;> try rfl
        case slice o xs => cases o <;> first | rfl | exact absurd ⟨xs, rfl⟩ hc
      rw [e]
      obtain ⟨G2, g2, r2⟩ := adoptL_sound h h2
      exact ⟨G2, g2, u, r, rfl, h1.le g2.le, r2⟩
theorem adopt_sound (h : Sim G st W) {v : V} {u : Value} (hr : Rep G v u) : ∃ G', Good G W G' (adopt v st).2 W ∧ Rep G' (adopt v st).1 u := by
  cases v <;> try exact ⟨G, .refl h, hr⟩
  case slice o xs =>
    cases o <;> try exact ⟨G, .refl h, hr⟩
    exact adopt_full h hr
  case agg cs =>
    obtain ⟨us, rfl, h2⟩ := hr
    obtain ⟨G', g, r⟩ := adoptL_sound h h2
    exact ⟨G', g, us, rfl, r⟩
theorem adoptZ_sound (h : Sim G st W) {v : V} {u : Value} (hr : Rep G v u) : ∃ G', Good G W G' (adoptZ v st).2 W ∧ Rep G' (adoptZ v st).1 u := by
  cases v <;> try exact adopt_sound h hr
  case agg cs =>
    simp only [adoptZ]
    split
    · exact ⟨G, .refl h, hr⟩
    · exact adopt_sound h hr
theorem adoptL_len : ∀ (cs : List V) (n : Nat), (adoptL n cs).1.length = cs.length
  | [], n => rfl
  | c :: cs, n => by
    by_cases hc : ∃ xs, c = .slice .full xs
    · obtain ⟨xs, rfl⟩ := hc
      simp [adoptL, adoptL_len cs]
    · have e : adoptL n (c :: cs) = (c :: (adoptL n cs).1, (adoptL n cs).2) := by
        cases c <;> try rfl
        case slice o xs => cases o <;> first | rfl | exact absurd ⟨xs, rfl⟩ hc
      rw [e]; simp [adoptL_len cs]
theorem adoptL_ok : ∀ (cs : List V) (n : Nat), (adoptL n cs).1.all cellOk = cs.all cellOk
  | [], n => rfl
  | c :: cs, n => by
    by_cases hc : ∃ xs, c = .slice .full xs
    · obtain ⟨xs, rfl⟩ := hc
      simp [adoptL, adoptL_ok cs, cellOk]
    · have e : adoptL n (c :: cs) = (c :: (adoptL n cs).1, (adoptL n cs).2) := by
        cases c <;> try rfl
        case slice o xs => cases o <;> first | rfl | exact absurd ⟨xs, rfl⟩ hc
      rw [e]; simp [adoptL_ok cs]
theorem adopt_cells (v : V) (st : St) : (vcells (adopt v st).1).length = (vcells v).length ∧ (vcells (adopt v st).1).all cellOk = (vcells v).all cellOk := by
  cases v <;> try exact ⟨rfl, rfl⟩
  case slice o xs => cases o <;> exact ⟨rfl, rfl⟩
  case agg cs => exact ⟨adoptL_len cs _, adoptL_ok cs _⟩
theorem ofValue_agg {z : Value} {cs : List V} (h : ofValue z = .agg cs) : ∃ zc, z = .agg zc := by
  cases z with
  | agg zc => exact ⟨zc, rfl⟩
  | iface t v => simp [ofValue] at h
  | _ => simp only [ofValue, ofScalar] at h; first | (cases h; done) | (split at h <;> cases h)
theorem adoptZ_agg (cs : List V) (st : St) : ∃ cs', (adoptZ (.agg cs) st).1 = .agg cs' := by
  simp only [adoptZ]
  split
  · exact ⟨_, rfl⟩
  · exact ⟨_, rfl⟩
theorem alloc_sound (h : Sim G st W) {t : TypeId} {T : TI} (hT : ti P t = some T) :
    ∃ u W' G', (Instr.alloc t true (.tuple #[])).run P W = .ok u W' ∧ Good G W G' ((adoptZ T.zero st).2 ++ [vcells (adoptZ T.zero st).1]) W' ∧ Rep G' (.box (adoptZ T.zero st).2.length 0) u := by
  obtain ⟨i, d, z, h1, h2, hz, -, h3, h4, -, h6, -⟩ := ti_spec hT
  obtain ⟨G1, g1, r1⟩ := adoptZ_sound h (ofValue_rep (G := G) z)
  rw [← h6] at g1 r1
  have hc : Reps G1 (vcells (adoptZ T.zero st).1) z.cells.toList := by
    cases hv : T.zero
    case agg cs =>
      obtain ⟨zc, rfl⟩ := ofValue_agg (h6 ▸ hv)
      rw [hv] at r1
      obtain ⟨cs', hcs⟩ := adoptZ_agg cs st
      rw [hcs] at r1 ⊢
      obtain ⟨us, e, r⟩ := r1
      cases e
      simpa [vcells, Value.cells] using r
    all_goals
      have hnz : ∀ zc, z ≠ .agg zc := by
        rintro zc rfl
        rw [h6] at hv
        simp [ofValue] at hv
      have hcz : z.cells = #[z] := by cases z <;> first | rfl | exact absurd rfl (hnz _)
      rw [hcz]
      rw [hv] at r1
      first
        | exact ⟨z, [], rfl, r1, rfl⟩
        | (rename_i o xs; cases o <;> exact ⟨z, [], rfl, r1, rfl⟩)
  have g2 := Good.pushBox g1.sim z.cells t hc
  refine ⟨.pointer (some (adr W.heap.size 0)), W.alloc (.cells z.cells t), _, ?_, g1.trans g2.1, ⟨W.heap.size, g2.2, rfl⟩⟩
  simp [Instr.alloc, zeroValue, typeInfo, h1, hz, newVar, newRow, adr]
theorem box_sound (h : Sim G st W) {t : TypeId} {x : V} {u : Value} (hr : Rep G x u) (hc : (vcells x).all cellOk = true) :
    ∃ w W' G', (Instr.box t u).run P W = .ok w W' ∧ Good G W G' (st ++ [vcells x]) W' ∧ Rep G' (.box st.length 0) w := by
  have g2 := Good.pushBox h u.cells t (hr.cells hc).1
  refine ⟨.pointer (some (adr W.heap.size 0)), W.alloc (.cells u.cells t), _, ?_, g2.1, ⟨W.heap.size, g2.2, rfl⟩⟩
  simp [Instr.box, newVar, newRow, adr]
theorem makeSlice_sound (h : Sim G st W) {t : TypeId} {l c r : V} {ul uc : Value} {st' : St} (hl : Rep G l ul) (hc : Rep G c uc) (hm : makeSliceV P t l c st = some (r, st')) :
    ∃ u W' G', (Instr.makeSlice t ul uc).run P W = .ok u W' ∧ Good G W G' st' W' ∧ Rep G' r u := by
  unfold makeSliceV at hm
  cases hT : ti P t with
  | none => simp [hT] at hm
  | some T =>
    obtain ⟨i, d, z, h1, h2, -, -, h3, h4, -⟩ := ti_spec hT
    obtain ⟨D, sz, by_, ze, eq⟩ := T
    simp only at h3
    cases hln : natOf l with
    | none => cases D <;> simp [hT, hln] at hm
    | some ln =>
      cases hcn : natOf c with
      | none => cases D <;> simp [hT, hln, hcn] at hm
      | some cn =>
        rw [hT, hln, hcn] at hm
        cases D <;> try (simp at hm; done)
        case slice e =>
          have := dOf_slice h3; subst this
          simp only at hm
          cases hE : ti P e with
          | none => simp [hE] at hm
          | some E =>
            obtain ⟨i', d', z', h1', h2', hz', hzs, -, h4', h5', h6', -⟩ := ti_spec hE
            obtain ⟨D', sz', by', ze', eq'⟩ := E
            rw [hE] at hm
            simp only at h4' h5' h6'
            split at hm
            · rename_i bytes k zn eqo hEq
              simp only [Option.some.injEq, TI.mk.injEq] at hEq
              obtain ⟨-, rfl, rfl, rfl, -⟩ := hEq
              split at hm
              · rename_i hcond
                obtain ⟨c1, c2, c3⟩ := hcond
                simp only [Option.some.injEq, Prod.mk.injEq] at hm
                obtain ⟨rfl, rfl⟩ := hm
                obtain ⟨k1, rfl⟩ := natOf_sound hln hl
                obtain ⟨k2, rfl⟩ := natOf_sound hcn hc
                have hz0 : z' = .int k zn := by
                  cases z' <;> simp only [ofValue] at h6' <;> try (simp [ofScalar] at h6'; done)
                  case int k' n' => simp only [ofScalar, V.int.injEq] at h6'; rw [h6'.1, h6'.2]
                  all_goals (simp only [ofScalar] at h6'; split at h6' <;> first | (cases h6'; done) | contradiction)
                subst hz0
                have wl : IntKind.i64.wrap (ln : Int) = ln := by
                  simp only [IntKind.wrap, IntKind.bits, IntKind.signed]; simp; omega
                have wc : IntKind.i64.wrap (cn : Int) = cn := by
                  simp only [IntKind.wrap, IntKind.bits, IntKind.signed]; simp; omega
                have hbytes : i'.bytes ≤ 16 := by omega
                have hmul : i'.bytes * cn ≤ 16 * 1000000 := Nat.mul_le_mul hbytes c2
                have hmul' : cn * i'.bytes ≤ 16 * 1000000 := by rw [Nat.mul_comm]; exact hmul
                have hcell : ((Array.range cn).map fun j => (#[Value.int k zn] : Array Value)[j % 1]!) = Array.replicate cn (.int k zn) := by
                  apply Array.ext'
                  simp
                  apply List.ext_getElem?
                  intro j
                  simp [List.getElem?_replicate]
                  by_cases hj : j < cn
                  · simp [hj, Nat.mod_one]
                  · simp [hj]
                have hr : Reps G (List.replicate cn (.int k zn)) (Array.replicate cn (Value.int k zn)).toList := by
                  refine Reps.of_get (by simp) fun j x v hx hv => ?_
                  rw [Array.toList_replicate] at hv
                  rw [List.getElem?_replicate] at hx hv
                  split at hx
                  · rename_i hj
                    rw [if_pos hj] at hv
                    cases hx; cases hv; rfl
                  · cases hx
                have g2 := Good.pushBox h (Array.replicate cn (Value.int k zn)) e hr
                refine ⟨.slice (some (adr W.heap.size 0)) ln cn, W.alloc (.cells (Array.replicate cn (Value.int k zn)) e), _, ?_, g2.1, W.heap.size, cn, g2.2, c1, rfl⟩
                have hsz : (sizeOf e).run P W = .ok 1 W := by simp [sizeOf, typeInfo, h1', ← h4']
                have hzv : (zeroValue e).run P W = .ok (.int k zn) W := by simp [zeroValue, typeInfo, h1', hz']
                have hti : (typeInfo e).run P W = .ok i' W := by simp [typeInfo, h1']
                have b1 : ¬ ((i'.bytes : Int) * (cn : Int) > 2 ^ 48) := by
                  have : ((i'.bytes * cn : Nat) : Int) ≤ 16000000 := by omega
                  rw [Int.natCast_mul] at this
                  omega
                have hroom : ¬ cn * i'.bytes > roomBytes := by unfold roomBytes; omega
                simp only [Instr.makeSlice, Sem.run_bind, run_underlying h2, Result.andThen_ok, asInt, Sem.run_pure]
                have ai : ∀ (k : IntKind) (n : Int), (asIntOf (.int k n)).run P W = .ok (k, n) W := fun k n => rfl
                simp only [ai, Result.andThen_ok, hti, wl, wc]
                have b0 : (decide ((cn : Int) < 0) || decide ((i'.bytes : Int) * (cn : Int) > 2 ^ 48) || decide ((ln : Int) < 0) || decide ((ln : Int) > (cn : Int))) = false := by
                  simp only [Bool.or_eq_false_iff, decide_eq_false_iff_not]
                  exact ⟨⟨⟨by omega, b1⟩, by omega⟩, by omega⟩
                rw [b0]
                simp only [Bool.false_eq_true, if_false, Int.toNat_natCast, pure_bind, Sem.run_bind, askRoom, if_neg hroom, hsz, Sem.run_pure, Result.andThen_ok, Nat.mul_one]
                by_cases hc0 : cn = 0
                · subst hc0
                  have hr0 : Array.range 0 = #[] := rfl
                  simp [newRow, adr, hr0]
                · rw [if_neg hc0]
                  have hcs : (Value.int k zn).cells = #[.int k zn] := rfl
                  simp only [Sem.run_bind, hzv, Result.andThen_ok, Sem.run_pure, hcs]
                  have : (#[Value.int k zn] : Array Value).size = 1 := rfl
                  rw [this, hcell]
                  simp [newRow, adr]
              · cases hm
            · cases hm
theorem storeW_sound (h : Sim G st W) {t : TypeId} {a x : V} {va vx : Value} {st' : St} (ha : Rep G a va) (hx : Rep G x vx) (hl : storeW P t a x st = some st') :
    ∃ W' G', (Instr.storeAt t va vx).run P W = .ok () W' ∧ Good G W G' st' W' := by
  unfold storeW at hl
  cases a <;> simp only [reduceCtorEq] at hl
  case box b off =>
    obtain ⟨B, hB, rfl⟩ := ha
    cases hT : ti P t with
    | none => simp [hT] at hl
    | some T =>
      obtain ⟨⟨cs, c, T', e1, e2, e3⟩, _⟩ := h.box b B hB
      simp only [hT, e1] at hl
      split at hl
      · rename_i hcond
        obtain ⟨hsz, hok⟩ := hcond
        obtain ⟨i, d, z, h1, h2, hz, -, h3, h4, -⟩ := ti_spec hT
        cases ho : overlay cs off (vcells (adopt x st).1) with
        | none => simp [ho] at hl
        | some cs' =>
          simp only [ho, Option.some.injEq] at hl
          subst hl
          obtain ⟨G1, g1, r1⟩ := adopt_sound h hx
          obtain ⟨a1, a2⟩ := adopt_cells x st
          have hok1 : (vcells (adopt x st).1).all cellOk = true := by rw [a2]; exact hok
          obtain ⟨k1, k2⟩ := r1.cells hok1
          obtain ⟨o1, o2⟩ := overlay_reps ho (e3.le g1.le) k1
          have hone : ∀ v ∈ vx.cells.toList, v.oneCell' = true := Reps.one k1 hok1
          have hst := run_storeCells_at P B off T' vx.cells.toList 0 c W e2 (by simpa using o1) hone
          have g2 := Good.setBox g1.sim (g1.le.box b B hB) (c' := (c.toList.take off ++ vx.cells.toList ++ c.toList.drop (off + vx.cells.toList.length)).toArray) (cs' := cs') (by simpa using o2)
          refine ⟨_, _, ?_, g1.trans g2⟩
          have hlen : vx.cells.size = i.size := by have := k1.length; rw [a1, hsz, h4] at this; simpa using this.symm
          simp only [Nat.add_zero] at hst
          simp [Instr.storeAt, Instr.sureAddr, storeVar, sizeOf, typeInfo, h1, hlen, adr]
          simpa [hlen] using hst
      · cases hl
theorem iceT_rep {t : TypeId} {x : V} {v : Value} (h : Rep G x v) : Rep G (iceT t x) v := by
  unfold iceT
  split
  · exact Rep.frz x v h
  · exact h
theorem store_sound (h : Sim G st W) {t : TypeId} {a x : V} {va vx : Value} {st' : St} (ha : Rep G a va) (hx : Rep G x vx) (hl : storeV P t a x st = some st') :
    ∃ W' G', (Instr.storeAt t va vx).run P W = .ok () W' ∧ Good G W G' st' W' := storeW_sound h ha (iceT_rep hx) hl
end Go.Abs
namespace Go.Abs
open Go
variable {P : Program} {G : Ghost} {st : St} {W : World}
theorem frz_vcells (v : V) : vcells (frz v) = frzL (vcells v) := by cases v <;> rfl
theorem frz_cellOk (v : V) : cellOk (frz v) = cellOk v := by cases v <;> rfl
theorem frzL_ok : ∀ (vs : List V), (frzL vs).all cellOk = vs.all cellOk
  | [] => rfl
  | v :: vs => by simp [frzL, frz_cellOk, frzL_ok vs]
theorem frzL_append : ∀ (xs ys : List V), frzL (xs ++ ys) = frzL xs ++ frzL ys
  | [], _ => rfl
  | x :: xs, ys => by simp [frzL, frzL_append xs ys]
theorem frzL_length : ∀ (xs : List V), (frzL xs).length = xs.length
  | [] => rfl
  | x :: xs => by simp [frzL, frzL_length xs]
theorem frz_flat : ∀ (vs : List V), frzL (vs.flatMap vcells) = (vs.map frz).flatMap vcells
  | [] => rfl
  | v :: vs => by simp [List.flatMap_cons, frzL_append, frz_vcells, frz_flat vs]
theorem lit_spec : ∀ {parts : List (Nat × V)} {n : Nat} {xs : List V}, litElems n parts = some xs →
    xs = (parts.map (·.2)).map frz ∧ (∀ p ∈ parts, elemOk (frz p.2) = true) ∧ ∀ (i : Nat) p, parts[i]? = some p → p.1 = n + i
  | [], n, xs, h => by simp only [litElems, Option.some.injEq] at h; subst h; simp
  | (i, v) :: rest, n, xs, h => by
    simp only [litElems] at h
    split at h
    · rename_i hc
      simp only [Option.map_eq_some_iff] at h
      obtain ⟨ys, h1, rfl⟩ := h
      obtain ⟨e1, e2, e3⟩ := lit_spec h1
      refine ⟨by simp [e1], fun p hp => ?_, fun j p hp => ?_⟩
      · rcases List.mem_cons.1 hp with rfl | hp
        · exact hc.2
        · exact e2 p hp
      · cases j with
        | zero => simp at hp; subst hp; exact hc.1
        | succ j => have := e3 j p (by simpa using hp); omega
    · cases h
theorem elemOk_spec {v : V} (h : elemOk v = true) : refs v = [] ∧ (vcells v).all cellOk = true := by
  simp only [elemOk, Bool.and_eq_true, List.isEmpty_iff] at h
  exact h
theorem fill_lit (s : Nat) : ∀ (parts : List (Nat × V)) (n : Nat) (pre : List V), pre.length = n * s → (∀ p ∈ parts, (vcells p.2).length = s ∧ (vcells p.2).all cellOk = true) →
    (∀ (i : Nat) p, parts[i]? = some p → p.1 = n + i) →
    fillV (fun i => some (i * s, s)) (pre ++ List.replicate (parts.length * s) .undef) parts = some (pre ++ (parts.map (·.2)).flatMap vcells)
  | [], n, pre, _, _, _ => by simp [fillV]
  | (i, v) :: rest, n, pre, hp, hs, hi => by
    have hin : i = n := by have := hi 0 (i, v) rfl; simpa using this
    subst hin
    obtain ⟨h1, h2⟩ := hs (i, v) (by simp)
    simp only at h1 h2
    have ho : overlay (pre ++ List.replicate ((rest.length + 1) * s) .undef) (i * s) (vcells v) = some ((pre ++ vcells v) ++ List.replicate (rest.length * s) .undef) := by
      unfold overlay
      rw [if_pos (by simp [hp, h1, Nat.add_mul])]
      congr 1
      rw [← hp, List.take_left, h1, List.drop_append, List.drop_of_length_le (by omega), List.drop_replicate]
      simp [Nat.add_mul]
    simp only [fillV, List.length_cons, h1, h2, and_self, if_true, ho]
    rw [fill_lit s rest (i + 1) (pre ++ vcells v) (by simp [hp, h1, Nat.add_mul]) (fun p hp => hs p (by simp [hp])) (fun j p hj => by have := hi (j + 1) p (by simpa using hj); omega)]
    simp [List.flatMap_cons, List.append_assoc]
theorem reps_undef (n : Nat) (us : List Value) (h : us.length = n) : Reps G (List.replicate n .undef) us :=
  Reps.of_get (by simp [h]) fun i x v hx _ => by
    rw [List.getElem?_replicate] at hx
    split at hx
    · cases hx; trivial
    · cases hx
theorem buildSlice_sound (h : Sim G st W) {t : TypeId} {len : Nat} {parts : List (Nat × V)} {r : V} {parts' : Array (Nat × Value)} (hl : buildSliceV P t len parts = some r) (hlen : parts.length = parts'.toList.length)
    (hp : ∀ (i : Nat) p q, parts[i]? = some p → parts'.toList[i]? = some q → p.1 = q.1 ∧ Rep G p.2 q.2) :
    ∃ w W' G', (Instr.buildSlice t len parts').run P W = .ok w W' ∧ Good G W G' st W' ∧ Rep G' r w := by
  unfold buildSliceV at hl
  cases hT : ti P t with
  | none => simp [hT] at hl
  | some T =>
    obtain ⟨i, d, z, h1, h2, hz, -, h3, h4, -⟩ := ti_spec hT
    obtain ⟨D, sz, by_, ze, eq⟩ := T
    simp only at h3
    rw [hT] at hl
    cases D <;> try (simp at hl; done)
    case slice e =>
      have := dOf_slice h3; subst this
      simp only at hl
      cases hE : ti P e with
      | none => simp [hE] at hl
      | some E =>
        obtain ⟨i', d', z', h1', h2', hz', -, -, h4', -⟩ := ti_spec hE
        simp only [hE] at hl
        split at hl
        · rename_i hc
          obtain ⟨hc1, hc2, hc3⟩ := hc
          simp only [Option.map_eq_some_iff] at hl
          obtain ⟨xs, hxs, rfl⟩ := hl
          obtain ⟨e1, e2, e3⟩ := lit_spec hxs
          have hall : ∀ p ∈ parts, (vcells p.2).length = E.size := fun p hp => by
            have := List.all_eq_true.1 hc3 p hp
            simpa using this
          have hok : ∀ p ∈ parts, (vcells p.2).all cellOk = true := fun p hp => by
            have := (elemOk_spec (e2 p hp)).2
            rwa [frz_vcells, frzL_ok] at this
          have hfill := fill_lit E.size parts 0 [] (by simp) (fun p hp => ⟨hall p hp, hok p hp⟩) (fun i p hi => by simpa using e3 i p hi)
          simp only [List.nil_append] at hfill
          obtain ⟨c', k1, k2⟩ := fill_sound (parts' := parts'.toList) (c := (Array.range (len * i'.size)).map fun j => ((if len * i'.size = 0 then #[] else z'.cells) : Array Value)[j % (if len * i'.size = 0 then #[] else z'.cells : Array Value).size]!) hfill hlen hp
            (reps_undef _ _ (by simp [hc2, ← h4']))
          have k3 := Reps.frz _ _ k2
          rw [frz_flat, ← e1] at k3
          have hxok : ∀ x ∈ xs, elemOk x = true := by
            rw [e1]; intro x hx
            simp only [List.mem_map] at hx
            obtain ⟨y, ⟨p, hp, rfl⟩, rfl⟩ := hx
            exact e2 p hp
          have hxr : ∀ x ∈ xs, refs x = [] := fun x hx => (elemOk_spec (hxok x hx)).1
          have hxs : ∀ x ∈ xs, (vcells x).length = E.size := by
            rw [e1]; intro x hx
            simp only [List.mem_map] at hx
            obtain ⟨y, ⟨p, hp, rfl⟩, rfl⟩ := hx
            rw [frz_vcells, frzL_length]; exact hall p hp
          have hflat : refsL (xs.flatMap vcells) = [] := by
            rw [refsL_nil_iff]; intro y hy
            obtain ⟨x, hx, hy⟩ := List.mem_flatMap.1 hy
            have := refs_vcells x
            rw [hxr x hx] at this
            exact refsL_nil_iff.1 this y hy
          have hone : ∀ u ∈ c'.toList, u.oneCell' = true := by
            refine Reps.one k3 (List.all_eq_true.2 fun y hy => ?_)
            obtain ⟨x, hx, hy⟩ := List.mem_flatMap.1 hy
            exact List.all_eq_true.1 (elemOk_spec (hxok x hx)).2 y hy
          have hxl : xs.length = len := by rw [e1]; simp [hc2]
          have g := Good.pushImm h c' e
          refine ⟨.slice (some (adr W.heap.size 0)) len len, _, _, ?_, g, some (adr W.heap.size 0), len, by rw [hxl], by omega, ⟨hxl.symm, some (W.heap.size, 0), rfl, fun e => by cases e⟩, hxr, ⟨_, hxs⟩, .inr ⟨_, 0, rfl, ?_⟩⟩
          · have hlim : ¬ (16777216 < len * i'.size) := by rw [h4'] at hc1; omega
            rw [h4'] at k1
            generalize hz0 : (if len * i'.size = 0 then #[] else z'.cells : Array Value) = zero at k1
            have hsz : (sizeOf e).run P W = .ok i'.size W := by simp [sizeOf, typeInfo, h1']
            simp only [Instr.buildSlice, Sem.run_bind, run_underlying h2, Result.andThen_ok, hsz]
            rw [if_neg (by simpa using hlim)]
            by_cases h0 : len * i'.size = 0
            · rw [if_pos h0] at hz0 ⊢
              subst hz0
              simp only [pure_bind, k1]
              simp [newRow, adr]
            · rw [if_neg h0] at hz0 ⊢
              subst hz0
              have hzv : (zeroValue e).run P W = .ok z' W := by simp [zeroValue, typeInfo, h1', hz']
              simp only [Sem.run_bind, hzv, Result.andThen_ok, Sem.run_pure, k1]
              simp [newRow, adr]
          · rw [readsE_flat]
            exact Reads.of_reps g.le.imm k3 hone hflat fun j v hj => Ghost.fill_in G W.heap.size 0 c'.toList hj
        · cases hl
end Go.Abs
namespace Go.Abs
open Go
variable {P : Program} {G : Ghost} {st : St} {W : World}
theorem flat_len {s : Nat} : ∀ {ys : List V}, (∀ x ∈ ys, (vcells x).length = s) → (ys.flatMap vcells).length = ys.length * s
  | [], _ => by simp
  | y :: ys, hy => by
    rw [List.flatMap_cons, List.length_append, hy y (by simp), flat_len (fun x hx => hy x (by simp [hx])), List.length_cons, Nat.add_mul]; omega
theorem flat_refs {xs : List V} (h : ∀ x ∈ xs, refs x = []) : refsL (xs.flatMap vcells) = [] := by
  rw [refsL_nil_iff]; intro y hy
  obtain ⟨x, hx, hy⟩ := List.mem_flatMap.1 hy
  have := refs_vcells x
  rw [h x hx] at this
  exact refsL_nil_iff.1 this y hy
theorem src_of (h : Sim G st W) {E : TI} {i : TypeInfo} (hE : E.size = i.size) {tx : TypeId} (hk : (∃ e', P.underlying tx = some (.slice e')) ∨ P.underlying tx = some .string)
    {x : V} {ux : Value} (hx : Rep G x ux) {zs : List V} (hz : appElems E x = some zs) (hs : ∀ z ∈ zs, (vcells z).length = E.size) (ho : ∀ z ∈ zs, elemOk z = true) :
    ∃ news, Src P i.size tx ux zs.length news W ∧ Reps G (zs.flatMap vcells) news := by
  have hcell : ∀ {news : List Value}, Reps G (zs.flatMap vcells) news → (∀ u ∈ news, u.oneCell' = true) ∧ news.length = zs.length * i.size := fun {news} hr =>
    ⟨Reps.one hr (List.all_eq_true.2 fun y hy => by
      obtain ⟨x, hx, hy⟩ := List.mem_flatMap.1 hy
      exact List.all_eq_true.1 (elemOk_spec (ho x hx)).2 y hy), by rw [← hr.length, flat_len hs, hE]⟩
  cases x <;> simp only [appElems, reduceCtorEq, Option.some.injEq] at hz
  case slice o ys =>
    subst hz
    obtain ⟨a, cap, rfl, hle, _, _, _, hcase⟩ := hx
    rcases hcase with rfl | ⟨B, off, rfl, hr⟩
    · cases a with
      | none => exact ⟨[], ⟨hk, fun _ => rfl, run_firstCells_none W i.size 0 0 cap, run_firstCells_none W.drew i.size 0 0 cap, by simp, by simp⟩, rfl⟩
      | some ad => exact ⟨[], ⟨hk, fun _ => rfl, run_firstCells_some W i.size 0 ad 0 cap [] (by simp) (fun j v e => by simp at e),
          run_firstCells_some W.drew i.size 0 ad 0 cap [] (by simp) (fun j v e => by simp at e), by simp, by simp⟩, rfl⟩
    · rw [readsE_flat] at hr
      obtain ⟨vs, k1, _, k3⟩ := hr.exists
      obtain ⟨c1, c2⟩ := hcell k1
      have hc : ∀ (j : Nat) v, vs[j]? = some v → W.cell? ((adr B off).add j) = some v := fun j v e => by rw [adr_add]; exact h.cell (k3 j v e)
      exact ⟨vs, ⟨hk, fun _ => rfl, run_firstCells_some W i.size ys.length (adr B off) ys.length cap vs c2 hc,
        run_firstCells_some W.drew i.size ys.length (adr B off) ys.length cap vs c2 hc, c2, c1⟩, k1⟩
  case str bs =>
    split at hz
    · rename_i h1
      cases hz
      obtain ⟨z, rfl, rfl⟩ := hx
      have hi : i.size = 1 := by omega
      have hr : Reps G ((z.data.toList.map fun b => V.int .u8 b.toNat).flatMap vcells) (byteCells z) := by
        unfold byteCells
        generalize z.data.toList = l
        induction l with
        | nil => rfl
        | cons b l ih => exact ⟨.int .u8 b.toNat, _, rfl, rfl, ih⟩
      obtain ⟨c1, c2⟩ := hcell hr
      refine ⟨byteCells z, ?_, hr⟩
      have hl : (z.data.toList.map fun b => V.int .u8 b.toNat).length = z.size := by simp
      rw [hl, hi]
      exact ⟨hk, fun _ => rfl, firstCells_string z W, firstCells_string z W.drew, by rw [byteCells_length, Nat.mul_one], c1⟩
    · cases hz
theorem run_append_nothing {t tx ty e : TypeId} {i : TypeInfo} (ht : P.underlying t = some (.slice e)) (hi : P.info? e = some i) {base : Option Addr} {n cap : Nat} (hn : n ≤ cap) {x : Value} {news : List Value} (hs : Src P i.size tx x 0 news W) :
    (Builtin.append_ #[t, tx] ty #[.slice base n cap, x]).run P W = .ok (.slice base n cap) W := by
  have hnil : news = [] := List.eq_nil_of_length_eq_zero (by simpa using hs.newsLen)
  subst hnil
  have hc := hs.cells
  rcases hs.kind with ⟨e', hk⟩ | hk <;> cases base <;> simp [Builtin.append_, run_underlying ht, run_underlying hk, sizeOf, typeInfo, hi, hs.len, hn, hc, storeCells]
theorem run_append_row {t tx ty e : TypeId} {i : TypeInfo} (ht : P.underlying t = some (.slice e)) (hi : P.info? e = some i) {B n cap : Nat} {cur : Array Value} {T : TypeId} (hg : W.heap[B]? = some (.cells cur T (0, 0)))
    {x : Value} {m : Nat} {news : List Value} (hs : Src P i.size tx x m news W) (hroom : n + m ≤ cap) (hfit : n * i.size + news.length ≤ cur.size) :
    (Builtin.append_ #[t, tx] ty #[.slice (some (adr B 0)) n cap, x]).run P W =
      .ok (.slice (some (adr B 0)) (n + m) cap) (W.setRow B (cur.toList.take (n * i.size) ++ news ++ cur.toList.drop (n * i.size + news.length)).toArray) := by
  have hst := run_storeCells_at P B (n * i.size) T news 0 cur W hg (by simpa using hfit) hs.one
  simp only [Nat.add_zero] at hst
  have had : (adr B 0).add (n * i.size) = ⟨B, n * i.size, none⟩ := by rw [adr_add]; simp [adr]
  rcases hs.kind with ⟨e', hk⟩ | hk <;> simp [Builtin.append_, run_underlying ht, run_underlying hk, sizeOf, typeInfo, hi, hs.len, hroom, hs.cells, had, hst]
theorem zeroCells_size (z : Array Value) (n : Nat) : (Builtin.zeroCells z n).size = n * z.size := by simp [Builtin.zeroCells]
theorem append_sound (h : Sim G st W) {t tx ty : TypeId} (hk : (∃ e', P.underlying tx = some (.slice e')) ∨ P.underlying tx = some .string) {s x : V} {us ux : Value} (hs : Rep G s us) (hx : Rep G x ux)
    {res : Res} (hl : appendV P t s x st = some res) :
    ∃ u W' G' v st', res = .val v st' ∧ (Builtin.append_ #[t, tx] ty #[us, ux]).run P W = .ok u W' ∧ Good G W G' st' W' ∧ Rep G' v u := by
  unfold appendV at hl
  cases hT : ti P t with
  | none => simp [hT] at hl
  | some T =>
    obtain ⟨i0, d, z0, h1, h2, -, -, h3, -⟩ := ti_spec hT
    obtain ⟨D, sz, by_, ze, eq⟩ := T
    simp only at h3
    rw [hT] at hl
    cases D <;> try (cases s <;> simp at hl; done)
    case slice e =>
      have := dOf_slice h3; subst this
      cases s <;> try (simp at hl; done)
      case slice o xs =>
        simp only at hl
        cases hE : ti P e with
        | none => simp [hE] at hl
        | some E =>
          obtain ⟨i, d', z, hi, -, hz, hzs, -, hsz, hby, -⟩ := ti_spec hE
          simp only [hE] at hl
          cases hzz : appElems E x with
          | none => simp [hzz] at hl
          | some zs =>
            simp only [hzz] at hl
            split at hl
            · rename_i hc
              obtain ⟨hc1, hc2, hc3, hc4, hc5, hc6⟩ := hc
              have hzl : ∀ z ∈ zs, (vcells z).length = E.size := fun z hz => by have := List.all_eq_true.1 hc1 z hz; simp at this; exact this.2
              have hzo : ∀ z ∈ zs, elemOk z = true := fun z hz => by have := List.all_eq_true.1 hc1 z hz; simp at this; exact this.1
              have hxl := all_len hc2
              have hzr : ∀ z ∈ zs, refs z = [] := fun z hz => (elemOk_spec (hzo z hz)).1
              obtain ⟨news, hsrc, hnews⟩ := src_of (P := P) h hsz hk hx hzz hzl hzo
              have hnl : news.length = zs.length * i.size := hsrc.newsLen
              obtain ⟨a, cap, rfl, hcap, hown, hxr, _, hcase⟩ := hs
              have hall : ∀ y ∈ xs ++ zs, refs y = [] := fun y hy => (List.mem_append.1 hy).elim (hxr y) (hzr y)
              have halln : ∀ y ∈ xs ++ zs, (vcells y).length = E.size := fun y hy => (List.mem_append.1 hy).elim (hxl y) (hzl y)
              -- the old cells
              obtain ⟨olds, holds1, holds2, holds3⟩ : ∃ olds : List Value, Reps G (xs.flatMap vcells) olds ∧ (∀ u ∈ olds, u.oneCell' = true) ∧
                  (Builtin.firstCells i.size xs.length (.slice a xs.length cap)).run P W.drew = .ok olds.toArray W.drew := by
                rcases hcase with rfl | ⟨B, off, rfl, hr⟩
                · cases a with
                  | none => exact ⟨[], rfl, by simp, run_firstCells_none W.drew i.size 0 0 cap⟩
                  | some ad => exact ⟨[], rfl, by simp, run_firstCells_some W.drew i.size 0 ad 0 cap [] (by simp) (fun j v e => by simp at e)⟩
                · rw [readsE_flat] at hr
                  obtain ⟨vs, k1, k2, k3⟩ := hr.exists
                  have hc : ∀ (j : Nat) v, vs[j]? = some v → W.drew.cell? ((adr B off).add j) = some v := fun j v e => by rw [adr_add]; exact h.cell (k3 j v e)
                  exact ⟨vs, k1, k2, run_firstCells_some W.drew i.size xs.length (adr B off) xs.length cap vs (by rw [← k1.length, flat_len hxl, hsz]) hc⟩
              have holen : olds.length = xs.length * i.size := by rw [← holds1.length, flat_len hxl, hsz]
              -- growing
              have grow : ∀ b st', cap < xs.length + zs.length → G.res b = false → G.box b = none → (∀ d', G.hdr b = some d' → d'.tip = xs.length) → (∀ d', G.hdr b = some d' → 0 < xs.length → d'.size = i.size) → st.length ≤ st'.length →
                  (∀ b' y, b' ≠ b → st[b']? = some y → st'[b']? = some y) → st'[b]? = some [.tip (xs.length + zs.length)] →
                  ∃ u W' G', (Builtin.append_ #[t, tx] ty #[.slice a xs.length cap, ux]).run P W = .ok u W' ∧ Good G W G' st' W' ∧ Rep G' (.slice (.own b) (xs ++ zs)) u := by
                intro b st' hgt hres hnob hle hdsz hlen hget hb
                have hrun := run_append_grow_src (P := P) W t tx ty e i z h2 hi hz a xs.length cap olds holds3 ux zs.length news hsrc hgt (by omega)
                  (growslice_fits (by omega) (by rw [← hby]; omega))
                have hge := grownCap_ge W (xs.length + zs.length) cap e
                have hg := Good.newTip h (b := b) (d := ⟨some (W.heap.size, 0), grownCap W (xs.length + zs.length) cap e, i.size, xs.length + zs.length⟩) (st' := st') hres hnob
                  (fun d' hd' => ⟨by rw [hle d' hd']; exact Nat.le_add_right _ _, fun e' => by
                    have e1 := hle d' hd'
                    have e2 : d'.tip = xs.length + zs.length := e'
                    have e3 : zs.length = 0 := by omega
                    omega, fun hp => by
                    rw [hle d' hd'] at hp
                    exact hdsz d' hd' hp⟩) hlen hget hb
                  ((olds ++ news).toArray ++ Builtin.zeroCells z.cells (grownCap W (xs.length + zs.length) cap e - (xs.length + zs.length))) e (olds ++ news)
                  (fun j v hj => by
                    have hj' := (List.getElem?_eq_some_iff.1 hj).1
                    rw [Array.getElem?_append_left (by simpa using hj')]; simpa using hj) rfl hge (by show 0 < xs.length + zs.length; omega)
                  (by
                    simp only [Array.size_append, List.size_toArray, List.length_append, zeroCells_size, hzs, holen, hnl]
                    rw [← Nat.add_mul, ← Nat.add_mul]
                    exact Nat.mul_le_mul_right _ (by omega))
                  (by simp only [List.length_append, holen, hnl]; rw [Nat.add_mul]; omega)
                refine ⟨_, _, _, hrun, hg, some (adr W.heap.size 0), _, by rw [List.length_append]; rfl, by rw [List.length_append]; exact hge, ?_, hall, ⟨_, halln⟩, .inr ⟨W.heap.size, 0, rfl, ?_⟩⟩
                · exact ⟨⟨some (W.heap.size, 0), grownCap W (xs.length + zs.length) cap e, i.size, xs.length + zs.length⟩, by simp only [Ghost.addHdr, if_true], by simp, fun _ => ⟨rfl, rfl⟩, fun y hy => by rw [halln y hy]; exact hsz⟩
                · rw [readsE_flat, List.flatMap_append]
                  refine Reads.of_reps hg.ext.imm (holds1.append hnews) (fun u hu => (List.mem_append.1 hu).elim (holds2 u) (hsrc.one u)) (by rw [refsL_append, flat_refs hxr, flat_refs hzr]; rfl) fun j v hj => ?_
                  exact Ghost.fill_in G W.heap.size 0 (olds ++ news) hj
              cases o with
              | froz =>
                simp only at hl
                split at hl
                · rename_i hm
                  simp only [Option.some.injEq] at hl
                  subst hl
                  have hznil : zs = [] := by simpa using hm
                  subst hznil
                  exact ⟨_, W, G, _, _, rfl, run_append_nothing h2 hi hcap hsrc, .refl h, ⟨a, cap, rfl, hcap, trivial, hxr, ⟨_, hxl⟩, hcase⟩⟩
                · cases hl
              | full =>
                simp only [Option.some.injEq] at hl
                subst hl
                have hcapn : cap = xs.length := hown.1
                by_cases hm : zs.length = 0
                · have hznil : zs = [] := List.eq_nil_of_length_eq_zero hm
                  subst hznil
                  obtain ⟨G', g, r⟩ := adopt_full h (u := .slice a xs.length cap) ⟨a, cap, rfl, hcap, hown, hxr, ⟨_, hxl⟩, hcase⟩
                  exact ⟨_, W, G', _, _, rfl, run_append_nothing h2 hi hcap hsrc, by simpa using g, by simpa using r⟩
                · have hd := h.dom st.length (Nat.le_refl _)
                  obtain ⟨u, W', G', q1, q2, q3⟩ := grow st.length (st ++ [[.tip (xs.length + zs.length)]]) (by omega) (by cases hr : G.res st.length with | false => rfl | true => exact absurd (h.res _ hr).1 (Nat.lt_irrefl _)) hd.1 (fun d' hd' => by rw [hd.2] at hd'; cases hd') (fun d' hd' => by rw [hd.2] at hd'; cases hd') (by simp)
                    (fun b' y _ hy => by rw [List.getElem?_append_left (List.getElem?_eq_some_iff.1 hy).1]; exact hy) (by simp)
                  exact ⟨u, W', G', _, _, rfl, q1, q2, q3⟩
              | own b =>
                simp only at hl
                split at hl
                · rename_i htip
                  simp only [Option.some.injEq] at hl
                  subst hl
                  obtain ⟨hd, hd1, hd2, hd3, hd4⟩ := hown
                  have t := h.tip b hd hd1
                  have htl : hd.tip = xs.length := by
                    simp only [tipIs, t.st, beq_iff_eq] at htip
                    exact htip
                  obtain ⟨hda, hdc⟩ := hd3 htl.symm
                  have hbl := h.lt_hdr hd1
                  have hdsz : 0 < xs.length → hd.size = i.size := fun hp => by
                    obtain ⟨y, hy⟩ := List.exists_mem_of_length_pos hp
                    rw [← hd4 y hy, hxl y hy, hsz]
                  by_cases hroom : xs.length + zs.length ≤ cap
                  · by_cases hm : zs.length = 0
                    · have hznil : zs = [] := List.eq_nil_of_length_eq_zero hm
                      subst hznil
                      have hset : st.set b [.tip (xs.length + 0)] = st := by
                        apply List.ext_getElem? ; intro j
                        by_cases hj : j = b
                        · subst hj; rw [t.st, Nat.add_zero, ← htl]; simp [hbl]
                        · rw [List.getElem?_set_ne (Ne.symm hj)]
                      refine ⟨_, W, G, _, _, rfl, run_append_nothing h2 hi hcap hsrc, ?_, ?_⟩
                      · simp only [List.length_nil]; rw [hset]; exact .refl h
                      · rw [List.append_nil]; exact ⟨a, cap, rfl, hcap, ⟨hd, hd1, hd2, hd3, hd4⟩, hxr, ⟨_, hxl⟩, hcase⟩
                    · obtain ⟨B, c, T, r1, r2, r3, r4, r5⟩ := t.room (by omega)
                      have hab : a = some (adr B 0) := by rw [hda, r1]; rfl
                      have hds := hdsz (by have := t.pos (by omega); omega)
                      have hfit : xs.length * i.size + news.length ≤ c.size := by
                        rw [hnl, ← Nat.add_mul]
                        refine Nat.le_trans (Nat.mul_le_mul_right _ hroom) ?_
                        rw [hdc, ← hds]; exact r3
                      have hg := Good.tipRoom h hd1 (m := zs.length) (by omega) (by omega) r1 r2 r3 news (by rw [hnl, hds])
                      have hrun := run_append_row (P := P) (ty := ty) h2 hi r2 hsrc hroom hfit
                      rw [hds, htl] at hg
                      refine ⟨_, _, _, _, _, rfl, by rw [hab]; exact hrun, hg, some (adr B 0), cap, by rw [List.length_append], by rw [List.length_append]; exact hroom,
                        ⟨{ hd with size := i.size, tip := xs.length + zs.length }, by simp only [Ghost.addHdr, if_true], by simp, fun _ => ⟨by rw [r1]; rfl, hdc⟩, fun y hy => by rw [halln y hy]; exact hsz⟩, hall, ⟨_, halln⟩, .inr ⟨B, 0, rfl, ?_⟩⟩
                      rw [readsE_flat, List.flatMap_append, Reads.append]
                      rcases hcase with rfl | ⟨B', off', hab', hr⟩
                      · have := t.pos (by omega); simp at htl; omega
                      · rw [hab] at hab'
                        have hBB : B' = B ∧ off' = 0 := by simp [adr] at hab'; exact ⟨hab'.1.symm, hab'.2.symm⟩
                        obtain ⟨rfl, rfl⟩ := hBB
                        rw [readsE_flat] at hr
                        refine ⟨Reads.tr (ρ := id) _ _ _ ⟨hg.ext.imm, by simp [flat_refs hxr], by simp [flat_refs hxr]⟩ (flat_refs hxr) hr, ?_⟩
                        refine Reads.of_reps hg.ext.imm hnews hsrc.one (flat_refs hzr) fun j v hj => ?_
                        have := Ghost.fill_in G B' (xs.length * i.size) news hj
                        rw [flat_len hxl, hsz, Nat.zero_add]
                        exact this
                  · obtain ⟨u, W', G', q1, q2, q3⟩ := grow b (st.set b [.tip (xs.length + zs.length)]) (by omega) (by cases hr : G.res b with | false => rfl | true => (have := (h.res _ hr).2.2; rw [hd1] at this; cases this)) t.nobox (fun d' hd' => by rw [hd1] at hd'; cases hd'; exact htl) (fun d' hd' hp => by rw [hd1] at hd'; cases hd'; exact hdsz hp) (by simp)
                      (fun b' y hne hy => by rw [List.getElem?_set_ne (Ne.symm hne)]; exact hy) (by simp [hbl])
                    exact ⟨u, W', G', _, _, rfl, q1, q2, q3⟩
                · cases hl
            · cases hl
end Go.Abs
