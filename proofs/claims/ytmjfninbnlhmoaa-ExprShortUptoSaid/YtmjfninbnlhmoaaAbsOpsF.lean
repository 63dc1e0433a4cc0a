/- Literals, what becomes owned, stores, append. -/
import Derived.Test.YtmjfninbnlhmoaaAbsOpsE
namespace Go.Abs
open Go

variable {P : Program} {G : Ghost} {st : St} {W : World}

theorem overlay_reps {cs vs : List V} {off : Nat} {cs' : List V} {us ws : List Value} (h : overlay cs off vs = some cs') (hc : Reps G cs us) (hv : Reps G vs ws) :
    off + ws.length ≤ us.length ∧ Reps G cs' (us.take off ++ ws ++ us.drop (off + ws.length)) := by
  unfold overlay at h
  split at h
  · rename_i hle
    cases h
    have e1 := hc.length
    have e2 := hv.length
    refine ⟨by omega, ?_⟩
    rw [← e2]
    exact ((hc.take off).append hv).append (hc.drop _)
  · cases h

theorem foldl_set (off : Nat) : ∀ (vs : List Value) (k : Nat) (c : Array Value), off + k + vs.length ≤ c.size →
    ((vs.zipIdx k).foldl (fun cs p => cs.setIfInBounds (off + p.2) p.1) c).toList = c.toList.take (off + k) ++ vs ++ c.toList.drop (off + k + vs.length)
  | [], k, c, _ => by simp
  | v :: vs, k, c, h => by
    simp only [List.zipIdx_cons, List.foldl_cons]
    rw [foldl_set off vs (k + 1) _ (by simp at h ⊢; omega)]
    have e := list_seg_step c.toList (off + k) v vs (by simp at h ⊢; omega)
    simpa [Array.toList_setIfInBounds, Nat.add_assoc] using e

theorem fill_sound {place : Nat → Option (Nat × Nat)} : ∀ {parts : List (Nat × V)} {parts' : List (Nat × Value)} {cs cs' : List V} {c : Array Value},
    fillV place cs parts = some cs' → parts.length = parts'.length → (∀ (i : Nat) p q, parts[i]? = some p → parts'[i]? = some q → p.1 = q.1 ∧ Rep G p.2 q.2) → Reps G cs c.toList →
    ∃ c', Instr.fill place c parts' = some c' ∧ Reps G cs' c'.toList
  | [], [], cs, cs', c, h, _, _, hc => by simp only [fillV, Option.some.injEq] at h; subst h; exact ⟨c, rfl, hc⟩
  | (i, v) :: rest, (j, w) :: rest', cs, cs', c, h, hl, hp, hc => by
    obtain ⟨hij, hr⟩ := hp 0 (i, v) (j, w) rfl rfl
    simp only at hij hr
    subst hij
    simp only [fillV] at h
    cases hpl : place i with
    | none => simp [hpl] at h
    | some os =>
      obtain ⟨off, size⟩ := os
      simp only [hpl] at h
      split at h
      · rename_i hsz'
        obtain ⟨hsz, hcell⟩ := hsz'
        cases ho : overlay cs off (vcells v) with
        | none => simp [ho] at h
        | some cs1 =>
          simp only [ho] at h
          have hcl := (hr.cells hcell).1
          obtain ⟨h1, h2⟩ := overlay_reps ho hc hcl
          have hws : w.cells.size = size := by have := hcl.length; simp at this; omega
          have hf : ((w.cells.zipIdx.foldl (fun cs p => cs.setIfInBounds (off + p.2) p.1) c)).toList = c.toList.take off ++ w.cells.toList ++ c.toList.drop (off + w.cells.toList.length) := by
            rw [← Array.foldl_toList, Array.toList_zipIdx]
            have := foldl_set off w.cells.toList 0 c (by simpa using h1)
            simpa using this
          obtain ⟨c', k1, k2⟩ := fill_sound (parts := rest) (parts' := rest') (cs := cs1) (cs' := cs') (c := w.cells.zipIdx.foldl (fun cs p => cs.setIfInBounds (off + p.2) p.1) c) h (by simpa using hl)
            (fun i p q e1 e2 => hp (i + 1) p q (by simpa using e1) (by simpa using e2)) (by rw [hf]; exact h2)
          refine ⟨c', ?_, k2⟩
          simp only [Instr.fill, hpl]
          rw [if_neg]
          · exact k1
          · have : off + w.cells.size ≤ c.size := by simpa using h1
            simp only [ne_eq, Bool.or_eq_true, decide_eq_true_eq, not_or, hws, not_true, not_false_eq_true, true_and]
            omega
      · cases h
  | [], _ :: _, _, _, _, _, hl, _, _ => by simp at hl
  | _ :: _, [], _, _, _, _, hl, _, _ => by simp at hl

theorem ofScalar_rep (v : Value) : Rep G (ofScalar v) v := by
  unfold ofScalar
  split
  · rfl
  · rfl
  · exact ⟨_, rfl, rfl⟩
  · rfl
  · exact ⟨none, 0, rfl, Nat.le_refl _, ⟨rfl, none, rfl, fun _ => rfl⟩, by simp, ⟨0, by simp⟩, .inl rfl⟩
  · rfl
  · rfl
  · trivial

theorem ofScalars_rep : ∀ vs : List Value, Reps G (vs.map ofScalar) vs
  | [] => rfl
  | v :: vs => ⟨v, vs, rfl, ofScalar_rep v, ofScalars_rep vs⟩

theorem ofValue_rep (v : Value) : Rep G (ofValue v) v := by
  unfold ofValue
  split
  · exact ⟨_, rfl, ofScalars_rep _⟩
  · exact ⟨_, rfl, ofScalar_rep _⟩
  · exact ofScalar_rep v

theorem vcells_scalar (v : Value) : vcells (ofScalar v) = [ofScalar v] := by
  unfold ofScalar
  split <;> rfl

theorem ofValue_cells (v : Value) : Reps G (vcells (ofValue v)) v.cells.toList := by
  have hr := ofValue_rep (G := G) v
  cases v with
  | agg cs => simpa [ofValue, vcells, Value.cells] using ofScalars_rep (G := G) cs.toList
  | iface t v => exact ⟨_, [], rfl, hr, rfl⟩
  | _ =>
    simp only [ofValue] at hr ⊢
    rw [vcells_scalar]
    exact ⟨_, [], rfl, hr, rfl⟩

theorem build_sound {t : TypeId} {parts : List (Nat × V)} {r : V} {parts' : Array (Nat × Value)} (hl : buildV P t parts = some r) (hlen : parts.length = parts'.toList.length)
    (hp : ∀ (i : Nat) p q, parts[i]? = some p → parts'.toList[i]? = some q → p.1 = q.1 ∧ Rep G p.2 q.2) :
    ∃ w, (Instr.build t parts').run P W = .ok w W ∧ Rep G r w := by
  unfold buildV at hl
  cases hT : ti P t with
  | none => simp [hT] at hl
  | some T =>
    obtain ⟨i, d, z, h1, h2, hz, -, h3, h4, -, h6, -⟩ := ti_spec hT
    obtain ⟨D, sz, by_, ze, eq⟩ := T
    simp only at h3 h6
    rw [hT] at hl
    cases ze <;> try (cases D <;> simp at hl; done)
    case agg zs =>
      have hzc := ofValue_cells (G := G) z
      rw [← h6] at hzc
      simp only [vcells] at hzc
      cases D <;> try (simp at hl; done)
      case array n e =>
        have := dOf_array h3; subst this
        simp only at hl
        cases hE : ti P e with
        | none => simp [hE] at hl
        | some E =>
          obtain ⟨i', d', z', h1', h2', -, -, -, h4', -⟩ := ti_spec hE
          simp only [hE, Option.map_eq_some_iff] at hl
          obtain ⟨cs', hf, rfl⟩ := hl
          obtain ⟨c', k1, k2⟩ := fill_sound hf hlen hp hzc
          refine ⟨.agg c', run_build W t parts' c' ?_, c', rfl, k2⟩
          simp only [Program.built, h1, h2, hz, h1']
          rw [← h4']; exact k1
      case struct fs =>
        obtain ⟨F, rfl, rfl⟩ := dOf_struct h3
        simp only at hl
        split at hl
        · rename_i hall
          simp only [Option.map_eq_some_iff] at hl
          obtain ⟨cs', hf, rfl⟩ := hl
          have hpl : ∀ (fs : List Field), (fs.map fun f => (f.offset, f.type)).all (fun f => (ti P f.2).isSome) = true →
              ∃ places, fs.mapM (fun f => (P.info? f.type).map fun i => (f.offset, i.size)) = some places ∧
                ∀ i : Nat, places[i]? = ((fs.map fun f => (f.offset, f.type))[i]?).bind fun (f : Nat × TypeId) => (ti P f.2).map fun T => (f.1, T.size) := by
            intro fs
            induction fs with
            | nil => intro _; exact ⟨[], rfl, by simp⟩
            | cons f fs ih =>
              intro ha
              simp only [List.map_cons, List.all_cons, Bool.and_eq_true] at ha
              obtain ⟨places, q1, q2⟩ := ih ha.2
              obtain ⟨U, hU⟩ := Option.isSome_iff_exists.1 ha.1
              obtain ⟨i', d', z', h1', -, -, -, -, h4', -⟩ := ti_spec hU
              refine ⟨(f.offset, i'.size) :: places, by simp [h1', q1], fun i => ?_⟩
              cases i with
              | zero => simp [hU, h4']
              | succ i => simpa using q2 i
          obtain ⟨places, q1, q2⟩ := hpl F.toList hall
          have hfe : (fun (i : Nat) => ((F.toList.map fun f => (f.offset, f.type))[i]?).bind fun (f : Nat × TypeId) => (ti P f.2).map fun T => (f.1, T.size)) = (fun (i : Nat) => places.toArray[i]?) := by
            funext i; rw [← q2 i]; simp
          rw [hfe] at hf
          obtain ⟨c', k1, k2⟩ := fill_sound hf hlen hp hzc
          refine ⟨.agg c', run_build W t parts' c' ?_, c', rfl, k2⟩
          simp only [Program.built, h1, h2, hz, q1]
          exact k1
        · cases hl

end Go.Abs
