/- A slice's literal; append. -/
import Derived.Test.YtmjfninbnlhmoaaAbsOpsG
namespace Go.Abs
open Go

variable {P : Program} {G : Ghost} {st : St} {W : World}

theorem frz_vcells (v : V) : vcells (frz v) = frzL (vcells v) := by cases v <;> rfl
theorem frz_cellOk (v : V) : cellOk (frz v) = cellOk v := by cases v <;> rfl
theorem frzL_ok : ∀ (vs : List V), (frzL vs).all cellOk = vs.all cellOk
  | [] => rfl
  | v :: vs => by simp [frzL, frz_cellOk, frzL_ok vs]
theorem frzL_append : ∀ (xs ys : List V), frzL (xs ++ ys) = frzL xs ++ frzL ys
  | [], _ => rfl
  | x :: xs, ys => by simp [frzL, frzL_append xs ys]
theorem frzL_length : ∀ (xs : List V), (frzL xs).length = xs.length
  | [] => rfl
  | x :: xs => by simp [frzL, frzL_length xs]
theorem frz_flat : ∀ (vs : List V), frzL (vs.flatMap vcells) = (vs.map frz).flatMap vcells
  | [] => rfl
  | v :: vs => by simp [List.flatMap_cons, frzL_append, frz_vcells, frz_flat vs]

theorem lit_spec : ∀ {parts : List (Nat × V)} {n : Nat} {xs : List V}, litElems n parts = some xs →
    xs = (parts.map (·.2)).map frz ∧ (∀ p ∈ parts, elemOk (frz p.2) = true) ∧ ∀ (i : Nat) p, parts[i]? = some p → p.1 = n + i
  | [], n, xs, h => by simp only [litElems, Option.some.injEq] at h; subst h; simp
  | (i, v) :: rest, n, xs, h => by
    simp only [litElems] at h
    split at h
    · rename_i hc
      simp only [Option.map_eq_some_iff] at h
      obtain ⟨ys, h1, rfl⟩ := h
      obtain ⟨e1, e2, e3⟩ := lit_spec h1
      refine ⟨by simp [e1], fun p hp => ?_, fun j p hp => ?_⟩
      · rcases List.mem_cons.1 hp with rfl | hp
        · exact hc.2
        · exact e2 p hp
      · cases j with
        | zero => simp at hp; subst hp; exact hc.1
        | succ j => have := e3 j p (by simpa using hp); omega
    · cases h

theorem elemOk_spec {v : V} (h : elemOk v = true) : refs v = [] ∧ (vcells v).all cellOk = true := by
  simp only [elemOk, Bool.and_eq_true, List.isEmpty_iff] at h
  exact h

theorem fill_lit (s : Nat) : ∀ (parts : List (Nat × V)) (n : Nat) (pre : List V), pre.length = n * s → (∀ p ∈ parts, (vcells p.2).length = s ∧ (vcells p.2).all cellOk = true) →
    (∀ (i : Nat) p, parts[i]? = some p → p.1 = n + i) →
    fillV (fun i => some (i * s, s)) (pre ++ List.replicate (parts.length * s) .undef) parts = some (pre ++ (parts.map (·.2)).flatMap vcells)
  | [], n, pre, _, _, _ => by simp [fillV]
  | (i, v) :: rest, n, pre, hp, hs, hi => by
    have hin : i = n := by have := hi 0 (i, v) rfl; simpa using this
    subst hin
    obtain ⟨h1, h2⟩ := hs (i, v) (by simp)
    simp only at h1 h2
    have ho : overlay (pre ++ List.replicate ((rest.length + 1) * s) .undef) (i * s) (vcells v) = some ((pre ++ vcells v) ++ List.replicate (rest.length * s) .undef) := by
      unfold overlay
      rw [if_pos (by simp [hp, h1, Nat.add_mul])]
      congr 1
      rw [← hp, List.take_left, h1, List.drop_append, List.drop_of_length_le (by omega), List.drop_replicate]
      simp [Nat.add_mul]
    simp only [fillV, List.length_cons, h1, h2, and_self, if_true, ho]
    rw [fill_lit s rest (i + 1) (pre ++ vcells v) (by simp [hp, h1, Nat.add_mul]) (fun p hp => hs p (by simp [hp])) (fun j p hj => by have := hi (j + 1) p (by simpa using hj); omega)]
    simp [List.flatMap_cons, List.append_assoc]

theorem reps_undef (n : Nat) (us : List Value) (h : us.length = n) : Reps G (List.replicate n .undef) us :=
  Reps.of_get (by simp [h]) fun i x v hx _ => by
    rw [List.getElem?_replicate] at hx
    split at hx
    · cases hx; trivial
    · cases hx

theorem buildSlice_sound (h : Sim G st W) {t : TypeId} {len : Nat} {parts : List (Nat × V)} {r : V} {parts' : Array (Nat × Value)} (hl : buildSliceV P t len parts = some r) (hlen : parts.length = parts'.toList.length)
    (hp : ∀ (i : Nat) p q, parts[i]? = some p → parts'.toList[i]? = some q → p.1 = q.1 ∧ Rep G p.2 q.2) :
    ∃ w W' G', (Instr.buildSlice t len parts').run P W = .ok w W' ∧ Good G W G' st W' ∧ Rep G' r w := by
  unfold buildSliceV at hl
  cases hT : ti P t with
  | none => simp [hT] at hl
  | some T =>
    obtain ⟨i, d, z, h1, h2, hz, -, h3, h4, -⟩ := ti_spec hT
    obtain ⟨D, sz, by_, ze, eq⟩ := T
    simp only at h3
    rw [hT] at hl
    cases D <;> try (simp at hl; done)
    case slice e =>
      have := dOf_slice h3; subst this
      simp only at hl
      cases hE : ti P e with
      | none => simp [hE] at hl
      | some E =>
        obtain ⟨i', d', z', h1', h2', hz', -, -, h4', -⟩ := ti_spec hE
        simp only [hE] at hl
        split at hl
        · rename_i hc
          obtain ⟨hc1, hc2, hc3⟩ := hc
          simp only [Option.map_eq_some_iff] at hl
          obtain ⟨xs, hxs, rfl⟩ := hl
          obtain ⟨e1, e2, e3⟩ := lit_spec hxs
          have hall : ∀ p ∈ parts, (vcells p.2).length = E.size := fun p hp => by
            have := List.all_eq_true.1 hc3 p hp
            simpa using this
          have hok : ∀ p ∈ parts, (vcells p.2).all cellOk = true := fun p hp => by
            have := (elemOk_spec (e2 p hp)).2
            rwa [frz_vcells, frzL_ok] at this
          have hfill := fill_lit E.size parts 0 [] (by simp) (fun p hp => ⟨hall p hp, hok p hp⟩) (fun i p hi => by simpa using e3 i p hi)
          simp only [List.nil_append] at hfill
          obtain ⟨c', k1, k2⟩ := fill_sound (parts' := parts'.toList) (c := (Array.range (len * i'.size)).map fun j => ((if len * i'.size = 0 then #[] else z'.cells) : Array Value)[j % (if len * i'.size = 0 then #[] else z'.cells : Array Value).size]!) hfill hlen hp
            (reps_undef _ _ (by simp [hc2, ← h4']))
          have k3 := Reps.frz _ _ k2
          rw [frz_flat, ← e1] at k3
          have hxok : ∀ x ∈ xs, elemOk x = true := by
            rw [e1]; intro x hx
            simp only [List.mem_map] at hx
            obtain ⟨y, ⟨p, hp, rfl⟩, rfl⟩ := hx
            exact e2 p hp
          have hxr : ∀ x ∈ xs, refs x = [] := fun x hx => (elemOk_spec (hxok x hx)).1
          have hxs : ∀ x ∈ xs, (vcells x).length = E.size := by
            rw [e1]; intro x hx
            simp only [List.mem_map] at hx
            obtain ⟨y, ⟨p, hp, rfl⟩, rfl⟩ := hx
            rw [frz_vcells, frzL_length]; exact hall p hp
          have hflat : refsL (xs.flatMap vcells) = [] := by
            rw [refsL_nil_iff]; intro y hy
            obtain ⟨x, hx, hy⟩ := List.mem_flatMap.1 hy
            have := refs_vcells x
            rw [hxr x hx] at this
            exact refsL_nil_iff.1 this y hy
          have hone : ∀ u ∈ c'.toList, u.oneCell' = true := by
            refine Reps.one k3 (List.all_eq_true.2 fun y hy => ?_)
            obtain ⟨x, hx, hy⟩ := List.mem_flatMap.1 hy
            exact List.all_eq_true.1 (elemOk_spec (hxok x hx)).2 y hy
          have hxl : xs.length = len := by rw [e1]; simp [hc2]
          have g := Good.pushImm h c' e
          refine ⟨.slice (some (adr W.heap.size 0)) len len, _, _, ?_, g, some (adr W.heap.size 0), len, by rw [hxl], by omega, ⟨hxl.symm, some (W.heap.size, 0), rfl, fun e => by cases e⟩, hxr, ⟨_, hxs⟩, .inr ⟨_, 0, rfl, ?_⟩⟩
          · have hlim : ¬ (16777216 < len * i'.size) := by rw [h4'] at hc1; omega
            rw [h4'] at k1
            generalize hz0 : (if len * i'.size = 0 then #[] else z'.cells : Array Value) = zero at k1
            have hsz : (sizeOf e).run P W = .ok i'.size W := by simp [sizeOf, typeInfo, h1']
            simp only [Instr.buildSlice, Sem.run_bind, run_underlying h2, Result.andThen_ok, hsz]
            rw [if_neg (by simpa using hlim)]
            by_cases h0 : len * i'.size = 0
            · rw [if_pos h0] at hz0 ⊢
              subst hz0
              simp only [pure_bind, k1]
              simp [newRow, adr]
            · rw [if_neg h0] at hz0 ⊢
              subst hz0
              have hzv : (zeroValue e).run P W = .ok z' W := by simp [zeroValue, typeInfo, h1', hz']
              simp only [Sem.run_bind, hzv, Result.andThen_ok, Sem.run_pure, k1]
              simp [newRow, adr]
          · rw [readsE_flat]
            exact Reads.of_reps g.le.imm k3 hone hflat fun j v hj => Ghost.fill_in G W.heap.size 0 c'.toList hj
        · cases hl

end Go.Abs
