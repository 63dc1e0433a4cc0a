/- Slices, literals, append, what becomes owned: each does what the abstract one says. -/
import Derived.Test.YtmjfninbnlhmoaaAbsOpsD
namespace Go.Abs
open Go

variable {P : Program} {G : Ghost} {st : St} {W : World}

theorem readsE_cut {G : Ghost} {xs : List V} {B off s : Nat} (hs : ∀ x ∈ xs, (vcells x).length = s) (hr : ReadsE G xs B off) (h l : Nat) (hl : l ≤ h) (hh : h ≤ xs.length) :
    ReadsE G ((xs.take h).drop l) B (off + l * s) := by
  rw [readsE_flat] at hr ⊢
  have e : xs.flatMap vcells = (xs.take l).flatMap vcells ++ (((xs.take h).drop l).flatMap vcells ++ (xs.drop h).flatMap vcells) := by
    rw [← List.flatMap_append, ← List.flatMap_append]
    congr 1
    rw [show xs.take l = (xs.take h).take l by rw [List.take_take, Nat.min_eq_left hl], ← List.append_assoc, List.take_append_drop, List.take_append_drop]
  have hlen : ((xs.take l).flatMap vcells).length = l * s := by
    have : ∀ ys : List V, (∀ x ∈ ys, (vcells x).length = s) → (ys.flatMap vcells).length = ys.length * s := by
      intro ys
      induction ys with
      | nil => simp
      | cons y ys ih =>
        intro hy
        rw [List.flatMap_cons, List.length_append, hy y (by simp), ih (fun x hx => hy x (by simp [hx])), List.length_cons, Nat.add_mul]; omega
    rw [this _ (fun x hx => hs x (List.mem_of_mem_take hx)), List.length_take, Nat.min_eq_left (by omega)]
  rw [e, Reads.append, Reads.append, hlen] at hr
  exact hr.2.1

theorem all_len {xs : List V} {n : Nat} (h : xs.all (fun x => (vcells x).length == n) = true) : ∀ x ∈ xs, (vcells x).length = n := by
  intro x hx
  have := List.all_eq_true.1 h x hx
  simpa using this

theorem sub_rep {o : Own} {xs : List V} {a : Option Addr} {h l n s size : Nat} (hl : l ≤ h) (hh : h ≤ xs.length) (hs : ∀ x ∈ xs, (vcells x).length = size)
    (hn : ∀ x ∈ xs, refs x = []) (hcase : xs = [] ∨ ∃ B off, a = some (adr B off) ∧ ReadsE G xs B off) (hle : h - l ≤ n - l)
    (ho : OwnOk G (if n = l then a else a.map (·.add (l * size))) ((xs.take h).drop l) (n - l) o) (hsz : s = size) :
    Rep G (.slice o ((xs.take h).drop l)) (.slice (if n = l then a else a.map (·.add (l * size))) (h - l) (n - l)) := by
  subst hsz
  have hlen : ((xs.take h).drop l).length = h - l := by simp; omega
  refine ⟨_, n - l, by rw [hlen], by rw [hlen]; exact hle, ho, fun x hx => hn x (List.mem_of_mem_take (List.mem_of_mem_drop hx)), ⟨s, fun x hx => hs x (List.mem_of_mem_take (List.mem_of_mem_drop hx))⟩, ?_⟩
  rcases hcase with rfl | ⟨B, off, rfl, hr⟩
  · left; simp
  · right
    by_cases hnl : n = l
    · rw [if_pos hnl]
      have : (xs.take h).drop l = [] := List.eq_nil_of_length_eq_zero (by rw [hlen]; omega)
      exact ⟨B, off, rfl, by rw [this]; trivial⟩
    · rw [if_neg hnl]
      exact ⟨B, off + l * s, by simp [adr_add], readsE_cut hs hr h l hl hh⟩

theorem slice_sound {t : TypeId} {x r : V} {u : Value} {ev : Operand → V} {ρ : Operand → Value} (hev : ∀ o, Rep G (ev o) (ρ o)) {lo hi mx : Option Operand}
    (hx : Rep G x u) (hl : sliceV P t x (lo.map ev) (hi.map ev) (mx.map ev) = some r) :
    ∃ w, (Instr.sliceAt t u (lo.map ρ) (hi.map ρ) (mx.map ρ)).run P W = .ok w W ∧ Rep G r w := by
  unfold sliceV at hl
  cases hT : ti P t with
  | none => simp [hT] at hl
  | some T =>
    obtain ⟨i, d, z, h1, h2, -, -, h3, h4, -⟩ := ti_spec hT
    obtain ⟨D, sz, by_, ze, eq⟩ := T
    simp only at h3
    rw [hT] at hl
    -- bounds
    have bnd : ∀ {o : Option Operand} {n : Nat} {y : Nat} {c : BoundsCode} {dflt : Nat}, (match o.map ev with | some v => natOf v | none => some dflt) = some n → n ≤ y →
        (match o.map ρ with | some v => Instr.sliceBound v y c | none => pure dflt : Sem Nat).run P W = .ok n W := by
      intro o n y c dflt hn hny
      cases o with
      | none => simp only [Option.map_none, Option.some.injEq] at hn ⊢; subst hn; rfl
      | some o =>
        simp only [Option.map_some] at hn ⊢
        obtain ⟨k, hk⟩ := natOf_sound hn (hev o)
        rw [hk]; exact run_bound hny
    cases D <;> try (cases x <;> cases mx <;> simp at hl; done)
    case string =>
      have := dOf_string h3; subst this
      cases x <;> try (cases mx <;> simp at hl; done)
      case str s =>
        cases mx <;> simp only [Option.map_none, Option.map_some, reduceCtorEq] at hl
        obtain ⟨zs, rfl, rfl⟩ := hx
        split at hl
        · rename_i h l hh hll
          split at hl
          · rename_i hb
            cases hl
            have hsz : zs.data.toList.length = zs.size := by simp
            have b1 := bnd (y := zs.size) (c := .sliceAlen) hh (by omega)
            have b2 := bnd (y := h) (c := .sliceB) hll hb.1
            refine ⟨.string (zs.extract l h), ?_, _, rfl, ?_⟩
            · rw [hsz] at b1
              have hbounds : (Instr.sliceBounds false zs.size zs.size (lo.map ρ) (hi.map ρ) none).run P W = .ok (l, h, zs.size) W := by
                unfold Instr.sliceBounds
                cases hi <;> cases lo <;> simp_all
              simp [Instr.sliceAt, run_underlying h2, Instr.slice, hbounds]
            · rw [ByteArray.data_extract, Array.toList_extract, List.extract_eq_take_drop]
              rw [List.drop_take]
          · cases hl
        · cases hl
    case slice e =>
      have := dOf_slice h3; subst this
      cases x <;> try (cases mx <;> simp at hl; done)
      case slice o xs =>
        cases hE : ti P e with
        | none => cases mx <;> simp [hE] at hl
        | some E =>
          obtain ⟨i', d', z', h1', h2', -, -, -, h4', -⟩ := ti_spec hE
          obtain ⟨a, cap, rfl, hcap, hown, hn, _, hcase⟩ := hx
          cases mx with
          | none =>
            simp only [Option.map_none, hE] at hl
            split at hl
            · rename_i E' h l hE' hh hll
              cases hE'
              split at hl
              · rename_i hb
                cases hl
                obtain ⟨hb1, hb2, hb3⟩ := hb
                have b1 := bnd (y := cap) (c := .sliceAcap) hh (by omega)
                have b2 := bnd (y := h) (c := .sliceB) hll hb1
                have hbounds : (Instr.sliceBounds true xs.length cap (lo.map ρ) (hi.map ρ) none).run P W = .ok (l, h, cap) W := by
                  unfold Instr.sliceBounds
                  cases hi <;> cases lo <;> simp_all
                refine ⟨_, ?_, sub_rep (s := E.size) (n := cap) hb1 hb2 (all_len hb3) hn hcase (by omega) trivial rfl⟩
                simp [Instr.sliceAt, run_underlying h2, Instr.slice, hbounds, sizeOf, typeInfo, h1', h4']
              · cases hl
            · cases hl
          | some m =>
            simp only [Option.map_some, hE] at hl
            split at hl
            · rename_i E' h l m' hE' hh hll hm
              cases hE'
              split at hl
              · rename_i hb
                cases hl
                obtain ⟨hb1, hb2, hb3, hb4⟩ := hb
                cases hi with
                | none => simp at hh
                | some hi =>
                  simp only [Option.map_some] at hh
                  obtain ⟨k1, e1⟩ := natOf_sound hh (hev hi)
                  obtain ⟨k2, e2⟩ := natOf_sound hm (hev m)
                  have b1 : (Instr.sliceBound (ρ hi) m' .slice3B).run P W = .ok h W := by rw [e1]; exact run_bound hb2
                  have b3 : (Instr.sliceBound (ρ m) cap .slice3Acap).run P W = .ok m' W := by rw [e2]; exact run_bound (by omega)
                  have b2 := bnd (y := h) (c := .slice3C) hll hb1
                  have hbounds : (Instr.sliceBounds true xs.length cap (lo.map ρ) (some (ρ hi)) (some (ρ m))).run P W = .ok (l, h, m') W := by
                    unfold Instr.sliceBounds
                    cases lo <;> simp_all
                  refine ⟨_, ?_, sub_rep (s := E.size) (n := m') hb1 (by omega) (all_len hb4) hn hcase (by omega) ?_ rfl⟩
                  · simp [Instr.sliceAt, run_underlying h2, Instr.slice, hbounds, sizeOf, typeInfo, h1', h4']
                  · by_cases hmm : h = m' ∧ 0 < xs.length
                    · rw [if_pos hmm]
                      obtain ⟨rfl, hpos⟩ := hmm
                      refine ⟨by simp; omega, ?_⟩
                      rcases hcase with rfl | ⟨B, off, rfl, _⟩
                      · simp at hpos
                      · split
                        · exact ⟨some (B, off), rfl, fun e => by cases e⟩
                        · exact ⟨some (B, off + l * E.size), by simp [adr_add, addrOf], fun e => by cases e⟩
                    · rw [if_neg hmm]; trivial
              · cases hl
            · cases hl

end Go.Abs
