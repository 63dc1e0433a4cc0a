/- A struct that is appended as zero and then written: what that comes to. -/
import Derived.Test.YtpmeklllgnnffaaGreatDoorR6
set_option linter.unusedSimpArgs false
set_option linter.unusedVariables false

namespace Go.Abs
open Go
variable {P : Program} {G : Ghost} {st : St} {W : World}
theorem alloc_set (W : World) (c c' : Array Value) (T : TypeId) : ∀ k : Nat, ((W.alloc (.cells c T)).setRow W.heap.size c').heap[k]? = (W.alloc (.cells c' T)).heap[k]? := fun k => by
  by_cases hk : k = W.heap.size
  · subst hk
    rw [setRow_heap _ _ c c' T (0, 0) (heap_alloc_new W _)]
    exact (heap_alloc_new W _).symm
  · rw [setRow_other _ _ _ _ hk]
    rcases Nat.lt_or_ge k W.heap.size with h | h
    · rw [heap_alloc_old W _ h, heap_alloc_old W _ h]
    · rw [Array.getElem?_eq_none (by simp; omega), Array.getElem?_eq_none (by simp; omega)]
theorem append_two (h : Sim G st W) {t tx ty : TypeId} (hk : (∃ e', P.underlying tx = some (.slice e')) ∨ P.underlying tx = some .string) {o : Own} {xs : List V} {y : V} {us uz : Value} (hs : Rep G (.slice o xs) us)
    {res : Res} (hl : appendV P t (.slice o xs) (.slice .full [y]) st = some res) {e : TypeId} {i : TypeInfo} (ht : P.underlying t = some (.slice e)) (hi : P.info? e = some i)
    {newsz newsx : List Value} (hsrc : Src P i.size tx uz 1 newsz W) (hnews : Reps G (vcells y) newsx) :
    ∃ u Wz Wx G' v st' B T cap cz, res = .val v st' ∧ (Builtin.append_ #[t, tx] ty #[us, uz]).run P W = .ok u Wz ∧ Good G W G' st' Wx ∧ Rep G' v u ∧
      u = .slice (some (adr B 0)) (xs.length + 1) cap ∧ Wz.heap[B]? = some (.cells cz T (0, 0)) ∧ newsx.length = i.size ∧ (∀ u ∈ newsx, u.oneCell' = true) ∧ xs.length * i.size + i.size ≤ cz.size ∧
      (∀ k : Nat, Wx.heap[k]? = (Wz.setRow B (cz.toList.take (xs.length * i.size) ++ newsx ++ cz.toList.drop (xs.length * i.size + i.size)).toArray).heap[k]?) ∧
      (Wx.os = Wz.os ∧ Wx.tape = Wz.tape ∧ Wx.output = Wz.output) ∧ (∀ k : Nat, k ≠ B → k < W.heap.size → Wz.heap[k]? = W.heap[k]?) ∧ (∀ b B', G.box b = some B' → B' ≠ B) := by
  unfold appendV at hl
  cases hT : ti P t with
  | none => simp [hT] at hl
  | some T =>
    obtain ⟨i0, d, z0, h1, h2, -, -, h3, -⟩ := ti_spec hT
    obtain ⟨D, sz, by_, ze, eq⟩ := T
    simp only at h3
    rw [hT] at hl
    rw [h2] at ht; cases ht
    have hD : D = .slice e := by rw [h3]; rfl
    subst hD
    simp only at hl
    cases hE : ti P e with
    | none => simp [hE] at hl
    | some E =>
      obtain ⟨i', d', z, hi', -, hz, hzs, -, hsz, hby, -⟩ := ti_spec hE
      rw [hi] at hi'; cases hi'
      simp only [hE, appElems] at hl
      split at hl
      · rename_i hc
        obtain ⟨hc1, hc2, hc3, hc4, hc5, hc6⟩ := hc
        have hzl : (vcells y).length = E.size := by have := List.all_eq_true.1 hc1 y (by simp); simp at this; exact this.2
        have hzo : elemOk y = true := by have := List.all_eq_true.1 hc1 y (by simp); simp at this; exact this.1
        have hxl := all_len hc2
        have hzr : refs y = [] := (elemOk_spec hzo).1
        have hone : ∀ u ∈ newsx, u.oneCell' = true := Reps.one hnews (elemOk_spec hzo).2
        have hnl : newsx.length = i.size := by rw [← hnews.length, hzl, hsz]
        have hnz : newsz.length = i.size := by rw [hsrc.newsLen]; omega
        simp only [List.length_singleton] at hl hc3 hc4
        obtain ⟨a, cap, rfl, hcap, hown, hxr, _, hcase⟩ := hs
        have hall : ∀ w ∈ xs ++ [y], refs w = [] := fun w hw => (List.mem_append.1 hw).elim (hxr w) (fun h => by rw [List.mem_singleton.1 h]; exact hzr)
        have halln : ∀ w ∈ xs ++ [y], (vcells w).length = E.size := fun w hw => (List.mem_append.1 hw).elim (hxl w) (fun h => by rw [List.mem_singleton.1 h]; exact hzl)
        obtain ⟨olds, holds1, holds2, holds3⟩ : ∃ olds : List Value, Reps G (xs.flatMap vcells) olds ∧ (∀ u ∈ olds, u.oneCell' = true) ∧
            (Builtin.firstCells i.size xs.length (.slice a xs.length cap)).run P W.drew = .ok olds.toArray W.drew := by
          rcases hcase with rfl | ⟨B, off, rfl, hr⟩
          · cases a with
            | none => exact ⟨[], rfl, by simp, run_firstCells_none W.drew i.size 0 0 cap⟩
            | some ad => exact ⟨[], rfl, by simp, run_firstCells_some W.drew i.size 0 ad 0 cap [] (by simp) (fun j v e => by simp at e)⟩
          · rw [readsE_flat] at hr
            obtain ⟨vs, k1, k2, k3⟩ := hr.exists
            have hc : ∀ (j : Nat) v, vs[j]? = some v → W.drew.cell? ((adr B off).add j) = some v := fun j v e => by rw [adr_add]; exact h.cell (k3 j v e)
            exact ⟨vs, k1, k2, run_firstCells_some W.drew i.size xs.length (adr B off) xs.length cap vs (by rw [← k1.length, flat_len hxl, hsz]) hc⟩
        have holen : olds.length = xs.length * i.size := by rw [← holds1.length, flat_len hxl, hsz]
        have grow : ∀ b st', cap < xs.length + 1 → G.res b = false → G.box b = none → (∀ d', G.hdr b = some d' → d'.tip = xs.length) → (∀ d', G.hdr b = some d' → 0 < xs.length → d'.size = i.size) → st.length ≤ st'.length →
            (∀ b' y, b' ≠ b → st[b']? = some y → st'[b']? = some y) → st'[b]? = some [.tip (xs.length + 1)] →
            ∃ u Wz Wx G' B T cap' cz, (Builtin.append_ #[t, tx] ty #[.slice a xs.length cap, uz]).run P W = .ok u Wz ∧ Good G W G' st' Wx ∧ Rep G' (.slice (.own b) (xs ++ [y])) u ∧
              u = .slice (some (adr B 0)) (xs.length + 1) cap' ∧ Wz.heap[B]? = some (.cells cz T (0, 0)) ∧ xs.length * i.size + i.size ≤ cz.size ∧
              (∀ k : Nat, Wx.heap[k]? = (Wz.setRow B (cz.toList.take (xs.length * i.size) ++ newsx ++ cz.toList.drop (xs.length * i.size + i.size)).toArray).heap[k]?) ∧
              (Wx.os = Wz.os ∧ Wx.tape = Wz.tape ∧ Wx.output = Wz.output) ∧ (∀ k : Nat, k ≠ B → k < W.heap.size → Wz.heap[k]? = W.heap[k]?) ∧ (∀ b B', G.box b = some B' → B' ≠ B) := by
          intro b st' hgt hres hnob hle hdsz hlen hget hb
          have hrun := run_append_grow_src (P := P) W t tx ty e i z h2 hi hz a xs.length cap olds holds3 uz 1 newsz hsrc hgt (by omega)
            (growslice_fits (by omega) (by rw [← hby]; omega))
          have hge := grownCap_ge W (xs.length + 1) cap e
          have hg := Good.newTip h (b := b) (d := ⟨some (W.heap.size, 0), grownCap W (xs.length + 1) cap e, i.size, xs.length + 1⟩) (st' := st') hres hnob
            (fun d' hd' => ⟨by rw [hle d' hd']; exact Nat.le_add_right _ _, fun e' => by
              have e1 := hle d' hd'
              have e2 : d'.tip = xs.length + 1 := e'
              omega, fun hp => by
              rw [hle d' hd'] at hp
              exact hdsz d' hd' hp⟩) hlen hget hb
            ((olds ++ newsx).toArray ++ Builtin.zeroCells z.cells (grownCap W (xs.length + 1) cap e - (xs.length + 1))) e (olds ++ newsx)
            (fun j v hj => by
              have hj' := (List.getElem?_eq_some_iff.1 hj).1
              rw [Array.getElem?_append_left (by simpa using hj')]; simpa using hj) rfl hge (by show 0 < xs.length + 1; omega)
            (by
              simp only [Array.size_append, List.size_toArray, List.length_append, zeroCells_size, hzs, holen, hnl]
              rw [show xs.length * i.size + i.size = (xs.length + 1) * i.size by rw [Nat.add_mul, Nat.one_mul], ← Nat.add_mul]
              exact Nat.mul_le_mul_right _ (by omega))
            (by simp only [List.length_append, holen, hnl]; rw [Nat.add_mul, Nat.one_mul]; omega)
          have hcx : (((olds ++ newsz).toArray ++ Builtin.zeroCells z.cells (grownCap W (xs.length + 1) cap e - (xs.length + 1))).toList.take (xs.length * i.size) ++ newsx ++
              ((olds ++ newsz).toArray ++ Builtin.zeroCells z.cells (grownCap W (xs.length + 1) cap e - (xs.length + 1))).toList.drop (xs.length * i.size + i.size)).toArray =
              (olds ++ newsx).toArray ++ Builtin.zeroCells z.cells (grownCap W (xs.length + 1) cap e - (xs.length + 1)) := by
            apply Array.toList_inj.1
            simp only [Array.toList_append, List.append_assoc]
            rw [← holen, ← hnz, List.take_left, ← List.append_assoc olds newsz, show olds.length + newsz.length = (olds ++ newsz).length by simp, List.drop_left]
          refine ⟨_, _, _, _, W.heap.size, e, _, _, hrun, hg, ⟨some (adr W.heap.size 0), _, by rw [List.length_append]; rfl, by rw [List.length_append]; exact hge, ?_, hall, ⟨_, halln⟩, .inr ⟨W.heap.size, 0, rfl, ?_⟩⟩, rfl, heap_alloc_new W.drew _, ?_, ?_, ⟨rfl, rfl, rfl⟩, fun k _ hk => heap_alloc_old W.drew _ hk, fun b B' hb => ?_⟩
          · exact ⟨⟨some (W.heap.size, 0), grownCap W (xs.length + 1) cap e, i.size, xs.length + 1⟩, by simp only [Ghost.addHdr, if_true], by simp, fun _ => ⟨rfl, rfl⟩, fun w hw => by rw [halln w hw]; exact hsz⟩
          · rw [readsE_flat, List.flatMap_append]
            refine Reads.of_reps hg.ext.imm (holds1.append (by simpa using hnews)) (fun u hu => (List.mem_append.1 hu).elim (holds2 u) (hone u)) (by rw [refsL_append, flat_refs hxr, flat_refs (xs := [y]) (by simpa using hzr)]; rfl) fun j v hj => ?_
            exact Ghost.fill_in G W.heap.size 0 (olds ++ newsx) hj
          · simp only [Array.size_append, List.size_toArray, List.length_append, holen, hnz]; omega
          · intro k
            rw [hcx]
            exact (alloc_set W.drew _ _ e k).symm
          · have := (h.lt_box hb).2; omega
        cases o with
        | froz =>
          simp only at hl
          simp at hl
        | full =>
          simp only [Option.some.injEq] at hl
          subst hl
          have hcapn : cap = xs.length := hown.1
          have hd := h.dom st.length (Nat.le_refl _)
          obtain ⟨u, Wz, Wx, G', B, T, cap', cz, q1, q2, q3, q4, q5, q6, q7, q8, q9, q10⟩ := grow st.length (st ++ [[.tip (xs.length + 1)]]) (by omega) (by cases hr : G.res st.length with | false => rfl | true => exact absurd (h.res _ hr).1 (Nat.lt_irrefl _)) hd.1 (fun d' hd' => by rw [hd.2] at hd'; cases hd') (fun d' hd' => by rw [hd.2] at hd'; cases hd') (by simp)
            (fun b' y _ hy => by rw [List.getElem?_append_left (List.getElem?_eq_some_iff.1 hy).1]; exact hy) (by simp)
          exact ⟨u, Wz, Wx, G', _, _, B, T, cap', cz, rfl, q1, q2, q3, q4, q5, hnl, hone, q6, q7, q8, q9, q10⟩
        | own b =>
          simp only at hl
          split at hl
          · rename_i htip
            simp only [Option.some.injEq] at hl
            subst hl
            obtain ⟨hd, hd1, hd2, hd3, hd4⟩ := hown
            have t' := h.tip b hd hd1
            have htl : hd.tip = xs.length := by
              simp only [tipIs, t'.st, beq_iff_eq] at htip
              exact htip
            obtain ⟨hda, hdc⟩ := hd3 htl.symm
            have hbl := h.lt_hdr hd1
            have hdsz : 0 < xs.length → hd.size = i.size := fun hp => by
              obtain ⟨w, hw⟩ := List.exists_mem_of_length_pos hp
              rw [← hd4 w hw, hxl w hw, hsz]
            by_cases hroom : xs.length + 1 ≤ cap
            · obtain ⟨B, c, T, r1, r2, r3, r4, r5⟩ := t'.room (by omega)
              have hab : a = some (adr B 0) := by rw [hda, r1]; rfl
              have hds := hdsz (by have := t'.pos (by omega); omega)
              have hfit : xs.length * i.size + i.size ≤ c.size := by
                rw [show xs.length * i.size + i.size = (xs.length + 1) * i.size by rw [Nat.add_mul, Nat.one_mul]]
                refine Nat.le_trans (Nat.mul_le_mul_right _ hroom) ?_
                rw [hdc, ← hds]; exact r3
              have hg := Good.tipRoom h hd1 (m := 1) (by omega) (by omega) r1 r2 r3 newsx (by rw [hnl, hds, Nat.one_mul])
              have hrun := run_append_row (P := P) (ty := ty) h2 hi r2 hsrc hroom (by rw [hnz]; exact hfit)
              rw [hds, htl, hnl] at hg
              rw [hnz] at hrun
              have hne : ∀ (k : Nat), xs.length = 0 → False := fun _ h0 => by have := t'.pos (by omega); omega
              refine ⟨_, _, _, _, _, _, B, T, cap, (c.toList.take (xs.length * i.size) ++ newsz ++ c.toList.drop (xs.length * i.size + i.size)).toArray, rfl, by rw [hab]; exact hrun, hg, ⟨some (adr B 0), cap, by rw [List.length_append]; rfl, by rw [List.length_append]; exact hroom,
                ⟨{ hd with size := i.size, tip := xs.length + 1 }, by simp only [Ghost.addHdr, if_true], by simp, fun _ => ⟨by rw [r1]; rfl, hdc⟩, fun w hw => by rw [halln w hw]; exact hsz⟩, hall, ⟨_, halln⟩, .inr ⟨B, 0, rfl, ?_⟩⟩,
                rfl, setRow_heap W B c _ T (0, 0) r2, hnl, hone, ?_, ?_, ⟨rfl, rfl, rfl⟩, fun k hk _ => setRow_other W B k _ hk, fun b' B' hb' => ?_⟩
              · rw [readsE_flat, List.flatMap_append, Reads.append]
                rcases hcase with rfl | ⟨B', off', hab', hr⟩
                · exact (hne 0 rfl).elim
                · rw [hab] at hab'
                  have hBB : B' = B ∧ off' = 0 := by simp [adr] at hab'; exact ⟨hab'.1.symm, hab'.2.symm⟩
                  obtain ⟨rfl, rfl⟩ := hBB
                  rw [readsE_flat] at hr
                  refine ⟨Reads.tr (ρ := id) _ _ _ ⟨hg.ext.imm, by simp [flat_refs hxr], by simp [flat_refs hxr]⟩ (flat_refs hxr) hr, ?_⟩
                  refine Reads.of_reps hg.ext.imm (by simpa using hnews) hone (flat_refs (xs := [y]) (by simpa using hzr)) fun j v hj => ?_
                  have := Ghost.fill_in G B' (xs.length * i.size) newsx hj
                  rw [flat_len hxl, hsz, Nat.zero_add]
                  exact this
              · simp only [List.size_toArray, List.length_append, List.length_take, List.length_drop, Array.length_toList, hnz]; omega
              · intro k
                have htk : (c.toList.take (xs.length * i.size)).length = xs.length * i.size := by simp; omega
                have e1 : (c.toList.take (xs.length * i.size) ++ newsz ++ c.toList.drop (xs.length * i.size + i.size)).toArray.toList.take (xs.length * i.size) = c.toList.take (xs.length * i.size) := by
                  simp only [List.append_assoc]
                  conv => lhs; arg 1; rw [← htk]
                  rw [List.take_left]
                have e2 : (c.toList.take (xs.length * i.size) ++ newsz ++ c.toList.drop (xs.length * i.size + i.size)).toArray.toList.drop (xs.length * i.size + i.size) = c.toList.drop (xs.length * i.size + i.size) := by
                  have : xs.length * i.size + i.size = (c.toList.take (xs.length * i.size) ++ newsz).length := by rw [List.length_append, htk, hnz]
                  simp only
                  conv => lhs; arg 1; rw [this]
                  rw [List.drop_left]
                rw [e1, e2, setRow_setRow]
              · rintro rfl
                exact r5 b' hb'
            · obtain ⟨u, Wz, Wx, G', B, T, cap', cz, q1, q2, q3, q4, q5, q6, q7, q8, q9, q10⟩ := grow b (st.set b [.tip (xs.length + 1)]) (by omega) (by cases hr : G.res b with | false => rfl | true => (have := (h.res _ hr).2.2; rw [hd1] at this; cases this)) t'.nobox (fun d' hd' => by rw [hd1] at hd'; cases hd'; exact htl) (fun d' hd' hp => by rw [hd1] at hd'; cases hd'; exact hdsz hp) (by simp)
                (fun b' y hne hy => by rw [List.getElem?_set_ne (Ne.symm hne)]; exact hy) (by simp [hbl])
              exact ⟨u, Wz, Wx, G', _, _, B, T, cap', cz, rfl, q1, q2, q3, q4, q5, hnl, hone, q6, q7, q8, q9, q10⟩
          · cases hl
      · cases hl
theorem load_agg (h : Sim G st W) {t : TypeId} {xb xo : Nat} {y : V} {va : Value} (hg : aggT P t = true) (ha : Rep G (.box xb xo) va) (hl : loadV P t (.box xb xo) st = some y) :
    ∃ XB cs vs i, y = .agg cs ∧ G.box xb = some XB ∧ Reps G cs vs ∧ P.info? t = some i ∧ vs.length = i.size ∧ ∀ W' : World, W'.heap[XB]? = W.heap[XB]? → (Instr.loadAt t va).run P W' = .ok (.agg vs.toArray) W' := by
  unfold loadV at hl
  unfold aggT at hg
  cases hT : ti P t with
  | none => simp [hT] at hl
  | some T =>
    simp only [hT] at hg
    cases hc : cellsAt st (.box xb xo) with
    | none => simp [hT, hc] at hl
    | some cs0 =>
      simp only [hT, hc] at hl
      obtain ⟨i, d, z, h1, h2, -, -, h3, h4, -⟩ := ti_spec hT
      simp only [cellsAt, Option.map_eq_some_iff] at hc
      obtain ⟨cs1, e0, rfl⟩ := hc
      obtain ⟨XB, hB, rfl⟩ := ha
      obtain ⟨⟨cs2, c, T2, k1, k2, k3⟩, _⟩ := h.box xb XB hB
      rw [e0] at k1; cases k1
      unfold takeV at hl
      rw [hg, if_pos rfl] at hl
      split at hl
      · rename_i hsz
        cases hl
        have hr := (k3.drop xo).take T.size
        have hlen := hr.length
        have hrow : d.isRow = true := by rw [h3] at hg; cases d <;> simp_all [dOf, D.isAgg]
        refine ⟨XB, _, _, i, rfl, hB, hr, h1, ?_, fun W' hW => ?_⟩
        · rw [← hlen, List.length_take, ← h4]; omega
        · have hcell : W'.rangeAt XB xo ((c.toList.drop xo).take T.size) := fun j v e => by
            rw [List.getElem?_take] at e
            split at e
            · rw [List.getElem?_drop] at e
              have : W'.heap[XB]? = some (.cells c T2 (0, 0)) := by rw [hW]; exact k2
              simpa [World.cell?, this] using e
            · cases e
          exact run_loadAt_mid (P := P) W' XB xo t _ d hcell h2 hrow (by rw [h1]; simp only [Option.map_some, Option.some.injEq]; rw [← hlen, List.length_take, ← h4]; omega)
      · cases hl
theorem run_store_at {t : TypeId} {i : TypeInfo} (hi : P.info? t = some i) {B off : Nat} {T : TypeId} {c : Array Value} {v : Value} (hB : W.heap[B]? = some (.cells c T (0, 0))) (hs : v.cells.size = i.size) (hfit : off + i.size ≤ c.size)
    (hone : ∀ u ∈ v.cells.toList, u.oneCell' = true) :
    (Instr.storeAt t (.pointer (some (adr B off))) v).run P W = .ok () (W.setRow B (c.toList.take off ++ v.cells.toList ++ c.toList.drop (off + i.size)).toArray) := by
  have hst := run_storeCells_at P B off T v.cells.toList 0 c W hB (by simp only [Array.length_toList, Nat.add_zero]; omega) hone
  simp only [Nat.add_zero] at hst
  simp [Instr.storeAt, Instr.sureAddr, storeVar, sizeOf, typeInfo, hi, hs, adr]
  simpa [hs] using hst
theorem store_exp (h : Sim G st W) {t : TypeId} {b off : Nat} {x : V} {va vx : Value} {st' : St} (ha : Rep G (.box b off) va) (hx0 : Rep G x vx) (hl : storeV P t (.box b off) x st = some st') :
    ∃ PB c T' hdr, G.box b = some PB ∧ W.heap[PB]? = some (.cells c T' (0, 0)) ∧ (∀ W' : World, W'.heap[PB]? = some (.cells c T' (0, 0)) → (Instr.storeAt t va vx).run P W' = .ok () (W'.setRow PB hdr)) ∧ ∃ G', Good G W G' st' (W.setRow PB hdr) := by
  have hx : Rep G (iceT t x) vx := iceT_rep hx0
  unfold storeV at hl
  generalize iceT t x = x at hx hl
  unfold storeW at hl
  simp only at hl
  obtain ⟨B, hB, rfl⟩ := ha
  cases hT : ti P t with
  | none => simp [hT] at hl
  | some T =>
    obtain ⟨⟨cs, c, T', e1, e2, e3⟩, _⟩ := h.box b B hB
    simp only [hT, e1] at hl
    split at hl
    · rename_i hcond
      obtain ⟨hsz, hok⟩ := hcond
      obtain ⟨i, d, z, h1, h2, hz, -, h3, h4, -⟩ := ti_spec hT
      cases ho : overlay cs off (vcells (adopt x st).1) with
      | none => simp [ho] at hl
      | some cs' =>
        simp only [ho, Option.some.injEq] at hl
        subst hl
        obtain ⟨G1, g1, r1⟩ := adopt_sound h hx
        obtain ⟨a1, a2⟩ := adopt_cells x st
        have hok1 : (vcells (adopt x st).1).all cellOk = true := by rw [a2]; exact hok
        obtain ⟨k1, k2⟩ := r1.cells hok1
        obtain ⟨o1, o2⟩ := overlay_reps ho (e3.le g1.le) k1
        have hone : ∀ v ∈ vx.cells.toList, v.oneCell' = true := Reps.one k1 hok1
        have g2 := Good.setBox g1.sim (g1.le.box b B hB) (c' := (c.toList.take off ++ vx.cells.toList ++ c.toList.drop (off + vx.cells.toList.length)).toArray) (cs' := cs') (by simpa using o2)
        have hlen : vx.cells.size = i.size := by have := k1.length; rw [a1, hsz, h4] at this; simpa using this.symm
        refine ⟨B, c, T', _, hB, e2, fun W' hW => ?_, _, g1.trans g2⟩
        have := run_store_at (P := P) h1 hW hlen (off := off) (by rw [← hlen]; simpa using o1) hone
        rw [this, Array.length_toList, hlen]
    · cases hl
theorem full1 {o : Option V} {y : V} (h : isFull1 o = some y) : o = some (.slice .full [y]) := by
  unfold isFull1 at h
  split at h
  · cases h; rfl
  · cases h
theorem build_one {t : TypeId} {y y' : V} (h : buildSliceV P t 1 [(0, y)] = some (.slice .full [y'])) : y' = frz y := by
  unfold buildSliceV at h
  cases hT : ti P t with
  | none => simp [hT] at h
  | some T =>
    obtain ⟨D, sz, by_, ze, eq⟩ := T
    rw [hT] at h
    cases D <;> try (simp at h; done)
    case slice e =>
      simp only at h
      cases hE : ti P e with
      | none => simp [hE] at h
      | some E =>
        simp only [hE] at h
        split at h
        · simp only [Option.map_eq_some_iff, V.slice.injEq] at h
          obtain ⟨xs, hxs, _, rfl⟩ := h
          have := (lit_spec hxs).1
          simpa using this
        · cases h
theorem build_elem {t : TypeId} {y y' : V} (h : buildSliceV P t 1 [(0, y)] = some (.slice .full [y'])) : ∃ e E i, P.underlying t = some (.slice e) ∧ ti P e = some E ∧ P.info? e = some i ∧ E.size = i.size ∧ (vcells y').length = E.size ∧ elemOk y' = true := by
  have hy := build_one h
  unfold buildSliceV at h
  cases hT : ti P t with
  | none => simp [hT] at h
  | some T =>
    obtain ⟨i0, d, z0, h1, h2, -, -, h3, -⟩ := ti_spec hT
    obtain ⟨D, sz, by_, ze, eq⟩ := T
    simp only at h3
    rw [hT] at h
    cases D <;> try (simp at h; done)
    case slice e =>
      have := dOf_slice h3; subst this
      simp only at h
      cases hE : ti P e with
      | none => simp [hE] at h
      | some E =>
        obtain ⟨i, d', z, hi, -, -, -, -, hsz, -⟩ := ti_spec hE
        simp only [hE] at h
        split at h
        · rename_i hc
          obtain ⟨_, _, hc3⟩ := hc
          simp only [Option.map_eq_some_iff, V.slice.injEq] at h
          obtain ⟨xs, hxs, _, rfl⟩ := h
          have h2' := (lit_spec hxs).2.1 (0, y) (by simp)
          have h3' := List.all_eq_true.1 hc3 (0, y) (by simp)
          simp only [beq_iff_eq] at h3'
          refine ⟨e, E, i, h2, hE, hi, hsz, ?_, by rw [hy]; exact h2'⟩
          rw [hy, frz_vcells, frzL_length]; exact h3'
        · cases h
theorem fieldAddr_box {t : TypeId} {b off f : Nat} {x : V} (h : fieldAddrV P t (.box b off) f = some x) : ∃ off', x = .box b off' := by
  unfold fieldAddrV at h
  cases hT : ti P t with
  | none => simp [hT] at h
  | some T =>
    obtain ⟨D, sz, by_, ze, eq⟩ := T
    rw [hT] at h
    cases D <;> try (simp at h; done)
    case struct fs =>
      simp only at h
      cases hf : fs[f]? with
      | none => simp [hf] at h
      | some q =>
        obtain ⟨o, u⟩ := q
        cases hu : ti P u with
        | none => simp [hf, hu] at h
        | some U =>
          simp only [hf, hu] at h
          split at h
          · cases h
          · cases h; exact ⟨_, rfl⟩
theorem eval_self {a : Act} {t : Nat} {u : Value} (h : t < a.tmps.size) : (a.put (some t) u).eval (.tmp t) = u := by
  simp [Act.put, Act.eval, Array.getD_eq_getD_getElem?, h]
theorem eval_ne {a : Act} {t t' : Nat} {u : Value} (h : t ≠ t') : (a.put (some t) u).eval (.tmp t') = a.eval (.tmp t') := by
  simp [Act.put, Act.eval, Array.getD_eq_getD_getElem?, Array.getElem?_setIfInBounds, h]
theorem put_size {a : Act} {t : Option Nat} {u : Value} : (a.put t u).tmps.size = a.tmps.size := by cases t <;> simp [Act.put]
theorem wanted0 {o : Oper} {ys : Nat → Option Bool} (h : o.guard = none) : Region.wanted o ys = true := by
  unfold Region.wanted; rw [h]
structure ArmSpec (A : Arm) (l B : List Oper) : Prop where
  l : ∃ y5 p5 f5 y6 p6 f6 y7 p7 f7 y8 p8 f8 y9 p9 f9, l = [⟨some A.a5, .buildSlice A.T 1 #[(0, .const A.z)], y5, p5, f5, none⟩, ⟨some A.a6, .call ⟨.builtin .append, #[.tmp A.a3, .tmp A.a5], #[A.T, A.T]⟩, y6, p6, f6, none⟩,
    ⟨some A.a7, .nilCheck (.tmp A.a0), y7, p7, f7, none⟩, ⟨some A.a8, .fieldAddr A.S (.tmp A.a7) A.f, y8, p8, f8, none⟩, ⟨none, .store A.T (.tmp A.a8) (.tmp A.a6), y9, p9, f9, none⟩]
  B : ∃ y1 p1 f1 y2 p2 f2 y3 p3 f3, B = [⟨some A.b0, .load A.E (.tmp A.x), y1, p1, f1, none⟩, ⟨some A.b1, .indexAddr A.T (.tmp A.a6) (.tmp A.a4), y2, p2, f2, none⟩, ⟨none, .store A.E (.tmp A.b1) (.tmp A.b0), y3, p3, f3, none⟩]
  nd : nodupN [A.a0, A.a3, A.a4, A.x, A.a5, A.a6, A.a7, A.a8, A.b0, A.b1] = true
theorem arm5_spec {ops : Array Oper} {pre l B : List Oper} {A : Arm} (h : arm5 ops pre l B = some A) : A.ops = ops ∧ A.pre = pre ∧ ArmSpec A l B := by
  unfold arm5 at h
  split at h
  · rename_i ps y5 p5 f5 a6 c y6 p6 f6 a7 a0 y7 p7 f7 a8 S a7' f y8 p8 f8 T1 a8' a6' y9 p9 f9 b0 E x y1 p1 f1 b1 T2 a6'' a4 y2 p2 f2 E' b1' b0' y3 p3 f3
    obtain ⟨ps⟩ := ps
    split at h
    · rename_i cc z as ts hps
      split at h
      · rename_i aa tt a3 a5' T3 T4 has hts
        split at h
        · rename_i hc
          simp only [Bool.and_eq_true, beq_iff_eq] at hc
          obtain ⟨as⟩ := as
          obtain ⟨ts⟩ := ts
          simp only at hps has hts
          subst hps has hts
          cases h
          obtain ⟨⟨⟨⟨⟨⟨⟨⟨⟨⟨⟨⟨rfl, rfl⟩, rfl⟩, rfl⟩, rfl⟩, rfl⟩, rfl⟩, rfl⟩, rfl⟩, rfl⟩, rfl⟩, rfl⟩, hn⟩ := hc
          exact ⟨rfl, rfl, ⟨_, _, _, _, _, _, _, _, _, _, _, _, _, _, _, rfl⟩, ⟨_, _, _, _, _, _, _, _, _, rfl⟩, hn⟩
        · cases h
      · cases h
    · cases h
  · cases h
theorem wp_one {ops : Array Oper} {Q : Exit → Act → World → Prop} {o : Oper} {rest : List Oper} {a : Act} {W W' : World} {u : Value} (hg : o.guard = none) (hrun : (execOp a.eval o).run P W = .ok (.value u) W') (hk : wpList P ops Q rest (a.put o.dst u) W') : wpList P ops Q (o :: rest) a W := by
  refine wpList_step fun K hK => ?_
  rw [wanted0 hg]
  simp only [if_true]
  exact wp_val hrun (hK _ _ hk)
theorem wp_skip1 {ops : Array Oper} {Q : Exit → Act → World → Prop} {o : Oper} {rest : List Oper} {a : Act} {W W' : World} (hg : o.guard = none) (hrun : (execOp a.eval o).run P W = .ok .skip W') (hk : wpList P ops Q rest (a.put o.dst undef) W') : wpList P ops Q (o :: rest) a W := by
  refine wpList_step fun K hK => ?_
  rw [wanted0 hg]
  simp only [if_true]
  unfold Oper.wp
  rw [hrun]
  exact hK _ _ hk
theorem upon_calm {o : Oper} {a : Act} {next next' : Act → World → Prop} {Q Q' : Exit → Act → World → Prop} (hn : ∀ a w, next a w → next' a w) (hq : ∀ e a w, Q e a w → e = .normal)
    {r : Result Next} (h : o.upon P a next Q r) : o.upon P a next' Q' r := by
  cases r with
  | ok n w =>
    cases n <;> simp only [Oper.upon] at h ⊢ <;>
      first
        | exact hn _ _ h
        | exact Calls.mono h (fun e w'' he => by
            cases e
            · exact hn _ _ he
            · cases hq _ _ _ he
            · obtain ⟨a0, w0, h0⟩ := he; cases hq _ _ _ h0)
        | exact Rows.mono h (fun _ _ he => hn _ _ he)
  | halt x w => cases x <;> simp only [Oper.upon] at h ⊢ <;> cases hq _ _ _ h
theorem wpList_app {ops : Array Oper} {Q : Exit → Act → World → Prop} {R : Act → World → Prop} {suf : List Oper} (hs : ∀ a w, R a w → wpList P ops Q suf a w) : ∀ {pre : List Oper} {a : Act} {w : World}, wpList P ops (fun e a w => e = .normal ∧ R a w) pre a w → wpList P ops Q (pre ++ suf) a w
  | [], a, w, h => hs a w (show (Exit.normal = Exit.normal ∧ R a w) from h).2
  | o :: rest, a, w, h => by
    rw [List.cons_append]
    unfold wpList at h ⊢
    split
    · rename_i hw
      rw [if_pos hw] at h
      rcases h with h | ⟨h1, a0, w0, h2⟩
      · exact .inl (upon_calm (fun _ _ => wpList_app hs) (fun e a w q => q.1) h)
      · cases h2.1
    · rename_i hw
      rw [if_neg hw] at h
      exact wpList_app hs h
theorem heap_ext {a b : World} (h : ∀ k : Nat, a.heap[k]? = b.heap[k]?) : a.heap = b.heap := Array.ext_getElem? h
theorem arm_facts {A : Arm} {env : Env} {st : St} {env' : Env} {st' : St} {y6 : TypeId} {v0 v3 v4 vx : Value} (h : Sim G st W) (r0 : Rep G (env.getD A.a0 .undef) v0) (r3 : Rep G (env.getD A.a3 .undef) v3) (r4 : Rep G (env.getD A.a4 .undef) v4) (rx : Rep G (env.getD A.x .undef) vx)
    (hl : armS P A env st = some (env', st')) :
    (A.a5 < env.length ∧ A.a6 < env.length ∧ A.a7 < env.length ∧ A.a8 < env.length ∧ A.b0 < env.length ∧ A.b1 < env.length) ∧
    env' = (((((env.set A.a5 .undef).set A.a6 .undef).set A.a7 .undef).set A.a8 .undef).set A.b0 .undef).set A.b1 .undef ∧
    ∃ u5 W2 u6 Wz u8 Wc ua ub Wd PB off G4, (Instr.buildSlice A.T 1 #[(0, A.z)]).run P W = .ok u5 W2 ∧ (Builtin.append_ #[A.T, A.T] y6 #[v3, u5]).run P W2 = .ok u6 Wz ∧ v0 = .pointer (some (adr PB off)) ∧
      (Instr.fieldAt A.S v0 A.f).run P Wz = .ok u8 Wz ∧ (Instr.storeAt A.T u8 u6).run P Wz = .ok () Wc ∧ (Instr.loadAt A.E vx).run P Wc = .ok ua Wc ∧ (Instr.indexAt A.T u6 v4).run P Wc = .ok ub Wc ∧
      (Instr.storeAt A.E ub ua).run P Wc = .ok () Wd ∧ Good G W G4 st' Wd := by
  unfold armS at hl
  split at hl
  case isFalse => cases hl
  rename_i hbs
  refine ⟨hbs, ?_⟩
  clear hbs
  generalize env.getD A.a0 .undef = w0 at *
  generalize env.getD A.a3 .undef = w3 at *
  generalize env.getD A.a4 .undef = w4 at *
  generalize env.getD A.x .undef = wx at *
  cases hV : armV P A.S A.f A.T A.E A.z w0 w3 w4 wx st with
  | none => rw [hV] at hl; cases hl
  | some st2 =>
  rw [hV] at hl
  simp only [Option.some.injEq, Prod.mk.injEq] at hl
  obtain ⟨rfl, rfl⟩ := hl
  refine ⟨rfl, ?_⟩
  unfold armV at hV
  split at hV
  · rename_i pb off o xs k n xb xo
    split at hV
    · rename_i hc
      obtain ⟨hne, hn0, hnl⟩ := hc
      split at hV
      · rename_i fa y zz hfa hy hzz
        split at hV
        · rename_i hag
          split at hV
          · rename_i y' hy'
            split at hV
            · rename_i r st1 happ
              · have hst := hV
                have hzz := full1 hzz
                have hy' := full1 hy'
                have hyy := build_one hy'
                -- a zero element is built
                obtain ⟨u5, W2, G2, run5, g2, r5⟩ := buildSlice_sound (P := P) h (parts' := #[(0, A.z)]) hzz (by simp) (fun i p q hp hq => by
                  cases i with
                  | zero => simp at hp hq; subst hp hq; exact ⟨rfl, ofValue_rep A.z⟩
                  | succ i => simp at hp)
                obtain ⟨e, E, i, hu, hE, hi, hEi, hzl, hzo⟩ := build_elem hzz
                have hk : (∃ e', P.underlying A.T = some (.slice e')) ∨ P.underlying A.T = some .string := .inl ⟨e, hu⟩
                obtain ⟨news0, hsrc, _⟩ := src_of (P := P) g2.sim (E := E) hEi hk r5 (zs := [zz]) rfl (fun z hz => by rw [List.mem_singleton.1 hz]; exact hzl) (fun z hz => by rw [List.mem_singleton.1 hz]; exact hzo)
                obtain ⟨XB, cs, vs, iE, rfl, hXB, hvs, hiE, hvl, hload⟩ := load_agg g2.sim hag (rx.le g2.le) hy
                have hnews : Reps G2 (vcells y') vs := by rw [hyy]; exact Reps.frz _ _ hvs
                obtain ⟨u6, Wz, Wx, G3, v, st1', B, T, cap, cz, hres, run6, g3, r6, hu6, hB, hvl2, hone, hfit, hWx, hos, hother, hnb⟩ := append_two (ty := y6) g2.sim hk (r3.le g2.le) happ hu hi hsrc hnews
                simp only [Res.val.injEq] at hres
                obtain ⟨rfl, rfl⟩ := hres
                obtain ⟨off2, rfl⟩ := fieldAddr_box hfa
                obtain ⟨u8, run8, r8⟩ := fieldAddr_sound (W := Wz) (r0.le g2.le) hfa
                obtain ⟨PB, c, T', hdr, hPB, hcPB, run9, G4, g4⟩ := store_exp g3.sim (r8.le g3.le) r6 hst
                have hPB2 : G2.box pb = some PB := by
                  obtain ⟨PB0, h0, _⟩ := r8
                  have := g3.le.box pb PB0 h0
                  rw [hPB] at this; cases this; exact h0
                have nPB : PB ≠ B := hnb pb PB hPB2
                have nXB : XB ≠ B := hnb xb XB hXB
                have nXP : XB ≠ PB := fun e => hne (g2.sim.inj xb pb XB hXB (e ▸ hPB2))
                have hWzPB : Wz.heap[PB]? = some (.cells c T' (0, 0)) := by rw [← hcPB, hWx, setRow_other _ _ _ _ nPB]
                have run9 := run9 Wz hWzPB
                have hWcX : (Wz.setRow PB hdr).heap[XB]? = W2.heap[XB]? := by rw [setRow_other Wz PB XB hdr nXP]; exact hother XB nXB (g2.sim.lt_box hXB).2
                have run10 := hload (Wz.setRow PB hdr) hWcX
                have hWcB : (Wz.setRow PB hdr).heap[B]? = some (.cells cz T (0, 0)) := by rw [setRow_other _ _ _ _ nPB.symm]; exact hB
                have hvi : vs.length = i.size := hvl2
                have hnx : n < ((xs.length + 1 : Nat) : Int) := by omega
                have run11 : (Instr.indexAt A.T u6 (.int k n)).run P (Wz.setRow PB hdr) = .ok (.pointer (some (adr B (xs.length * i.size)))) (Wz.setRow PB hdr) := by
                  rw [hu6]
                  simp [Instr.indexAt, asIntOf, run_underlying hu, hn0, sizeOf, typeInfo, hi, adr_add, hnl]
                  omega
                have run12 := run_store_at (P := P) hiE hWcB (v := .agg vs.toArray) (off := xs.length * i.size) (by simpa [Value.cells] using hvl) (by omega) (by simpa [Value.cells] using hone)
                have hvi2 : iE.size = i.size := by omega
                rw [hvi2] at run12
                simp only [Value.cells] at run12
                have gg := (g2.trans g3).trans g4
                obtain ⟨PB1, hPB1, ep0⟩ := r0
                simp only [Rep] at r4
                subst r4
                refine ⟨u5, W2, u6, Wz, u8, Wz.setRow PB hdr, .agg vs.toArray, _, _, PB1, off, G4, run5, run6, ep0, run8, run9, run10, run11, run12, ?_⟩
                refine gg.of_heap (heap_ext fun j => ?_) ⟨by simp [hos.1], by simp [hos.2.1], by simp [hos.2.2]⟩
                by_cases jB : j = B
                · subst jB
                  rw [setRow_heap _ _ cz _ T (0, 0) hWcB, setRow_other _ _ _ _ nPB.symm, hWx, setRow_heap _ _ cz _ T (0, 0) hB]
                · by_cases jP : j = PB
                  · subst jP
                    rw [setRow_other _ _ _ _ jB, setRow_heap _ _ c _ T' (0, 0) hWzPB, setRow_heap _ _ c _ T' (0, 0) hcPB]
                  · rw [setRow_other _ _ _ _ jB, setRow_other _ _ _ _ jP, setRow_other _ _ _ _ jP, hWx, setRow_other _ _ _ _ jB]
            · cases hV
          · cases hV
        · cases hV
      · cases hV
    · cases hV
  · cases hV
structure ArmNe (A : Arm) : Prop where
  h53 : A.a5 ≠ A.a3
  h50 : A.a5 ≠ A.a0
  h60 : A.a6 ≠ A.a0
  h54 : A.a5 ≠ A.a4
  h64 : A.a6 ≠ A.a4
  h74 : A.a7 ≠ A.a4
  h84 : A.a8 ≠ A.a4
  h5x : A.a5 ≠ A.x
  h6x : A.a6 ≠ A.x
  h7x : A.a7 ≠ A.x
  h8x : A.a8 ≠ A.x
  h76 : A.a7 ≠ A.a6
  h86 : A.a8 ≠ A.a6
  hb6 : A.b0 ≠ A.a6
  hb4 : A.b0 ≠ A.a4
  hcb : A.b1 ≠ A.b0
theorem arm_ne {A : Arm} (nd : nodupN [A.a0, A.a3, A.a4, A.x, A.a5, A.a6, A.a7, A.a8, A.b0, A.b1] = true) : ArmNe A := by
  obtain ⟨ops, pre, a0, a3, a4, a5, a6, a7, a8, b0, b1, x, S, f, T, E, z⟩ := A
  simp only [nodupN, List.contains_cons, List.contains_nil, Bool.or_false, Bool.not_or, Bool.and_eq_true, Bool.not_eq_true', beq_eq_false_iff_ne, Bool.not_false, and_true, ne_eq] at nd
  obtain ⟨⟨n1, n2, n3, n4, n5, n6, n7, n8, n9⟩, ⟨m1, m2, m3, m4, m5, m6, m7, m8⟩, ⟨k1, k2, k3, k4, k5, k6, k7⟩, ⟨j1, j2, j3, j4, j5, j6⟩, ⟨i1, i2, i3, i4, i5⟩, ⟨h1, h2, h3, h4⟩, ⟨g1, g2, g3⟩, ⟨f1, f2⟩, e1⟩ := nd
  exact ⟨fun e => m3 e.symm, fun e => n4 e.symm, fun e => n5 e.symm, fun e => k2 e.symm, fun e => k3 e.symm, fun e => k4 e.symm, fun e => k5 e.symm, fun e => j1 e.symm, fun e => j2 e.symm, fun e => j3 e.symm, fun e => j4 e.symm, fun e => h1 e.symm, fun e => h2 e.symm, fun e => h3 e.symm, fun e => k6 e.symm, fun e => e1 e.symm⟩
theorem arm_tail {A : Arm} {l B : List Oper} (hA : ArmSpec A l B) {id2 : Nat} {opsA : Array Oper} {env : Env} {st : St} {env' : Env} {st' : St} {a : Act} (h : Sim G st W) (he : Reps G env a.tmps.toList) (hd : a.defers = []) (hl : armS P A env st = some (env', st')) :
    wpList P opsA (Exit.then ((Code.region id2 B.toArray false).wp P (ExPost G W .normal env' st')) (ExPost G W .normal env' st')) l a W := by
  have r0 := opv_sound he (.tmp A.a0)
  have r3 := opv_sound he (.tmp A.a3)
  have r4 := opv_sound he (.tmp A.a4)
  have rx := opv_sound he (.tmp A.x)
  have hts : env.length = a.tmps.size := by simpa using he.length
  simp only [opv] at r0 r3 r4 rx
  obtain ⟨⟨y5, p5, f5, y6, p6, f6, y7, p7, f7, y8, p8, f8, y9, p9, f9, rfl⟩, ⟨y1, p1, f1, y2, p2, f2, y3, p3, f3, rfl⟩, nd⟩ := hA
  have N := arm_ne nd
  obtain ⟨⟨b5, b6, b7, b8, bb0, bb1⟩, rfl, u5, W2, u6, Wz, u8, Wc, ua, ub, Wd, PB, off, G4, run5, run6, ep0, run8, run9, run10, run11, run12, gg⟩ := arm_facts (y6 := y6) h r0 r3 r4 rx hl
  rw [hts] at b5 b6 b7 b8 bb0 bb1
  clear hl r0 r3 r4 rx nd hts
  have s5 : (a.put (some A.a5) u5).tmps.size = a.tmps.size := put_size
  have s6 : ((a.put (some A.a5) u5).put (some A.a6) u6).tmps.size = a.tmps.size := by rw [put_size, put_size]
  have s7 : (((a.put (some A.a5) u5).put (some A.a6) u6).put (some A.a7) (.pointer (some (adr PB off)))).tmps.size = a.tmps.size := by rw [put_size, put_size, put_size]
  have hp3 : (a.put (some A.a5) u5).eval (.tmp A.a3) = a.eval (.tmp A.a3) := eval_ne N.h53
  have hp5 : (a.put (some A.a5) u5).eval (.tmp A.a5) = u5 := eval_self b5
  have hp0 : ((a.put (some A.a5) u5).put (some A.a6) u6).eval (.tmp A.a0) = .pointer (some (adr PB off)) := by rw [eval_ne N.h60, eval_ne N.h50]; exact ep0
  have hp7 : (((a.put (some A.a5) u5).put (some A.a6) u6).put (some A.a7) (.pointer (some (adr PB off)))).eval (.tmp A.a7) = .pointer (some (adr PB off)) := eval_self (by rw [s6]; exact b7)
  have h8 : ((((a.put (some A.a5) u5).put (some A.a6) u6).put (some A.a7) (.pointer (some (adr PB off)))).put (some A.a8) u8).eval (.tmp A.a8) = u8 := eval_self (by rw [s7]; exact b8)
  have h6 : ((((a.put (some A.a5) u5).put (some A.a6) u6).put (some A.a7) (.pointer (some (adr PB off)))).put (some A.a8) u8).eval (.tmp A.a6) = u6 := by
    rw [eval_ne N.h86, eval_ne N.h76]; exact eval_self (by rw [s5]; exact b6)
  have q4 : ((((a.put (some A.a5) u5).put (some A.a6) u6).put (some A.a7) (.pointer (some (adr PB off)))).put (some A.a8) u8).eval (.tmp A.a4) = a.eval (.tmp A.a4) := by rw [eval_ne N.h84, eval_ne N.h74, eval_ne N.h64, eval_ne N.h54]
  have qx : ((((a.put (some A.a5) u5).put (some A.a6) u6).put (some A.a7) (.pointer (some (adr PB off)))).put (some A.a8) u8).eval (.tmp A.x) = a.eval (.tmp A.x) := by rw [eval_ne N.h8x, eval_ne N.h7x, eval_ne N.h6x, eval_ne N.h5x]
  have s8 : ((((a.put (some A.a5) u5).put (some A.a6) u6).put (some A.a7) (.pointer (some (adr PB off)))).put (some A.a8) u8).tmps.size = a.tmps.size := by rw [put_size, put_size, put_size, put_size]
  have hrep : ∀ (x y : Value), Reps G4 ((((((env.set A.a5 .undef).set A.a6 .undef).set A.a7 .undef).set A.a8 .undef).set A.b0 .undef).set A.b1 .undef)
      ((((((a.put (some A.a5) u5).put (some A.a6) u6).put (some A.a7) (.pointer (some (adr PB off)))).put (some A.a8) u8).put (some A.b0) x).put (some A.b1) y).tmps.toList := fun x y =>
    reps_put (dst := some A.b1) (reps_put (dst := some A.b0) (reps_put (dst := some A.a8) (reps_put (dst := some A.a7) (reps_put (dst := some A.a6) (reps_put (dst := some A.a5) (he.le gg.le) trivial) trivial) trivial) trivial) trivial) trivial
  refine wp_one rfl (u := u5) (W' := W2) (by simp [execOp, Act.eval, run5]) ?_
  refine wp_one rfl (u := u6) (W' := Wz) (by simp [execOp, resolve, invoke, builtin, hp3, hp5, run6]) ?_
  refine wp_one rfl (u := .pointer (some (adr PB off))) (W' := Wz) (by simp only [execOp, hp0]; rfl) ?_
  rw [ep0] at run8
  refine wp_one rfl (u := u8) (W' := Wz) (by simp only [execOp, hp7, Sem.run_bind, run8, Result.andThen_ok, Sem.run_pure]) ?_
  simp only
  generalize ha4 : (((a.put (some A.a5) u5).put (some A.a6) u6).put (some A.a7) (.pointer (some (adr PB off)))).put (some A.a8) u8 = a4 at *
  have hd4 : a4.defers = [] := by rw [← ha4]; simp only [put_defers]; exact hd
  clear ha4
  refine wp_skip1 rfl (W' := Wc) (by simp only [execOp, h8, h6, Sem.run_bind, run9, Result.andThen_ok, Sem.run_pure]) ?_
  refine wpList_nil ?_
  show (Code.region id2 _ false).wp P _ a4 _
  refine wp_region_list ?_
  simp only [List.toList_toArray]
  refine wp_one rfl (u := ua) (W' := Wc) (by simp only [execOp, qx, Sem.run_bind, run10, Result.andThen_ok, Sem.run_pure]) ?_
  have k6 : (a4.put (some A.b0) ua).eval (.tmp A.a6) = u6 := by rw [eval_ne N.hb6]; exact h6
  have k4 : (a4.put (some A.b0) ua).eval (.tmp A.a4) = a.eval (.tmp A.a4) := by rw [eval_ne N.hb4]; exact q4
  refine wp_one rfl (u := ub) (W' := Wc) (by simp only [execOp, k6, k4, Sem.run_bind, run11, Result.andThen_ok, Sem.run_pure]) ?_
  have h1 : ((a4.put (some A.b0) ua).put (some A.b1) ub).eval (.tmp A.b1) = ub := eval_self (by rw [put_size, s8]; exact bb1)
  have h0 : ((a4.put (some A.b0) ua).put (some A.b1) ub).eval (.tmp A.b0) = ua := by rw [eval_ne N.hcb]; exact eval_self (by rw [s8]; exact bb0)
  refine wp_skip1 rfl (W' := Wd) (by simp only [execOp, h1, h0, Sem.run_bind, run12, Result.andThen_ok, Sem.run_pure]) ?_
  exact wpList_nil ⟨G4, gg, by simp only [put_defers]; exact hd4, rfl, hrep ua ub⟩
theorem arm_sound {cl : Oracle} (hcl : Sound P cl) {A : Arm} {code : Code} (hA : armOf code = some A) {env : Env} {st : St} {a : Act} {ex : Ex} {env' : Env} {st' : St} (h : Sim G st W) (he : Reps G env a.tmps.toList) (hd : a.defers = [])
    (hl : armX P cl A env st = some (ex, env', st')) : code.wp P (ExPost G W ex env' st') a W := by
  unfold armOf at hA
  split at hA
  · rename_i i1 opsA i2 opsB
    obtain ⟨rfl, hpre, hspec⟩ := arm5_spec hA
    unfold armX at hl
    split at hl
    · rename_i e s hreg
      split at hl
      · rename_i e2 s2 hS
        cases hl
        refine wp_seq (wp_region_list ?_)
        rw [← List.take_append_drop (A.ops.toList.length - 5) A.ops.toList, ← hpre]
        have hp := regionL_sound hcl A.pre h he hd hreg (ops := A.ops)
        refine wpList_app (R := fun a' W' => ∃ G', Good G W G' s W' ∧ a'.defers = [] ∧ Reps G' e a'.tmps.toList) (fun a' W' hR => ?_) (wpList_mono (fun ex a' W' q => ?_) hp)
        · obtain ⟨G', g', hd', he'⟩ := hR
          have ht := arm_tail (id2 := i2) (opsA := A.ops) hspec g'.sim he' hd' hS
          rw [show opsB.toList.toArray = opsB by simp] at ht
          refine wpList_mono (fun ex a'' W'' q => ?_) ht
          cases ex <;> simp only [Exit.then] at q ⊢ <;> first | exact wp_mono q fun e a w q => ExPost.trans g' q | exact ExPost.trans g' q
        · obtain ⟨G', g', hd', rfl, he'⟩ := q
          exact ⟨rfl, G', g', hd', he'⟩
      · cases hl
    · cases hl
  · cases hA
end Go.Abs
