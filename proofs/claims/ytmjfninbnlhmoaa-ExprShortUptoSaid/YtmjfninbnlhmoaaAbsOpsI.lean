/- append. -/
import Derived.Test.YtmjfninbnlhmoaaAbsOpsH
namespace Go.Abs
open Go

variable {P : Program} {G : Ghost} {st : St} {W : World}

theorem flat_len {s : Nat} : ∀ {ys : List V}, (∀ x ∈ ys, (vcells x).length = s) → (ys.flatMap vcells).length = ys.length * s
  | [], _ => by simp
  | y :: ys, hy => by
    rw [List.flatMap_cons, List.length_append, hy y (by simp), flat_len (fun x hx => hy x (by simp [hx])), List.length_cons, Nat.add_mul]; omega

theorem flat_refs {xs : List V} (h : ∀ x ∈ xs, refs x = []) : refsL (xs.flatMap vcells) = [] := by
  rw [refsL_nil_iff]; intro y hy
  obtain ⟨x, hx, hy⟩ := List.mem_flatMap.1 hy
  have := refs_vcells x
  rw [h x hx] at this
  exact refsL_nil_iff.1 this y hy

/- what is appended -/
theorem src_of (h : Sim G st W) {E : TI} {i : TypeInfo} (hE : E.size = i.size) {tx : TypeId} (hk : (∃ e', P.underlying tx = some (.slice e')) ∨ P.underlying tx = some .string)
    {x : V} {ux : Value} (hx : Rep G x ux) {zs : List V} (hz : appElems E x = some zs) (hs : ∀ z ∈ zs, (vcells z).length = E.size) (ho : ∀ z ∈ zs, elemOk z = true) :
    ∃ news, Src P i.size tx ux zs.length news W ∧ Reps G (zs.flatMap vcells) news := by
  have hcell : ∀ {news : List Value}, Reps G (zs.flatMap vcells) news → (∀ u ∈ news, u.oneCell' = true) ∧ news.length = zs.length * i.size := fun {news} hr =>
    ⟨Reps.one hr (List.all_eq_true.2 fun y hy => by
      obtain ⟨x, hx, hy⟩ := List.mem_flatMap.1 hy
      exact List.all_eq_true.1 (elemOk_spec (ho x hx)).2 y hy), by rw [← hr.length, flat_len hs, hE]⟩
  cases x <;> simp only [appElems, reduceCtorEq, Option.some.injEq] at hz
  case slice o ys =>
    subst hz
    obtain ⟨a, cap, rfl, hle, _, _, _, hcase⟩ := hx
    rcases hcase with rfl | ⟨B, off, rfl, hr⟩
    · cases a with
      | none => exact ⟨[], ⟨hk, fun _ => rfl, run_firstCells_none W i.size 0 0 cap, run_firstCells_none W.drew i.size 0 0 cap, by simp, by simp⟩, rfl⟩
      | some ad => exact ⟨[], ⟨hk, fun _ => rfl, run_firstCells_some W i.size 0 ad 0 cap [] (by simp) (fun j v e => by simp at e),
          run_firstCells_some W.drew i.size 0 ad 0 cap [] (by simp) (fun j v e => by simp at e), by simp, by simp⟩, rfl⟩
    · rw [readsE_flat] at hr
      obtain ⟨vs, k1, _, k3⟩ := hr.exists
      obtain ⟨c1, c2⟩ := hcell k1
      have hc : ∀ (j : Nat) v, vs[j]? = some v → W.cell? ((adr B off).add j) = some v := fun j v e => by rw [adr_add]; exact h.cell (k3 j v e)
      exact ⟨vs, ⟨hk, fun _ => rfl, run_firstCells_some W i.size ys.length (adr B off) ys.length cap vs c2 hc,
        run_firstCells_some W.drew i.size ys.length (adr B off) ys.length cap vs c2 hc, c2, c1⟩, k1⟩
  case str bs =>
    split at hz
    · rename_i h1
      cases hz
      obtain ⟨z, rfl, rfl⟩ := hx
      have hi : i.size = 1 := by omega
      have hr : Reps G ((z.data.toList.map fun b => V.int .u8 b.toNat).flatMap vcells) (byteCells z) := by
        unfold byteCells
        generalize z.data.toList = l
        induction l with
        | nil => rfl
        | cons b l ih => exact ⟨.int .u8 b.toNat, _, rfl, rfl, ih⟩
      obtain ⟨c1, c2⟩ := hcell hr
      refine ⟨byteCells z, ?_, hr⟩
      have hl : (z.data.toList.map fun b => V.int .u8 b.toNat).length = z.size := by simp
      rw [hl, hi]
      exact ⟨hk, fun _ => rfl, firstCells_string z W, firstCells_string z W.drew, by rw [byteCells_length, Nat.mul_one], c1⟩
    · cases hz

theorem run_append_nothing {t tx ty e : TypeId} {i : TypeInfo} (ht : P.underlying t = some (.slice e)) (hi : P.info? e = some i) {base : Option Addr} {n cap : Nat} (hn : n ≤ cap) {x : Value} {news : List Value} (hs : Src P i.size tx x 0 news W) :
    (Builtin.append_ #[t, tx] ty #[.slice base n cap, x]).run P W = .ok (.slice base n cap) W := by
  have hnil : news = [] := List.eq_nil_of_length_eq_zero (by simpa using hs.newsLen)
  subst hnil
  have hc := hs.cells
  rcases hs.kind with ⟨e', hk⟩ | hk <;> cases base <;> simp [Builtin.append_, run_underlying ht, run_underlying hk, sizeOf, typeInfo, hi, hs.len, hn, hc, storeCells]

theorem run_append_row {t tx ty e : TypeId} {i : TypeInfo} (ht : P.underlying t = some (.slice e)) (hi : P.info? e = some i) {B n cap : Nat} {cur : Array Value} {T : TypeId} (hg : W.heap[B]? = some (.cells cur T (0, 0)))
    {x : Value} {m : Nat} {news : List Value} (hs : Src P i.size tx x m news W) (hroom : n + m ≤ cap) (hfit : n * i.size + news.length ≤ cur.size) :
    (Builtin.append_ #[t, tx] ty #[.slice (some (adr B 0)) n cap, x]).run P W =
      .ok (.slice (some (adr B 0)) (n + m) cap) (W.setRow B (cur.toList.take (n * i.size) ++ news ++ cur.toList.drop (n * i.size + news.length)).toArray) := by
  have hst := run_storeCells_at P B (n * i.size) T news 0 cur W hg (by simpa using hfit) hs.one
  simp only [Nat.add_zero] at hst
  have had : (adr B 0).add (n * i.size) = ⟨B, n * i.size, none⟩ := by rw [adr_add]; simp [adr]
  rcases hs.kind with ⟨e', hk⟩ | hk <;> simp [Builtin.append_, run_underlying ht, run_underlying hk, sizeOf, typeInfo, hi, hs.len, hroom, hs.cells, had, hst]

theorem zeroCells_size (z : Array Value) (n : Nat) : (Builtin.zeroCells z n).size = n * z.size := by simp [Builtin.zeroCells]

theorem append_sound (h : Sim G st W) {t tx ty : TypeId} (hk : (∃ e', P.underlying tx = some (.slice e')) ∨ P.underlying tx = some .string) {s x : V} {us ux : Value} (hs : Rep G s us) (hx : Rep G x ux)
    {res : Res} (hl : appendV P t s x st = some res) :
    ∃ u W' G' v st', res = .val v st' ∧ (Builtin.append_ #[t, tx] ty #[us, ux]).run P W = .ok u W' ∧ Good G W G' st' W' ∧ Rep G' v u := by
  unfold appendV at hl
  cases hT : ti P t with
  | none => simp [hT] at hl
  | some T =>
    obtain ⟨i0, d, z0, h1, h2, -, -, h3, -⟩ := ti_spec hT
    obtain ⟨D, sz, by_, ze, eq⟩ := T
    simp only at h3
    rw [hT] at hl
    cases D <;> try (cases s <;> simp at hl; done)
    case slice e =>
      have := dOf_slice h3; subst this
      cases s <;> try (simp at hl; done)
      case slice o xs =>
        simp only at hl
        cases hE : ti P e with
        | none => simp [hE] at hl
        | some E =>
          obtain ⟨i, d', z, hi, -, hz, hzs, -, hsz, hby, -⟩ := ti_spec hE
          simp only [hE] at hl
          cases hzz : appElems E x with
          | none => simp [hzz] at hl
          | some zs =>
            simp only [hzz] at hl
            split at hl
            · rename_i hc
              obtain ⟨hc1, hc2, hc3, hc4, hc5, hc6⟩ := hc
              have hzl : ∀ z ∈ zs, (vcells z).length = E.size := fun z hz => by have := List.all_eq_true.1 hc1 z hz; simp at this; exact this.2
              have hzo : ∀ z ∈ zs, elemOk z = true := fun z hz => by have := List.all_eq_true.1 hc1 z hz; simp at this; exact this.1
              have hxl := all_len hc2
              have hzr : ∀ z ∈ zs, refs z = [] := fun z hz => (elemOk_spec (hzo z hz)).1
              obtain ⟨news, hsrc, hnews⟩ := src_of (P := P) h hsz hk hx hzz hzl hzo
              have hnl : news.length = zs.length * i.size := hsrc.newsLen
              obtain ⟨a, cap, rfl, hcap, hown, hxr, _, hcase⟩ := hs
              have hall : ∀ y ∈ xs ++ zs, refs y = [] := fun y hy => (List.mem_append.1 hy).elim (hxr y) (hzr y)
              have halln : ∀ y ∈ xs ++ zs, (vcells y).length = E.size := fun y hy => (List.mem_append.1 hy).elim (hxl y) (hzl y)
              -- the old cells
              obtain ⟨olds, holds1, holds2, holds3⟩ : ∃ olds : List Value, Reps G (xs.flatMap vcells) olds ∧ (∀ u ∈ olds, u.oneCell' = true) ∧
                  (Builtin.firstCells i.size xs.length (.slice a xs.length cap)).run P W.drew = .ok olds.toArray W.drew := by
                rcases hcase with rfl | ⟨B, off, rfl, hr⟩
                · cases a with
                  | none => exact ⟨[], rfl, by simp, run_firstCells_none W.drew i.size 0 0 cap⟩
                  | some ad => exact ⟨[], rfl, by simp, run_firstCells_some W.drew i.size 0 ad 0 cap [] (by simp) (fun j v e => by simp at e)⟩
                · rw [readsE_flat] at hr
                  obtain ⟨vs, k1, k2, k3⟩ := hr.exists
                  have hc : ∀ (j : Nat) v, vs[j]? = some v → W.drew.cell? ((adr B off).add j) = some v := fun j v e => by rw [adr_add]; exact h.cell (k3 j v e)
                  exact ⟨vs, k1, k2, run_firstCells_some W.drew i.size xs.length (adr B off) xs.length cap vs (by rw [← k1.length, flat_len hxl, hsz]) hc⟩
              have holen : olds.length = xs.length * i.size := by rw [← holds1.length, flat_len hxl, hsz]
              -- growing
              have grow : ∀ b st', cap < xs.length + zs.length → G.box b = none → (∀ d', G.hdr b = some d' → d'.tip = xs.length) → (∀ d', G.hdr b = some d' → 0 < xs.length → d'.size = i.size) → st.length ≤ st'.length →
                  (∀ b' y, b' ≠ b → st[b']? = some y → st'[b']? = some y) → st'[b]? = some [.tip (xs.length + zs.length)] →
                  ∃ u W' G', (Builtin.append_ #[t, tx] ty #[.slice a xs.length cap, ux]).run P W = .ok u W' ∧ Good G W G' st' W' ∧ Rep G' (.slice (.own b) (xs ++ zs)) u := by
                intro b st' hgt hnob hle hdsz hlen hget hb
                have hrun := run_append_grow_src (P := P) W t tx ty e i z h2 hi hz a xs.length cap olds holds3 ux zs.length news hsrc hgt (by omega)
                  (growslice_fits (by omega) (by rw [← hby]; omega))
                have hge := grownCap_ge W (xs.length + zs.length) cap e
                have hg := Good.newTip h (b := b) (d := ⟨some (W.heap.size, 0), grownCap W (xs.length + zs.length) cap e, i.size, xs.length + zs.length⟩) (st' := st') hnob
                  (fun d' hd' => ⟨by rw [hle d' hd']; exact Nat.le_add_right _ _, fun e' => by
                    have e1 := hle d' hd'
                    have e2 : d'.tip = xs.length + zs.length := e'
                    have e3 : zs.length = 0 := by omega
                    omega, fun hp => by
                    rw [hle d' hd'] at hp
                    exact hdsz d' hd' hp⟩) hlen hget hb
                  ((olds ++ news).toArray ++ Builtin.zeroCells z.cells (grownCap W (xs.length + zs.length) cap e - (xs.length + zs.length))) e (olds ++ news)
                  (fun j v hj => by
                    have hj' := (List.getElem?_eq_some_iff.1 hj).1
                    rw [Array.getElem?_append_left (by simpa using hj')]; simpa using hj) rfl hge (by show 0 < xs.length + zs.length; omega)
                  (by
                    simp only [Array.size_append, List.size_toArray, List.length_append, zeroCells_size, hzs, holen, hnl]
                    rw [← Nat.add_mul, ← Nat.add_mul]
                    exact Nat.mul_le_mul_right _ (by omega))
                  (by simp only [List.length_append, holen, hnl]; rw [Nat.add_mul]; omega)
                refine ⟨_, _, _, hrun, hg, some (adr W.heap.size 0), _, by rw [List.length_append]; rfl, by rw [List.length_append]; exact hge, ?_, hall, ⟨_, halln⟩, .inr ⟨W.heap.size, 0, rfl, ?_⟩⟩
                · exact ⟨⟨some (W.heap.size, 0), grownCap W (xs.length + zs.length) cap e, i.size, xs.length + zs.length⟩, by simp only [Ghost.addHdr, if_true], by simp, fun _ => ⟨rfl, rfl⟩, fun y hy => by rw [halln y hy]; exact hsz⟩
                · rw [readsE_flat, List.flatMap_append]
                  refine Reads.of_reps hg.ext.imm (holds1.append hnews) (fun u hu => (List.mem_append.1 hu).elim (holds2 u) (hsrc.one u)) (by rw [refsL_append, flat_refs hxr, flat_refs hzr]; rfl) fun j v hj => ?_
                  exact Ghost.fill_in G W.heap.size 0 (olds ++ news) hj
              cases o with
              | froz => simp at hl
              | full =>
                simp only [Option.some.injEq] at hl
                subst hl
                have hcapn : cap = xs.length := hown.1
                by_cases hm : zs.length = 0
                · have hznil : zs = [] := List.eq_nil_of_length_eq_zero hm
                  subst hznil
                  obtain ⟨G', g, r⟩ := adopt_full h (u := .slice a xs.length cap) ⟨a, cap, rfl, hcap, hown, hxr, ⟨_, hxl⟩, hcase⟩
                  exact ⟨_, W, G', _, _, rfl, run_append_nothing h2 hi hcap hsrc, by simpa using g, by simpa using r⟩
                · have hd := h.dom st.length (Nat.le_refl _)
                  obtain ⟨u, W', G', q1, q2, q3⟩ := grow st.length (st ++ [[.tip (xs.length + zs.length)]]) (by omega) hd.1 (fun d' hd' => by rw [hd.2] at hd'; cases hd') (fun d' hd' => by rw [hd.2] at hd'; cases hd') (by simp)
                    (fun b' y _ hy => by rw [List.getElem?_append_left (List.getElem?_eq_some_iff.1 hy).1]; exact hy) (by simp)
                  exact ⟨u, W', G', _, _, rfl, q1, q2, q3⟩
              | own b =>
                simp only at hl
                split at hl
                · rename_i htip
                  simp only [Option.some.injEq] at hl
                  subst hl
                  obtain ⟨hd, hd1, hd2, hd3, hd4⟩ := hown
                  have t := h.tip b hd hd1
                  have htl : hd.tip = xs.length := by
                    simp only [tipIs, t.st, beq_iff_eq] at htip
                    exact htip
                  obtain ⟨hda, hdc⟩ := hd3 htl.symm
                  have hbl := h.lt_hdr hd1
                  have hdsz : 0 < xs.length → hd.size = i.size := fun hp => by
                    obtain ⟨y, hy⟩ := List.exists_mem_of_length_pos hp
                    rw [← hd4 y hy, hxl y hy, hsz]
                  by_cases hroom : xs.length + zs.length ≤ cap
                  · by_cases hm : zs.length = 0
                    · have hznil : zs = [] := List.eq_nil_of_length_eq_zero hm
                      subst hznil
                      have hset : st.set b [.tip (xs.length + 0)] = st := by
                        apply List.ext_getElem? ; intro j
                        by_cases hj : j = b
                        · subst hj; rw [t.st, Nat.add_zero, ← htl]; simp [hbl]
                        · rw [List.getElem?_set_ne (Ne.symm hj)]
                      refine ⟨_, W, G, _, _, rfl, run_append_nothing h2 hi hcap hsrc, ?_, ?_⟩
                      · simp only [List.length_nil]; rw [hset]; exact .refl h
                      · rw [List.append_nil]; exact ⟨a, cap, rfl, hcap, ⟨hd, hd1, hd2, hd3, hd4⟩, hxr, ⟨_, hxl⟩, hcase⟩
                    · obtain ⟨B, c, T, r1, r2, r3, r4, r5⟩ := t.room (by omega)
                      have hab : a = some (adr B 0) := by rw [hda, r1]; rfl
                      have hds := hdsz (by have := t.pos (by omega); omega)
                      have hfit : xs.length * i.size + news.length ≤ c.size := by
                        rw [hnl, ← Nat.add_mul]
                        refine Nat.le_trans (Nat.mul_le_mul_right _ hroom) ?_
                        rw [hdc, ← hds]; exact r3
                      have hg := Good.tipRoom h hd1 (m := zs.length) (by omega) (by omega) r1 r2 r3 news (by rw [hnl, hds])
                      have hrun := run_append_row (P := P) (ty := ty) h2 hi r2 hsrc hroom hfit
                      rw [hds, htl] at hg
                      refine ⟨_, _, _, _, _, rfl, by rw [hab]; exact hrun, hg, some (adr B 0), cap, by rw [List.length_append], by rw [List.length_append]; exact hroom,
                        ⟨{ hd with size := i.size, tip := xs.length + zs.length }, by simp only [Ghost.addHdr, if_true], by simp, fun _ => ⟨by rw [r1]; rfl, hdc⟩, fun y hy => by rw [halln y hy]; exact hsz⟩, hall, ⟨_, halln⟩, .inr ⟨B, 0, rfl, ?_⟩⟩
                      rw [readsE_flat, List.flatMap_append, Reads.append]
                      rcases hcase with rfl | ⟨B', off', hab', hr⟩
                      · have := t.pos (by omega); simp at htl; omega
                      · rw [hab] at hab'
                        have hBB : B' = B ∧ off' = 0 := by simp [adr] at hab'; exact ⟨hab'.1.symm, hab'.2.symm⟩
                        obtain ⟨rfl, rfl⟩ := hBB
                        rw [readsE_flat] at hr
                        refine ⟨Reads.tr (ρ := id) _ _ _ ⟨hg.ext.imm, by simp [flat_refs hxr], by simp [flat_refs hxr]⟩ (flat_refs hxr) hr, ?_⟩
                        refine Reads.of_reps hg.ext.imm hnews hsrc.one (flat_refs hzr) fun j v hj => ?_
                        have := Ghost.fill_in G B' (xs.length * i.size) news hj
                        rw [flat_len hxl, hsz, Nat.zero_add]
                        exact this
                  · obtain ⟨u, W', G', q1, q2, q3⟩ := grow b (st.set b [.tip (xs.length + zs.length)]) (by omega) t.nobox (fun d' hd' => by rw [hd1] at hd'; cases hd'; exact htl) (fun d' hd' hp => by rw [hd1] at hd'; cases hd'; exact hdsz hp) (by simp)
                      (fun b' y hne hy => by rw [List.getElem?_set_ne (Ne.symm hne)]; exact hy) (by simp [hbl])
                    exact ⟨u, W', G', _, _, rfl, q1, q2, q3⟩
                · cases hl
            · cases hl

end Go.Abs
