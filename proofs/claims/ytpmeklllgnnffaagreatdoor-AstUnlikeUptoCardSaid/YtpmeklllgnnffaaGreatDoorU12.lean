/- Arguments read as plain data, and a law's whole run. -/
import Derived.Test.YtpmeklllgnnffaaGreatDoorU11
import Derived.Deep.DeepHandedRow
import Derived.OpenShut
import Derived.Deep.Slices
set_option linter.unusedSimpArgs false
set_option linter.unusedVariables false

namespace Go.Abs
open Go

/- all memory that there is, never written -/
def G0 (W : World) : Ghost :=
  { imm := fun B o => match W.heap[B]? with
      | some (.cells c _ _) => c[o]?
      | _ => none, box := fun _ => none, hdr := fun _ => none, fix := fun B => W.heap[B]? }

theorem imm_cells {W : World} {B o : Nat} {v : Value} (h : (G0 W).imm B o = some v) : ∃ c T f, W.heap[B]? = some (.cells c T f) ∧ c[o]? = some v := by
  simp only [G0] at h
  cases hb : W.heap[B]? with
  | none => rw [hb] at h; cases h
  | some x =>
    rw [hb] at h
    cases x <;> first | (cases h; done) | exact ⟨_, _, _, rfl, h⟩

theorem tb0 (W : World) (B : Nat) : ¬ TB (G0 W) B := fun t => by
  rcases t with ⟨b, h⟩ | ⟨b, d, h, _⟩ <;> cases h

theorem sim0 {W : World} (hB : baseOk (G0 W).imm (G0 W).fix) : Sim (G0 W) [] W :=
  ⟨⟨fun _ _ _ h => imm_cells h, fun _ _ => ⟨rfl, rfl⟩, fun _ _ h => (by cases h), fun _ _ _ h => (by cases h), fun _ _ h => (by cases h), fun _ _ _ _ h => (by cases h), hB, fun _ h => (by cases h)⟩, fun B _ h => ⟨h, tb0 W B⟩⟩

theorem imm0 {W : World} {a : Addr} {v : Value} (h : W.cell? a = some v) : a.spot = none ∧ (G0 W).imm a.block a.off = some v := by
  unfold World.cell? at h
  cases hb : W.heap[a.block]? with
  | none => rw [hb] at h; cases h
  | some x =>
    rw [hb] at h
    cases x <;> try (cases h; done)
    simp only at h
    split at h
    · cases h
    · rename_i hs
      exact ⟨by simpa using hs, by simp only [G0, hb]; exact h⟩

/- what is new behind a call is new; all else is as it was -/
theorem good_below {G : Ghost} {st : St} {W W' : World} (h : Sim G st W) (hb : RowKit.Below W.heap.size W W') : Good G W G st W' := by
  have old : ∀ {B : Nat} {x : Obj}, W.heap[B]? = some x → W'.heap[B]? = some x := fun {B x} e => by
    rw [hb.block B (Array.getElem?_eq_some_iff.1 e).1]; exact e
  exact mkGood h ⟨fun B o v e => by obtain ⟨c, T, f, h1, h2⟩ := h.imm B o v e; exact ⟨c, T, f, old h1, h2⟩, h.dom,
    fun b B hb => by obtain ⟨⟨cs, c, T, h1, h2, h3⟩, h4⟩ := h.box b B hb; exact ⟨⟨cs, c, T, h1, old h2, h3⟩, h4⟩, h.inj,
    fun b d hd => by
      have t := h.tip b d hd
      exact ⟨t.st, t.nobox, t.le, t.none, t.pos, fun hr => by
        obtain ⟨B, c, T, h1, h2, h3⟩ := t.room hr
        exact ⟨B, c, T, h1, old h2, h3⟩⟩, h.tinj, h.base, h.res⟩
    ⟨fun _ _ _ h => h, hb.size, fun B hB _ => hb.block B hB, fun _ _ _ _ => rfl, fun _ _ h => h, ⟨hb.os, hb.tape, hb.output⟩, rfl⟩ (.refl _) (fun _ h => h)

/- a law's run: it comes back with true, and what there was is as it was -/
theorem law_calls {P : Program} {pr : Prims} (hm : P.follows .mixedOrders = true) (hN : NoNum P) (hp : ∀ f p, pr f = some p → PrimSound P f p) {f : FuncId} {fn : Func} {c : Code} (hf : P.funcs[f]? = some fn) (hb : fn.body = some c)
    {args : List V} {vs : Array Value} {W : World} (hB : baseOk (G0 W).imm (G0 W).fix) (hr : Reps (G0 W) args vs.toList) (he : ev P pr f args [] = some (.ret (.bool true), [])) :
    Calls P f vs W fun e W' => e = .returned (.bool true) ∧ RowKit.Below W.heap.size W W' := by
  have h := ev_sound hm hN hp f args [] _ _ he (G0 W) W vs (sim0 hB) hr
  unfold Does at h
  rw [callFunc_enter hN hf hb] at h
  refine Calls.mono h fun e W' ⟨G', u, g, e1, e2⟩ => ?_
  simp only [Rep] at e2
  subst e2
  exact ⟨e1, g.ext.env.1, g.ext.env.2.1, g.ext.env.2.2, g.ext.size, fun k hk => g.ext.keep k hk (tb0 W k)⟩

section
variable {H : Type} {enc : TypeId × Value → H} {P : Program} {W : World}

theorem Below.kept {W W' : World} (h : RowKit.Below W.heap.size W W') (may : MemPlace → Prop) : W.keptBut W' may := by
  refine ⟨h.os, h.output, fun i hi => ?_⟩
  rw [h.block i hi]
  split
  · rename_i h1 h2
    rw [h1] at h2; cases h2
    exact ⟨rfl, rfl, rfl, fun _ _ => rfl⟩
  · rename_i h1 h2
    rw [h1] at h2; cases h2
    exact .inr ⟨rfl, rfl⟩
  · rfl

/- what the row asks behind a law that came back with true -/
theorem post_true {fn : Func} {s : ChangeSpec} {W' : World} {args : Array Value} {ds gs : List (DataW H)} {before : List MemPlace} (hl : laidOutB P = true) {tb : TypeId} (hres : fn.resultTypes = #[tb]) (htb : P.underlying tb = some .bool)
    (hpar : ∀ t ∈ fn.params.toList, P.readableRec t = true ∧ t < P.types.size) (hW : DataW.Whole enc P fn.params.toList s.vars false W args.toList ds gs before) (hv : s.vars = [])
    (hs : (s.fn H (ds ++ gs)).results = [.lit (.bool true)] ∧ (s.fn H (ds ++ gs)).args = ds ∧ (s.fn H (ds ++ gs)).vars = []) (hb : RowKit.Below W.heap.size W W') :
    s.post enc P fn false true false false W args (.bool true) W' := by
  have hW0 := hW
  obtain ⟨p, q, hA, hV, rfl, hfz, hnd⟩ := hW
  have hlt : ∀ x ∈ p, x.block < W.heap.size := fun x hx => hW0.lt x (List.mem_append_left _ hx)
  have carry : ∀ {ts : List TypeId} {vs : List Value} {ds : List (DataW H)} {p : List MemPlace}, (∀ t ∈ ts, P.readableRec t = true ∧ t < P.types.size) → (∀ x ∈ p, x.block < W.heap.size) → DataW.TrodAll enc P W 0 (fun _ => true) true ts vs ds p →
      DataW.TrodAll enc P W' 0 (fun b => decide (b < W.heap.size)) true ts vs ds p := by
    intro ts
    induction ts with
    | nil => intro vs ds p _ _ h; obtain ⟨rfl, rfl, rfl⟩ := ChangeShapes.trodAll_nil h; exact rfl
    | cons t ts ih =>
      intro vs ds p ht hlt h
      obtain ⟨v, vs1, d, ds1, a, b, rfl, rfl, rfl, h1, h2⟩ := ChangeShapes.trodAll_cons h
      exact ⟨a, b, RowKit.Below.trod hl (ht t (by simp)).1 (ht t (by simp)).2 h1 hb (fun x hx => hlt x (by simp [hx])), ih (fun t' h' => ht t' (by simp [h'])) (fun x hx => hlt x (by simp [hx])) h2, rfl⟩
  obtain ⟨s1, s2, s3⟩ := hs
  refine ⟨ds, gs, p ++ q, [], p, [], hW0, ?_, ?_, ?_, Below.kept hb _, fun h => by cases h⟩
  · rw [s1, hres]
    exact ⟨[], [], ⟨1, by simp [DataW.trod, Value.cells, htb]⟩, rfl, rfl⟩
  · rw [s2]; exact carry hpar hlt hA
  · rw [s3, hv]; exact rfl

/- how a type's values are written -/
structure Well {α : Type} (P : Program) (t : TypeId) (E : α → V) : Prop where
  len : ∀ a, (vcells (E a)).length = P.cellsOf t
  refs : ∀ a, refs (E a) = []
  ok : ∀ a, (vcells (E a)).all cellOk = true

/- what reads as data of a type reads as a value so written -/
def Rd {H : Type} (enc : TypeId × Value → H) (P : Program) (W : World) (n : Nat) (t : TypeId) {α : Type} (E : α → V) (Q : α → Prop) : Prop :=
  ∀ cs x, DataW.trod enc P W 0 (fun _ => true) true n t cs = some x → ∃ a, Q a ∧ Reps (G0 W) (vcells (E a)) cs

theorem Rd.map {n : Nat} {t : TypeId} {α β : Type} {E : α → V} {E' : β → V} {Q : α → Prop} {Q' : β → Prop} (h : Rd enc P W n t E Q) (f : α → β) (hf : ∀ a, Q a → Q' (f a) ∧ vcells (E' (f a)) = vcells (E a)) : Rd enc P W n t E' Q' :=
  fun cs x hx => let ⟨a, q, r⟩ := h cs x hx; ⟨f a, (hf a q).1, (hf a q).2 ▸ r⟩

theorem Rd.bool {t : TypeId} (ht : P.underlying t = some .bool) (n : Nat) : Rd enc P W n t V.bool (fun _ => True) := fun cs x h => by
  obtain ⟨b, rfl, _⟩ := DataW.trod_bool ht h
  exact ⟨b, trivial, _, _, rfl, rfl, rfl⟩

theorem Rd.int {t : TypeId} {k : IntKind} (ht : P.underlying t = some (.int k)) (n : Nat) : Rd enc P W n t (V.int k) (fun m => (Lit.int k m).wf = true) := fun cs x h => by
  obtain ⟨m, rfl, _, hw⟩ := DataW.trod_int ht h
  exact ⟨m, hw, _, _, rfl, rfl, rfl⟩

theorem Rd.str {t : TypeId} (ht : P.underlying t = some .string) (n : Nat) : Rd enc P W n t V.str (fun s => s.length ≤ maxLen) := fun cs x h => by
  obtain ⟨s, rfl, _, hs⟩ := DataW.trod_string ht h
  exact ⟨s.data.toList, by simpa using hs, _, _, rfl, ⟨s, rfl, rfl⟩, rfl⟩

theorem cells_of {a : Addr} {m : Nat} {cs : List Value} (h : W.cells? 0 a m = some cs) : cs.length = m ∧ ∀ j, j < m → W.cell? (a.add j) = cs[j]? := by
  unfold World.cells? at h
  rw [if_pos (Nat.zero_le _)] at h
  have : ∀ (l : List Nat) (cs : List Value), l.mapM (fun i => W.cell? (a.add i)) = some cs → cs.length = l.length ∧ ∀ j (hj : j < l.length), W.cell? (a.add l[j]) = cs[j]? := by
    intro l
    induction l with
    | nil => intro cs h; simp at h; subst h; simp
    | cons i l ih =>
      intro cs h
      rw [List.mapM_cons] at h
      cases hc : W.cell? (a.add i) with
      | none => simp [hc] at h
      | some v =>
        cases hr : l.mapM (fun i => W.cell? (a.add i)) with
        | none => simp [hc, hr] at h
        | some vs =>
          simp [hc, hr] at h
          subst h
          obtain ⟨k1, k2⟩ := ih vs hr
          refine ⟨by simp [k1], fun j hj => ?_⟩
          cases j with
          | zero => simpa using hc
          | succ j => simpa using k2 j (by simpa using hj)
  obtain ⟨h1, h2⟩ := this _ _ h
  exact ⟨by simpa using h1, fun j hj => by have := h2 j (by simpa using hj); rwa [List.getElem_range] at this⟩

theorem Rd.slice {t e : TypeId} (ht : P.underlying t = some (.slice e)) {α : Type} {E : α → V} {Q : α → Prop} (hw : Well P e E) (hp : 0 < P.cellsOf e) {n : Nat} (h : ∀ m, m < n → Rd enc P W m e E Q) :
    Rd enc P W n t (fun xs : List α => V.slice .froz (xs.map E)) (fun xs => xs.length ≤ maxLen ∧ ∀ x ∈ xs, Q x) := by
  intro cs x hx
  rcases DataW.trod_slice ht hx with ⟨rfl, _⟩ | ⟨a, len, cap, elems, rest, m, rfl, rfl, _, _, hl, hc, hel, hall, _, _⟩
  · exact ⟨[], ⟨Nat.zero_le _, by simp⟩, _, _, rfl, ⟨none, 0, rfl, Nat.le_refl _, trivial, by simp, ⟨0, by simp⟩, .inl rfl⟩, rfl⟩
  · have each : ∀ i, i < len → ∃ y : α, Q y ∧ ∃ cs', W.cells? 0 (a.add (i * P.cellsOf e)) (P.cellsOf e) = some cs' ∧ Reps (G0 W) (vcells (E y)) cs' := by
      intro i hi
      have := hall i hi
      rw [List.getElem?_eq_getElem (by omega)] at this
      obtain ⟨cs', h1, h2⟩ := Option.bind_eq_some_iff.1 this
      obtain ⟨y, q, r⟩ := h m (Nat.lt_succ_self m) cs' _ h2
      exact ⟨y, q, cs', h1, r⟩
    have build : ∀ k, k ≤ len → ∃ xs : List α, xs.length = k ∧ (∀ y ∈ xs, Q y) ∧ Reads (G0 W) ((xs.map E).flatMap vcells) a.block a.off ∧ (0 < k → a.spot = none) := by
      intro k
      induction k with
      | zero => intro _; exact ⟨[], rfl, by simp, trivial, by omega⟩
      | succ k ih =>
        intro hk
        obtain ⟨xs, e1, e2, e3, e4⟩ := ih (by omega)
        obtain ⟨y, q, cs', h1, r⟩ := each k (by omega)
        obtain ⟨c1, c2⟩ := cells_of h1
        have len_of : ((xs.map E).flatMap vcells).length = k * P.cellsOf e := by
          rw [← e1]
          clear e1 e2 e3
          induction xs with
          | nil => simp
          | cons x xs ih => simp only [List.map_cons, List.flatMap_cons, List.length_append, hw.len, ih, List.length_cons, Nat.add_mul]; omega
        have at_ : ∀ j v, cs'[j]? = some v → (a.add (k * P.cellsOf e)).spot = none ∧ (G0 W).imm a.block (a.off + k * P.cellsOf e + j) = some v := fun j v hv => by
          have hj : j < P.cellsOf e := by rw [← c1]; exact (List.getElem?_eq_some_iff.1 hv).1
          have := imm0 ((c2 j hj).trans hv)
          have hb : ((a.add (k * P.cellsOf e)).add j).block = a.block ∧ ((a.add (k * P.cellsOf e)).add j).off = a.off + k * P.cellsOf e + j := by
            unfold Addr.add
            split <;> split <;> simp_all
          rw [hb.1, hb.2] at this
          refine ⟨?_, this.2⟩
          by_cases hj0 : j = 0
          · subst hj0; simpa [Addr.add] using this.1
          · obtain ⟨v0, hv0⟩ : ∃ v0, cs'[0]? = some v0 := ⟨cs'[0]'(by omega), by simp⟩
            have := imm0 ((c2 0 hp).trans hv0)
            simpa [Addr.add] using this.1
        refine ⟨xs ++ [y], by simp [e1], fun z hz => ?_, ?_, fun _ => ?_⟩
        · rcases List.mem_append.1 hz with hz | hz
          · exact e2 z hz
          · simp at hz; subst hz; exact q
        · rw [List.map_append, List.flatMap_append, Reads.append, len_of]
          refine ⟨e3, ?_⟩
          simp only [List.map_cons, List.map_nil, List.flatMap_cons, List.flatMap_nil, List.append_nil]
          exact Reads.of_reps (fun _ _ _ h => h) r (Reps.one r (hw.ok y)) (by rw [refs_vcells]; exact hw.refs y) fun j v hv => (at_ j v hv).2
        · by_cases hk0 : k = 0
          · subst hk0
            obtain ⟨v0, hv0⟩ : ∃ v0, cs'[0]? = some v0 := ⟨cs'[0]'(by omega), by simp⟩
            simpa [Addr.add] using (at_ 0 v0 hv0).1
          · exact e4 (by omega)
    obtain ⟨xs, e1, e2, e3, e4⟩ := build len (Nat.le_refl _)
    refine ⟨xs, ⟨by omega, e2⟩, _, _, rfl, ⟨some a, cap, by rw [List.length_map, e1], by rw [List.length_map, e1]; exact hl, trivial, ?_, ⟨P.cellsOf e, ?_⟩, ?_⟩, rfl⟩
    · intro z hz
      obtain ⟨y, _, rfl⟩ := List.mem_map.1 hz
      exact hw.refs y
    · intro z hz
      obtain ⟨y, _, rfl⟩ := List.mem_map.1 hz
      exact hw.len y
    · by_cases h0 : len = 0
      · left; rw [List.map_eq_nil_iff]; exact List.eq_nil_of_length_eq_zero (by omega)
      · right
        refine ⟨a.block, a.off, ?_, (readsE_flat _ _ _).2 e3⟩
        obtain ⟨b, o, s⟩ := a
        have := e4 (by omega)
        simp only at this
        subst this
        rfl

/- a struct's fields, one behind the other -/
def RdF {H : Type} (enc : TypeId × Value → H) (P : Program) (W : World) (n : Nat) (L : Nat) (fs : List (Nat × TypeId)) (off : Nat) {α : Type} (E : α → List V) (Q : α → Prop) : Prop :=
  ∀ cs : List Value, cs.length = L → (∀ f ∈ fs, ∃ y, DataW.trod enc P W 0 (fun _ => true) true n f.2 ((cs.drop f.1).take (P.cellsOf f.2)) = some y) → ∃ a, Q a ∧ Reps (G0 W) (E a) (cs.drop off)

theorem RdF.nil {n L : Nat} : RdF enc P W n L [] L (fun _ : Unit => []) (fun _ => True) := fun cs hl _ => ⟨(), trivial, by rw [List.drop_of_length_le (by omega)]; rfl⟩

theorem RdF.cons {n L off t : Nat} {fs : List (Nat × TypeId)} {α β : Type} {E : α → V} {Q : α → Prop} {E' : β → List V} {Q' : β → Prop} {sz : Nat} (hs : P.cellsOf t = sz) (h : Rd enc P W n t E Q) (h' : RdF enc P W n L fs (off + sz) E' Q') :
    RdF enc P W n L ((off, t) :: fs) off (fun p : α × β => vcells (E p.1) ++ E' p.2) (fun p => Q p.1 ∧ Q' p.2) := fun cs hl hall => by
  obtain ⟨y, hy⟩ := hall (off, t) (by simp)
  obtain ⟨a, q, r⟩ := h _ _ hy
  obtain ⟨b, q', r'⟩ := h' cs hl (fun f hf => hall f (by simp [hf]))
  refine ⟨(a, b), ⟨q, q'⟩, ?_⟩
  have := r.append r'
  rw [hs] at this
  rwa [show (cs.drop off).take sz ++ cs.drop (off + sz) = cs.drop off by rw [← List.drop_drop, List.take_append_drop]] at this

theorem Rd.struct {t : TypeId} {fs : Array Field} (ht : P.underlying t = some (.struct fs)) {n : Nat} {α β : Type} {E : α → List V} {Q : α → Prop} {L : Nat} (hL : P.cellsOf t = L)
    (h : ∀ m, m < n → RdF enc P W m L (fs.toList.map fun f => (f.offset, f.type)) 0 E Q) {E' : β → V} {Q' : β → Prop} (f : α → β) (hf : ∀ a, Q a → Q' (f a) ∧ vcells (E' (f a)) = E a) : Rd enc P W n t E' Q' := by
  intro cs x hx
  obtain ⟨xs, m, rfl, _, hlen, hxs, hall⟩ := DataW.trod_struct ht hx
  obtain ⟨a, q, r⟩ := h m (Nat.lt_succ_self m) cs (hlen.trans hL) fun p hp => by
    obtain ⟨fl, hfl, rfl⟩ := List.mem_map.1 hp
    obtain ⟨i, hi⟩ := List.mem_iff_getElem?.1 hfl
    have hi' : fs[i]? = some fl := by simpa using hi
    have := hall i fl hi'
    have hlt : i < xs.length := by rw [hxs]; exact (Array.getElem?_eq_some_iff.1 hi').1
    rw [List.getElem?_eq_getElem hlt] at this
    exact ⟨_, this⟩
  obtain ⟨q', e⟩ := hf a q
  exact ⟨f a, q', by rw [e]; simpa using r⟩

end

/- arguments -/
theorem rd_arg {H : Type} {enc : TypeId × Value → H} {P : Program} {W : World} {t : TypeId} {v : Value} {d : DataW H} {p : List MemPlace} {α : Type} {E : α → V} {Q : α → Prop} (hd : DataW.Trod enc P W 0 (fun _ => true) true t v d p)
    (h : ∀ n, Rd enc P W n t E Q) (hone : ∀ a, ∃ x, vcells (E a) = [x] ∧ cellOk x = true ∧ E a = x) (hv : ∀ cs, v ≠ .agg cs) : ∃ a, Q a ∧ Rep (G0 W) (E a) v := by
  obtain ⟨n, hn⟩ := hd
  obtain ⟨a, q, r⟩ := h n _ _ hn
  obtain ⟨x, e1, e2, e3⟩ := hone a
  refine ⟨a, q, ?_⟩
  rw [e1] at r
  obtain ⟨u, hu, hr⟩ := reps_single r rfl
  have : v.cells = #[v] := by
    cases v with
    | agg cs => exact absurd rfl (hv cs)
    | _ => rfl
  rw [this] at hu
  cases hu
  rw [e3]; exact hr

theorem rd_arg_agg {H : Type} {enc : TypeId × Value → H} {P : Program} {W : World} {t : TypeId} {v : Value} {d : DataW H} {p : List MemPlace} {α : Type} {E : α → V} {Q : α → Prop} (hd : DataW.Trod enc P W 0 (fun _ => true) true t v d p)
    (h : ∀ n, Rd enc P W n t E Q) (hagg : ∀ a, ∃ cs, E a = .agg cs) (hv : ∃ cs, v = .agg cs) : ∃ a, Q a ∧ Rep (G0 W) (E a) v := by
  obtain ⟨n, hn⟩ := hd
  obtain ⟨a, q, r⟩ := h n _ _ hn
  obtain ⟨xs, e1⟩ := hagg a
  obtain ⟨cs, rfl⟩ := hv
  refine ⟨a, q, ?_⟩
  rw [e1] at r ⊢
  exact ⟨cs, rfl, by simpa [vcells, Value.cells] using r⟩

end Go.Abs

