/- Arguments read as plain data, with how much they hold. -/
import Derived.Test.YtjafjngbllmgbaaDoorAbsTop
import Derived.Test.YtjafjngbllmgbaaDoorRows
namespace Go.Abs
open Go

section
variable {H : Type} {enc : TypeId × Value → H} {P : Program} {W : World}

abbrev bulk {H : Type} (d : DataW H) : Nat := Go.Proofs.YtjafjngbllmgbaaDoor.Rows.uptoBulk d
abbrev bulks {H : Type} (d : List (DataW H)) : Nat := Go.Proofs.YtjafjngbllmgbaaDoor.Rows.uptoBulkAll d
theorem bulks_nil {H : Type} : bulks ([] : List (DataW H)) = 0 := rfl
theorem bulks_cons {H : Type} (d : DataW H) (l : List (DataW H)) : bulks (d :: l) = bulk d + bulks l := rfl
theorem bulks_append {H : Type} (k l : List (DataW H)) : bulks (k ++ l) = bulks k + bulks l := by
  induction k with
  | nil => simp [bulks_nil]
  | cons d k ih => rw [List.cons_append, bulks_cons, bulks_cons, ih]; omega
def szs {α : Type} (sz : α → Nat) : List α → Nat
  | [] => 0
  | x :: xs => sz x + szs sz xs
theorem szs_append {α : Type} (sz : α → Nat) : ∀ k l : List α, szs sz (k ++ l) = szs sz k + szs sz l
  | [], l => by simp [szs]
  | x :: k, l => by simp only [List.cons_append, szs, szs_append sz k l]; omega
theorem szs_mem {α : Type} (sz : α → Nat) : ∀ {l : List α} {x : α}, x ∈ l → sz x ≤ szs sz l
  | _ :: _, _, .head _ => by simp only [szs]; omega
  | _ :: l, _, .tail _ h => by have := szs_mem sz h; simp only [szs]; omega
theorem szs_len {α : Type} (sz : α → Nat) (h : ∀ x, 1 ≤ sz x) : ∀ l : List α, l.length ≤ szs sz l
  | [] => by simp
  | x :: l => by have := szs_len sz h l; have := h x; simp only [szs, List.length_cons]; omega

/- what reads as data of a type reads as a value so written -/
def Rs {H : Type} (enc : TypeId × Value → H) (P : Program) (W : World) (n : Nat) (t : TypeId) {α : Type} (E : α → V) (Q : α → Prop) (sz : α → Nat) : Prop :=
  ∀ cs x, DataW.trod enc P W 0 (fun _ => true) true n t cs = some x → ∃ a, Q a ∧ sz a ≤ bulk x.1 ∧ Reps (G0 W) (vcells (E a)) cs

theorem Rs.map {n : Nat} {t : TypeId} {α β : Type} {E : α → V} {E' : β → V} {Q : α → Prop} {Q' : β → Prop} {sz : α → Nat} {sz' : β → Nat} (h : Rs enc P W n t E Q sz) (f : α → β) (hf : ∀ a, Q a → Q' (f a) ∧ sz' (f a) ≤ sz a ∧ vcells (E' (f a)) = vcells (E a)) : Rs enc P W n t E' Q' sz' :=
  fun cs x hx => let ⟨a, q, s, r⟩ := h cs x hx; ⟨f a, (hf a q).1, Nat.le_trans (hf a q).2.1 s, (hf a q).2.2 ▸ r⟩

theorem Rs.bool {t : TypeId} (ht : P.underlying t = some .bool) (n : Nat) : Rs enc P W n t V.bool (fun _ => True) (fun _ => 1) := fun cs x h => by
  obtain ⟨b, rfl, rfl⟩ := DataW.trod_bool ht h
  exact ⟨b, trivial, Nat.le_refl _, _, _, rfl, rfl, rfl⟩

theorem Rs.int {t : TypeId} {k : IntKind} (ht : P.underlying t = some (.int k)) (n : Nat) : Rs enc P W n t (V.int k) (fun m => (Lit.int k m).wf = true) (fun _ => 1) := fun cs x h => by
  obtain ⟨m, rfl, rfl, hw⟩ := DataW.trod_int ht h
  exact ⟨m, hw, Nat.le_refl _, _, _, rfl, rfl, rfl⟩

theorem Rs.str {t : TypeId} (ht : P.underlying t = some .string) (n : Nat) : Rs enc P W n t V.str (fun _ => True) (fun s => s.length + 1) := fun cs x h => by
  obtain ⟨s, rfl, rfl, hs⟩ := DataW.trod_string ht h
  exact ⟨s.data.toList, trivial, Nat.le_refl _, _, _, rfl, ⟨s, rfl, rfl⟩, rfl⟩

theorem Rs.slice {t e : TypeId} (ht : P.underlying t = some (.slice e)) {α : Type} {E : α → V} {Q : α → Prop} {sz : α → Nat} (hw : Well P e E) (hp : 0 < P.cellsOf e) {n : Nat} (h : ∀ m, m < n → Rs enc P W m e E Q sz) :
    Rs enc P W n t (fun xs : List α => V.slice .froz (xs.map E)) (fun xs => ∀ x ∈ xs, Q x) (fun xs => szs sz xs + 1) := by
  intro cs x hx
  rcases DataW.trod_slice ht hx with ⟨rfl, rfl⟩ | ⟨a, len, cap, elems, rest, m, rfl, rfl, rfl, _, hl, hc, hel, hall, _, _⟩
  · exact ⟨[], by simp, Nat.le_refl _, _, _, rfl, ⟨none, 0, rfl, Nat.le_refl _, trivial, by simp, ⟨0, by simp⟩, .inl rfl⟩, rfl⟩
  · have each : ∀ i, i < len → ∃ y : α, Q y ∧ (∃ d, elems[i]? = some d ∧ sz y ≤ bulk d.1) ∧ ∃ cs', W.cells? 0 (a.add (i * P.cellsOf e)) (P.cellsOf e) = some cs' ∧ Reps (G0 W) (vcells (E y)) cs' := by
      intro i hi
      have := hall i hi
      rw [List.getElem?_eq_getElem (by omega)] at this
      obtain ⟨cs', h1, h2⟩ := Option.bind_eq_some_iff.1 this
      obtain ⟨y, q, s, r⟩ := h m (Nat.lt_succ_self m) cs' _ h2
      exact ⟨y, q, ⟨_, List.getElem?_eq_getElem (by omega), s⟩, cs', h1, r⟩
    have build : ∀ k, k ≤ len → ∃ xs : List α, xs.length = k ∧ (∀ y ∈ xs, Q y) ∧ szs sz xs ≤ bulks ((elems.take k).map (·.1)) ∧ Reads (G0 W) ((xs.map E).flatMap vcells) a.block a.off ∧ (0 < k → a.spot = none) := by
      intro k
      induction k with
      | zero => intro _; exact ⟨[], rfl, by simp, by simp [szs], trivial, by omega⟩
      | succ k ih =>
        intro hk
        obtain ⟨xs, e1, e2, es, e3, e4⟩ := ih (by omega)
        obtain ⟨y, q, ⟨d, hd, hsd⟩, cs', h1, r⟩ := each k (by omega)
        obtain ⟨c1, c2⟩ := cells_of h1
        have len_of : ((xs.map E).flatMap vcells).length = k * P.cellsOf e := by
          rw [← e1]
          clear e1 e2 e3 es
          induction xs with
          | nil => simp
          | cons x xs ih => simp only [List.map_cons, List.flatMap_cons, List.length_append, hw.len, ih, List.length_cons, Nat.add_mul]; omega
        have at_ : ∀ j v, cs'[j]? = some v → (a.add (k * P.cellsOf e)).spot = none ∧ (G0 W).imm a.block (a.off + k * P.cellsOf e + j) = some v := fun j v hv => by
          have hj : j < P.cellsOf e := by rw [← c1]; exact (List.getElem?_eq_some_iff.1 hv).1
          have := imm0 ((c2 j hj).trans hv)
          have hb : ((a.add (k * P.cellsOf e)).add j).block = a.block ∧ ((a.add (k * P.cellsOf e)).add j).off = a.off + k * P.cellsOf e + j := by
            unfold Addr.add
            split <;> split <;> simp_all
          rw [hb.1, hb.2] at this
          refine ⟨?_, this.2⟩
          by_cases hj0 : j = 0
          · subst hj0; simpa [Addr.add] using this.1
          · obtain ⟨v0, hv0⟩ : ∃ v0, cs'[0]? = some v0 := ⟨cs'[0]'(by omega), by simp⟩
            have := imm0 ((c2 0 hp).trans hv0)
            simpa [Addr.add] using this.1
        refine ⟨xs ++ [y], by simp [e1], fun z hz => ?_, ?_, ?_, fun _ => ?_⟩
        · rcases List.mem_append.1 hz with hz | hz
          · exact e2 z hz
          · simp at hz; subst hz; exact q
        · have hlt : k < elems.length := by omega
          rw [List.take_succ_eq_append_getElem hlt, List.map_append, bulks_append, szs_append]
          rw [List.getElem?_eq_getElem hlt, Option.some.injEq] at hd
          rw [hd]
          simp only [List.map_cons, List.map_nil, bulks_cons, bulks_nil, szs]
          omega
        · rw [List.map_append, List.flatMap_append, Reads.append, len_of]
          refine ⟨e3, ?_⟩
          simp only [List.map_cons, List.map_nil, List.flatMap_cons, List.flatMap_nil, List.append_nil]
          exact Reads.of_reps (fun _ _ _ h => h) r (Reps.one r (hw.ok y)) (by rw [refs_vcells]; exact hw.refs y) fun j v hv => (at_ j v hv).2
        · by_cases hk0 : k = 0
          · subst hk0
            obtain ⟨v0, hv0⟩ : ∃ v0, cs'[0]? = some v0 := ⟨cs'[0]'(by omega), by simp⟩
            simpa [Addr.add] using (at_ 0 v0 hv0).1
          · exact e4 (by omega)
    obtain ⟨xs, e1, e2, es, e3, e4⟩ := build len (Nat.le_refl _)
    have hbk : szs sz xs + 1 ≤ bulk (DataW.slice (elems.map (·.1)) (rest.map (·.1))) := by
      rw [List.take_of_length_le (by omega)] at es
      have : bulk (DataW.slice (elems.map (·.1)) (rest.map (·.1))) = bulks (elems.map (·.1)) + bulks (rest.map (·.1)) + 1 := rfl
      omega
    refine ⟨xs, e2, hbk, _, _, rfl, ⟨some a, cap, by rw [List.length_map, e1], by rw [List.length_map, e1]; exact hl, trivial, ?_, ⟨P.cellsOf e, ?_⟩, ?_⟩, rfl⟩
    · intro z hz
      obtain ⟨y, _, rfl⟩ := List.mem_map.1 hz
      exact hw.refs y
    · intro z hz
      obtain ⟨y, _, rfl⟩ := List.mem_map.1 hz
      exact hw.len y
    · by_cases h0 : len = 0
      · left; rw [List.map_eq_nil_iff]; exact List.eq_nil_of_length_eq_zero (by omega)
      · right
        refine ⟨a.block, a.off, ?_, (readsE_flat _ _ _).2 e3⟩
        obtain ⟨b, o, s⟩ := a
        have := e4 (by omega)
        simp only at this
        subst this
        rfl

/- a struct's fields, one behind the other -/
def RsF {H : Type} (enc : TypeId × Value → H) (P : Program) (W : World) (n : Nat) (L : Nat) (fs : List (Nat × TypeId)) (off : Nat) {α : Type} (E : α → List V) (Q : α → Prop) (sz : α → Nat) : Prop :=
  ∀ (cs : List Value) (ds : List (DataW H)), cs.length = L → ds.length = fs.length → (∀ (i : Nat) f, fs[i]? = some f → ∃ y, DataW.trod enc P W 0 (fun _ => true) true n f.2 ((cs.drop f.1).take (P.cellsOf f.2)) = some y ∧ ds[i]? = some y.1) → ∃ a, Q a ∧ sz a ≤ bulks ds ∧ Reps (G0 W) (E a) (cs.drop off)

theorem RsF.nil {n L : Nat} : RsF enc P W n L [] L (fun _ : Unit => []) (fun _ => True) (fun _ => 0) := fun cs ds hl _ _ => ⟨(), trivial, Nat.zero_le _, by rw [List.drop_of_length_le (by omega)]; rfl⟩

theorem RsF.cons {n L off t : Nat} {fs : List (Nat × TypeId)} {α β : Type} {E : α → V} {Q : α → Prop} {E' : β → List V} {Q' : β → Prop} {sz : α → Nat} {sz' : β → Nat} {w : Nat} (hs : P.cellsOf t = w) (h : Rs enc P W n t E Q sz) (h' : RsF enc P W n L fs (off + w) E' Q' sz') :
    RsF enc P W n L ((off, t) :: fs) off (fun p : α × β => vcells (E p.1) ++ E' p.2) (fun p => Q p.1 ∧ Q' p.2) (fun p => sz p.1 + sz' p.2) := fun cs ds hl hd hall => by
  obtain ⟨y, hy, hy'⟩ := hall 0 (off, t) rfl
  obtain ⟨a, q, s, r⟩ := h _ _ hy
  cases ds with
  | nil => cases hd
  | cons d ds =>
    obtain ⟨b, q', s', r'⟩ := h' cs ds hl (by simpa using hd) (fun i f hf => by simpa using hall (i + 1) f (by simpa using hf))
    have hdy : d = y.1 := by simpa using hy'
    refine ⟨(a, b), ⟨q, q'⟩, by rw [bulks_cons, hdy]; exact Nat.add_le_add s s', ?_⟩
    have := r.append r'
    rw [hs] at this
    rwa [show (cs.drop off).take w ++ cs.drop (off + w) = cs.drop off by rw [← List.drop_drop, List.take_append_drop]] at this

theorem Rs.struct {t : TypeId} {fs : Array Field} (ht : P.underlying t = some (.struct fs)) {n : Nat} {α β : Type} {E : α → List V} {Q : α → Prop} {sz : α → Nat} {L : Nat} (hL : P.cellsOf t = L)
    (h : ∀ m, m < n → RsF enc P W m L (fs.toList.map fun f => (f.offset, f.type)) 0 E Q sz) {E' : β → V} {Q' : β → Prop} {sz' : β → Nat} (f : α → β) (hf : ∀ a, Q a → Q' (f a) ∧ sz' (f a) ≤ sz a + 1 ∧ vcells (E' (f a)) = E a) : Rs enc P W n t E' Q' sz' := by
  intro cs x hx
  obtain ⟨xs, m, rfl, rfl, hlen, hxs, hall⟩ := DataW.trod_struct ht hx
  obtain ⟨a, q, s, r⟩ := h m (Nat.lt_succ_self m) cs (xs.map (·.1)) (hlen.trans hL) (by simp [hxs]) fun i p hp => by
    simp only [List.getElem?_map, Option.map_eq_some_iff] at hp
    obtain ⟨fl, hi, rfl⟩ := hp
    have hi' : fs[i]? = some fl := by simpa using hi
    have := hall i fl hi'
    have hlt : i < xs.length := by rw [hxs]; exact (Array.getElem?_eq_some_iff.1 hi').1
    rw [List.getElem?_eq_getElem hlt] at this
    exact ⟨_, this, by simp [hlt]⟩
  obtain ⟨q', hs, e⟩ := hf a q
  have hb : bulk (DataW.agg (xs.map (·.1))) = bulks (xs.map (·.1)) + 1 := rfl
  exact ⟨f a, q', by simp only [hb]; omega, by rw [e]; simpa using r⟩

end

/- arguments -/
theorem rs_arg {H : Type} {enc : TypeId × Value → H} {P : Program} {W : World} {t : TypeId} {v : Value} {d : DataW H} {p : List MemPlace} {α : Type} {E : α → V} {Q : α → Prop} {sz : α → Nat} (hd : DataW.Trod enc P W 0 (fun _ => true) true t v d p)
    (h : ∀ n, Rs enc P W n t E Q sz) (hone : ∀ a, ∃ x, vcells (E a) = [x] ∧ cellOk x = true ∧ E a = x) (hv : ∀ cs, v ≠ .agg cs) : ∃ a, Q a ∧ sz a ≤ bulk d ∧ Rep (G0 W) (E a) v := by
  obtain ⟨n, hn⟩ := hd
  obtain ⟨a, q, s, r⟩ := h n _ _ hn
  obtain ⟨x, e1, e2, e3⟩ := hone a
  refine ⟨a, q, s, ?_⟩
  rw [e1] at r
  obtain ⟨u, hu, hr⟩ := reps_single r rfl
  have : v.cells = #[v] := by
    cases v with
    | agg cs => exact absurd rfl (hv cs)
    | _ => rfl
  rw [this] at hu
  cases hu
  rw [e3]; exact hr

theorem rs_arg_agg {H : Type} {enc : TypeId × Value → H} {P : Program} {W : World} {t : TypeId} {v : Value} {d : DataW H} {p : List MemPlace} {α : Type} {E : α → V} {Q : α → Prop} {sz : α → Nat} (hd : DataW.Trod enc P W 0 (fun _ => true) true t v d p)
    (h : ∀ n, Rs enc P W n t E Q sz) (hagg : ∀ a, ∃ cs, E a = .agg cs) (hv : ∃ cs, v = .agg cs) : ∃ a, Q a ∧ sz a ≤ bulk d ∧ Rep (G0 W) (E a) v := by
  obtain ⟨n, hn⟩ := hd
  obtain ⟨a, q, s, r⟩ := h n _ _ hn
  obtain ⟨xs, e1⟩ := hagg a
  obtain ⟨cs, rfl⟩ := hv
  refine ⟨a, q, s, ?_⟩
  rw [e1] at r ⊢
  exact ⟨cs, rfl, by simpa [vcells, Value.cells] using r⟩

end Go.Abs
