/- Arguments read as plain data, with how much they hold. -/
import Derived.Test.YtpmeklllgnnffaaGreatDoorR9
import Derived.Test.YtpmeklllgnnffaaGreatDoorRows
import Derived.Test.YtpmeklllgnnffaaGreatDoorCards
import Derived.Test.YtpmeklllgnnffaaGreatDoorTie
import Derived.Test.YtpmeklllgnnffaaGreatDoorR13
import Derived.WalkKit
import Derived.ProofKit
import Derived.OpenShut
import Derived.Deep.DeepHandedRow
import Derived.Shelf.Vars
import Derived.Lib.LaidCaseMet
import Derived.Lib.LaidTab
import Derived.Test.YtpmeklllgnnffaaGreatDoorR1
import Derived.Lib.ParseIntB
import Derived.Lib.ItoaNum
import Derived.Test.YtpmeklllgnnffaaGreatDoorR11
import Derived.Lib.Replace
import Derived.Lib.CountLaws
set_option linter.unusedSimpArgs false
set_option linter.unusedVariables false

namespace Go.Abs
open Go
section
variable {H : Type} {enc : TypeId × Value → H} {P : Program} {W : World}
abbrev bulk {H : Type} (d : DataW H) : Nat := Go.Proofs.YtpmeklllgnnffaaGreatDoor.Rows.uptoBulk d
abbrev bulks {H : Type} (d : List (DataW H)) : Nat := Go.Proofs.YtpmeklllgnnffaaGreatDoor.Rows.uptoBulkAll d
theorem bulks_nil {H : Type} : bulks ([] : List (DataW H)) = 0 := rfl
theorem bulks_cons {H : Type} (d : DataW H) (l : List (DataW H)) : bulks (d :: l) = bulk d + bulks l := rfl
theorem bulks_append {H : Type} (k l : List (DataW H)) : bulks (k ++ l) = bulks k + bulks l := by
  induction k with
  | nil => simp [bulks_nil]
  | cons d k ih => rw [List.cons_append, bulks_cons, bulks_cons, ih]; omega
def szs {α : Type} (sz : α → Nat) : List α → Nat
  | [] => 0
  | x :: xs => sz x + szs sz xs
theorem szs_append {α : Type} (sz : α → Nat) : ∀ k l : List α, szs sz (k ++ l) = szs sz k + szs sz l
  | [], l => by simp [szs]
  | x :: k, l => by simp only [List.cons_append, szs, szs_append sz k l]; omega
theorem szs_mem {α : Type} (sz : α → Nat) : ∀ {l : List α} {x : α}, x ∈ l → sz x ≤ szs sz l
  | _ :: _, _, .head _ => by simp only [szs]; omega
  | _ :: l, _, .tail _ h => by have := szs_mem sz h; simp only [szs]; omega
theorem szs_len {α : Type} (sz : α → Nat) (h : ∀ x, 1 ≤ sz x) : ∀ l : List α, l.length ≤ szs sz l
  | [] => by simp
  | x :: l => by have := szs_len sz h l; have := h x; simp only [szs, List.length_cons]; omega
def Rs {H : Type} (enc : TypeId × Value → H) (P : Program) (W : World) (n : Nat) (t : TypeId) {α : Type} (E : α → V) (Q : α → Prop) (sz : α → Nat) : Prop :=
  ∀ cs x, DataW.trod enc P W 0 (fun _ => true) true n t cs = some x → ∃ a, Q a ∧ sz a ≤ bulk x.1 ∧ Reps (G0 W) (vcells (E a)) cs
theorem Rs.map {n : Nat} {t : TypeId} {α β : Type} {E : α → V} {E' : β → V} {Q : α → Prop} {Q' : β → Prop} {sz : α → Nat} {sz' : β → Nat} (h : Rs enc P W n t E Q sz) (f : α → β) (hf : ∀ a, Q a → Q' (f a) ∧ sz' (f a) ≤ sz a ∧ vcells (E' (f a)) = vcells (E a)) : Rs enc P W n t E' Q' sz' :=
  fun cs x hx => let ⟨a, q, s, r⟩ := h cs x hx; ⟨f a, (hf a q).1, Nat.le_trans (hf a q).2.1 s, (hf a q).2.2 ▸ r⟩
theorem Rs.bool {t : TypeId} (ht : P.underlying t = some .bool) (n : Nat) : Rs enc P W n t V.bool (fun _ => True) (fun _ => 1) := fun cs x h => by
  obtain ⟨b, rfl, rfl⟩ := DataW.trod_bool ht h
  exact ⟨b, trivial, Nat.le_refl _, _, _, rfl, rfl, rfl⟩
theorem Rs.int {t : TypeId} {k : IntKind} (ht : P.underlying t = some (.int k)) (n : Nat) : Rs enc P W n t (V.int k) (fun m => (Lit.int k m).wf = true) (fun _ => 1) := fun cs x h => by
  obtain ⟨m, rfl, rfl, hw⟩ := DataW.trod_int ht h
  exact ⟨m, hw, Nat.le_refl _, _, _, rfl, rfl, rfl⟩
theorem Rs.str {t : TypeId} (ht : P.underlying t = some .string) (n : Nat) : Rs enc P W n t V.str (fun _ => True) (fun s => s.length + 1) := fun cs x h => by
  obtain ⟨s, rfl, rfl, hs⟩ := DataW.trod_string ht h
  exact ⟨s.data.toList, trivial, Nat.le_refl _, _, _, rfl, ⟨s, rfl, rfl⟩, rfl⟩
theorem Rs.slice {t e : TypeId} (ht : P.underlying t = some (.slice e)) {α : Type} {E : α → V} {Q : α → Prop} {sz : α → Nat} (hw : Well P e E) (hp : 0 < P.cellsOf e) {n : Nat} (h : ∀ m, m < n → Rs enc P W m e E Q sz) :
    Rs enc P W n t (fun xs : List α => V.slice .froz (xs.map E)) (fun xs => ∀ x ∈ xs, Q x) (fun xs => szs sz xs + 1) := by
  intro cs x hx
  rcases DataW.trod_slice ht hx with ⟨rfl, rfl⟩ | ⟨a, len, cap, elems, rest, m, rfl, rfl, rfl, _, hl, hc, hel, hall, _, _⟩
  · exact ⟨[], by simp, Nat.le_refl _, _, _, rfl, ⟨none, 0, rfl, Nat.le_refl _, trivial, by simp, ⟨0, by simp⟩, .inl rfl⟩, rfl⟩
  · have each : ∀ i, i < len → ∃ y : α, Q y ∧ (∃ d, elems[i]? = some d ∧ sz y ≤ bulk d.1) ∧ ∃ cs', W.cells? 0 (a.add (i * P.cellsOf e)) (P.cellsOf e) = some cs' ∧ Reps (G0 W) (vcells (E y)) cs' := by
      intro i hi
      have := hall i hi
      rw [List.getElem?_eq_getElem (by omega)] at this
      obtain ⟨cs', h1, h2⟩ := Option.bind_eq_some_iff.1 this
      obtain ⟨y, q, s, r⟩ := h m (Nat.lt_succ_self m) cs' _ h2
      exact ⟨y, q, ⟨_, List.getElem?_eq_getElem (by omega), s⟩, cs', h1, r⟩
    have build : ∀ k, k ≤ len → ∃ xs : List α, xs.length = k ∧ (∀ y ∈ xs, Q y) ∧ szs sz xs ≤ bulks ((elems.take k).map (·.1)) ∧ Reads (G0 W) ((xs.map E).flatMap vcells) a.block a.off ∧ (0 < k → a.spot = none) := by
      intro k
      induction k with
      | zero => intro _; exact ⟨[], rfl, by simp, by simp [szs], trivial, by omega⟩
      | succ k ih =>
        intro hk
        obtain ⟨xs, e1, e2, es, e3, e4⟩ := ih (by omega)
        obtain ⟨y, q, ⟨d, hd, hsd⟩, cs', h1, r⟩ := each k (by omega)
        obtain ⟨c1, c2⟩ := cells_of h1
        have len_of : ((xs.map E).flatMap vcells).length = k * P.cellsOf e := by
          rw [← e1]
          clear e1 e2 e3 es
          induction xs with
          | nil => simp
          | cons x xs ih => simp only [List.map_cons, List.flatMap_cons, List.length_append, hw.len, ih, List.length_cons, Nat.add_mul]; omega
        have at_ : ∀ j v, cs'[j]? = some v → (a.add (k * P.cellsOf e)).spot = none ∧ (G0 W).imm a.block (a.off + k * P.cellsOf e + j) = some v := fun j v hv => by
          have hj : j < P.cellsOf e := by rw [← c1]; exact (List.getElem?_eq_some_iff.1 hv).1
          have := imm0 ((c2 j hj).trans hv)
          have hb : ((a.add (k * P.cellsOf e)).add j).block = a.block ∧ ((a.add (k * P.cellsOf e)).add j).off = a.off + k * P.cellsOf e + j := by
            unfold Addr.add
            split <;> split <;> simp_all
          rw [hb.1, hb.2] at this
          refine ⟨?_, this.2⟩
          by_cases hj0 : j = 0
          · subst hj0; simpa [Addr.add] using this.1
          · obtain ⟨v0, hv0⟩ : ∃ v0, cs'[0]? = some v0 := ⟨cs'[0]'(by omega), by simp⟩
            have := imm0 ((c2 0 hp).trans hv0)
            simpa [Addr.add] using this.1
        refine ⟨xs ++ [y], by simp [e1], fun z hz => ?_, ?_, ?_, fun _ => ?_⟩
        · rcases List.mem_append.1 hz with hz | hz
          · exact e2 z hz
          · simp at hz; subst hz; exact q
        · have hlt : k < elems.length := by omega
          rw [List.take_succ_eq_append_getElem hlt, List.map_append, bulks_append, szs_append]
          rw [List.getElem?_eq_getElem hlt, Option.some.injEq] at hd
          rw [hd]
          simp only [List.map_cons, List.map_nil, bulks_cons, bulks_nil, szs]
          omega
        · rw [List.map_append, List.flatMap_append, Reads.append, len_of]
          refine ⟨e3, ?_⟩
          simp only [List.map_cons, List.map_nil, List.flatMap_cons, List.flatMap_nil, List.append_nil]
          exact Reads.of_reps (fun _ _ _ h => h) r (Reps.one r (hw.ok y)) (by rw [refs_vcells]; exact hw.refs y) fun j v hv => (at_ j v hv).2
        · by_cases hk0 : k = 0
          · subst hk0
            obtain ⟨v0, hv0⟩ : ∃ v0, cs'[0]? = some v0 := ⟨cs'[0]'(by omega), by simp⟩
            simpa [Addr.add] using (at_ 0 v0 hv0).1
          · exact e4 (by omega)
    obtain ⟨xs, e1, e2, es, e3, e4⟩ := build len (Nat.le_refl _)
    have hbk : szs sz xs + 1 ≤ bulk (DataW.slice (elems.map (·.1)) (rest.map (·.1))) := by
      rw [List.take_of_length_le (by omega)] at es
      have : bulk (DataW.slice (elems.map (·.1)) (rest.map (·.1))) = bulks (elems.map (·.1)) + bulks (rest.map (·.1)) + 1 := rfl
      omega
    refine ⟨xs, e2, hbk, _, _, rfl, ⟨some a, cap, by rw [List.length_map, e1], by rw [List.length_map, e1]; exact hl, trivial, ?_, ⟨P.cellsOf e, ?_⟩, ?_⟩, rfl⟩
    · intro z hz
      obtain ⟨y, _, rfl⟩ := List.mem_map.1 hz
      exact hw.refs y
    · intro z hz
      obtain ⟨y, _, rfl⟩ := List.mem_map.1 hz
      exact hw.len y
    · by_cases h0 : len = 0
      · left; rw [List.map_eq_nil_iff]; exact List.eq_nil_of_length_eq_zero (by omega)
      · right
        refine ⟨a.block, a.off, ?_, (readsE_flat _ _ _).2 e3⟩
        obtain ⟨b, o, s⟩ := a
        have := e4 (by omega)
        simp only at this
        subst this
        rfl
def RsF {H : Type} (enc : TypeId × Value → H) (P : Program) (W : World) (n : Nat) (L : Nat) (fs : List (Nat × TypeId)) (off : Nat) {α : Type} (E : α → List V) (Q : α → Prop) (sz : α → Nat) : Prop :=
  ∀ (cs : List Value) (ds : List (DataW H)), cs.length = L → ds.length = fs.length → (∀ (i : Nat) f, fs[i]? = some f → ∃ y, DataW.trod enc P W 0 (fun _ => true) true n f.2 ((cs.drop f.1).take (P.cellsOf f.2)) = some y ∧ ds[i]? = some y.1) → ∃ a, Q a ∧ sz a ≤ bulks ds ∧ Reps (G0 W) (E a) (cs.drop off)
theorem RsF.nil {n L : Nat} : RsF enc P W n L [] L (fun _ : Unit => []) (fun _ => True) (fun _ => 0) := fun cs ds hl _ _ => ⟨(), trivial, Nat.zero_le _, by rw [List.drop_of_length_le (by omega)]; rfl⟩
theorem RsF.cons {n L off t : Nat} {fs : List (Nat × TypeId)} {α β : Type} {E : α → V} {Q : α → Prop} {E' : β → List V} {Q' : β → Prop} {sz : α → Nat} {sz' : β → Nat} {w : Nat} (hs : P.cellsOf t = w) (h : Rs enc P W n t E Q sz) (h' : RsF enc P W n L fs (off + w) E' Q' sz') :
    RsF enc P W n L ((off, t) :: fs) off (fun p : α × β => vcells (E p.1) ++ E' p.2) (fun p => Q p.1 ∧ Q' p.2) (fun p => sz p.1 + sz' p.2) := fun cs ds hl hd hall => by
  obtain ⟨y, hy, hy'⟩ := hall 0 (off, t) rfl
  obtain ⟨a, q, s, r⟩ := h _ _ hy
  cases ds with
  | nil => cases hd
  | cons d ds =>
    obtain ⟨b, q', s', r'⟩ := h' cs ds hl (by simpa using hd) (fun i f hf => by simpa using hall (i + 1) f (by simpa using hf))
    have hdy : d = y.1 := by simpa using hy'
    refine ⟨(a, b), ⟨q, q'⟩, by rw [bulks_cons, hdy]; exact Nat.add_le_add s s', ?_⟩
    have := r.append r'
    rw [hs] at this
    rwa [show (cs.drop off).take w ++ cs.drop (off + w) = cs.drop off by rw [← List.drop_drop, List.take_append_drop]] at this
theorem Rs.struct {t : TypeId} {fs : Array Field} (ht : P.underlying t = some (.struct fs)) {n : Nat} {α β : Type} {E : α → List V} {Q : α → Prop} {sz : α → Nat} {L : Nat} (hL : P.cellsOf t = L)
    (h : ∀ m, m < n → RsF enc P W m L (fs.toList.map fun f => (f.offset, f.type)) 0 E Q sz) {E' : β → V} {Q' : β → Prop} {sz' : β → Nat} (f : α → β) (hf : ∀ a, Q a → Q' (f a) ∧ sz' (f a) ≤ sz a + 1 ∧ vcells (E' (f a)) = E a) : Rs enc P W n t E' Q' sz' := by
  intro cs x hx
  obtain ⟨xs, m, rfl, rfl, hlen, hxs, hall⟩ := DataW.trod_struct ht hx
  obtain ⟨a, q, s, r⟩ := h m (Nat.lt_succ_self m) cs (xs.map (·.1)) (hlen.trans hL) (by simp [hxs]) fun i p hp => by
    simp only [List.getElem?_map, Option.map_eq_some_iff] at hp
    obtain ⟨fl, hi, rfl⟩ := hp
    have hi' : fs[i]? = some fl := by simpa using hi
    have := hall i fl hi'
    have hlt : i < xs.length := by rw [hxs]; exact (Array.getElem?_eq_some_iff.1 hi').1
    rw [List.getElem?_eq_getElem hlt] at this
    exact ⟨_, this, by simp [hlt]⟩
  obtain ⟨q', hs, e⟩ := hf a q
  have hb : bulk (DataW.agg (xs.map (·.1))) = bulks (xs.map (·.1)) + 1 := rfl
  exact ⟨f a, q', by simp only [hb]; omega, by rw [e]; simpa using r⟩
end
theorem rs_arg {H : Type} {enc : TypeId × Value → H} {P : Program} {W : World} {t : TypeId} {v : Value} {d : DataW H} {p : List MemPlace} {α : Type} {E : α → V} {Q : α → Prop} {sz : α → Nat} (hd : DataW.Trod enc P W 0 (fun _ => true) true t v d p)
    (h : ∀ n, Rs enc P W n t E Q sz) (hone : ∀ a, ∃ x, vcells (E a) = [x] ∧ cellOk x = true ∧ E a = x) (hv : ∀ cs, v ≠ .agg cs) : ∃ a, Q a ∧ sz a ≤ bulk d ∧ Rep (G0 W) (E a) v := by
  obtain ⟨n, hn⟩ := hd
  obtain ⟨a, q, s, r⟩ := h n _ _ hn
  obtain ⟨x, e1, e2, e3⟩ := hone a
  refine ⟨a, q, s, ?_⟩
  rw [e1] at r
  obtain ⟨u, hu, hr⟩ := reps_single r rfl
  have : v.cells = #[v] := by
    cases v with
    | agg cs => exact absurd rfl (hv cs)
    | _ => rfl
  rw [this] at hu
  cases hu
  rw [e3]; exact hr
end Go.Abs
namespace Go.Proofs.YtpmeklllgnnffaaGreatDoor.shared
open Go.ChangeShapes Go.WideShapes Go.ChangeAt Go.RowKit Go.Abs
theorem own : ownKnob Tryz.prog.godebug = Option.none := by kernel_rfl
mutual
def flat : DataW Unit → List Value
  | .lit (.int k n) => [.int k n]
  | .agg ds => flats ds
  | _ => []
def flats : List (DataW Unit) → List Value
  | [] => []
  | d :: ds => flat d ++ flats ds
end
def put (h : Array Obj) (g : Nat) (d : DataW Unit) : Array Obj := h.modify g fun
  | .cells _ t frozen => .cells (flat d).toArray t frozen
  | o => o
def putErr (h : Array Obj) (g : Nat) (s : List UInt8) : Array Obj := (h.modify g fun
  | .cells _ t frozen => .cells #[.iface 249 (.pointer (some ⟨h.size, 0, none⟩))] t frozen
  | o => o).push (.cells #[.string ⟨s.toArray⟩] 251 (0, 0))
noncomputable def tabHeap (os : Os) : Array Obj := putErr (putErr (put (put (put (put (put (World.holding Tryz.prog os ⟨#[], #[], []⟩).heap 2 Rows.laid_internal_strconv_uint64pow10) 3 Rows.laid_unicode_utf8_first) 4 Rows.laid_unicode_utf8_acceptRanges) 7 Rows.laid_math_bits_deBruijn32tab) 8 Rows.laid_math_bits_deBruijn64tab) 6 [118, 97, 108, 117, 101, 32, 111, 117, 116, 32, 111, 102, 32, 114, 97, 110, 103, 101]) 5 [105, 110, 118, 97, 108, 105, 100, 32, 115, 121, 110, 116, 97, 120]
def caseAt (h : Array Obj) (R : Nat) : Array Obj := h.modify 0 fun
    | .cells _ u frozen => .cells #[.slice (some ⟨R, 0, none⟩) Lib.caseA.size Lib.caseA.size] u frozen
    | o => o
noncomputable def laidWorld (os : Os) : World :=
  { World.holding Tryz.prog os ⟨#[], #[], []⟩ with heap := (caseAt (tabHeap os) ((World.holding Tryz.prog os ⟨#[], #[], []⟩).heap.size + 2)).push (.cells Lib.caseCells5 248 (0, 0)) }
def caseRen : Go.Shelf.Ren := { Tryz.lays274_ren with g := fun _ => 0 }
theorem caseLays : Lays.n274 Tryz.prog caseRen := { Tryz.lays274 with }
theorem laidVars_split {P : Program} {w : World} : ∀ (l l' : List (String × DataW Unit)) (ps : List MemPlace), DataW.LaidVars P w (l ++ l') ps → ∃ p q, ps = p ++ q ∧ DataW.LaidVars P w l p ∧ DataW.LaidVars P w l' q
  | [], l', ps, h => ⟨[], ps, rfl, rfl, h⟩
  | (n, d) :: l, l', ps, h => by
    obtain ⟨g, t, cs, fuel, p, q, h1, h2, h3, h4, h5, rfl⟩ := h
    obtain ⟨a, b, rfl, h6, h7⟩ := laidVars_split l l' q h5
    exact ⟨MemPlace.row ⟨g, 0, none⟩ cs.size ++ p ++ a, b, by simp [List.append_assoc], ⟨g, t, cs, fuel, p, a, h1, h2, h3, h4, h6, rfl⟩, h7⟩
theorem laidMet_move {P : Program} {w : World} {l l' : List (String × DataW Unit)} {x : String × DataW Unit} (h : laidMet P (l ++ l' ++ [x]) w) : laidMet P (l ++ (x :: l')) w := by
  obtain ⟨ps, h1, h2, h3⟩ := h
  obtain ⟨p, q, rfl, h4, h5⟩ := laidVars_split _ _ _ h1
  obtain ⟨a, b, rfl, h6, h7⟩ := laidVars_split _ _ _ h4
  have hp : List.Perm (a ++ b ++ q) (a ++ (q ++ b)) := by
    rw [List.append_assoc]
    exact List.Perm.append_left a List.perm_append_comm
  exact ⟨a ++ (q ++ b), LaidVars_append h6 (LaidVars_append h5 h7), hp.nodup_iff.1 h2, fun b off hm => h3 b off (hp.mem_iff.2 hm)⟩
theorem iface_cells {H : Type} {enc : TypeId × Value → H} {P : Program} {w : World} {base : Nat} {sp : Nat → Bool} {held : Bool} {fuel : Nat} {t : TypeId} {ms : Array (String × TypeId)} {cs : List Value} {x : DataW H × List MemPlace}
    (ht : P.underlying t = some (.interface ms)) (h : DataW.trod enc P w base sp held fuel t cs = some x) : ∃ v, cs = [v] ∧ (v = .nilIface ∨ ∃ te pe, v = .iface te pe) := by
  cases fuel with
  | zero => simp [DataW.trod] at h
  | succ n =>
    cases cs with
    | nil => simp [DataW.trod, ht] at h
    | cons v r =>
      cases r with
      | cons a b => cases v <;> simp [DataW.trod, ht] at h
      | nil => cases v <;> simp [DataW.trod, ht] at h <;> first | exact ⟨_, rfl, .inl rfl⟩ | exact ⟨_, rfl, .inr ⟨_, _, rfl⟩⟩
theorem tab_cells {W : World} {cs : Array Value} (hv : W.var? Tryz.prog "internal/strconv.uint64pow10" = some cs) : ∃ T f, W.heap[2]? = some (.cells cs T f) := by
  unfold World.var? at hv
  rw [show Tryz.prog.globalNamed "internal/strconv.uint64pow10" = some 2 by kernel_rfl, Option.bind_some] at hv
  cases hh : W.heap[2]? with
  | none => rw [hh] at hv; cases hv
  | some o =>
    rw [hh] at hv
    cases o <;> simp at hv
    subst hv
    exact ⟨_, _, rfl⟩
set_option maxRecDepth 100000 in
theorem base {W : World} (h : W.ShapedOpen Tryz.prog) (hl : laidMet Tryz.prog Rows.parseLeftUptoRow.laid W) : baseOk (G0 W).imm (G0 W).fix := by
  obtain ⟨ps, ⟨_, _, _, _, _, _, _, _, _, _, ⟨_, _, _, _, _, _, _, _, _, _, ⟨g, t, cs, fuel, p, q, hg, ht, hvar, hd, ⟨_, _, _, _, _, _, _, _, _, _, ⟨g', t', cs', fuel', p', q', hg', ht', hvar', hd', _, _⟩, _⟩, _⟩, _⟩, _⟩, _⟩ := hl
  refine ⟨?_, ?_, ?_⟩
  · obtain ⟨m, hm⟩ := cell_of_shapedOpen_int (g := 1) (zero := #[.int .i64 0]) (t := 3) h (of_decide_eq_true (by kernel_rfl)) (by kernel_rfl) rfl (by kernel_rfl) (by kernel_rfl) Tryz.underlying3
    exact ⟨m, (imm0 hm).2⟩
  · obtain rfl := Option.some.inj ((show Tryz.prog.globalNamed "strconv.ErrRange" = some 6 by kernel_rfl).symm.trans hg')
    obtain rfl := Option.some.inj ((show (Tryz.prog.globals[6]?).map (·.type) = some 173 by kernel_rfl).symm.trans ht')
    obtain ⟨v, hcs, hv⟩ := iface_cells Tryz.underlying173 hd'
    have hc := World.var?_cell (show Tryz.prog.globalNamed "strconv.ErrRange" = some 6 by kernel_rfl) hvar' 0
    have h0 : cs'[0]? = some v := by
      have := congrArg (·[0]?) hcs
      simpa using this
    rw [h0] at hc
    exact ⟨v, (imm0 hc).2, hv⟩
  · obtain rfl := Option.some.inj ((show Tryz.prog.globalNamed "internal/strconv.uint64pow10" = some 2 by kernel_rfl).symm.trans hg)
    obtain rfl := Option.some.inj ((show (Tryz.prog.globals[2]?).map (·.type) = some 227 by kernel_rfl).symm.trans ht)
    have hd2 := hd
    rw [show (Rows.laid_internal_strconv_uint64pow10 : DataW Unit) = Lib.tabData .u64 Lib.pow10Tab by kernel_rfl] at hd2
    have hcs := Lib.cells_of_tab Tryz.underlying227 Tryz.underlying209 (by kernel_rfl) (by kernel_rfl) hd2
    obtain ⟨T, f, hb⟩ := tab_cells hvar
    have e : cs = (List.map (fun z => Value.int IntKind.u64 z) Lib.pow10Tab).toArray := by rw [← hcs]
    exact ⟨2, T, f, rfl, by rw [← e]; exact hb⟩
set_option maxRecDepth 100000 in
theorem laid_met (os : Os) (args : Array Value) : laidMet Tryz.prog Rows.parseLeftUptoRow.laid ((laidWorld os).forCall (fun _ _ => 0) ⟨#[], args, []⟩).memory := by
  have h := laidMet_with_case (ρ := caseRen) caseLays (by kernel_rfl) ⟨by kernel_rfl, by kernel_rfl, by kernel_rfl, by kernel_rfl, by kernel_rfl, by kernel_rfl⟩ (w := ((laidWorld os).forCall (fun _ _ => 0) ⟨#[], args, []⟩).memory)
    (l := [("math/bits.deBruijn32tab", Rows.laid_math_bits_deBruijn32tab), ("math/bits.deBruijn64tab", Rows.laid_math_bits_deBruijn64tab), ("internal/strconv.uint64pow10", Rows.laid_internal_strconv_uint64pow10), ("unicode/utf8.acceptRanges", Rows.laid_unicode_utf8_acceptRanges), ("strconv.ErrRange", Rows.laid_strconv_ErrRange), ("strconv.ErrSyntax", Rows.laid_strconv_ErrSyntax), ("unicode/utf8.first", Rows.laid_unicode_utf8_first)])
    8 (by kernel_rfl) (by kernel_rfl) (by kernel_rfl) ((World.holding Tryz.prog os ⟨#[], #[], []⟩).heap.size + 2) 248 (of_decide_eq_true (by kernel_rfl)) (by kernel_rfl) (by kernel_rfl) (by kernel_rfl)
  exact laidMet_move (l := [("math/bits.deBruijn32tab", Rows.laid_math_bits_deBruijn32tab), ("math/bits.deBruijn64tab", Rows.laid_math_bits_deBruijn64tab), ("internal/strconv.uint64pow10", Rows.laid_internal_strconv_uint64pow10), ("unicode/utf8.acceptRanges", Rows.laid_unicode_utf8_acceptRanges), ("strconv.ErrRange", Rows.laid_strconv_ErrRange), ("strconv.ErrSyntax", Rows.laid_strconv_ErrSyntax)]) (l' := [("unicode/utf8.first", Rows.laid_unicode_utf8_first)]) h
end Go.Proofs.YtpmeklllgnnffaaGreatDoor.shared
namespace Go.Abs
open Go
def inI (x : Int) : Prop := -9223372036854775808 ≤ x ∧ x ≤ 9223372036854775807
structure Val where
  kind : Int
  n : Int
  s : List UInt8
  deriving DecidableEq
def Val.cells (v : Val) : List V := [.int .i64 v.kind, .int .i64 v.n, .str v.s]
def Val.enc (v : Val) : V := .agg v.cells
theorem Val.enc_eq (v : Val) : v.enc = .agg [.int .i64 v.kind, .int .i64 v.n, .str v.s] := rfl
def rightS (v : Val) : Bool :=
  if v.kind = 0 then v.n = 0 && v.s = []
  else if v.kind = 1 then v.s = [] && (v.n = 0 || v.n = 1)
  else if v.kind = 2 then v.s = []
  else if v.kind = 3 then v.n = 0 && v.s.length ≤ 24 else false
end Go.Abs
namespace Go.Abs
set_option linter.unusedSimpArgs false
set_option linter.unusedVariables false
open Go
structure Tok where
  kind : Int
  n : Int
  at_ : Int
  s : List UInt8
  deriving DecidableEq
def isDig (c : UInt8) : Bool := 48 ≤ c && c ≤ 57
def isCap (c : UInt8) : Bool := 65 ≤ c && c ≤ 90
def isLow (c : UInt8) : Bool := 97 ≤ c && c ≤ 122
def isRun (c : UInt8) : Bool := isDig c || isCap c || isLow c || c == 95
def isBlk (c : UInt8) : Bool := c == 32 || c == 9 || c == 10
def allB (p : UInt8 → Bool) (s : List UInt8) : Bool := s.all p && !s.isEmpty
def nameS (s : List UInt8) : Bool :=
  match s with
  | [] => false
  | c :: r => isLow c && r.all (fun c => isLow c || isDig c || c == 95) && decide (r.length + 1 ≤ 16)
def digN (c : UInt8) : Nat := c.toNat - 48
def decF (n : Nat) : List UInt8 → Nat
  | [] => n
  | c :: l => decF (n * 10 + digN c) l
def decS (s : List UInt8) : Nat := decF 0 s
def runS (at_ : Int) (w : List UInt8) : Option Tok :=
  if allB isCap w then some ⟨1, 0, at_, w⟩
  else if nameS w then some ⟨2, 0, at_, w⟩
  else if allB isDig w ∧ decS w ≤ 9223372036854775807 then some ⟨3, decS w, at_, []⟩ else none
def quoteS : List UInt8 → List UInt8 → Option (List UInt8 × List UInt8)
  | _, [] => none
  | acc, [c] => if c = 39 then some (acc, []) else none
  | acc, c :: d :: r => if c = 39 then (if d = 39 then quoteS (acc ++ [39]) r else some (acc, d :: r)) else quoteS (acc ++ [c]) (d :: r)
def symS (r : List UInt8) : Nat :=
  match r with
  | [] => 0
  | [c] => if [60, 62, 61, 43, 45, 42, 40, 41, 44, 46, 59].contains c then 1 else 0
  | c :: d :: _ => if c = 60 ∧ d = 62 ∨ c = 60 ∧ d = 61 ∨ c = 62 ∧ d = 61 then 2 else if [60, 62, 61, 43, 45, 42, 40, 41, 44, 46, 59].contains c then 1 else 0
def tokS (p : Nat) (r : List UInt8) : Except Nat (Tok × List UInt8) :=
  match r with
  | [] => .ok (⟨0, 0, p, []⟩, [])
  | c :: t =>
    if isRun c then (match runS p ((c :: t).takeWhile isRun) with
      | some k => .ok (k, (c :: t).dropWhile isRun)
      | none => .error p)
    else if c = 39 then (match quoteS [] t with
      | some (a, u) => if a.length ≤ 24 then .ok (⟨4, 0, p, a⟩, u) else .error p
      | none => .error p)
    else if symS (c :: t) = 0 then .error p else .ok (⟨5, 0, p, (c :: t).take (symS (c :: t))⟩, (c :: t).drop (symS (c :: t)))
def blanks (r : List UInt8) : Nat := (r.takeWhile isBlk).length
def unblank (r : List UInt8) : List UInt8 := r.dropWhile isBlk
def nextTok (p : Nat) (r : List UInt8) : Except Nat (Tok × List UInt8) := tokS (p + blanks r) (unblank r)
def toksS : Nat → Nat → List UInt8 → Except Nat (List Tok)
  | 0, p, _ => .error p
  | f + 1, p, r => match nextTok p r with
    | .error e => .error e
    | .ok (t, u) => if t.kind = 0 then .ok [t] else match toksS f (p + (r.length - u.length)) u with
      | .error e => .error e
      | .ok l => .ok (t :: l)
theorem decF_nil (n : Nat) : decF n [] = n := by unfold decF; rfl
theorem decF_cons (n : Nat) (c : UInt8) (l : List UInt8) : decF n (c :: l) = decF (n * 10 + digN c) l := by conv => lhs; unfold decF
theorem decF_le : ∀ (l : List UInt8) (n : Nat), n ≤ decF n l
  | [], n => Nat.le_refl _
  | c :: l, n => by rw [decF_cons]; exact Nat.le_trans (by omega) (decF_le l _)
theorem parseM_digits : ∀ (l : List UInt8) (acc : Nat), l.all isDig = true → acc ≤ 18446744073709551615 →
    Lib.parseUintM (2 ^ 64 - 1) acc l = if decF acc l ≤ 18446744073709551615 then .ok (decF acc l) else .range
  | [], acc, _, h => by simp [Lib.parseUintM, decF_nil, h]
  | c :: l, acc, hd, h => by
    simp only [List.all_cons, Bool.and_eq_true] at hd
    have hc : 48 ≤ c.toNat ∧ c.toNat ≤ 57 := by
      have := hd.1
      simp only [isDig, Bool.and_eq_true, decide_eq_true_eq, UInt8.le_iff_toNat_le] at this
      exact this
    rw [Lib.parseUintM, if_pos hc, decF_cons]
    have hle := decF_le l (acc * 10 + digN c)
    have hdg : c.toNat - 48 = digN c := rfl
    rw [hdg]
    by_cases h1 : 1844674407370955162 ≤ acc
    · rw [if_pos h1, if_neg (by omega)]
    · rw [if_neg h1]
      by_cases h2 : 2 ^ 64 - 1 < acc * 10 + digN c
      · rw [if_pos h2, if_neg (by omega)]
      · rw [if_neg h2, parseM_digits l _ hd.2 (by omega)]
theorem parseInt_digits {l : List UInt8} (h : allB isDig l = true) : Lib.parseIntB 64 l = if decS l ≤ 9223372036854775807 then .ok (decS l : Int) else .range := by
  simp only [allB, Bool.and_eq_true, Bool.not_eq_true', List.isEmpty_eq_false_iff] at h
  cases l with
  | nil => exact absurd rfl h.2
  | cons c r =>
    have hc : 48 ≤ c.toNat ∧ c.toNat ≤ 57 := by
      have := h.1
      simp only [List.all_cons, Bool.and_eq_true, isDig, decide_eq_true_eq, UInt8.le_iff_toNat_le] at this
      exact this.1
    have h1 : ¬ (c.toNat = 43 ∨ c.toNat = 45) := by omega
    have h2 : ¬ c.toNat = 45 := by omega
    unfold Lib.parseIntB Lib.parseUintB
    simp only [if_neg h1, if_neg (List.cons_ne_nil c r), parseM_digits (c :: r) 0 h.1 (by decide)]
    have e : decF 0 (c :: r) = decS (c :: r) := rfl
    rw [e]
    by_cases h3 : decS (c :: r) ≤ 18446744073709551615
    · rw [if_pos h3]
      simp only
      by_cases h4 : decS (c :: r) ≤ 9223372036854775807
      · rw [if_pos h4, if_neg (by omega), if_neg (by omega), if_neg h2]
      · rw [if_neg h4, if_pos (by omega)]
    · rw [if_neg h3, if_neg (by omega)]
end Go.Abs
namespace Go.Abs
set_option linter.unusedSimpArgs false
set_option linter.unusedVariables false
open Go Go.Proofs
inductive Xp where
  | mk (op : List UInt8) (v : Val) (var col : List UInt8) (kids : List Xp)
mutual
def Xp.enc : Xp → V
  | .mk op v var col kids => .agg [.str op, .int .i64 v.kind, .int .i64 v.n, .str v.s, .str var, .str col, .slice .froz (Xp.encs kids)]
def Xp.encs : List Xp → List V
  | [] => []
  | e :: l => e.enc :: Xp.encs l
end
theorem xencs_eq : ∀ l : List Xp, Xp.encs l = l.map Xp.enc
  | [] => rfl
  | n :: l => by simp [Xp.encs, xencs_eq l]
theorem xenc_mk (op : List UInt8) (v : Val) (var col : List UInt8) (kids : List Xp) : (Xp.mk op v var col kids).enc = .agg [.str op, .int .i64 v.kind, .int .i64 v.n, .str v.s, .str var, .str col, .slice .froz (kids.map Xp.enc)] := by simp [Xp.enc, xencs_eq]
def Xp.op : Xp → List UInt8 | .mk op _ _ _ _ => op
def Xp.v : Xp → Val | .mk _ v _ _ _ => v
def Xp.var : Xp → List UInt8 | .mk _ _ var _ _ => var
def Xp.col : Xp → List UInt8 | .mk _ _ _ col _ => col
def Xp.kids : Xp → List Xp | .mk _ _ _ _ kids => kids
def Val.ok (v : Val) : Prop := inI v.kind ∧ inI v.n ∧ v.s.length ≤ 1048576
mutual
def Xp.ok : Xp → Prop
  | .mk op v var col kids => op.length ≤ 1048576 ∧ v.ok ∧ var.length ≤ 1048576 ∧ col.length ≤ 1048576 ∧ kids.length ≤ 1048576 ∧ Xp.oks kids
def Xp.oks : List Xp → Prop
  | [] => True
  | n :: l => n.ok ∧ Xp.oks l
end
theorem xoks_iff : ∀ l : List Xp, Xp.oks l ↔ ∀ m ∈ l, m.ok
  | [] => by simp [Xp.oks]
  | n :: l => by simp [Xp.oks, xoks_iff l]
def oValue : List UInt8 := [118, 97, 108, 117, 101]
def oColumn : List UInt8 := [99, 111, 108, 117, 109, 110]
def oNeg : List UInt8 := [110, 101, 103]
def oNot : List UInt8 := [110, 111, 116]
def oNull : List UInt8 := [110, 117, 108, 108]
def oAnd : List UInt8 := [97, 110, 100]
def oOr : List UInt8 := [111, 114]
def twoOps : List (List UInt8) := [[43], [45], [42], [61], [60, 62], [60], [60, 61], [62], [62, 61], oAnd, oOr]
def arityS (op : List UInt8) : Int :=
  if op = oValue ∨ op = oColumn then 0 else if op = oNeg ∨ op = oNot ∨ op = oNull then 1 else if op ∈ twoOps then 2 else -1
def Val.zero : Val := ⟨0, 0, []⟩
def rightE : Nat → Xp → Bool
  | 0, _ => false
  | d + 1, .mk op v var col kids => decide ((kids.length : Int) = arityS op) && (decide (op = oValue) || decide (v = Val.zero)) && (decide (op = oColumn) || decide (var = [] ∧ col = [])) &&
    (if op = oValue then rightS v && decide (v.kind ≠ 2 ∨ 0 ≤ v.n) else if op = oColumn then nameS col && (decide (var = []) || nameS var) else kids.all (rightE d))
structure Col where
  name : List UInt8
  type : Int
  notNull : Bool
  unique : Bool
  deriving DecidableEq
def Col.cells (c : Col) : List V := [.str c.name, .int .i64 c.type, .bool c.notNull, .bool c.unique]
def Col.enc (c : Col) : V := .agg c.cells
structure Src where
  kind : Int
  table : List UInt8
  var : List UInt8
  deriving DecidableEq
def Src.cells (c : Src) : List V := [.int .i64 c.kind, .str c.table, .str c.var]
def Src.enc (c : Src) : V := .agg c.cells
structure SetE where
  col : List UInt8
  e : Xp
def SetE.enc (x : SetE) : V := .agg (.str x.col :: vcells x.e.enc)
structure StB where
  kind : Int
  name : List UInt8
  table : List UInt8
  col : List UInt8
  cols : List Col
  values : List Xp
  items : List Xp
  wher : List Xp
  sets : List SetE
  src : List Src
  prio : Int
  event : Int
  deferred : Bool
  rolls : Bool
inductive Stm where
  | mk (b : StB) (acts : List Stm)
def Stm.b : Stm → StB | .mk b _ => b
def Stm.acts : Stm → List Stm | .mk _ acts => acts
def StB.head (b : StB) : List V := [.int .i64 b.kind, .str b.name, .str b.table, .str b.col, .slice .froz (b.cols.map Col.enc), .slice .froz (b.values.map Xp.enc), .slice .froz (b.items.map Xp.enc), .slice .froz (b.wher.map Xp.enc),
  .slice .froz (b.sets.map SetE.enc), .slice .froz (b.src.map Src.enc), .int .i64 b.prio, .int .i64 b.event, .bool b.deferred, .bool b.rolls]
mutual
def Stm.enc : Stm → V
  | .mk b acts => .agg (b.head ++ [.slice .froz (Stm.encs acts)])
def Stm.encs : List Stm → List V
  | [] => []
  | e :: l => e.enc :: Stm.encs l
end
theorem sencs_eq : ∀ l : List Stm, Stm.encs l = l.map Stm.enc
  | [] => rfl
  | n :: l => by simp [Stm.encs, sencs_eq l]
theorem senc_mk (b : StB) (acts : List Stm) : (Stm.mk b acts).enc = .agg [.int .i64 b.kind, .str b.name, .str b.table, .str b.col, .slice .froz (b.cols.map Col.enc), .slice .froz (b.values.map Xp.enc), .slice .froz (b.items.map Xp.enc), .slice .froz (b.wher.map Xp.enc),
  .slice .froz (b.sets.map SetE.enc), .slice .froz (b.src.map Src.enc), .int .i64 b.prio, .int .i64 b.event, .bool b.deferred, .bool b.rolls, .slice .froz (acts.map Stm.enc)] := by simp [Stm.enc, sencs_eq, StB.head]
def Col.ok (c : Col) : Prop := c.name.length ≤ 1048576 ∧ inI c.type
def Src.ok (c : Src) : Prop := inI c.kind ∧ c.table.length ≤ 1048576 ∧ c.var.length ≤ 1048576
def SetE.ok (x : SetE) : Prop := x.col.length ≤ 1048576 ∧ x.e.ok
structure StB.ok (b : StB) : Prop where
  kind : inI b.kind
  name : b.name.length ≤ 1048576
  table : b.table.length ≤ 1048576
  col : b.col.length ≤ 1048576
  cols : b.cols.length ≤ 1048576 ∧ ∀ c ∈ b.cols, c.ok
  values : b.values.length ≤ 1048576 ∧ ∀ c ∈ b.values, c.ok
  items : b.items.length ≤ 1048576 ∧ ∀ c ∈ b.items, c.ok
  wher : b.wher.length ≤ 1048576 ∧ ∀ c ∈ b.wher, c.ok
  sets : b.sets.length ≤ 1048576 ∧ ∀ c ∈ b.sets, c.ok
  src : b.src.length ≤ 1048576 ∧ ∀ c ∈ b.src, c.ok
  prio : inI b.prio
  event : inI b.event
mutual
def Stm.ok : Stm → Prop
  | .mk b acts => b.ok ∧ acts.length ≤ 1048576 ∧ Stm.oks acts
def Stm.oks : List Stm → Prop
  | [] => True
  | n :: l => n.ok ∧ Stm.oks l
end
end Go.Abs
namespace Go.Abs
set_option linter.unusedSimpArgs false
set_option linter.unusedVariables false
open Go Go.Proofs
def Val.q (v : Val) : Prop := inI v.kind ∧ inI v.n
def Val.sz (v : Val) : Nat := v.s.length + 4
mutual
def Xp.q : Xp → Prop
  | .mk _ v _ _ kids => v.q ∧ Xp.qs kids
def Xp.qs : List Xp → Prop
  | [] => True
  | n :: l => n.q ∧ Xp.qs l
end
mutual
def Xp.sz : Xp → Nat
  | .mk op v var col kids => op.length + 1 + (v.sz + (var.length + 1 + (col.length + 1 + (Xp.szl kids + 1)))) + 1
def Xp.szl : List Xp → Nat
  | [] => 0
  | n :: l => n.sz + Xp.szl l
end
theorem xqs_iff : ∀ l : List Xp, Xp.qs l ↔ ∀ m ∈ l, m.q
  | [] => by simp [Xp.qs]
  | n :: l => by simp [Xp.qs, xqs_iff l]
theorem xszl_eq : ∀ l : List Xp, Xp.szl l = szs Xp.sz l
  | [] => rfl
  | n :: l => by simp [Xp.szl, szs, xszl_eq l]
theorem xsz_pos : ∀ n : Xp, 1 ≤ n.sz
  | .mk op v var col kids => by simp only [Xp.sz]; omega
mutual
theorem xok_of : ∀ n : Xp, n.q → n.sz ≤ 1048576 → n.ok
  | .mk op v var col kids, h, hs => by
    obtain ⟨hv, h3⟩ := h
    simp only [Xp.sz, Val.sz] at hs
    have hl := szs_len Xp.sz xsz_pos kids
    rw [← xszl_eq] at hl
    exact ⟨by omega, ⟨hv.1, hv.2, by omega⟩, by omega, by omega, by omega, xoks_of kids h3 (by omega)⟩
theorem xoks_of : ∀ l : List Xp, Xp.qs l → Xp.szl l ≤ 1048576 → Xp.oks l
  | [], _, _ => trivial
  | n :: l, h, hs => by
    simp only [Xp.szl] at hs
    exact ⟨xok_of n h.1 (by omega), xoks_of l h.2 (by omega)⟩
end
theorem inI_of {m : Int} (h : (Lit.int .i64 m).wf = true) : inI m := by
  simpa [Lit.wf, IntKind.min, IntKind.max, IntKind.signed, IntKind.bits, inI] using h
section
variable {H : Type} {enc : TypeId × Value → H} {W : World}
theorem cells3 : Tryz.prog.cellsOf 3 = 1 := by kernel_rfl
theorem cells9 : Tryz.prog.cellsOf 9 = 1 := by kernel_rfl
theorem cells44 : Tryz.prog.cellsOf 44 = 3 := by kernel_rfl
theorem cells23 : Tryz.prog.cellsOf 23 = 1 := by kernel_rfl
theorem cells46 : Tryz.prog.cellsOf 46 = 7 := by kernel_rfl
theorem rs_i64 (n : Nat) : Rs enc Tryz.prog W n 3 (V.int .i64) inI (fun _ => 1) := (Rs.int Tryz.underlying3 n).map id fun a h => ⟨inI_of h, Nat.le_refl _, rfl⟩
theorem rs_text (n : Nat) : Rs enc Tryz.prog W n 9 V.str (fun _ => True) (fun s => s.length + 1) := Rs.str Tryz.underlying9 n
theorem rs_val (n : Nat) : Rs enc Tryz.prog W n 44 Val.enc Val.q Val.sz :=
  Rs.struct Tryz.underlying44 (L := 3) (by kernel_rfl) (fun m _ => RsF.cons (w := 1) (by kernel_rfl) (rs_i64 m) (RsF.cons (w := 1) (by kernel_rfl) (rs_i64 m) (RsF.cons (w := 1) (by kernel_rfl) (rs_text m) RsF.nil)))
    (fun p => ⟨p.1, p.2.1, p.2.2.1⟩) fun ⟨k, n, s, _⟩ h => ⟨⟨h.1, h.2.1⟩, (by simp only [Val.sz]; omega), rfl⟩
theorem well_val : Well Tryz.prog 44 Val.enc := ⟨fun a => (by rw [cells44]; rfl), fun a => rfl, fun a => rfl⟩
theorem well_xp : Well Tryz.prog 46 Xp.enc := ⟨fun ⟨op, v, var, col, kids⟩ => (by rw [cells46, xenc_mk]; rfl), fun ⟨op, v, var, col, kids⟩ => (by rw [xenc_mk]; rfl), fun ⟨op, v, var, col, kids⟩ => by rw [xenc_mk]; rfl⟩
theorem rs_xp : ∀ n : Nat, Rs enc Tryz.prog W n 46 Xp.enc Xp.q Xp.sz := by
  intro n
  induction n using Nat.strongRecOn with
  | ind n ih =>
    exact Rs.struct Tryz.underlying46 (L := 7) (by kernel_rfl) (fun m hm => RsF.cons (w := 1) (by kernel_rfl) (rs_text m) (RsF.cons (w := 3) (by kernel_rfl) (rs_val m) (RsF.cons (w := 1) (by kernel_rfl) (rs_text m) (RsF.cons (w := 1) (by kernel_rfl) (rs_text m)
      (RsF.cons (w := 1) (by kernel_rfl) (Rs.slice Tryz.underlying23 well_xp (by rw [cells46]; omega) fun m' hm' => ih m' (by omega)) RsF.nil)))))
      (fun p => .mk p.1 p.2.1 p.2.2.1 p.2.2.2.1 p.2.2.2.2.1) fun ⟨op, v, var, col, kids, _⟩ h => ⟨⟨h.2.1, (xqs_iff _).2 h.2.2.2.2.1⟩, (by simp only [Xp.sz, xszl_eq]; omega), by rw [xenc_mk]; rfl⟩
theorem rs_xps (n : Nat) : Rs enc Tryz.prog W n 23 (fun l : List Xp => V.slice .froz (l.map Xp.enc)) (fun l => ∀ x ∈ l, Xp.q x) (fun l => szs Xp.sz l + 1) :=
  Rs.slice Tryz.underlying23 well_xp (by rw [cells46]; omega) fun m _ => rs_xp m
theorem agg_xp (a : Xp) : ∃ cs, a.enc = .agg cs := by cases a; rw [xenc_mk]; exact ⟨_, rfl⟩
end
end Go.Abs
namespace Go.Abs
set_option linter.unusedSimpArgs false
set_option linter.unusedVariables false
open Go Go.Proofs
def Col.q (c : Col) : Prop := inI c.type
def Col.sz (c : Col) : Nat := c.name.length + 1 + (1 + (1 + (1 + 0)))
def Src.q (c : Src) : Prop := inI c.kind
def Src.sz (c : Src) : Nat := 1 + (c.table.length + 1 + (c.var.length + 1 + 0))
def SetE.q (c : SetE) : Prop := c.e.q
def SetE.sz (c : SetE) : Nat := c.col.length + 1 + (c.e.sz + 0)
structure StB.q (b : StB) : Prop where
  kind : inI b.kind
  cols : ∀ c ∈ b.cols, Col.q c
  values : ∀ c ∈ b.values, Xp.q c
  items : ∀ c ∈ b.items, Xp.q c
  wher : ∀ c ∈ b.wher, Xp.q c
  sets : ∀ c ∈ b.sets, SetE.q c
  src : ∀ c ∈ b.src, Src.q c
  prio : inI b.prio
  event : inI b.event
def StB.sz (b : StB) (n : Nat) : Nat := 1 + (b.name.length + 1 + (b.table.length + 1 + (b.col.length + 1 + (szs Col.sz b.cols + 1 + (szs Xp.sz b.values + 1 + (szs Xp.sz b.items + 1 + (szs Xp.sz b.wher + 1 + (szs SetE.sz b.sets + 1 + (szs Src.sz b.src + 1 + (1 + (1 + (1 + (1 + (n + 1 + 0))))))))))))))
mutual
def Stm.q : Stm → Prop
  | .mk b acts => b.q ∧ Stm.qs acts
def Stm.qs : List Stm → Prop
  | [] => True
  | n :: l => n.q ∧ Stm.qs l
end
mutual
def Stm.sz : Stm → Nat
  | .mk b acts => b.sz (Stm.szl acts)
def Stm.szl : List Stm → Nat
  | [] => 0
  | n :: l => n.sz + Stm.szl l
end
theorem sqs_iff : ∀ l : List Stm, Stm.qs l ↔ ∀ m ∈ l, m.q
  | [] => by simp [Stm.qs]
  | n :: l => by simp [Stm.qs, sqs_iff l]
theorem sszl_eq : ∀ l : List Stm, Stm.szl l = szs Stm.sz l
  | [] => rfl
  | n :: l => by simp [Stm.szl, szs, sszl_eq l]
theorem ssz_pos : ∀ n : Stm, 1 ≤ n.sz
  | .mk b acts => by simp only [Stm.sz, StB.sz]; omega
theorem col_ok {c : Col} (h : c.q) (hs : c.sz ≤ 1048576) : c.ok := by
  simp only [Col.sz] at hs
  exact ⟨by omega, h⟩
theorem src_ok {c : Src} (h : c.q) (hs : c.sz ≤ 1048576) : c.ok := by
  simp only [Src.sz] at hs
  exact ⟨h, by omega, by omega⟩
theorem set_ok {c : SetE} (h : c.q) (hs : c.sz ≤ 1048576) : c.ok := by
  simp only [SetE.sz] at hs
  exact ⟨by omega, xok_of _ h (by omega)⟩
theorem stb_ok {b : StB} {n : Nat} (h : b.q) (hs : b.sz n ≤ 1048576) : b.ok := by
  simp only [StB.sz] at hs
  have l1 := szs_len Col.sz (fun c => by simp only [Col.sz]; omega) b.cols
  have l2 := szs_len Xp.sz xsz_pos b.values
  have l3 := szs_len Xp.sz xsz_pos b.items
  have l4 := szs_len Xp.sz xsz_pos b.wher
  have l5 := szs_len SetE.sz (fun c => by simp only [SetE.sz]; omega) b.sets
  have l6 := szs_len Src.sz (fun c => by simp only [Src.sz]; omega) b.src
  have m1 : ∀ c ∈ b.cols, c.sz ≤ szs Col.sz b.cols := fun c hc => szs_mem Col.sz hc
  have m2 : ∀ c ∈ b.values, c.sz ≤ szs Xp.sz b.values := fun c hc => szs_mem Xp.sz hc
  have m3 : ∀ c ∈ b.items, c.sz ≤ szs Xp.sz b.items := fun c hc => szs_mem Xp.sz hc
  have m4 : ∀ c ∈ b.wher, c.sz ≤ szs Xp.sz b.wher := fun c hc => szs_mem Xp.sz hc
  have m5 : ∀ c ∈ b.sets, c.sz ≤ szs SetE.sz b.sets := fun c hc => szs_mem SetE.sz hc
  have m6 : ∀ c ∈ b.src, c.sz ≤ szs Src.sz b.src := fun c hc => szs_mem Src.sz hc
  generalize szs Col.sz b.cols = z1 at *
  generalize szs Xp.sz b.values = z2 at *
  generalize szs Xp.sz b.items = z3 at *
  generalize szs Xp.sz b.wher = z4 at *
  generalize szs SetE.sz b.sets = z5 at *
  generalize szs Src.sz b.src = z6 at *
  have b0 : b.name.length ≤ 1048576 ∧ b.table.length ≤ 1048576 ∧ b.col.length ≤ 1048576 := by omega
  have b1 : z1 ≤ 1048576 ∧ z2 ≤ 1048576 ∧ z3 ≤ 1048576 ∧ z4 ≤ 1048576 ∧ z5 ≤ 1048576 ∧ z6 ≤ 1048576 := by omega
  clear hs
  exact { kind := h.kind, name := b0.1, table := b0.2.1, col := b0.2.2
          cols := ⟨by omega, fun c hc => col_ok (h.cols c hc) (Nat.le_trans (m1 c hc) b1.1)⟩
          values := ⟨by omega, fun c hc => xok_of c (h.values c hc) (Nat.le_trans (m2 c hc) b1.2.1)⟩
          items := ⟨by omega, fun c hc => xok_of c (h.items c hc) (Nat.le_trans (m3 c hc) b1.2.2.1)⟩
          wher := ⟨by omega, fun c hc => xok_of c (h.wher c hc) (Nat.le_trans (m4 c hc) b1.2.2.2.1)⟩
          sets := ⟨by omega, fun c hc => set_ok (h.sets c hc) (Nat.le_trans (m5 c hc) b1.2.2.2.2.1)⟩
          src := ⟨by omega, fun c hc => src_ok (h.src c hc) (Nat.le_trans (m6 c hc) b1.2.2.2.2.2)⟩
          prio := h.prio, event := h.event }
mutual
theorem sok_of : ∀ n : Stm, n.q → n.sz ≤ 1048576 → n.ok
  | .mk b acts, h, hs => by
    simp only [Stm.sz] at hs
    have hl := szs_len Stm.sz ssz_pos acts
    rw [← sszl_eq] at hl
    have hs' := hs
    simp only [StB.sz] at hs'
    exact ⟨stb_ok h.1 hs, by omega, soks_of acts h.2 (by omega)⟩
theorem soks_of : ∀ l : List Stm, Stm.qs l → Stm.szl l ≤ 1048576 → Stm.oks l
  | [], _, _ => trivial
  | n :: l, h, hs => by
    simp only [Stm.szl] at hs
    exact ⟨sok_of n h.1 (by omega), soks_of l h.2 (by omega)⟩
end
section
variable {H : Type} {enc : TypeId × Value → H} {W : World}
theorem cells4 : Tryz.prog.cellsOf 4 = 1 := by kernel_rfl
theorem cells94 : Tryz.prog.cellsOf 94 = 4 := by kernel_rfl
theorem cells84 : Tryz.prog.cellsOf 84 = 3 := by kernel_rfl
theorem cells80 : Tryz.prog.cellsOf 80 = 8 := by kernel_rfl
theorem cells28 : Tryz.prog.cellsOf 28 = 15 := by kernel_rfl
theorem rs_bl (n : Nat) : Rs enc Tryz.prog W n 4 V.bool (fun _ => True) (fun _ => 1) := Rs.bool Tryz.underlying4 n
theorem rs_col (n : Nat) : Rs enc Tryz.prog W n 94 Col.enc Col.q Col.sz :=
  Rs.struct Tryz.underlying94 (L := 4) (by kernel_rfl) (fun m _ => RsF.cons (w := 1) (by kernel_rfl) (rs_text m) (RsF.cons (w := 1) (by kernel_rfl) (rs_i64 m) (RsF.cons (w := 1) (by kernel_rfl) (rs_bl m) (RsF.cons (w := 1) (by kernel_rfl) (rs_bl m) RsF.nil))))
    (fun p => ⟨p.1, p.2.1, p.2.2.1, p.2.2.2.1⟩) fun ⟨n, t, a, b, _⟩ h => ⟨h.2.1, (by simp only [Col.sz]; omega), rfl⟩
theorem well_col : Well Tryz.prog 94 Col.enc := ⟨fun a => (by rw [cells94]; rfl), fun a => rfl, fun a => rfl⟩
theorem rs_src (n : Nat) : Rs enc Tryz.prog W n 84 Src.enc Src.q Src.sz :=
  Rs.struct Tryz.underlying84 (L := 3) (by kernel_rfl) (fun m _ => RsF.cons (w := 1) (by kernel_rfl) (rs_i64 m) (RsF.cons (w := 1) (by kernel_rfl) (rs_text m) (RsF.cons (w := 1) (by kernel_rfl) (rs_text m) RsF.nil)))
    (fun p => ⟨p.1, p.2.1, p.2.2.1⟩) fun ⟨k, t, v, _⟩ h => ⟨h.1, (by simp only [Src.sz]; omega), rfl⟩
theorem well_src : Well Tryz.prog 84 Src.enc := ⟨fun a => (by rw [cells84]; rfl), fun a => rfl, fun a => rfl⟩
theorem rs_set (n : Nat) : Rs enc Tryz.prog W n 80 SetE.enc SetE.q SetE.sz :=
  Rs.struct Tryz.underlying80 (L := 8) (by kernel_rfl) (fun m _ => RsF.cons (w := 1) (by kernel_rfl) (rs_text m) (RsF.cons (w := 7) (by kernel_rfl) (rs_xp m) RsF.nil))
    (fun p => ⟨p.1, p.2.1⟩) fun ⟨c, ⟨op, v, var, col, kids⟩, _⟩ h => ⟨h.2.1, (by simp only [SetE.sz]; omega), by simp only [SetE.enc, xenc_mk]; rfl⟩
theorem well_set : Well Tryz.prog 80 SetE.enc := ⟨fun ⟨c, ⟨op, v, var, col, kids⟩⟩ => (by rw [cells80]; simp only [SetE.enc, xenc_mk]; rfl), fun ⟨c, ⟨op, v, var, col, kids⟩⟩ => (by simp only [SetE.enc, xenc_mk]; rfl), fun ⟨c, ⟨op, v, var, col, kids⟩⟩ => by simp only [SetE.enc, xenc_mk]; rfl⟩
theorem well_stm : Well Tryz.prog 28 Stm.enc := ⟨fun ⟨b, acts⟩ => (by rw [cells28, senc_mk]; rfl), fun ⟨b, acts⟩ => (by rw [senc_mk]; rfl), fun ⟨b, acts⟩ => by rw [senc_mk]; rfl⟩
set_option maxRecDepth 100000 in
theorem rs_stm : ∀ n : Nat, Rs enc Tryz.prog W n 28 Stm.enc Stm.q Stm.sz := by
  intro n
  induction n using Nat.strongRecOn with
  | ind n ih =>
    exact Rs.struct Tryz.underlying28 (L := 15) (by kernel_rfl) (fun m hm => RsF.cons (w := 1) (by kernel_rfl) (rs_i64 m) (RsF.cons (w := 1) (by kernel_rfl) (rs_text m) (RsF.cons (w := 1) (by kernel_rfl) (rs_text m) (RsF.cons (w := 1) (by kernel_rfl) (rs_text m)
      (RsF.cons (w := 1) (by kernel_rfl) (Rs.slice Tryz.underlying22 well_col (by rw [cells94]; omega) fun m' _ => rs_col m') (RsF.cons (w := 1) (by kernel_rfl) (rs_xps m) (RsF.cons (w := 1) (by kernel_rfl) (rs_xps m) (RsF.cons (w := 1) (by kernel_rfl) (rs_xps m)
      (RsF.cons (w := 1) (by kernel_rfl) (Rs.slice Tryz.underlying24 well_set (by rw [cells80]; omega) fun m' _ => rs_set m') (RsF.cons (w := 1) (by kernel_rfl) (Rs.slice Tryz.underlying25 well_src (by rw [cells84]; omega) fun m' _ => rs_src m')
      (RsF.cons (w := 1) (by kernel_rfl) (rs_i64 m) (RsF.cons (w := 1) (by kernel_rfl) (rs_i64 m) (RsF.cons (w := 1) (by kernel_rfl) (rs_bl m) (RsF.cons (w := 1) (by kernel_rfl) (rs_bl m)
      (RsF.cons (w := 1) (by kernel_rfl) (Rs.slice Tryz.underlying26 well_stm (by rw [cells28]; omega) fun m' hm' => ih m' (by omega)) RsF.nil)))))))))))))))
      (fun p => .mk ⟨p.1, p.2.1, p.2.2.1, p.2.2.2.1, p.2.2.2.2.1, p.2.2.2.2.2.1, p.2.2.2.2.2.2.1, p.2.2.2.2.2.2.2.1, p.2.2.2.2.2.2.2.2.1, p.2.2.2.2.2.2.2.2.2.1, p.2.2.2.2.2.2.2.2.2.2.1, p.2.2.2.2.2.2.2.2.2.2.2.1, p.2.2.2.2.2.2.2.2.2.2.2.2.1, p.2.2.2.2.2.2.2.2.2.2.2.2.2.1⟩ p.2.2.2.2.2.2.2.2.2.2.2.2.2.2.1)
      fun ⟨kind, name, table, col, cols, values, items, wher, sets, src, prio, event, deferred, rolls, acts, _⟩ h =>
        ⟨⟨⟨h.1, h.2.2.2.2.1, h.2.2.2.2.2.1, h.2.2.2.2.2.2.1, h.2.2.2.2.2.2.2.1, h.2.2.2.2.2.2.2.2.1, h.2.2.2.2.2.2.2.2.2.1, h.2.2.2.2.2.2.2.2.2.2.1, h.2.2.2.2.2.2.2.2.2.2.2.1⟩, (sqs_iff _).2 h.2.2.2.2.2.2.2.2.2.2.2.2.2.2.1⟩,
          (by simp only [Stm.sz, StB.sz, sszl_eq]; omega), by rw [senc_mk]; rfl⟩
theorem agg_stm (a : Stm) : ∃ cs, a.enc = .agg cs := by cases a; rw [senc_mk]; exact ⟨_, rfl⟩
end
end Go.Abs
namespace Go.Abs
open Go
theorem dig_int (c : UInt8) : isDig c = (decide ((48 : Int) ≤ c.toNat) && decide ((c.toNat : Int) ≤ 57)) := by
  have e1 : (48 : UInt8).toNat = 48 := rfl
  have e2 : (57 : UInt8).toNat = 57 := rfl
  rw [isDig, Bool.eq_iff_iff]
  simp only [Bool.and_eq_true, decide_eq_true_eq, UInt8.le_iff_toNat_le, e1, e2]
  omega
theorem cap_int (c : UInt8) : isCap c = (decide ((65 : Int) ≤ c.toNat) && decide ((c.toNat : Int) ≤ 90)) := by
  have e1 : (65 : UInt8).toNat = 65 := rfl
  have e2 : (90 : UInt8).toNat = 90 := rfl
  rw [isCap, Bool.eq_iff_iff]
  simp only [Bool.and_eq_true, decide_eq_true_eq, UInt8.le_iff_toNat_le, e1, e2]
  omega
theorem low_int (c : UInt8) : isLow c = (decide ((97 : Int) ≤ c.toNat) && decide ((c.toNat : Int) ≤ 122)) := by
  have e1 : (97 : UInt8).toNat = 97 := rfl
  have e2 : (122 : UInt8).toNat = 122 := rfl
  rw [isLow, Bool.eq_iff_iff]
  simp only [Bool.and_eq_true, decide_eq_true_eq, UInt8.le_iff_toNat_le, e1, e2]
  omega
theorem byte_int (c : UInt8) (k : Nat) (hk : k < 256) : (c == UInt8.ofNat k) = decide ((c.toNat : Int) = k) := by
  have e : (UInt8.ofNat k).toNat = k := by rw [UInt8.toNat_ofNat']; omega
  rw [Bool.eq_iff_iff]
  simp only [beq_iff_eq, decide_eq_true_eq]
  constructor
  · rintro rfl; rw [e]
  · intro h; exact UInt8.toNat_inj.1 (by rw [e]; omega)
theorem under_int (c : UInt8) : (c == 95) = decide ((c.toNat : Int) = 95) := byte_int c 95 (by omega)
theorem blk_int (c : UInt8) : isBlk c = (decide ((c.toNat : Int) = 32) || decide ((c.toNat : Int) = 9) || decide ((c.toNat : Int) = 10)) := by
  rw [isBlk]
  have h1 : (c == 32) = decide ((c.toNat : Int) = 32) := byte_int c 32 (by omega)
  have h2 : (c == 9) = decide ((c.toNat : Int) = 9) := byte_int c 9 (by omega)
  have h3 : (c == 10) = decide ((c.toNat : Int) = 10) := byte_int c 10 (by omega)
  rw [h1, h2, h3]
end Go.Abs
namespace Go.Abs
set_option linter.unusedSimpArgs false
set_option linter.unusedVariables false
open Go Go.Proofs
attribute [local simp] i_nil i_blk i_skip i_ret i_exit i_seq i_block i_cond i_region' i_ops_nil i_ops i_drawn' k_none k_0 k_1 k_2 k_3 k_4 k_5 d_in a_nil a_cons alt1 h_nil h_one h_two z_nil z_cons z_cells zeqL zeq q_alloc q_some nxtN i_drh d_hi i_drw_nil i_drw u_nil u_code u_ops u_drw u_lp u_again u_exit u_ret u_panic c_bool o_some o_val o_panic d_some d_val d_panic w_none w_fast wantG q_nil q_zero q_succ t_zero t_succ g_zero g_succ s_zero s_succ s_some s_none v_tmp v_const v_func f_quiet gc_none gc_pure wrap_i64 p_move p_assign p_pick p_alloc p_box p_build p_buildSlice p_load p_store p_nilCheck p_binOp n_tmp n_int n_bool n_str n_ptr n_fun n_iface nilCmp p_unOp p_convert p_makeSlice p_makeInterface p_makeFunc p_slice p_fieldAddr p_field p_indexAddr p_index p_extract p_callv p_callb p_panic quiet_val new_val e_assign e_call e_load e_store e_alloc e_box e_move e_pick e_build e_buildSlice e_nilCheck e_binOp e_unOp e_convert e_makeSlice e_makeInterface e_makeFunc e_slice e_fieldAddr e_field e_indexAddr e_index e_extract e_panic callD fpRead adoptZ fulls adopt adoptL ofValue ofScalar binOpV unOpV intBin strBin eqRes veq veqF eqDepth val? finish resL r_tmp r_cell normL normTop tipIs refsL refs ownRefs single frz frzL ren renL renOwn callOp doCall backR writeBack builtinV loadV storeV storeW iceT cellsAt takeV D.isAgg overlay vcells cellOk fieldAddrV indexAddrV fieldV partV indexV buildV fillV buildSliceV litElems appendV appElems elemOk convertV convV winStr makeSliceV sliceV natOf
attribute [local simp ↓] brB_true brB_false brB_dec brB_not brB_and brB_or brB_beq brB_bne
def nameF (s : List UInt8) (i : Nat) : Bool := if i = 0 then nameS s else (s.drop i).all (fun c => isLow c || isDig c || c == 95) && decide (s.length ≤ 16)
theorem nameF_step (s : List UInt8) (i : Nat) (hi : i < s.length) : nameF s i = ((isLow s[i] || (decide (¬ i = 0) && (isDig s[i] || s[i] == 95))) && nameF s (i + 1)) := by
  unfold nameF
  by_cases h : i = 0
  · subst h
    cases s with
    | nil => simp at hi
    | cons c r => simp [nameS, Bool.and_assoc]
  · have hd : s.drop i = s[i] :: s.drop (i + 1) := List.drop_eq_getElem_cons hi
    rw [if_neg h, if_neg (by omega), hd, List.all_cons]
    simp [h, Bool.and_assoc, Bool.or_assoc]
theorem nameF_end (s : List UInt8) (i : Nat) (hi : ¬ i < s.length) (hle : i ≤ s.length) : nameF s i = (decide (¬ s = []) && decide (s.length ≤ 16)) := by
  unfold nameF
  have hd : s.drop i = [] := List.drop_eq_nil_of_le (by omega)
  by_cases h : i = 0
  · have : s = [] := List.eq_nil_of_length_eq_zero (by omega)
    subst this
    simp [h, nameS]
  · have : ¬ s = [] := by rintro rfl; simp at hle; omega
    simp [h, hd, this]
set_option maxRecDepth 100000 in
theorem ev_name (s : List UInt8) (hs : s.length ≤ 4611686018427387904) : EV 40 [.str s] [] = some (.ret (.bool (nameS s)), []) := by
  rw [EV_mki rfl Tryz.func40 rfl (by kernel_rfl) rfl]
  simp [Tryz.f40, Tryz.ti3, Tryz.ti5, Tryz.ti9]
  rw [i_loop (ts := [5, 6, 7, 8, 11, 12, 13, 14, 15, 16, 17, 18, 19, 20, 4, 21, 22, 23, 24, 25, 26, 27, 28, 29, 30, 31, 32, 33, 34, 35, 36, 37, 38, 39, 40, 41, 42, 43, 44, 9, 10])]
  rotate_left
  · kernel_rfl
  refine i_at (fun i : {i : Nat // i ≤ s.length} => s.length - i.1) (fun i env => setV env 3 (.int .i64 i.1)) (fun _ => _) (fun i => some (.ret (.bool (nameF s i.1)), [])) ⟨0, by omega⟩ (by simp [s_zero, s_succ]) rfl (by simp [nameF]) ?_
  intro ⟨i, hil⟩ ih
  dsimp only
  by_cases hi : i < s.length
  · have ih := ih ⟨i + 1, by omega⟩ (by simp only; omega)
    have hwi : IntKind.i64.wrap ((i : Int) + 1) = (i : Int) + 1 := wrap_i64 (by omega)
    rw [nameF_step s i hi]
    obtain ⟨c, hk⟩ : ∃ m, s[i] = m := ⟨_, rfl⟩
    have hkk : s[i]? = some c := by rw [List.getElem?_eq_getElem hi, hk]
    simp only [s_zero, s_succ, Int.natCast_add, Int.natCast_one, Int.cast_ofNat_Int] at ih
    rw [hk, low_int, dig_int, under_int]
    by_cases h1 : (97 : Int) ≤ c.toNat
    · have h3 : ¬ (c.toNat : Int) = 95 := by omega
      have h4 : ¬ (c.toNat : Int) < 48 := by omega
      have h5 : (57 : Int) < c.toNat := by omega
      have h6 : ¬ (c.toNat : Int) ≤ 57 := by omega
      by_cases h2 : (c.toNat : Int) ≤ 122
      · simp [i_again, roundEnd, dropT, cleanV, Tryz.f40, Tryz.ti3, Tryz.ti5, Tryz.ti9, hi, hk, hkk, hwi, ih, h1, h2]
      · by_cases h0 : i = 0
        · subst h0
          have hne : ¬ s = [] := by rintro rfl; simp at hi
          simp [i_again, roundEnd, dropT, cleanV, Tryz.f40, Tryz.ti3, Tryz.ti5, Tryz.ti9, hi, hk, hkk, hne, h1, h2]
        · simp [i_again, roundEnd, dropT, cleanV, Tryz.f40, Tryz.ti3, Tryz.ti5, Tryz.ti9, hi, hk, hkk, hwi, ih, h0, h1, h2, h3, h4, h5, h6]
    · by_cases h0 : i = 0
      · subst h0
        have hne : ¬ s = [] := by rintro rfl; simp at hi
        simp [i_again, roundEnd, dropT, cleanV, Tryz.f40, Tryz.ti3, Tryz.ti5, Tryz.ti9, hi, hk, hkk, hne, h1]
      · by_cases h3 : (c.toNat : Int) = 95
        · simp [i_again, roundEnd, dropT, cleanV, Tryz.f40, Tryz.ti3, Tryz.ti5, Tryz.ti9, hi, hk, hkk, hwi, ih, h0, h1, h3]
        · by_cases h4 : (c.toNat : Int) < 48
          · have h7 : ¬ (48 : Int) ≤ c.toNat := by omega
            simp [i_again, roundEnd, dropT, cleanV, Tryz.f40, Tryz.ti3, Tryz.ti5, Tryz.ti9, hi, hk, hkk, hwi, ih, h0, h1, h3, h4, h7]
          · have h7 : (48 : Int) ≤ c.toNat := by omega
            by_cases h5 : (57 : Int) < c.toNat
            · have h6 : ¬ (c.toNat : Int) ≤ 57 := by omega
              simp [i_again, roundEnd, dropT, cleanV, Tryz.f40, Tryz.ti3, Tryz.ti5, Tryz.ti9, hi, hk, hkk, hwi, ih, h0, h1, h3, h4, h5, h6, h7]
            · have h6 : (c.toNat : Int) ≤ 57 := by omega
              simp [i_again, roundEnd, dropT, cleanV, Tryz.f40, Tryz.ti3, Tryz.ti5, Tryz.ti9, hi, hk, hkk, hwi, ih, h0, h1, h3, h4, h5, h6, h7]
  · rw [nameF_end s i hi hil]
    by_cases h0 : s = []
    · subst h0
      obtain rfl : i = 0 := by simpa using hil
      simp [i_again, roundEnd, dropT, cleanV, Tryz.f40, Tryz.ti3, Tryz.ti5, Tryz.ti9]
    · by_cases h1 : s.length ≤ 16
      · have h1' : (s.length : Int) ≤ 16 := by omega
        simp [i_again, roundEnd, dropT, cleanV, Tryz.f40, Tryz.ti3, Tryz.ti5, Tryz.ti9, hi, h0, h1, h1']
      · have h1' : ¬ (s.length : Int) ≤ 16 := by omega
        simp [i_again, roundEnd, dropT, cleanV, Tryz.f40, Tryz.ti3, Tryz.ti5, Tryz.ti9, hi, h0, h1, h1']
theorem ev_right (k n : Int) (s : List UInt8) : EV 95 [.agg [.int .i64 k, .int .i64 n, .str s]] [] = some (.ret (.bool (rightS ⟨k, n, s⟩)), []) := by
  rw [EV_mki rfl Tryz.func95 rfl (by kernel_rfl) rfl]
  simp +contextual [Tryz.f95, Tryz.ti3, Tryz.ti9, Tryz.ti44, rightS]
  try simp only [brP, dite_eq_ite]
  repeat' split
  all_goals simp_all
  all_goals omega
end Go.Abs
