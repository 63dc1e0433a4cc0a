/- Plain: an expression's text is read as that expression. -/
import Derived.Test.YtpmeklllgnnffaaGreatDoorU47
set_option linter.unusedSimpArgs false
set_option linter.unusedVariables false

namespace Go.Abs
set_option linter.unusedSimpArgs false
set_option linter.unusedVariables false
open Go

def wT (w : List UInt8) : Tok := ⟨1, 0, 0, w⟩
def nT (w : List UInt8) : Tok := ⟨2, 0, 0, w⟩
def iT (n : Int) : Tok := ⟨3, n, 0, []⟩
def sT (w : List UInt8) : Tok := ⟨4, 0, 0, w⟩
def yT (w : List UInt8) : Tok := ⟨5, 0, 0, w⟩
abbrev Pcs := List (Tok × Bool)
def valT (v : Val) : Tok := if v.kind = 1 then wT (if v.n = 1 then [84, 82, 85, 69] else [70, 65, 76, 83, 69]) else if v.kind = 2 then iT v.n else if v.kind = 3 then sT v.s else wT [78, 85, 76, 76]
def opTok (op : List UInt8) : Tok := if op = oAnd then wT [65, 78, 68] else if op = oOr then wT [79, 82] else yT op
mutual
def pcE : Xp → Bool → Pcs
  | .mk op v var col kids, b =>
    if op = oValue then [(valT v, b)]
    else if op = oColumn then (if var = [] then [(nT col, b)] else [(nT var, b), (yT [46], false), (nT col, false)])
    else match pcEs kids (decide (op = oNeg ∨ op = oNot)) with
      | a :: r => if op = oNeg then (yT [40], b) :: (yT [45], false) :: (a ++ [(yT [41], false)]) else if op = oNot then (yT [40], b) :: (wT [78, 79, 84], false) :: (a ++ [(yT [41], false)])
        else if op = oNull then (yT [40], b) :: (a ++ [(wT [73, 83], true), (wT [78, 85, 76, 76], true), (yT [41], false)])
        else match r with
          | c :: _ => (yT [40], b) :: (a ++ (opTok op, true) :: (c ++ [(yT [41], false)]))
          | [] => []
      | [] => []
def pcEs : List Xp → Bool → List Pcs
  | [], _ => []
  | e :: l, b => pcE e b :: pcEs l true
end
abbrev ts (l : Pcs) : List Tok := l.map Prod.fst
theorem pc_value (v : Val) (var col : List UInt8) (l : List Xp) (b : Bool) : pcE (.mk oValue v var col l) b = [(valT v, b)] := by simp [pcE]
theorem pc_column (v : Val) (var col : List UInt8) (l : List Xp) (b : Bool) : pcE (.mk oColumn v var col l) b = if var = [] then [(nT col, b)] else [(nT var, b), (yT [46], false), (nT col, false)] := by simp [pcE, oColumn, oValue]
theorem pc_neg (v : Val) (var col : List UInt8) (a : Xp) (b : Bool) : pcE (.mk oNeg v var col [a]) b = (yT [40], b) :: (yT [45], false) :: (pcE a true ++ [(yT [41], false)])  := by simp [pcE, pcEs, oNeg, oColumn, oValue]
theorem pc_not (v : Val) (var col : List UInt8) (a : Xp) (b : Bool) : pcE (.mk oNot v var col [a]) b = (yT [40], b) :: (wT [78, 79, 84], false) :: (pcE a true ++ [(yT [41], false)])  := by simp [pcE, pcEs, oNeg, oNot, oColumn, oValue]
theorem pc_null (v : Val) (var col : List UInt8) (a : Xp) (b : Bool) : pcE (.mk oNull v var col [a]) b = (yT [40], b) :: (pcE a false ++ [(wT [73, 83], true), (wT [78, 85, 76, 76], true), (yT [41], false)])  := by simp [pcE, pcEs, oNeg, oNot, oNull, oColumn, oValue]
theorem pc_two {op : List UInt8} (v : Val) (var col : List UInt8) (a c : Xp) (b : Bool) (n1 : op ≠ oNeg) (n2 : op ≠ oNot) (n3 : op ≠ oNull) (n4 : op ≠ oValue) (n5 : op ≠ oColumn) :
    pcE (.mk op v var col [a, c]) b = (yT [40], b) :: (pcE a false ++ (opTok op, true) :: (pcE c true ++ [(yT [41], false)]))  := by simp [pcE, pcEs, n1, n2, n3, n4, n5]

theorem showTok_val (v : Val) : showTok (valT v) = showV v := by
  unfold valT showV showTok
  by_cases h1 : v.kind = 1
  · by_cases hn : v.n = 1 <;> simp [h1, hn, wT]
  · by_cases h2 : v.kind = 2
    · simp [h2, iT]
    · by_cases h3 : v.kind = 3
      · simp [h3, sT]
      · simp [h1, h2, h3, wT]
theorem showTok_w (w : List UInt8) : showTok (wT w) = w := by simp [showTok, wT]
theorem showTok_n (w : List UInt8) : showTok (nT w) = w := by simp [showTok, nT]
theorem showTok_y (w : List UInt8) : showTok (yT w) = w := by simp [showTok, yT]
theorem showTok_op (op : List UInt8) : showTok (opTok op) = upS op := by
  unfold opTok upS
  by_cases h1 : op = oAnd
  · simp [h1, showTok_w]
  · by_cases h2 : op = oOr
    · simp [h2, showTok_w, oAnd, oOr]
    · simp [h1, h2, showTok_y]
theorem render_val (v : Val) (b : Bool) : renderS [(valT v, b)] = (if b = true then [32] else []) ++ showV v := by simp [renderS, showTok_val]
theorem render_pc : ∀ (d : Nat) (e : Xp) (b : Bool), rightE d e = true → renderS (pcE e b) = (if b = true then [32] else []) ++ showE e
  | 0, .mk op v var col l, b, h => by cases h
  | d + 1, .mk op v var col l, b, h => by
    rcases right_parts h with ⟨rfl, rfl, rfl, rfl, h1, h2⟩ | ⟨rfl, rfl, rfl, h1, h2⟩ | ⟨a, h1, rfl, rfl, rfl, rfl, h2⟩ | ⟨a, c, h1, n1, n2, n3, n4, n5, rfl, rfl, rfl, rfl, h2, h3⟩
    · rw [pc_value, showE_value, render_val]
    · rw [pc_column, showE_column]
      by_cases hv : var = [] <;> simp [hv, renderS, showTok_n, showTok_y]
    · have iha := fun b => render_pc d a b h2
      rcases h1 with rfl | rfl | rfl
      · rw [pc_neg, showE_neg]
        simp [renderS, render_app, iha, showTok_y]
      · rw [pc_not, showE_not]
        simp [renderS, render_app, iha, showTok_y, showTok_w]
      · rw [pc_null, showE_null]
        simp [renderS, render_app, iha, showTok_y, showTok_w]
    · have iha := fun b => render_pc d a b h2
      have ihc := fun b => render_pc d c b h3
      rw [pc_two _ _ _ _ _ _ n1 n2 n3 n4 n5, showE_two n1 n2 n3 n4 n5]
      simp [renderS, render_app, iha, ihc, showTok_y, showTok_op]

/- tokens that can stand behind one another -/
def GoodR (r : Pcs) : Prop := SeqOk r ∧ ∀ t, NextOk t r
theorem good_nil : GoodR [] := ⟨trivial, fun t => trivial⟩
theorem ok_word {w : List UInt8} (h : allB isCap w = true) : OkTok (wT w) ∧ (wT w).kind ≠ 0 := ⟨.word 0 w h, by simp [wT]⟩
theorem ok_name {w : List UInt8} (h : nameS w = true) : OkTok (nT w) ∧ (nT w).kind ≠ 0 := ⟨.name 0 w h, by simp [nT]⟩
theorem ok_num {n : Int} (h0 : 0 ≤ n) (h : n ≤ 9223372036854775807) : OkTok (iT n) ∧ (iT n).kind ≠ 0 := by
  refine ⟨?_, by simp [iT]⟩
  obtain ⟨u, rfl⟩ := Int.eq_ofNat_of_zero_le h0
  exact .num 0 u (by omega)
theorem ok_sym1 {c : UInt8} (h : [60, 62, 61, 43, 45, 42, 40, 41, 44, 46, 59].contains c = true) : OkTok (yT [c]) ∧ (yT [c]).kind ≠ 0 := ⟨.sym1 0 c h, by simp [yT]⟩
theorem ok_sym2 {c d : UInt8} (h : c = 60 ∧ d = 62 ∨ c = 60 ∧ d = 61 ∨ c = 62 ∧ d = 61) : OkTok (yT [c, d]) ∧ (yT [c, d]).kind ≠ 0 := ⟨.sym2 0 c d h, by simp [yT]⟩
theorem ok_val {v : Val} (h : rightS v = true) (h2 : v.kind ≠ 2 ∨ 0 ≤ v.n) (ho : v.ok) : OkTok (valT v) ∧ (valT v).kind ≠ 0 := by
  unfold valT
  by_cases k1 : v.kind = 1
  · rw [if_pos k1]
    by_cases hn : v.n = 1
    · rw [if_pos hn]; exact ok_word (by decide)
    · rw [if_neg hn]; exact ok_word (by decide)
  · rw [if_neg k1]
    by_cases k2 : v.kind = 2
    · rw [if_pos k2]
      have := ho.2.1
      unfold inI at this
      exact ok_num (by rcases h2 with h2 | h2; exact absurd k2 h2; exact h2) (by omega)
    · rw [if_neg k2]
      by_cases k3 : v.kind = 3
      · rw [if_pos k3]
        have := (right_text h).1
        have hl : v.s.length ≤ 24 := by
          have := h
          unfold rightS at this
          simp [k1, k2, k3] at this
          omega
        exact ⟨.str 0 _ hl, by simp [sT]⟩
      · rw [if_neg k3]; exact ok_word (by decide)
theorem ok_op {op : List UInt8} (h : op ∈ twoOps) : OkTok (opTok op) ∧ (opTok op).kind ≠ 0 := by
  simp only [twoOps, List.mem_cons, List.not_mem_nil, or_false] at h
  rcases h with rfl | rfl | rfl | rfl | rfl | rfl | rfl | rfl | rfl | rfl | rfl
  · exact ok_sym1 (by decide)
  · exact ok_sym1 (by decide)
  · exact ok_sym1 (by decide)
  · exact ok_sym1 (by decide)
  · exact ok_sym2 (by decide)
  · exact ok_sym1 (by decide)
  · exact ok_sym2 (by decide)
  · exact ok_sym1 (by decide)
  · exact ok_sym2 (by decide)
  · exact ok_word (by decide)
  · exact ok_word (by decide)
theorem good_blank {t : Tok} {r : Pcs} (ht : OkTok t ∧ t.kind ≠ 0) (hn : NextOk t r) (hr : SeqOk r) : GoodR ((t, true) :: r) := ⟨⟨ht, hn, hr⟩, fun u => .inl rfl⟩
theorem good_close {s : List UInt8} {b : Bool} {r : Pcs} (hs : s = [41] ∨ s = [44] ∨ s = [46] ∨ s = [59]) (hr : GoodR r) : GoodR ((yT s, b) :: r) := by
  refine ⟨⟨?_, hr.2 _, hr.1⟩, fun u => .inr (.inr ⟨rfl, hs⟩)⟩
  rcases hs with rfl | rfl | rfl | rfl <;> exact ok_sym1 (by decide)
theorem open_next (r : Pcs) : NextOk (yT [40]) r := by
  cases r with
  | nil => trivial
  | cons q r => exact .inr (.inl ⟨rfl, .inl rfl⟩)
theorem pc_head : ∀ (e : Xp) (b : Bool), pcE e b = [] ∨ ∃ t r, pcE e b = (t, b) :: r
  | .mk op v var col kids, b => by
    unfold pcE
    split
    · exact .inr ⟨_, _, rfl⟩
    · split
      · split <;> exact .inr ⟨_, _, rfl⟩
      · split
        · split
          · exact .inr ⟨_, _, rfl⟩
          · split
            · exact .inr ⟨_, _, rfl⟩
            · split
              · exact .inr ⟨_, _, rfl⟩
              · split
                · exact .inr ⟨_, _, rfl⟩
                · exact .inl rfl
        · exact .inl rfl
theorem good_pc' (e : Xp) {r : Pcs} (hs : SeqOk (pcE e true ++ r)) (hr : GoodR r) : GoodR (pcE e true ++ r) := by
  rcases pc_head e true with h | ⟨t, q, h⟩
  · rw [h]; exact hr
  · rw [h] at hs ⊢
    exact ⟨hs, fun u => .inl rfl⟩
theorem seq_pc : ∀ (d : Nat) (e : Xp) (b : Bool), rightE d e = true → e.ok → ∀ r, GoodR r → SeqOk (pcE e b ++ r)
  | 0, .mk op v var col l, b, h, _ => by cases h
  | d + 1, .mk op v var col l, b, h, ho => by
    intro r hr
    have hc : GoodR ((yT [41], false) :: r) := good_close (.inl rfl) hr
    have h40 : OkTok (yT [40]) ∧ (yT [40]).kind ≠ 0 := ok_sym1 (by decide)
    rcases right_parts h with ⟨rfl, rfl, rfl, rfl, h1, h2⟩ | ⟨rfl, rfl, rfl, h1, h2⟩ | ⟨a, h1, rfl, rfl, rfl, rfl, h2⟩ | ⟨a, c, h1, n1, n2, n3, n4, n5, rfl, rfl, rfl, rfl, h2, h3⟩
    · rw [pc_value]
      exact ⟨ok_val h1 h2 ho.2.1, hr.2 _, hr.1⟩
    · rw [pc_column]
      by_cases hv : var = []
      · rw [if_pos hv]
        exact ⟨ok_name h1, hr.2 _, hr.1⟩
      · rw [if_neg hv]
        have h2 := h2.resolve_left hv
        exact ⟨ok_name h2, .inr (.inr ⟨rfl, .inr (.inr (.inl rfl))⟩), ok_sym1 (by decide), .inr (.inl ⟨rfl, .inr rfl⟩), ok_name h1, hr.2 _, hr.1⟩
    · have hoa : a.ok := ho.2.2.2.2.2.1
      have iha := fun b r hr => seq_pc d a b h2 hoa r hr
      rcases h1 with rfl | rfl | rfl
      · rw [pc_neg]
        have h0 := good_pc' a (iha true _ hc) hc
        simp only [List.cons_append, List.append_assoc, List.nil_append]
        exact ⟨h40, open_next _, ok_sym1 (by decide), h0.2 _, h0.1⟩
      · rw [pc_not]
        have h0 := good_pc' a (iha true _ hc) hc
        simp only [List.cons_append, List.append_assoc, List.nil_append]
        exact ⟨h40, open_next _, ok_word (by decide), h0.2 _, h0.1⟩
      · rw [pc_null]
        have h0 : GoodR ((wT [78, 85, 76, 76], true) :: (yT [41], false) :: r) := good_blank (ok_word (by decide)) (hc.2 _) hc.1
        have h1 : GoodR ((wT [73, 83], true) :: (wT [78, 85, 76, 76], true) :: (yT [41], false) :: r) := good_blank (ok_word (by decide)) (h0.2 _) h0.1
        simp only [List.cons_append, List.append_assoc, List.nil_append]
        exact ⟨h40, open_next _, iha false _ h1⟩
    · have hoa : a.ok := ho.2.2.2.2.2.1
      have hoc : c.ok := ho.2.2.2.2.2.2.1
      have iha := fun b r hr => seq_pc d a b h2 hoa r hr
      have ihc := fun b r hr => seq_pc d c b h3 hoc r hr
      rw [pc_two _ _ _ _ _ _ n1 n2 n3 n4 n5]
      have h0 := good_pc' c (ihc true _ hc) hc
      have h1 : GoodR ((opTok op, true) :: (pcE c true ++ (yT [41], false) :: r)) := good_blank (ok_op h1) (h0.2 _) h0.1
      simp only [List.cons_append, List.append_assoc, List.nil_append]
      exact ⟨h40, open_next _, iha false _ h1⟩
theorem good_pc {d : Nat} {e : Xp} (h : rightE d e = true) (ho : e.ok) {r : Pcs} (hr : GoodR r) : GoodR (pcE e true ++ r) := good_pc' e (seq_pc d e true h ho r hr) hr

/- how an expression's tokens begin -/
def Begins (l : List Tok) : Prop := isT [45] l = false ∧ isT [78, 79, 84] l = false
theorem begins_val (v : Val) (r : List Tok) : Begins (valT v :: r) := by
  unfold valT Begins
  by_cases k1 : v.kind = 1
  · by_cases hn : v.n = 1 <;> simp [k1, hn, wT, isT]
  · by_cases k2 : v.kind = 2
    · simp [k2, iT, isT]
    · by_cases k3 : v.kind = 3
      · simp [k3, sT, isT]
      · simp [k1, k2, k3, wT, isT]
theorem begins_pc : ∀ (d : Nat) (e : Xp) (b : Bool) (r : List Tok), rightE d e = true → Begins (ts (pcE e b) ++ r)
  | 0, .mk op v var col l, b, r, h => by cases h
  | d + 1, .mk op v var col l, b, r, h => by
    rcases right_parts h with ⟨rfl, rfl, rfl, rfl, h1, h2⟩ | ⟨rfl, rfl, rfl, h1, h2⟩ | ⟨a, h1, rfl, rfl, rfl, rfl, h2⟩ | ⟨a, c, h1, n1, n2, n3, n4, n5, rfl, rfl, rfl, rfl, h2, h3⟩
    · rw [pc_value]; exact begins_val v r
    · rw [pc_column]
      by_cases hv : var = [] <;> simp [hv, Begins, isT, nT]
    · rcases h1 with rfl | rfl | rfl
      · rw [pc_neg]; simp [Begins, isT, yT]
      · rw [pc_not]; simp [Begins, isT, yT]
      · rw [pc_null]; simp [Begins, isT, yT]
    · rw [pc_two _ _ _ _ _ _ n1 n2 n3 n4 n5]; simp [Begins, isT, yT]

/- ops that end what a level reads -/
theorem more_stop {part : List Tok → PR Xp} {tbl : List (List UInt8 × List UInt8)} {n : Nat} {e : Xp} {r : List Tok} (h : opAt tbl r = none) : moreP part tbl (n + 1) e r = (some e, r) := by simp [moreP, h]
theorem chain_stop {part : List Tok → PR Xp} {tbl : List (List UInt8 × List UInt8)} {l : List Tok} {e : Xp} {r : List Tok} (h : part l = (some e, r)) (hr : opAt tbl r = none) : chainP part tbl l = (some e, r) := by
  simp only [chainP, h, thenP]
  exact more_stop hr
theorem chain_one {part : List Tok → PR Xp} {tbl : List (List UInt8 × List UInt8)} {l : List Tok} {a b : Xp} {t : Tok} {o : List UInt8} {r1 r : List Tok} (h : part l = (some a, t :: r1)) (ho : opAt tbl (t :: r1) = some o) (h1 : part r1 = (some b, r)) (hr : opAt tbl r = none) :
    chainP part tbl l = (some (xop o [a, b]), r) := by
  simp only [chainP, h, thenP, List.length_cons]
  rw [moreP, ho]
  simp only [List.tail_cons, h1, thenP]
  exact more_stop hr
theorem chain_two {part : List Tok → PR Xp} {tbl : List (List UInt8 × List UInt8)} {l : List Tok} {a b c : Xp} {t t' : Tok} {o o' : List UInt8} {r1 r2 r : List Tok} (h : part l = (some a, t :: r1)) (ho : opAt tbl (t :: r1) = some o) (h1 : part r1 = (some b, t' :: r2))
    (ho' : opAt tbl (t' :: r2) = some o') (h2 : part r2 = (some c, r)) (hl : r2.length < r1.length) (hr : opAt tbl r = none) : chainP part tbl l = (some (xop o' [xop o [a, b], c]), r) := by
  simp only [chainP, h, thenP, List.length_cons]
  rw [moreP, ho]
  simp only [List.tail_cons, h1, thenP]
  obtain ⟨n, hn⟩ : ∃ n, r1.length + 1 = n + 2 := ⟨r1.length - 1, by omega⟩
  rw [hn, moreP, ho']
  simp only [List.tail_cons, h2, thenP]
  exact more_stop hr

/- no op follows -/
structure Stop (r : List Tok) : Prop where
  term : opAt termTbl r = none
  sum : opAt sumTbl r = none
  cmp : opAt cmpTbl r = none
  is_ : isT [73, 83] r = false
  and : opAt andTbl r = none
  or : opAt orTbl r = none
theorem stop_sym {s : List UInt8} (h : s = [41] ∨ s = [44] ∨ s = [59]) (p : Int) (r : List Tok) : Stop (⟨5, 0, p, s⟩ :: r) := by
  rcases h with rfl | rfl | rfl <;> constructor <;> simp [opAt, isT, termTbl, sumTbl, cmpTbl, andTbl, orTbl]
theorem stop_end (n p : Int) (s : List UInt8) (r : List Tok) : Stop (⟨0, n, p, s⟩ :: r) := by constructor <;> simp [opAt, isT, termTbl, sumTbl, cmpTbl, andTbl, orTbl]
theorem stop_word {w : List UInt8} (h1 : w ≠ [73, 83]) (h2 : w ≠ [65, 78, 68]) (h3 : w ≠ [79, 82]) (h4 : allB isCap w = true) (p : Int) (r : List Tok) : Stop (⟨1, 0, p, w⟩ :: r) := by
  have hc : ∀ c ∈ w, 65 ≤ c.toNat := by
    intro c hc
    simp only [allB, Bool.and_eq_true] at h4
    have := List.all_eq_true.1 h4.1 c hc
    simp only [isCap, Bool.and_eq_true, decide_eq_true_eq, UInt8.le_iff_toNat_le] at this
    exact this.1
  have hs : ∀ c : UInt8, c.toNat < 65 → ∀ r, w ≠ c :: r := by
    rintro c hc r rfl
    have := hc
    have := (by assumption : ∀ d ∈ (c :: r), 65 ≤ d.toNat) c (by simp)
    omega
  have k42 := hs 42 (by decide)
  have k43 := hs 43 (by decide)
  have k45 := hs 45 (by decide)
  have k60 := hs 60 (by decide)
  have k61 := hs 61 (by decide)
  have k62 := hs 62 (by decide)
  constructor <;> simp [opAt, isT, termTbl, sumTbl, cmpTbl, andTbl, orTbl, h1, h2, h3, k42, k43, k45, k60, k61, k62]
section
variable {or : List Tok → PR Xp} {l r : List Tok} {e : Xp}
theorem unaryL_atom (hb : Begins l) (h : atomP or l = (some e, r)) : unaryL or l = (some e, r) := by
  unfold unaryL
  rw [unaryP, hb.1]
  exact h
theorem termP_stop (h : unaryL or l = (some e, r)) (hr : opAt termTbl r = none) : termP or l = (some e, r) := chain_stop h hr
theorem sumP_stop (h : unaryL or l = (some e, r)) (hr : opAt termTbl r = none) (hr2 : opAt sumTbl r = none) : sumP or l = (some e, r) := chain_stop (termP_stop h hr) hr2
theorem cmpP_stop (h : sumP or l = (some e, r)) (hr : opAt cmpTbl r = none) (hr2 : isT [73, 83] r = false) : cmpP (sumP or) l = (some e, r) := by
  simp only [cmpP, h, thenP, hr, isP, hr2, Bool.false_eq_true, if_false]
theorem notL_cmp (hb : Begins l) (h : cmpP (sumP or) l = (some e, r)) : notL or l = (some e, r) := by
  unfold notL
  rw [notP, hb.2]
  exact h
theorem not_up (h : notL or l = (some e, r)) (hr : Stop r) : chainP (andP or) orTbl l = (some e, r) := chain_stop (chain_stop h hr.and) hr.or
theorem cmp_up (hb : Begins l) (h : cmpP (sumP or) l = (some e, r)) (hr : Stop r) : chainP (andP or) orTbl l = (some e, r) := not_up (notL_cmp hb h) hr
theorem sum_up (hb : Begins l) (h : sumP or l = (some e, r)) (hr : Stop r) : chainP (andP or) orTbl l = (some e, r) := cmp_up hb (cmpP_stop h hr.cmp hr.is_) hr
theorem term_up (hb : Begins l) (h : termP or l = (some e, r)) (hr : Stop r) : chainP (andP or) orTbl l = (some e, r) := sum_up hb (chain_stop h hr.sum) hr
theorem unary_up (hn : isT [78, 79, 84] l = false) (h : unaryL or l = (some e, r)) (hr : Stop r) : chainP (andP or) orTbl l = (some e, r) := by
  have h1 : cmpP (sumP or) l = (some e, r) := cmpP_stop (sumP_stop h hr.term hr.sum) hr.cmp hr.is_
  refine not_up ?_ hr
  unfold notL
  rw [notP, hn]
  exact h1
end

theorem two_op {op : List UInt8} (h : op ∈ twoOps) (r : List Tok) : (op = [42] ∧ opAt termTbl (opTok op :: r) = some op) ∨
    (opAt termTbl (opTok op :: r) = none ∧ (((op = [43] ∨ op = [45]) ∧ opAt sumTbl (opTok op :: r) = some op) ∨
    (opAt sumTbl (opTok op :: r) = none ∧ (opAt cmpTbl (opTok op :: r) = some op ∨
    (opAt cmpTbl (opTok op :: r) = none ∧ isT [73, 83] (opTok op :: r) = false ∧ ((op = oAnd ∧ opAt andTbl (opTok op :: r) = some op) ∨
    (opAt andTbl (opTok op :: r) = none ∧ op = oOr ∧ opAt orTbl (opTok op :: r) = some op))))))) := by
  simp only [twoOps, List.mem_cons, List.not_mem_nil, or_false] at h
  rcases h with rfl | rfl | rfl | rfl | rfl | rfl | rfl | rfl | rfl | rfl | rfl <;> simp [opTok, yT, wT, opAt, isT, termTbl, sumTbl, cmpTbl, andTbl, orTbl, oAnd, oOr]
theorem eta_val {v : Val} (k n : Int) (s : List UInt8) (h1 : v.kind = k) (h2 : v.n = n) (h3 : v.s = s) : (⟨k, n, s⟩ : Val) = v := by
  obtain ⟨a, b, c⟩ := v
  simp only at h1 h2 h3
  subst h1; subst h2; subst h3; rfl
theorem right_zero {v : Val} (h : rightS v = true) : (v.kind = 0 ∧ v.n = 0 ∧ v.s = []) ∨ (v.kind = 1 ∧ (v.n = 0 ∨ v.n = 1) ∧ v.s = []) ∨ (v.kind = 2 ∧ v.s = []) ∨ (v.kind = 3 ∧ v.n = 0) := by
  obtain ⟨k, n, s⟩ := v
  unfold rightS at h
  simp only at h ⊢
  by_cases k0 : k = 0
  · simp [k0] at h ⊢; exact h
  by_cases k1 : k = 1
  · simp [k1] at h ⊢; grind
  by_cases k2 : k = 2
  · simp [k2] at h ⊢; exact h
  by_cases k3 : k = 3
  · simp [k3] at h ⊢; exact h.1
  · simp [k0, k1, k2, k3] at h
theorem atom_val {or : List Tok → PR Xp} {v : Val} (h : rightS v = true) (r : List Tok) : atomP or (valT v :: r) = (some (xval v), r) := by
  rcases right_zero h with ⟨a, b, c⟩ | ⟨a, b | b, c⟩ | ⟨a, b⟩ | ⟨a, b⟩
  · have e := eta_val 0 0 [] a b c
    rw [← e]; simp [valT, wT, atomP, isT, Val.zero, xval]
  · have e := eta_val 1 0 [] a b c
    rw [← e]; simp [valT, wT, atomP, isT, Val.zero, xval]
  · have e := eta_val 1 1 [] a b c
    rw [← e]; simp [valT, wT, atomP, isT, Val.zero, xval]
  · have e := eta_val 2 v.n [] a rfl b
    rw [← e]; simp [valT, iT, atomP, isT, Val.zero, xval]
  · have e := eta_val 3 0 v.s a b rfl
    rw [← e]; simp [valT, sT, atomP, isT, Val.zero, xval]
theorem atom_paren {or : List Tok → PR Xp} {l r : List Tok} {e : Xp} (h : or l = (some e, yT [41] :: r)) : atomP or (yT [40] :: l) = (some e, r) := by
  simp [atomP, yT, isT, parenP, h, thenP]
theorem atom_pc : ∀ (d n : Nat) (e : Xp) (b : Bool), d ≤ n → rightE d e = true → ∀ r, isT [46] r = false → atomP (orP n) (ts (pcE e b) ++ r) = (some e, r)
  | 0, n, .mk op v var col l, b, _, h => by cases h
  | d + 1, 0, .mk op v var col l, b, hd, h => by omega
  | d + 1, n + 1, .mk op v var col l, b, hd, h => by
    intro r hr
    have hstop : ∀ r, Stop (yT [41] :: r) := fun r => stop_sym (.inl rfl) 0 r
    have hdot : ∀ r, isT [46] (yT [41] :: r) = false := fun r => by simp [isT, yT]
    rcases right_parts h with ⟨rfl, rfl, rfl, rfl, h1, h2⟩ | ⟨rfl, rfl, rfl, h1, h2⟩ | ⟨a, h1, rfl, rfl, rfl, rfl, h2⟩ | ⟨a, c, h1, n1, n2, n3, n4, n5, rfl, rfl, rfl, rfl, h2, h3⟩
    · rw [pc_value]
      exact atom_val h1 r
    · rw [pc_column]
      by_cases hv : var = []
      · subst hv
        simp [atomP, nT, hr]
      · simp [hv, atomP, nT, yT, isT, nameP, thenP]
    · have iha := fun b r hr => atom_pc d n a b (by omega) h2 r hr
      rcases h1 with rfl | rfl | rfl
      · rw [pc_neg]
        simp only [ts, List.map_cons, List.map_append, List.map_nil, List.cons_append, List.append_assoc, List.nil_append]
        refine atom_paren ?_
        have hu : unaryL (orP n) (yT [45] :: (ts (pcE a true) ++ yT [41] :: r)) = (some (xop oNeg [a]), yT [41] :: r) := by
          have h1 := iha true (yT [41] :: r) (hdot r)
          have hb := begins_pc d a true (yT [41] :: r) h2
          unfold unaryL
          rw [unaryP]
          have e : isT [45] (yT [45] :: (ts (pcE a true) ++ yT [41] :: r)) = true := by simp [isT, yT]
          rw [if_pos e, List.tail_cons, List.length_cons, unaryP, hb.1]
          simp only [Bool.false_eq_true, if_false]
          rw [h1]; rfl
        exact unary_up (by simp [isT, yT]) hu (hstop r)
      · rw [pc_not]
        simp only [ts, List.map_cons, List.map_append, List.map_nil, List.cons_append, List.append_assoc, List.nil_append]
        refine atom_paren ?_
        have hu : notL (orP n) (wT [78, 79, 84] :: (ts (pcE a true) ++ yT [41] :: r)) = (some (xop oNot [a]), yT [41] :: r) := by
          have h1 := iha true (yT [41] :: r) (hdot r)
          have hb := begins_pc d a true (yT [41] :: r) h2
          have hc := cmpP_stop (sumP_stop (unaryL_atom hb h1) (hstop r).term (hstop r).sum) (hstop r).cmp (hstop r).is_
          unfold notL
          rw [notP]
          have e : isT [78, 79, 84] (wT [78, 79, 84] :: (ts (pcE a true) ++ yT [41] :: r)) = true := by simp [isT, wT]
          rw [if_pos e, List.tail_cons, List.length_cons, notP, hb.2]
          simp only [Bool.false_eq_true, if_false]
          rw [hc]; rfl
        exact not_up hu (hstop r)
      · rw [pc_null]
        simp only [ts, List.map_cons, List.map_append, List.map_nil, List.cons_append, List.append_assoc, List.nil_append]
        refine atom_paren ?_
        have h1 := iha false (wT [73, 83] :: wT [78, 85, 76, 76] :: yT [41] :: r) (by simp [isT, wT])
        have hb := begins_pc d a false (wT [73, 83] :: wT [78, 85, 76, 76] :: yT [41] :: r) h2
        have hs := sumP_stop (unaryL_atom hb h1) (by simp [opAt, isT, wT, termTbl]) (by simp [opAt, isT, wT, sumTbl])
        refine cmp_up hb ?_ (hstop r)
        simp only [cmpP]
        rw [hs]
        simp [thenP, opAt, isT, wT, cmpTbl, isP, maybeP, needP, xop]
    · have iha := fun b r hr => atom_pc d n a b (by omega) h2 r hr
      have ihc := fun b r hr => atom_pc d n c b (by omega) h3 r hr
      rw [pc_two _ _ _ _ _ _ n1 n2 n3 n4 n5]
      simp only [ts, List.map_cons, List.map_append, List.map_nil, List.cons_append, List.append_assoc, List.nil_append]
      refine atom_paren ?_
      have hod : isT [46] (opTok op :: (ts (pcE c true) ++ yT [41] :: r)) = false := by
        simp only [twoOps, List.mem_cons, List.not_mem_nil, or_false] at h1
        rcases h1 with rfl | rfl | rfl | rfl | rfl | rfl | rfl | rfl | rfl | rfl | rfl <;> simp [opTok, yT, wT, isT, oAnd, oOr]
      have ha := iha false (opTok op :: (ts (pcE c true) ++ yT [41] :: r)) hod
      have hc := ihc true (yT [41] :: r) (hdot r)
      have hba := begins_pc d a false (opTok op :: (ts (pcE c true) ++ yT [41] :: r)) h2
      have hbc := begins_pc d c true (yT [41] :: r) h3
      have ua := unaryL_atom hba ha
      have uc := unaryL_atom hbc hc
      have st := hstop r
      rcases two_op h1 (ts (pcE c true) ++ yT [41] :: r) with ⟨rfl, t1⟩ | ⟨t1, ⟨_, t2⟩ | ⟨t2, t3 | ⟨t3, t4, ⟨rfl, t5⟩ | ⟨t5, rfl, t6⟩⟩⟩⟩
      · exact term_up hba (chain_one ua t1 uc st.term) st
      · exact sum_up hba (chain_one (termP_stop ua t1) t2 (termP_stop uc st.term) st.sum) st
      · refine cmp_up hba ?_ st
        simp only [cmpP]
        rw [sumP_stop ua t1 t2]
        simp only [thenP, t3, List.tail_cons]
        rw [sumP_stop uc st.term st.sum]
        rfl
      · have na := notL_cmp hba (cmpP_stop (sumP_stop ua t1 t2) t3 t4)
        have nc := notL_cmp hbc (cmpP_stop (sumP_stop uc st.term st.sum) st.cmp st.is_)
        exact chain_stop (chain_one na t5 nc st.and) st.or
      · have na := notL_cmp hba (cmpP_stop (sumP_stop ua t1 t2) t3 t4)
        have nc := notL_cmp hbc (cmpP_stop (sumP_stop uc st.term st.sum) st.cmp st.is_)
        exact chain_one (chain_stop na t5) t6 (chain_stop nc st.and) st.or
/- an expression, up to what ends it -/
theorem or_pc {d n : Nat} {e : Xp} {b : Bool} (hd : d ≤ n) (h : rightE d e = true) {r : List Tok} (hr : Stop r) (hdot : isT [46] r = false) : orP (n + 1) (ts (pcE e b) ++ r) = (some e, r) := by
  have hb := begins_pc d e b r h
  exact unary_up hb.2 (unaryL_atom hb (atom_pc d n e b hd h r hdot)) hr
end Go.Abs

namespace Go.Abs
set_option linter.unusedSimpArgs false
set_option linter.unusedVariables false
open Go Go.Proofs

theorem right_mono : ∀ (d d' : Nat) (e : Xp), d ≤ d' → rightE d e = true → rightE d' e = true
  | 0, d', e, _, h => by cases e; cases h
  | d + 1, 0, e, hd, _ => by omega
  | d + 1, d' + 1, .mk op v var col kids, hd, h => by
    simp only [rightE, Bool.and_eq_true] at h ⊢
    refine ⟨h.1, ?_⟩
    have h2 := h.2
    split
    · rename_i h0; rw [if_pos h0] at h2; exact h2
    · rename_i h0
      rw [if_neg h0] at h2
      split
      · rename_i h1; rw [if_pos h1] at h2; exact h2
      · rename_i h1
        rw [if_neg h1] at h2
        rw [List.all_eq_true] at h2 ⊢
        exact fun k hk => right_mono d d' k (by omega) (h2 k hk)
theorem right_one {d : Nat} {op : List UInt8} {v : Val} {var col : List UInt8} {kids : List Xp} (n : Nat) (h : rightE (d + 1) (.mk op v var col kids) = true) (hk : (∀ k ∈ kids, rightE n k = true) ∨ op = oValue ∨ op = oColumn) : rightE (n + 1) (.mk op v var col kids) = true := by
  simp only [rightE, Bool.and_eq_true] at h ⊢
  refine ⟨h.1, ?_⟩
  have h2 := h.2
  split
  · rename_i h0; rw [if_pos h0] at h2; exact h2
  · rename_i h0
    rw [if_neg h0] at h2
    split
    · rename_i h1; rw [if_pos h1] at h2; exact h2
    · rename_i h1
      rcases hk with hk | rfl | rfl
      · rw [List.all_eq_true]; exact hk
      · exact absurd rfl h0
      · exact absurd rfl h1
/- an expression has as many tokens as it is deep -/
theorem right_len : ∀ (d : Nat) (e : Xp) (b : Bool), rightE d e = true → rightE (pcE e b).length e = true
  | 0, .mk op v var col l, b, h => by cases h
  | d + 1, .mk op v var col l, b, h => by
    rcases right_parts h with ⟨rfl, rfl, rfl, rfl, h1, h2⟩ | ⟨rfl, rfl, rfl, h1, h2⟩ | ⟨a, h1, rfl, rfl, rfl, rfl, h2⟩ | ⟨a, c, h1, n1, n2, n3, n4, n5, rfl, rfl, rfl, rfl, h2, h3⟩
    · rw [pc_value]; exact right_one 0 h (.inr (.inl rfl))
    · rw [pc_column]
      by_cases hv : var = []
      · rw [if_pos hv]; exact right_one 0 h (.inr (.inr rfl))
      · rw [if_neg hv]; exact right_one 2 h (.inr (.inr rfl))
    · have iha := fun b => right_len d a b h2
      rcases h1 with rfl | rfl | rfl
      · rw [pc_neg]
        refine right_mono ((pcE a true).length + 2 + 1) _ _ (by simp) (right_one ((pcE a true).length + 2) h (.inl fun k hk => ?_))
        simp only [List.mem_singleton] at hk
        subst hk
        exact right_mono _ _ _ (by omega) (iha true)
      · rw [pc_not]
        refine right_mono ((pcE a true).length + 2 + 1) _ _ (by simp) (right_one ((pcE a true).length + 2) h (.inl fun k hk => ?_))
        simp only [List.mem_singleton] at hk
        subst hk
        exact right_mono _ _ _ (by omega) (iha true)
      · rw [pc_null]
        rw [show ((yT [40], b) :: (pcE a false ++ [(wT [73, 83], true), (wT [78, 85, 76, 76], true), (yT [41], false)])).length = (pcE a false).length + 3 + 1 by simp]
        refine right_one ((pcE a false).length + 3) h (.inl fun k hk => ?_)
        simp only [List.mem_singleton] at hk
        subst hk
        exact right_mono _ _ _ (by omega) (iha false)
    · have iha := fun b => right_len d a b h2
      have ihc := fun b => right_len d c b h3
      rw [pc_two _ _ _ _ _ _ n1 n2 n3 n4 n5]
      refine right_mono ((max (pcE a false).length (pcE c true).length) + 1) _ _ (by simp; omega) (right_one _ h (.inl fun k hk => ?_))
      simp only [List.mem_cons, List.not_mem_nil, or_false] at hk
      rcases hk with rfl | rfl
      · exact right_mono _ _ _ (by omega) (iha false)
      · exact right_mono _ _ _ (by omega) (ihc true)
/- a whole text -/
theorem parse_text {W : Xp} {l : Pcs} (hs : SeqOk l) (hl : (renderS l).length ≤ 2000) (hp : ∀ n, exprP (ts l ++ [⟨0, 0, n, []⟩]) = (some W, [⟨0, 0, n, []⟩])) :
    parseXS (renderS l) = if rightE 20 W = true then (W, 0, 0) else (Xp.zero, 8, 0) := by
  obtain ⟨m, e, ht, hk, hn, hse, ha⟩ := toks_render l (l.length + (renderS l).length + 1) 0 hs (by omega)
  rw [toks_fuel _ ((renderS l).length + 1) 0 _ (by omega) (by omega)] at ht
  obtain ⟨ek, en, ea, es⟩ := e
  simp only at hk hn hse
  subst hk hn hse
  have h1 := hp ea
  have hst : strips (m ++ [⟨0, 0, ea, []⟩]) = strips (ts l ++ [⟨0, 0, ea, []⟩]) := by
    have := alikes_strips ha
    simp only [strips, List.map_append] at this ⊢
    rw [this]
  have h2 := nat_alike nat_expr hst
  rw [h1] at h2
  unfold parseXS readP
  rw [if_neg (by omega), ht]
  simp only
  cases hx : exprP (m ++ [⟨0, 0, ea, []⟩]) with
  | mk o r =>
    rw [hx] at h2
    obtain ⟨h2, h3⟩ := h2
    simp only at h2 h3
    subst h2
    have : topK r = 0 := by
      have := congrArg topK h3
      rw [topK_strip, topK_strip] at this
      exact this
    simp only [this, if_true]

section
variable {a b c : Xp} (ha : rightE 20 a = true) (hb : rightE 20 b = true) (hc : rightE 20 c = true)
theorem dot_kind {t : Tok} {r : List Tok} (h : t.s ≠ [46]) : isT [46] (t :: r) = false := by simp [isT, h]
/- one expression, at the level of unary ops -/
theorem u_pc {x : Xp} (hx : rightE 20 x = true) {n : Nat} {f : Bool} {r : List Tok} (hn : (pcE x f).length ≤ n) (hr : isT [46] r = false) : unaryL (orP n) (ts (pcE x f) ++ r) = (some x, r) :=
  unaryL_atom (begins_pc 20 x f r hx) (atom_pc _ n x f hn (right_len 20 x f hx) r hr)
def e0 (n : Int) : List Tok := [⟨0, 0, n, []⟩]
theorem e0_stop (n : Int) : Stop (e0 n) := stop_end 0 n [] []
theorem e0_dot (n : Int) : isT [46] (e0 n) = false := by simp [isT, e0]
/- texts: a o b o' c -/
def tri (s : Tok) (s' : Tok) (a b c : Xp) : Pcs := pcE a false ++ (s, true) :: (pcE b true ++ (s', true) :: (pcE c true ++ []))
def duo (s : Tok) (a b : Xp) : Pcs := pcE a false ++ (s, true) :: (pcE b true ++ [])
theorem ts_tri (s s' : Tok) (a b c : Xp) (n : Int) : ts (tri s s' a b c) ++ e0 n = ts (pcE a false) ++ s :: (ts (pcE b true) ++ s' :: (ts (pcE c true) ++ e0 n)) := by simp [tri, ts]
theorem seq_tri {s s' : Tok} (hs : OkTok s ∧ s.kind ≠ 0) (hs' : OkTok s' ∧ s'.kind ≠ 0) (ha : rightE 20 a = true) (hb : rightE 20 b = true) (hc : rightE 20 c = true) (oa : a.ok) (ob : b.ok) (oc : c.ok) : SeqOk (tri s s' a b c) := by
  have g3 := good_pc hc oc good_nil
  have g2 := good_blank hs' (g3.2 s') g3.1
  have g1 := good_pc hb ob g2
  exact seq_pc 20 a false ha oa _ (good_blank hs (g1.2 s) g1.1)
theorem render_tri (s s' : Tok) (ha : rightE 20 a = true) (hb : rightE 20 b = true) (hc : rightE 20 c = true) : renderS (tri s s' a b c) = showE a ++ (32 :: (showTok s ++ (32 :: (showE b ++ (32 :: (showTok s' ++ (32 :: showE c))))))) := by
  unfold tri
  rw [render_app, renderS, render_app, renderS, render_app, render_pc 20 a false ha, render_pc 20 b true hb, render_pc 20 c true hc]
  simp [renderS]
end
end Go.Abs

