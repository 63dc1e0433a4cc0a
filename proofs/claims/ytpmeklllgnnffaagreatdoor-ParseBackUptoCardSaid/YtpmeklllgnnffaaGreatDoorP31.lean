/- Plain: how texts of several expressions are read: what binds tighter, what stands left. -/
import Derived.Test.YtpmeklllgnnffaaGreatDoorP30
set_option linter.unusedSimpArgs false
set_option linter.unusedVariables false

namespace Go.Abs
set_option linter.unusedSimpArgs false
set_option linter.unusedVariables false
open Go Go.Proofs
theorem right_mono : ∀ (d d' : Nat) (e : Xp), d ≤ d' → rightE d e = true → rightE d' e = true
  | 0, d', e, _, h => by cases e; cases h
  | d + 1, 0, e, hd, _ => by omega
  | d + 1, d' + 1, .mk op v var col kids, hd, h => by
    simp only [rightE, Bool.and_eq_true] at h ⊢
    refine ⟨h.1, ?_⟩
    have h2 := h.2
    split
    · rename_i h0; rw [if_pos h0] at h2; exact h2
    · rename_i h0
      rw [if_neg h0] at h2
      split
      · rename_i h1; rw [if_pos h1] at h2; exact h2
      · rename_i h1
        rw [if_neg h1] at h2
        rw [List.all_eq_true] at h2 ⊢
        exact fun k hk => right_mono d d' k (by omega) (h2 k hk)
theorem right_one {d : Nat} {op : List UInt8} {v : Val} {var col : List UInt8} {kids : List Xp} (n : Nat) (h : rightE (d + 1) (.mk op v var col kids) = true) (hk : (∀ k ∈ kids, rightE n k = true) ∨ op = oValue ∨ op = oColumn) : rightE (n + 1) (.mk op v var col kids) = true := by
  simp only [rightE, Bool.and_eq_true] at h ⊢
  refine ⟨h.1, ?_⟩
  have h2 := h.2
  split
  · rename_i h0; rw [if_pos h0] at h2; exact h2
  · rename_i h0
    rw [if_neg h0] at h2
    split
    · rename_i h1; rw [if_pos h1] at h2; exact h2
    · rename_i h1
      rcases hk with hk | rfl | rfl
      · rw [List.all_eq_true]; exact hk
      · exact absurd rfl h0
      · exact absurd rfl h1
theorem right_len : ∀ (d : Nat) (e : Xp) (b : Bool), rightE d e = true → rightE (pcE e b).length e = true
  | 0, .mk op v var col l, b, h => by cases h
  | d + 1, .mk op v var col l, b, h => by
    rcases right_parts h with ⟨rfl, rfl, rfl, rfl, h1, h2⟩ | ⟨rfl, rfl, rfl, h1, h2⟩ | ⟨a, h1, rfl, rfl, rfl, rfl, h2⟩ | ⟨a, c, h1, n1, n2, n3, n4, n5, rfl, rfl, rfl, rfl, h2, h3⟩
    · rw [pc_value]; exact right_one 0 h (.inr (.inl rfl))
    · rw [pc_column]
      by_cases hv : var = []
      · rw [if_pos hv]; exact right_one 0 h (.inr (.inr rfl))
      · rw [if_neg hv]; exact right_one 2 h (.inr (.inr rfl))
    · have iha := fun b => right_len d a b h2
      rcases h1 with rfl | rfl | rfl
      · rw [pc_neg]
        refine right_mono ((pcE a true).length + 2 + 1) _ _ (by simp) (right_one ((pcE a true).length + 2) h (.inl fun k hk => ?_))
        simp only [List.mem_singleton] at hk
        subst hk
        exact right_mono _ _ _ (by omega) (iha true)
      · rw [pc_not]
        refine right_mono ((pcE a true).length + 2 + 1) _ _ (by simp) (right_one ((pcE a true).length + 2) h (.inl fun k hk => ?_))
        simp only [List.mem_singleton] at hk
        subst hk
        exact right_mono _ _ _ (by omega) (iha true)
      · rw [pc_null]
        rw [show ((yT [40], b) :: (pcE a false ++ [(wT [73, 83], true), (wT [78, 85, 76, 76], true), (yT [41], false)])).length = (pcE a false).length + 3 + 1 by simp]
        refine right_one ((pcE a false).length + 3) h (.inl fun k hk => ?_)
        simp only [List.mem_singleton] at hk
        subst hk
        exact right_mono _ _ _ (by omega) (iha false)
    · have iha := fun b => right_len d a b h2
      have ihc := fun b => right_len d c b h3
      rw [pc_two _ _ _ _ _ _ n1 n2 n3 n4 n5]
      refine right_mono ((max (pcE a false).length (pcE c true).length) + 1) _ _ (by simp; omega) (right_one _ h (.inl fun k hk => ?_))
      simp only [List.mem_cons, List.not_mem_nil, or_false] at hk
      rcases hk with rfl | rfl
      · exact right_mono _ _ _ (by omega) (iha false)
      · exact right_mono _ _ _ (by omega) (ihc true)
section
variable {a b c : Xp} (ha : rightE 20 a = true) (hb : rightE 20 b = true) (hc : rightE 20 c = true)
def e0 (n : Int) : List Tok := [⟨0, 0, n, []⟩]
theorem e0_stop (n : Int) : Stop (e0 n) := stop_end 0 n [] []
theorem e0_dot (n : Int) : isT [46] (e0 n) = false := by simp [isT, e0]
end
end Go.Abs
namespace Go.Abs
set_option linter.unusedSimpArgs false
set_option linter.unusedVariables false
open Go Go.Proofs
structure Fo (r : List Tok) : Prop where
  stop : Stop r
  dot : isT [46] r = false
  nm : topK r ≠ 2
theorem fo_sym {s : List UInt8} (h : s = [41] ∨ s = [44] ∨ s = [59]) (r : List Tok) : Fo (yT s :: r) :=
  ⟨stop_sym h 0 r, by rcases h with rfl | rfl | rfl <;> simp [isT, yT], by simp [topK, yT]⟩
theorem fo_end (n : Int) : Fo (e0 n) := ⟨e0_stop n, e0_dot n, by simp [topK, e0]⟩
theorem fo_word {w : List UInt8} (h1 : w ≠ [73, 83]) (h2 : w ≠ [65, 78, 68]) (h3 : w ≠ [79, 82]) (h4 : allB isCap w = true) (r : List Tok) : Fo (wT w :: r) := by
  refine ⟨stop_word h1 h2 h3 h4 0 r, ?_, by simp [topK, wT]⟩
  have : w ≠ [46] := by rintro rfl; exact absurd h4 (by decide)
  simp [isT, wT, this]
theorem isT_w (s w : List UInt8) (r : List Tok) : isT s (wT w :: r) = decide (w = s) := by by_cases h : w = s <;> simp [isT, wT, h]
theorem isT_y (s w : List UInt8) (r : List Tok) : isT s (yT w :: r) = decide (w = s) := by by_cases h : w = s <;> simp [isT, yT, h]
theorem isT_n (s w : List UInt8) (r : List Tok) : isT s (nT w :: r) = false := by simp [isT, nT]
theorem isT_e (s : List UInt8) (n : Int) : isT s (e0 n) = false := by simp [isT, e0]
theorem need_w (w : List UInt8) (r : List Tok) : needP w (wT w :: r) = (some (), r) := by simp [needP, isT_w]
theorem need_y (w : List UInt8) (r : List Tok) : needP w (yT w :: r) = (some (), r) := by simp [needP, isT_y]
theorem name_n (w : List UInt8) (r : List Tok) : nameP (nT w :: r) = (some w, r) := by simp [nameP, nT]
theorem num_i (n : Int) (r : List Tok) : numP (iT n :: r) = (some n, r) := by simp [numP, iT]
theorem then_some {α β : Type} {a : α} {r : List Tok} {f : α → List Tok → PR β} : thenP (some a, r) f = f a r := rfl
theorem rd_expr {e : Xp} {b : Bool} (h : rightE 20 e = true) {r : List Tok} (hf : Fo r) : exprP (ts (pcE e b) ++ r) = (some e, r) := by
  unfold exprP
  exact or_pc (by simp [ts]) (right_len 20 e b h) hf.stop hf.dot
theorem star_val (v : Val) (r : List Tok) : isT [42] (valT v :: r) = false := by
  unfold valT
  by_cases k1 : v.kind = 1
  · by_cases hn : v.n = 1 <;> simp [k1, hn, wT, isT]
  · by_cases k2 : v.kind = 2
    · simp [k2, iT, isT]
    · by_cases k3 : v.kind = 3
      · simp [k3, sT, isT]
      · simp [k1, k2, k3, wT, isT]
theorem star_pc {e : Xp} {b : Bool} {r : List Tok} (h : rightE 20 e = true) : isT [42] (ts (pcE e b) ++ r) = false := by
  obtain ⟨op, v, var, col, l⟩ := e
  rcases right_parts h with ⟨rfl, rfl, rfl, rfl, h1, h2⟩ | ⟨rfl, rfl, rfl, h1, h2⟩ | ⟨a, h1, rfl, rfl, rfl, rfl, h2⟩ | ⟨a, c, h1, n1, n2, n3, n4, n5, rfl, rfl, rfl, rfl, h2, h3⟩
  · rw [pc_value]; exact star_val v r
  · rw [pc_column]
    by_cases hv : var = [] <;> simp [hv, isT, nT]
  · rcases h1 with rfl | rfl | rfl
    · rw [pc_neg]; simp [isT, yT]
    · rw [pc_not]; simp [isT, yT]
    · rw [pc_null]; simp [isT, yT]
  · rw [pc_two _ _ _ _ _ _ n1 n2 n3 n4 n5]; simp [isT, yT]
def pcL {α : Type} (s : List UInt8) (f : α → Bool → Pcs) : List α → Bool → Pcs
  | [], _ => []
  | [a], b => f a b
  | a :: c :: l, b => f a b ++ (yT s, false) :: pcL s f (c :: l) true
def bl (b : Bool) : List UInt8 := if b = true then [32] else []
theorem render_cons (t : Tok) (b : Bool) (l : Pcs) : renderS ((t, b) :: l) = bl b ++ (showTok t ++ renderS l) := rfl
theorem render_list {α : Type} {s : List UInt8} {f : α → Bool → Pcs} {g : α → List UInt8} : ∀ (l : List α) (b : Bool), l ≠ [] → (∀ a ∈ l, ∀ b, renderS (f a b) = bl b ++ g a) → renderS (pcL s f l b) = bl b ++ Lib.join (l.map g) (s ++ [32])
  | [], b, hn, _ => absurd rfl hn
  | [a], b, _, h => by simp only [pcL, List.map_cons, List.map_nil, Lib.join_one]; exact h a (by simp) b
  | a :: c :: l, b, _, h => by
    have ih := render_list (s := s) (c :: l) true (by simp) (fun x hx => h x (.tail _ hx))
    simp only [pcL, render_app, render_cons, showTok_y, ih, h a (by simp) b, bl, if_true, Bool.false_eq_true, if_false]
    simp only [List.map_cons, Lib.join, List.intercalate, List.intersperse, List.flatten_cons, List.append_assoc, List.cons_append, List.nil_append]
theorem list_len {α : Type} {s : List UInt8} {f : α → Bool → Pcs} : ∀ (l : List α) (b : Bool), l.length ≤ (pcL s f l b).length + 1
  | [], b => by simp
  | [a], b => by simp
  | a :: c :: l, b => by
    have := list_len (s := s) (f := f) (c :: l) true
    simp only [pcL, List.length_append, List.length_cons] at this ⊢
    omega
structure It {α : Type} (f : α → Bool → Pcs) (a : α) : Prop where
  seq : ∀ b r, GoodR r → SeqOk (f a b ++ r)
  good : ∀ r, GoodR r → GoodR (f a true ++ r)
theorem sq {t : Tok} {b : Bool} {r : Pcs} (ht : OkTok t ∧ t.kind ≠ 0) (hr : GoodR r) : SeqOk ((t, b) :: r) := ⟨ht, hr.2 t, hr.1⟩
theorem gb {t : Tok} {r : Pcs} (ht : OkTok t ∧ t.kind ≠ 0) (hr : GoodR r) : GoodR ((t, true) :: r) := ⟨sq ht hr, fun u => .inl rfl⟩
theorem gopen {r : Pcs} (hr : SeqOk r) : GoodR ((yT [40], true) :: r) := ⟨⟨ok_sym1 (by decide), open_next r, hr⟩, fun u => .inl rfl⟩
theorem list_good {α : Type} {s : List UInt8} (hs : s = [44] ∨ s = [59]) {f : α → Bool → Pcs} {r : Pcs} (hr : GoodR r) : ∀ (l : List α), (∀ a ∈ l, It f a) → GoodR (pcL s f l true ++ r) ∧ ∀ b, SeqOk (pcL s f l b ++ r)
  | [], _ => ⟨hr, fun _ => hr.1⟩
  | [a], h => ⟨(h a (by simp)).good r hr, fun b => (h a (by simp)).seq b r hr⟩
  | a :: c :: l, h => by
    have ih := list_good hs hr (c :: l) (fun x hx => h x (.tail _ hx))
    simp only [pcL, List.append_assoc, List.cons_append]
    have hc : GoodR ((yT s, false) :: (pcL s f (c :: l) true ++ r)) := good_close (by rcases hs with rfl | rfl <;> simp) ih.1
    exact ⟨(h a (by simp)).good _ hc, fun b => (h a (by simp)).seq b _ hc⟩
theorem rd_list {α : Type} {f : α → Bool → Pcs} {P : List Tok → PR α} {F : List Tok → Prop} (hF : ∀ r, F (yT [44] :: r)) {r : List Tok} (hr : F r) (hc : isT [44] r = false) : ∀ (l : List α) (b : Bool) (n : Nat), l ≠ [] → l.length ≤ n →
    (∀ a ∈ l, ∀ b r, F r → P (ts (f a b) ++ r) = (some a, r)) → listP P n (ts (pcL [44] f l b) ++ r) = (some l, r)
  | [], b, n, hn, _, _ => absurd rfl hn
  | [a], b, 0, _, hl, _ => by simp at hl
  | [a], b, n + 1, _, _, h => by
    simp only [pcL, listP, h a (by simp) b r hr, then_some, hc, Bool.false_eq_true, if_false]
  | a :: c :: l, b, 0, _, hl, _ => by simp at hl
  | a :: c :: l, b, n + 1, _, hl, h => by
    have ih := rd_list hF hr hc (c :: l) true n (by simp) (by simpa using hl) (fun x hx => h x (.tail _ hx))
    have e : ts (pcL [44] f (a :: c :: l) b) ++ r = ts (f a b) ++ (yT [44] :: (ts (pcL [44] f (c :: l) true) ++ r)) := by simp [pcL, ts]
    rw [e, listP, h a (by simp) b _ (hF _), then_some, isT_y]
    simp only [decide_true, if_true, List.tail_cons, ih, then_some]
theorem rd_lst {α : Type} {f : α → Bool → Pcs} {P : List Tok → PR α} {F : List Tok → Prop} (hF : ∀ r, F (yT [44] :: r)) {r : List Tok} (hr : F r) (hc : isT [44] r = false) (l : List α) (b : Bool) (hn : l ≠ [])
    (h : ∀ a ∈ l, ∀ b r, F r → P (ts (f a b) ++ r) = (some a, r)) : listP P ((ts (pcL [44] f l b) ++ r).length + 1) (ts (pcL [44] f l b) ++ r) = (some l, r) := by
  refine rd_list hF hr hc l b _ hn ?_ h
  have := list_len (s := [44]) (f := f) l b
  simp only [List.length_append, ts, List.length_map]
  omega
theorem it_expr {e : Xp} (h : rightE 20 e = true) (ho : e.ok) : It pcE e := ⟨fun b r hr => seq_pc 20 e b h ho r hr, fun r hr => good_pc h ho hr⟩
def pcSrc (x : Src) (b : Bool) : Pcs := (if 0 < x.kind then wT (srcW x.kind) else nT x.table, b) :: (if x.var = [] then [] else [(nT x.var, true)])
theorem src_cases {x : Src} (h : rightSrc x = true) : (x.var = [] ∨ nameS x.var = true) ∧ (x.kind = 0 ∧ nameS x.table = true ∨ (x.kind = 1 ∨ x.kind = 2 ∨ x.kind = 3 ∨ x.kind = 4) ∧ x.table = []) := by
  simp only [rightSrc, Bool.and_eq_true, Bool.or_eq_true, decide_eq_true_eq] at h
  refine ⟨h.1, ?_⟩
  have h2 := h.2
  by_cases h0 : x.kind = 0
  · rw [if_pos h0] at h2; exact .inl ⟨h0, h2⟩
  · rw [if_neg h0] at h2
    simp only [Bool.and_eq_true, decide_eq_true_eq] at h2
    exact .inr ⟨by omega, h2.2.2⟩
theorem it_src {x : Src} (h : rightSrc x = true) : It pcSrc x := by
  obtain ⟨hv, hk⟩ := src_cases h
  have ht : OkTok (if 0 < x.kind then wT (srcW x.kind) else nT x.table) ∧ (if 0 < x.kind then wT (srcW x.kind) else nT x.table).kind ≠ 0 := by
    rcases hk with ⟨k0, hn⟩ | ⟨k1 | k1 | k1 | k1, _⟩
    · rw [if_neg (by omega)]; exact ok_name hn
    all_goals rw [if_pos (by omega), k1]; exact ok_word (by decide)
  have hr' : ∀ r, GoodR r → GoodR ((if x.var = [] then [] else [(nT x.var, true)]) ++ r) := fun r hr => by
    by_cases h0 : x.var = []
    · rw [if_pos h0]; exact hr
    · rw [if_neg h0]; exact gb (ok_name (hv.resolve_left h0)) hr
  exact ⟨fun b r hr => sq ht (hr' r hr), fun r hr => gb ht (hr' r hr)⟩
theorem render_src {x : Src} (b : Bool) : renderS (pcSrc x b) = bl b ++ showSrcS x := by
  unfold pcSrc showSrcS
  rw [render_cons]
  by_cases h1 : 0 < x.kind <;> by_cases h2 : x.var = [] <;> simp [h1, h2, showTok_w, showTok_n, renderS]
theorem var_none {r : List Tok} (h : topK r ≠ 2) : varP r = ([], r) := by
  cases r with
  | nil => rfl
  | cons t r => simp only [topK] at h; simp [varP, h]
theorem rd_src {x : Src} (h : rightSrc x = true) (b : Bool) (r : List Tok) (hf : Fo r) : sourceP (ts (pcSrc x b) ++ r) = (some x, r) := by
  obtain ⟨hv, hk⟩ := src_cases h
  obtain ⟨k, t, v⟩ := x
  simp only at hv hk
  have hvp : varP (ts (if v = [] then [] else [(nT v, true)]) ++ r) = (v, r) := by
    by_cases h0 : v = []
    · subst h0; exact var_none hf.nm
    · rw [if_neg h0]; simp [ts, varP, nT]
  have e : ts (pcSrc ⟨k, t, v⟩ b) ++ r = (if 0 < k then wT (srcW k) else nT t) :: (ts (if v = [] then [] else [(nT v, true)]) ++ r) := rfl
  rw [e]
  rcases hk with ⟨rfl, hn⟩ | ⟨rfl | rfl | rfl | rfl, rfl⟩
  · simp only [Int.lt_irrefl, if_false]
    unfold sourceP
    simp only [oneP, isT_n, Bool.false_eq_true, if_false, name_n, then_some, hvp]
  · simp [sourceP, oneP, isT_w, srcW, hvp]
  · simp [sourceP, oneP, isT_w, srcW, hvp]
  · simp [sourceP, oneP, isT_w, srcW, hvp]
  · simp [sourceP, oneP, isT_w, srcW, hvp]
def pcSet (x : SetE) (b : Bool) : Pcs := (nT x.col, b) :: (yT [61], true) :: pcE x.e true
theorem it_set {x : SetE} (h : nameS x.col = true) (hr : rightE 20 x.e = true) (ho : x.e.ok) : It pcSet x :=
  ⟨fun b r hg => sq (ok_name h) (gb (ok_sym1 (by decide)) (good_pc hr ho hg)), fun r hg => gb (ok_name h) (gb (ok_sym1 (by decide)) (good_pc hr ho hg))⟩
theorem render_set {x : SetE} (hr : rightE 20 x.e = true) (b : Bool) : renderS (pcSet x b) = bl b ++ showSetS x := by
  unfold pcSet showSetS
  rw [render_cons, render_cons, render_pc 20 _ _ hr, showTok_n, showTok_y]
  simp [bl]
theorem rd_set {x : SetE} (hr : rightE 20 x.e = true) (b : Bool) (r : List Tok) (hf : Fo r) : setP (ts (pcSet x b) ++ r) = (some x, r) := by
  have e : ts (pcSet x b) ++ r = nT x.col :: yT [61] :: (ts (pcE x.e true) ++ r) := rfl
  rw [e, setP, name_n, then_some, need_y, then_some, rd_expr hr hf]
  rfl
def pcCol (c : Col) (b : Bool) : Pcs := (nT c.name, b) :: (wT (typeW c.type), true) :: ((if c.notNull = true then [(wT [78, 79, 84], true), (wT [78, 85, 76, 76], true)] else []) ++ (if c.unique = true then [(wT [85, 78, 73, 81, 85, 69], true)] else []))
theorem col_cases {c : Col} (h : colOk c = true) : nameS c.name = true ∧ (c.type = 1 ∨ c.type = 2 ∨ c.type = 3) := by
  simp only [colOk, Bool.and_eq_true, decide_eq_true_eq] at h
  exact ⟨h.1, by omega⟩
theorem it_col {c : Col} (h : colOk c = true) : It pcCol c := by
  obtain ⟨hn, ht⟩ := col_cases h
  have hw : OkTok (wT (typeW c.type)) ∧ (wT (typeW c.type)).kind ≠ 0 := by rcases ht with k | k | k <;> rw [k] <;> exact ok_word (by decide)
  have hg : ∀ r, GoodR r → GoodR ((wT (typeW c.type), true) :: (((if c.notNull = true then [(wT [78, 79, 84], true), (wT [78, 85, 76, 76], true)] else []) ++ (if c.unique = true then [(wT [85, 78, 73, 81, 85, 69], true)] else [])) ++ r)) := fun r hr => by
    refine gb hw ?_
    have h1 : GoodR ((if c.unique = true then [(wT [85, 78, 73, 81, 85, 69], true)] else []) ++ r) := by
      by_cases hu : c.unique = true
      · rw [if_pos hu]; exact gb (ok_word (by decide)) hr
      · rw [if_neg hu]; exact hr
    rw [List.append_assoc]
    by_cases hu : c.notNull = true
    · rw [if_pos hu]; exact gb (ok_word (by decide)) (gb (ok_word (by decide)) h1)
    · rw [if_neg hu]; exact h1
  exact ⟨fun b r hr => sq (ok_name hn) (hg r hr), fun r hr => gb (ok_name hn) (hg r hr)⟩
theorem render_col {c : Col} (b : Bool) : renderS (pcCol c b) = bl b ++ showColS c := by
  unfold pcCol showColS
  rw [render_cons, render_cons, render_app, showTok_n, showTok_w]
  cases c.notNull <;> cases c.unique <;> simp [bl, renderS, showTok_w]
def FoC (r : List Tok) : Prop := isT [78, 79, 84] r = false ∧ isT [85, 78, 73, 81, 85, 69] r = false
theorem foc_y (s : List UInt8) (h : s = [41] ∨ s = [44]) (r : List Tok) : FoC (yT s :: r) := by rcases h with rfl | rfl <;> exact ⟨by simp [isT_y], by simp [isT_y]⟩
theorem rd_col {c : Col} (h : colOk c = true) (b : Bool) (r : List Tok) (hf : FoC r) : columnP (ts (pcCol c b) ++ r) = (some c, r) := by
  obtain ⟨hn, ht⟩ := col_cases h
  obtain ⟨name, type, nn, un⟩ := c
  simp only at hn ht
  obtain ⟨f1, f2⟩ := hf
  rcases ht with rfl | rfl | rfl <;> cases nn <;> cases un <;> simp [pcCol, ts, columnP, name_n, then_some, typeP, oneOfP, oneP, isT_w, typeW, f1, f2, need_w, maybeP]
def pcWhere : List Xp → Pcs
  | [] => []
  | e :: _ => (wT [87, 72, 69, 82, 69], true) :: pcE e true
theorem good_where {l : List Xp} (h : rightsE l 0 1 = true) (ho : ∀ m ∈ l, m.ok) {r : Pcs} (hr : GoodR r) : GoodR (pcWhere l ++ r) := by
  have := rights_all h
  cases l with
  | nil => exact hr
  | cons e l => exact gb (ok_word (by decide)) (good_pc (this.1 e (by simp)) (ho e (by simp)) hr)
theorem render_where {l : List Xp} (h : rightsE l 0 1 = true) : renderS (pcWhere l) = whereS l := by
  have := rights_all h
  cases l with
  | nil => rfl
  | cons e l =>
    simp only [pcWhere, whereS, render_cons, showTok_w, render_pc 20 _ _ (this.1 e (by simp))]
    simp [bl]
structure Fw (r : List Tok) : Prop where
  fo : Fo r
  wher : isT [87, 72, 69, 82, 69] r = false
  comma : isT [44] r = false
theorem rd_where {l : List Xp} (h : rightsE l 0 1 = true) {r : List Tok} (hf : Fw r) : whereP (ts (pcWhere l) ++ r) = (some l, r) := by
  have := rights_all h
  match l, this with
  | [], _ => simp [whereP, pcWhere, ts, hf.wher]
  | [e], this =>
    have e1 : ts (pcWhere [e]) ++ r = wT [87, 72, 69, 82, 69] :: (ts (pcE e true) ++ r) := rfl
    rw [e1, whereP, isT_w]
    simp only [decide_true, if_true, List.tail_cons, rd_expr (this.1 e (by simp)) hf.fo, then_some]
  | a :: b :: l, this => have := this.2.2; simp only [List.length_cons] at this; omega
theorem fo_where {l : List Xp} {r : List Tok} (hf : Fw r) : Fo (ts (pcWhere l) ++ r) ∧ isT [44] (ts (pcWhere l) ++ r) = false := by
  cases l with
  | nil => exact ⟨hf.fo, hf.comma⟩
  | cons e l => exact ⟨fo_word (by decide) (by decide) (by decide) (by decide) _, by simp [pcWhere, ts, isT, wT]⟩
def pcItems (l : List Xp) : Pcs := if l = [] then [(yT [42], true)] else pcL [44] pcE l true
def pcQry (b : StB) (fl : Bool) : Pcs := (wT [83, 69, 76, 69, 67, 84], fl) :: (pcItems b.items ++ (wT [70, 82, 79, 77], true) :: (pcL [44] pcSrc b.src true ++ pcWhere b.wher))
theorem good_items {l : List Xp} (h : ∀ x ∈ l, rightE 20 x = true) (ho : ∀ m ∈ l, m.ok) {r : Pcs} (hr : GoodR r) : GoodR (pcItems l ++ r) := by
  unfold pcItems
  by_cases h0 : l = []
  · rw [if_pos h0]; exact gb (ok_sym1 (by decide)) hr
  · rw [if_neg h0]; exact (list_good (.inl rfl) hr l fun a ha => it_expr (h a ha) (ho a ha)).1
theorem render_items {l : List Xp} (h : ∀ x ∈ l, rightE 20 x = true) : renderS (pcItems l) = 32 :: itemsS l := by
  unfold pcItems itemsS
  by_cases h0 : l = []
  · rw [if_pos h0, if_pos h0]; simp [renderS, showTok_y]
  · rw [if_neg h0, if_neg h0, render_list (g := showE) l true h0 fun a ha b => render_pc 20 a b (h a ha)]; rfl
theorem rd_items {l : List Xp} (h : ∀ x ∈ l, rightE 20 x = true) {r : List Tok} (hf : Fo r) (hc : isT [44] r = false) : itemsP (ts (pcItems l) ++ r) = (some l, r) := by
  unfold pcItems
  by_cases h0 : l = []
  · subst h0; simp [itemsP, ts, isT_y]
  · rw [if_neg h0]
    have hs : isT [42] (ts (pcL [44] pcE l true) ++ r) = false := by
      match l, h0 with
      | [a], _ => exact star_pc (h a (by simp))
      | a :: c :: l, _ =>
        have := star_pc (b := true) (r := yT [44] :: (ts (pcL [44] pcE (c :: l) true) ++ r)) (h a (by simp))
        simpa [pcL, ts] using this
    unfold itemsP
    rw [hs]
    simp only [Bool.false_eq_true, if_false]
    exact rd_lst (F := Fo) (fun r => fo_sym (by simp) r) hf hc l true h0 fun a ha b r hr => rd_expr (h a ha) hr
structure QOk (b : StB) : Prop where
  items : ∀ x ∈ b.items, rightE 20 x = true
  src : ∀ x ∈ b.src, rightSrc x = true
  some : b.src ≠ []
  wher : rightsE b.wher 0 1 = true
  iok : ∀ m ∈ b.items, m.ok
  wok : ∀ m ∈ b.wher, m.ok
theorem good_qry {b : StB} (q : QOk b) {r : Pcs} (hr : GoodR r) : GoodR (pcQry b true ++ r) ∧ ∀ fl, SeqOk (pcQry b fl ++ r) := by
  have h1 : GoodR (pcItems b.items ++ ((wT [70, 82, 79, 77], true) :: (pcL [44] pcSrc b.src true ++ (pcWhere b.wher ++ r)))) :=
    good_items q.items q.iok (gb (ok_word (by decide)) (list_good (.inl rfl) (good_where q.wher q.wok hr) b.src fun a ha => it_src (q.src a ha)).1)
  have e : ∀ fl, pcQry b fl ++ r = (wT [83, 69, 76, 69, 67, 84], fl) :: (pcItems b.items ++ ((wT [70, 82, 79, 77], true) :: (pcL [44] pcSrc b.src true ++ (pcWhere b.wher ++ r)))) := fun fl => by simp [pcQry]
  exact ⟨by rw [e]; exact gb (ok_word (by decide)) h1, fun fl => by rw [e]; exact sq (ok_word (by decide)) h1⟩
theorem render_qry {b : StB} (q : QOk b) (fl : Bool) : renderS (pcQry b fl) = bl fl ++ queryS b := by
  unfold pcQry queryS commaS
  rw [render_cons, render_app, render_cons, render_app, render_items q.items, render_list (g := showSrcS) b.src true q.some (fun a _ b => render_src b), render_where q.wher, showTok_w, showTok_w]
  simp [bl]
theorem rd_qry {b : StB} (q : QOk b) (fl : Bool) {r : List Tok} (hf : Fw r) : queryP (ts (pcQry b fl) ++ r) = (some ⟨b.items, b.src, b.wher⟩, r) := by
  have e : ts (pcQry b fl) ++ r = wT [83, 69, 76, 69, 67, 84] :: (ts (pcItems b.items) ++ (wT [70, 82, 79, 77] :: (ts (pcL [44] pcSrc b.src true) ++ (ts (pcWhere b.wher) ++ r)))) := by simp [pcQry, ts]
  obtain ⟨f1, f2⟩ := fo_where (l := b.wher) hf
  rw [e, queryP, need_w, then_some, rd_items q.items (fo_word (by decide) (by decide) (by decide) (by decide) _) (by simp [isT_w]), then_some, need_w, then_some,
    rd_lst (F := Fo) (fun r => fo_sym (by simp) r) f1 f2 b.src true q.some (fun a ha b r hr => rd_src (q.src a ha) b r hr), then_some, rd_where q.wher hf, then_some]
end Go.Abs
