/- Plain: texts behind one another, and what tokens' texts are cut into. -/
import Derived.Test.YtpmeklllgnnffaaGreatDoorR16
import Derived.Test.YtpmeklllgnnffaaGreatDoorR25
set_option linter.unusedSimpArgs false
set_option linter.unusedVariables false

namespace Go.Abs
set_option linter.unusedSimpArgs false
set_option linter.unusedVariables false
open Go
theorem tw_app {p : UInt8 → Bool} (b : UInt8) (hb : p b = false) (x : List UInt8) : ∀ r : List UInt8, (r ++ b :: x).takeWhile p = r.takeWhile p ∧ (r ++ b :: x).dropWhile p = r.dropWhile p ++ b :: x
  | [] => by simp [List.takeWhile_cons, List.dropWhile_cons, hb]
  | c :: r => by
    have ih := tw_app b hb x r
    by_cases hc : p c = true <;> simp [List.takeWhile_cons, List.dropWhile_cons, hc, ih]
theorem tw_stop {p : UInt8 → Bool} (y : List UInt8) : ∀ r : List UInt8, r.dropWhile p ≠ [] → (r ++ y).takeWhile p = r.takeWhile p ∧ (r ++ y).dropWhile p = r.dropWhile p ++ y
  | [], h => absurd rfl h
  | c :: r, h => by
    by_cases hc : p c = true
    · simp only [List.dropWhile_cons, hc, if_true] at h
      have ih := tw_stop y r h
      simp [List.takeWhile_cons, List.dropWhile_cons, hc, ih]
    · simp [List.takeWhile_cons, List.dropWhile_cons, hc]
theorem blk_run {b : UInt8} (hb : isBlk b = true) : isRun b = false ∧ b ≠ 39 ∧ b ≠ 61 ∧ b ≠ 62 := by
  simp only [isBlk, Bool.or_eq_true, beq_iff_eq] at hb
  rcases hb with (rfl | rfl) | rfl <;> decide
theorem quote_app (b : UInt8) (hb : b ≠ 39) (x : List UInt8) : ∀ (acc t a u : List UInt8), quoteS acc t = some (a, u) → quoteS acc (t ++ b :: x) = some (a, u ++ b :: x)
  | acc, [], a, u, h => by simp [quoteS] at h
  | acc, [c], a, u, h => by
    simp only [quoteS] at h
    split at h
    · rename_i hc
      simp only [Option.some.injEq, Prod.mk.injEq] at h
      obtain ⟨rfl, rfl⟩ := h
      simp [quoteS, hc, hb]
    · cases h
  | acc, c :: d :: r, a, u, h => by
    simp only [quoteS] at h
    simp only [List.cons_append, quoteS]
    split at h
    · rename_i hc
      rw [if_pos hc]
      split at h
      · rename_i hd
        rw [if_pos hd]
        exact quote_app b hb x _ _ _ _ h
      · rename_i hd
        rw [if_neg hd]
        simp only [Option.some.injEq, Prod.mk.injEq] at h
        obtain ⟨rfl, rfl⟩ := h
        rfl
    · rename_i hc
      rw [if_neg hc]
      exact quote_app b hb x _ _ _ _ h
theorem sym_app (c b : UInt8) (h1 : b ≠ 61) (h2 : b ≠ 62) (r x : List UInt8) : symS (c :: (r ++ b :: x)) = symS (c :: r) := by
  cases r with
  | nil => simp [symS, h1, h2]
  | cons d r => simp [symS]
theorem sym_len (c : UInt8) (r : List UInt8) : symS (c :: r) ≤ (c :: r).length := by
  cases r with
  | nil => simp only [symS]; split <;> simp
  | cons d r =>
    simp only [symS]
    split
    · simp
    · split <;> simp
theorem tok_app {b : UInt8} (hb : isBlk b = true) (x : List UInt8) {p : Nat} {c : UInt8} {r : List UInt8} {t : Tok} {u : List UInt8} (h : tokS p (c :: r) = .ok (t, u)) : tokS p (c :: (r ++ b :: x)) = .ok (t, u ++ b :: x) := by
  obtain ⟨b1, b2, b3, b4⟩ := blk_run hb
  have ht := tw_app b b1 x (c :: r)
  simp only [List.cons_append] at ht
  simp only [tokS] at h ⊢
  rw [ht.1, ht.2]
  split at h
  · rename_i hc
    rw [if_pos hc]
    split at h
    · rename_i k hk
      simp only [Except.ok.injEq, Prod.mk.injEq] at h ⊢
      exact ⟨h.1, by rw [h.2]⟩
    · cases h
  · rename_i hc
    rw [if_neg hc]
    split at h
    · rename_i hq
      rw [if_pos hq]
      split at h
      · rename_i a u' hk
        rw [quote_app b b2 x _ _ _ _ hk]
        simp only
        split at h
        · rename_i hl
          rw [if_pos hl]
          simp only [Except.ok.injEq, Prod.mk.injEq] at h ⊢
          exact ⟨h.1, by rw [h.2]⟩
        · cases h
      · cases h
    · rename_i hq
      rw [if_neg hq, sym_app c b b3 b4]
      split at h
      · cases h
      · rename_i hs
        rw [if_neg hs]
        have hl := sym_len c r
        simp only [Except.ok.injEq, Prod.mk.injEq] at h ⊢
        obtain ⟨rfl, rfl⟩ := h
        rw [← List.cons_append, List.take_append_of_le_length hl, List.drop_append_of_le_length hl]
        exact ⟨rfl, rfl⟩
theorem tok_nz {p : Nat} {c : UInt8} {r : List UInt8} {t : Tok} {u : List UInt8} (h : tokS p (c :: r) = .ok (t, u)) : t.kind ≠ 0 := by
  simp only [tokS] at h
  split at h
  · split at h
    · rename_i k hk
      simp only [Except.ok.injEq, Prod.mk.injEq] at h
      rw [← h.1]
      have := run_ok hk
      cases this <;> simp
    · cases h
  · split at h
    · split at h
      · split at h
        · simp only [Except.ok.injEq, Prod.mk.injEq] at h
          rw [← h.1]; simp
        · cases h
      · cases h
    · split at h
      · cases h
      · simp only [Except.ok.injEq, Prod.mk.injEq] at h
        rw [← h.1]; simp
theorem quote_len : ∀ (acc t a u : List UInt8), quoteS acc t = some (a, u) → u.length < t.length
  | acc, [], a, u, h => by simp [quoteS] at h
  | acc, [c], a, u, h => by
    simp only [quoteS] at h
    split at h
    · simp only [Option.some.injEq, Prod.mk.injEq] at h; rw [← h.2]; simp
    · cases h
  | acc, c :: d :: r, a, u, h => by
    simp only [quoteS] at h
    split at h
    · split at h
      · have := quote_len _ _ _ _ h; simp; omega
      · simp only [Option.some.injEq, Prod.mk.injEq] at h; rw [← h.2]; simp
    · have := quote_len _ _ _ _ h; simp at this ⊢; omega
theorem dw_len {p : UInt8 → Bool} : ∀ r : List UInt8, (r.dropWhile p).length ≤ r.length
  | [] => by simp
  | c :: r => by
    have := dw_len (p := p) r
    by_cases hc : p c = true <;> simp [List.dropWhile_cons, hc]; omega
theorem tok_len {p : Nat} {c : UInt8} {r : List UInt8} {t : Tok} {u : List UInt8} (h : tokS p (c :: r) = .ok (t, u)) : u.length < (c :: r).length := by
  simp only [tokS] at h
  split at h
  · rename_i hc
    split at h
    · simp only [Except.ok.injEq, Prod.mk.injEq] at h
      have := dw_len (p := isRun) r
      rw [← h.2, List.dropWhile_cons, if_pos hc]; simp; omega
    · cases h
  · split at h
    · split at h
      · rename_i hk
        split at h
        · simp only [Except.ok.injEq, Prod.mk.injEq] at h
          have := quote_len _ _ _ _ hk
          rw [← h.2]; simp; omega
        · cases h
      · cases h
    · split at h
      · cases h
      · rename_i hs
        simp only [Except.ok.injEq, Prod.mk.injEq] at h
        rw [← h.2]; simp; omega
theorem blank_all {r : List UInt8} (h : unblank r = []) : blanks r = r.length := by
  have := List.takeWhile_append_dropWhile (p := isBlk) (l := r)
  unfold unblank at h
  rw [h, List.append_nil] at this
  unfold blanks
  rw [this]
theorem next_len {p : Nat} {r : List UInt8} {t : Tok} {u : List UInt8} (h : nextTok p r = .ok (t, u)) : t.kind = 0 ∧ u = [] ∧ unblank r = [] ∧ t = ⟨0, 0, (p + r.length : Nat), []⟩ ∨ t.kind ≠ 0 ∧ u.length < r.length ∧ unblank r ≠ [] := by
  unfold nextTok at h
  cases hr : unblank r with
  | nil =>
    have hb := blank_all hr
    rw [hr] at h
    simp only [tokS, Except.ok.injEq, Prod.mk.injEq] at h
    left
    refine ⟨by rw [← h.1], by rw [← h.2], rfl, by rw [← h.1, hb]⟩
  | cons c r' =>
    rw [hr] at h
    right
    have h1 := tok_len h
    have h2 := dw_len (p := isBlk) r
    have h3 : (unblank r).length = (c :: r').length := by rw [hr]
    unfold unblank at h3
    exact ⟨tok_nz h, by omega, by simp⟩
theorem next_app {b : UInt8} (hb : isBlk b = true) (x : List UInt8) {p : Nat} {r : List UInt8} {t : Tok} {u : List UInt8} (h : nextTok p r = .ok (t, u)) (hk : t.kind ≠ 0) : nextTok p (r ++ b :: x) = .ok (t, u ++ b :: x) := by
  rcases next_len h with h1 | ⟨_, _, hr⟩
  · exact absurd h1.1 hk
  · have hs := tw_stop (b :: x) r hr
    unfold nextTok blanks unblank at h ⊢
    rw [hs.1, hs.2]
    unfold unblank at hr
    cases hd : r.dropWhile isBlk with
    | nil => exact absurd hd hr
    | cons c r' =>
      rw [hd] at h
      rw [List.cons_append]
      exact tok_app hb x h
theorem next_over {b : UInt8} (hb : isBlk b = true) (x : List UInt8) {p : Nat} {r : List UInt8} (hr : unblank r = []) : nextTok p (r ++ b :: x) = nextTok (p + r.length + 1) x := by
  have hall : ∀ (r : List UInt8), r.dropWhile isBlk = [] → (r ++ b :: x).takeWhile isBlk = r ++ b :: x.takeWhile isBlk ∧ (r ++ b :: x).dropWhile isBlk = x.dropWhile isBlk := by
    intro r
    induction r with
    | nil => intro _; simp [List.takeWhile_cons, List.dropWhile_cons, hb]
    | cons c r ih =>
      intro h
      by_cases hc : isBlk c = true
      · simp only [List.dropWhile_cons, hc, if_true] at h
        have := ih h
        simp [List.takeWhile_cons, List.dropWhile_cons, hc, this]
      · simp [List.dropWhile_cons, hc] at h
  have h := hall r hr
  unfold nextTok blanks unblank
  rw [h.1, h.2]
  congr 1
  simp; omega
theorem toks_fuel : ∀ (f g p : Nat) (r : List UInt8), r.length < f → r.length < g → toksS f p r = toksS g p r
  | 0, g, p, r, h, _ => by omega
  | f + 1, 0, p, r, _, h => by omega
  | f + 1, g + 1, p, r, hf, hg => by
    rw [toksS, toksS]
    cases hn : nextTok p r with
    | error e => rfl
    | ok q =>
      obtain ⟨t, u⟩ := q
      simp only
      split
      · rfl
      · rename_i hk
        rcases next_len hn with h1 | ⟨_, hl, _⟩
        · exact absurd h1.1 hk
        · rw [toks_fuel f g _ u (by omega) (by omega)]
def behindS (l : List Tok) : Except Nat (List Tok) → Except Nat (List Tok)
  | .ok m => .ok (l ++ m)
  | .error e => .error e
theorem toks_app {b : UInt8} (hb : isBlk b = true) (x : List UInt8) : ∀ (f p : Nat) (r : List UInt8) (l : List Tok), toksS f p r = .ok l → ∀ g, r.length + x.length + 1 < g →
    toksS g p (r ++ b :: x) = behindS l.dropLast (toksS (x.length + 1) (p + r.length + 1) x)
  | 0, p, r, l, h, g, hg => by simp [toksS] at h
  | f + 1, p, r, l, h, 0, hg => by omega
  | f + 1, p, r, l, h, g + 1, hg => by
    rw [toksS] at h
    cases hn : nextTok p r with
    | error e => rw [hn] at h; cases h
    | ok q =>
      obtain ⟨t, u⟩ := q
      rw [hn] at h
      simp only at h
      split at h
      · rename_i hk
        simp only [Except.ok.injEq] at h
        subst h
        rcases next_len hn with ⟨_, _, hr, _⟩ | ⟨h0, _, _⟩
        · have e : toksS (g + 1) p (r ++ b :: x) = toksS (g + 1) (p + r.length + 1) x := by
            rw [toksS, toksS, next_over hb x hr]
            cases hx : nextTok (p + r.length + 1) x with
            | error e => rfl
            | ok q =>
              obtain ⟨t', u'⟩ := q
              simp only
              split
              · rfl
              · rename_i hk'
                rcases next_len hx with h1 | ⟨_, hl, _⟩
                · exact absurd h1.1 hk'
                · have e2 : p + ((r ++ b :: x).length - u'.length) = p + r.length + 1 + (x.length - u'.length) := by simp; omega
                  rw [e2]
          rw [e, toks_fuel (g + 1) (x.length + 1) _ x (by omega) (by omega)]
          simp only [List.dropLast_singleton]
          unfold behindS
          cases toksS (x.length + 1) (p + r.length + 1) x <;> simp
        · exact absurd hk h0
      · rename_i hk
        rcases next_len hn with h1 | ⟨_, hl, _⟩
        · exact absurd h1.1 hk
        · cases hu : toksS f (p + (r.length - u.length)) u with
          | error e => rw [hu] at h; cases h
          | ok l' =>
            rw [hu] at h
            simp only [Except.ok.injEq] at h
            subst h
            have ih := toks_app hb x f _ u l' hu g (by omega)
            have e2 : p + ((r ++ b :: x).length - (u ++ b :: x).length) = p + (r.length - u.length) := by simp; omega
            have e3 : p + (r.length - u.length) + u.length + 1 = p + r.length + 1 := by omega
            have hne : l' ≠ [] := by
              obtain ⟨m, e, h1, _⟩ := toks_ok _ _ _ _ hu
              rw [h1]; simp
            rw [toksS, next_app hb x hn hk]
            simp only [if_neg hk, e2]
            rw [ih, e3, List.dropLast_cons_of_ne_nil hne]
            unfold behindS
            cases toksS (x.length + 1) (p + r.length + 1) x <;> simp
end Go.Abs
namespace Go.Abs
set_option linter.unusedSimpArgs false
set_option linter.unusedVariables false
open Go Go.Proofs
attribute [local simp] i_nil i_blk i_skip i_ret i_exit i_seq i_block i_cond i_region' i_ops_nil i_ops i_drawn' k_none k_0 k_1 k_2 k_3 k_4 k_5 d_in a_nil a_cons alt1 h_nil h_one h_two z_nil z_cons z_cells zeqL zeq q_alloc q_some nxtN i_drh d_hi i_drw_nil i_drw u_nil u_code u_ops u_drw u_lp u_again u_exit u_ret u_panic c_bool o_some o_val o_panic d_some d_val d_panic w_none w_fast wantG q_nil q_zero q_succ t_zero t_succ g_zero g_succ s_zero s_succ s_some s_none v_tmp v_const v_func f_quiet gc_none gc_pure wrap_i64 p_move p_assign p_pick p_alloc p_box p_build p_buildSlice p_load p_store p_nilCheck p_binOp n_tmp n_int n_bool n_str n_ptr n_fun n_iface nilCmp p_unOp p_convert p_makeSlice p_makeInterface p_makeFunc p_slice p_fieldAddr p_field p_indexAddr p_index p_extract p_callv p_callb p_panic quiet_val new_val e_assign e_call e_load e_store e_alloc e_box e_move e_pick e_build e_buildSlice e_nilCheck e_binOp e_unOp e_convert e_makeSlice e_makeInterface e_makeFunc e_slice e_fieldAddr e_field e_indexAddr e_index e_extract e_panic callD fpRead adoptZ fulls adopt adoptL ofValue ofScalar binOpV unOpV intBin strBin eqRes veq veqF eqDepth val? finish resL r_tmp r_cell normL normTop tipIs refsL refs ownRefs single frz frzL ren renL renOwn callOp doCall backR writeBack builtinV loadV storeV storeW iceT cellsAt takeV D.isAgg overlay vcells cellOk fieldAddrV indexAddrV fieldV partV indexV buildV fillV buildSliceV litElems appendV appElems elemOk convertV convV winStr makeSliceV sliceV natOf
attribute [local simp ↓] brB_true brB_false brB_dec brB_not brB_and brB_or brB_beq brB_bne
attribute [local irreducible] fpsQ panQ
theorem run_at {p : Int} {w : List UInt8} {t : Tok} (h : runS p w = some t) : t.at_ = p := by
  unfold runS at h
  split at h
  · cases h; rfl
  · split at h
    · cases h; rfl
    · split at h
      · cases h; rfl
      · cases h
theorem tok_at {p : Nat} {r : List UInt8} : (∀ t u, tokS p r = .ok (t, u) → t.at_ = p) ∧ ∀ e, tokS p r = .error e → e = p := by
  cases r with
  | nil => exact ⟨fun t u h => by simp only [tokS, Except.ok.injEq, Prod.mk.injEq] at h; rw [← h.1], fun e h => by simp [tokS] at h⟩
  | cons c r =>
    simp only [tokS]
    split
    · split
      · rename_i k hk
        exact ⟨fun t u h => by simp only [Except.ok.injEq, Prod.mk.injEq] at h; rw [← h.1]; exact run_at hk, fun e h => by simp at h⟩
      · exact ⟨fun t u h => by simp at h, fun e h => by simp at h; exact h.symm⟩
    · split
      · split
        · split
          · exact ⟨fun t u h => by simp only [Except.ok.injEq, Prod.mk.injEq] at h; rw [← h.1], fun e h => by simp at h⟩
          · exact ⟨fun t u h => by simp at h, fun e h => by simp at h; exact h.symm⟩
        · exact ⟨fun t u h => by simp at h, fun e h => by simp at h; exact h.symm⟩
      · split
        · exact ⟨fun t u h => by simp at h, fun e h => by simp at h; exact h.symm⟩
        · exact ⟨fun t u h => by simp only [Except.ok.injEq, Prod.mk.injEq] at h; rw [← h.1], fun e h => by simp at h⟩
theorem blanks_le (r : List UInt8) : blanks r ≤ r.length := by
  have := congrArg List.length (List.takeWhile_append_dropWhile (p := isBlk) (l := r))
  simp only [List.length_append] at this
  unfold blanks
  omega
theorem toks_place : ∀ (f p : Nat) (r : List UInt8), (∀ l, toksS f p r = .ok l → (∀ t ∈ l, (p : Int) ≤ t.at_ ∧ t.at_ ≤ ((p + r.length : Nat) : Int)) ∧ ∃ m e, l = m ++ [e] ∧ e.kind = 0 ∧ e.at_ = ((p + r.length : Nat) : Int)) ∧ ∀ e, toksS f p r = .error e → p ≤ e ∧ e ≤ p + r.length
  | 0, p, r => ⟨fun l h => by simp [toksS] at h, fun e h => by simp only [toksS, Except.error.injEq] at h; omega⟩
  | f + 1, p, r => by
    have hb := blanks_le r
    rw [toksS]
    cases hn : nextTok p r with
    | error e =>
      have := tok_at.2 e hn
      exact ⟨fun l h => by simp at h, fun e' h => by simp only [Except.error.injEq] at h; omega⟩
    | ok q =>
      obtain ⟨t, u⟩ := q
      have ht := tok_at.1 t u hn
      rcases next_len hn with ⟨h0, _, _, hq⟩ | ⟨h0, hl, _⟩
      · simp only [h0, if_true]
        refine ⟨fun l h => ?_, fun e h => by simp at h⟩
        simp only [Except.ok.injEq] at h
        subst h
        refine ⟨fun t' h => ?_, [], t, rfl, h0, by rw [hq]⟩
        simp only [List.mem_singleton] at h
        subst h
        rw [hq]
        simp only
        omega
      · simp only [if_neg h0]
        obtain ⟨i1, i2⟩ := toks_place f (p + (r.length - u.length)) u
        cases hu : toksS f (p + (r.length - u.length)) u with
        | error e =>
          have := i2 e hu
          exact ⟨fun l h => by simp at h, fun e' h => by simp only [Except.error.injEq] at h; omega⟩
        | ok l =>
          obtain ⟨j1, m, e, rfl, j2, j3⟩ := i1 l hu
          refine ⟨fun l' h => ?_, fun e h => by simp at h⟩
          simp only [Except.ok.injEq] at h
          subst h
          refine ⟨fun t' h => ?_, t :: m, e, rfl, j2, by rw [j3]; omega⟩
          rcases List.mem_cons.1 h with rfl | h
          · rw [ht]; omega
          · have := j1 t' h; omega
theorem parse_places (s t : List UInt8) (hl : s.length + t.length < 1990) :
    (∃ x k, parseS s = (x, k, 0) ∧ k ≠ 1 ∧ x.ok) ∨
    (∃ e : Nat, parseS s = (Stm.zero, 1, (e : Int)) ∧ toksS (s.length + 1) 0 s = .error e ∧ e ≤ s.length) ∨
    ∃ (q : Int) (l : List Tok), parseS s = (Stm.zero, 1, q) ∧ toksS (s.length + 1) 0 s = .ok l ∧ 0 ≤ q ∧ q ≤ s.length ∧
      ((∃ e, toksS ((s ++ 32 :: t).length + 1) 0 (s ++ 32 :: t) = .error e) ∨ ∃ l2, toksS ((s ++ 32 :: t).length + 1) 0 (s ++ 32 :: t) = .ok l2 ∧ (q = s.length ∨ parseS (s ++ 32 :: t) = (Stm.zero, 1, q))) := by
  have hok := parse_okS s
  obtain ⟨p1, p2⟩ := toks_place (s.length + 1) 0 s
  have hlen : ¬ 2000 < s.length := by omega
  have hlen2 : ¬ 2000 < (s ++ 32 :: t).length := by simp; omega
  cases ht : toksS (s.length + 1) 0 s with
  | error e =>
    right; left
    refine ⟨e, ?_, rfl, by have := p2 e ht; omega⟩
    unfold parseS readP
    rw [if_neg hlen, ht]
  | ok l =>
    obtain ⟨q1, a, e, rfl, q2, q3⟩ := p1 l ht
    have hs := (lp_stmt (K := 0) (K' := 0)).suf (a ++ [e])
    have hb := toks_app (b := 32) (by decide) t (s.length + 1) 0 s _ ht ((s ++ 32 :: t).length + 1) (by simp)
    rw [List.dropLast_concat] at hb
    cases hP : stmtP (a ++ [e]) with
    | mk o r =>
      have hE : Ends r := by have := (kp_stmt (a ++ [e])).2 (ends_app a e q2); rw [hP] at this; exact this
      rw [hP] at hs
      simp only at hs
      have hr0 : r ≠ [] := by rintro rfl; exact hE
      obtain ⟨b, rfl, hba⟩ := suf_split hs hr0
      -- the token that can't stand
      have third : ∀ (hbad : o = none ∨ topK (b ++ [e]) ≠ 0) (hp : parseS s = (Stm.zero, 1, topAt (b ++ [e]))), ∃ (q : Int) (l : List Tok), parseS s = (Stm.zero, 1, q) ∧ Except.ok (a ++ [e]) = (Except.ok l : Except Nat (List Tok)) ∧ 0 ≤ q ∧ q ≤ s.length ∧
      ((∃ e, toksS ((s ++ 32 :: t).length + 1) 0 (s ++ 32 :: t) = .error e) ∨ ∃ l2, toksS ((s ++ 32 :: t).length + 1) 0 (s ++ 32 :: t) = .ok l2 ∧ (q = s.length ∨ parseS (s ++ 32 :: t) = (Stm.zero, 1, q))) := by
        intro hbad hp
        have hin : (0 : Int) ≤ topAt (b ++ [e]) ∧ topAt (b ++ [e]) ≤ s.length := by
          have hm : ∀ u ∈ b ++ [e], (0 : Int) ≤ u.at_ ∧ u.at_ ≤ s.length := fun u hu => by have := q1 u (hs.subset hu); simpa using this
          cases b with
          | nil => exact hm e (by simp)
          | cons u b => exact hm u (by simp)
        refine ⟨_, _, hp, rfl, hin.1, hin.2, ?_⟩
        rw [hb]
        cases hx : toksS (t.length + 1) (0 + s.length + 1) t with
        | error e => exact .inl ⟨e, rfl⟩
        | ok m =>
          refine .inr ⟨a ++ m, rfl, ?_⟩
          cases b with
          | nil => left; simp [topAt, q3]
          | cons u b =>
            right
            have hr := (lp_stmt (K := a.length + 1) (K' := (a ++ m).length)).rel a m (u :: b) e o q2 (by simp) (Nat.le_refl _) (Nat.le_refl _) hP
            unfold parseS readP
            rw [if_neg hlen2, hb, hx]
            simp only [behindS, hr]
            cases o with
            | none => rfl
            | some x =>
              have hk : topK (u :: b ++ m) ≠ 0 := hbad.resolve_left (by simp)
              simp only
              rw [if_neg hk]
              rfl
      cases o with
      | none =>
        right; right
        refine third (.inl rfl) ?_
        unfold parseS readP
        rw [if_neg hlen, ht]
        simp only [hP]
      | some x =>
        by_cases hk : topK (b ++ [e]) = 0
        · left
          by_cases hR : rightStm x = true
          · have : parseS s = (x, 0, 0) := by
              unfold parseS readP
              rw [if_neg hlen, ht]
              simp only [hP, hk, if_true, hR]
            exact ⟨x, 0, this, by decide, by rw [this] at hok; exact hok⟩
          · have : parseS s = (Stm.zero, 8, 0) := by
              unfold parseS readP
              rw [if_neg hlen, ht]
              simp only [hP, hk, if_true, hR, Bool.false_eq_true, if_false]
            exact ⟨Stm.zero, 8, this, by decide, by rw [this] at hok; exact hok⟩
        · right; right
          refine third (.inr hk) ?_
          unfold parseS readP
          rw [if_neg hlen, ht]
          simp only [hP, if_neg hk]
set_option maxRecDepth 100000 in
set_option maxHeartbeats 4000000 in
theorem ev_parseplaces (s t : List UInt8) (hsl : s.length ≤ 1048576) (htl : t.length ≤ 1048576) : EV 9 [.str s, .str t] [] = some (.ret (.bool true), []) := by
  have hw := ev_awake14
  rw [EV_mki rfl Tryz.func9 rfl (by kernel_rfl) rfl]
  by_cases h9 : 900 < (s.length : Int)
  · simp [Tryz.f9, Tryz.ti3, Tryz.ti4, Tryz.ti9, Tryz.ti22, Tryz.ti23, Tryz.ti24, Tryz.ti25, Tryz.ti26, Tryz.ti28, Tryz.ti44, Tryz.ti46, Tryz.ti56, Tryz.ti58, Tryz.ti80, Tryz.ti84, Tryz.ti94, hw, h9] <;> first | (refine panQ_of ?_; decide +kernel) | (change _ = true; decide +kernel) | kernel_rfl | (refine ⟨?_, ?_⟩ <;> first | (change _ = true; decide +kernel) | kernel_rfl)
  by_cases h8 : 900 < (t.length : Int)
  · simp [Tryz.f9, Tryz.ti3, Tryz.ti4, Tryz.ti9, Tryz.ti22, Tryz.ti23, Tryz.ti24, Tryz.ti25, Tryz.ti26, Tryz.ti28, Tryz.ti44, Tryz.ti46, Tryz.ti56, Tryz.ti58, Tryz.ti80, Tryz.ti84, Tryz.ti94, hw, h9, h8] <;> first | (refine panQ_of ?_; decide +kernel) | (change _ = true; decide +kernel) | kernel_rfl | (refine ⟨?_, ?_⟩ <;> first | (change _ = true; decide +kernel) | kernel_rfl)
  have h1 := ev_pparse s
  have t1 := ev_tokens s hsl
  unfold stmO errV at h1
  rcases parse_places s t (by omega) with ⟨x, k, hp, hk, hok⟩ | ⟨e, hp, ht, hle⟩ | ⟨q, l, hp, ht, hq0, hql, h3⟩
  · rw [hp] at h1
    obtain ⟨b, acts⟩ := x
    rw [senc_mk] at h1
    simp [Tryz.f9, Tryz.ti3, Tryz.ti4, Tryz.ti9, Tryz.ti22, Tryz.ti23, Tryz.ti24, Tryz.ti25, Tryz.ti26, Tryz.ti28, Tryz.ti44, Tryz.ti46, Tryz.ti56, Tryz.ti58, Tryz.ti80, Tryz.ti84, Tryz.ti94, hw, h9, h8, h1, hk] <;> first | (refine panQ_of ?_; decide +kernel) | (change _ = true; decide +kernel) | kernel_rfl | (refine ⟨?_, ?_⟩ <;> first | (change _ = true; decide +kernel) | kernel_rfl)
  · rw [hp] at h1
    rw [ht] at t1
    have hle' : ¬ (s.length : Int) < (e : Int) := by omega
    have h0 : ¬ (e : Int) < 0 := by omega
    simp only [Stm.zero, senc_mk, StB.zero, List.map_nil, toksO] at h1 t1
    simp [Tryz.f9, Tryz.ti3, Tryz.ti4, Tryz.ti9, Tryz.ti22, Tryz.ti23, Tryz.ti24, Tryz.ti25, Tryz.ti26, Tryz.ti28, Tryz.ti44, Tryz.ti46, Tryz.ti56, Tryz.ti58, Tryz.ti80, Tryz.ti84, Tryz.ti94, hw, h9, h8, h1, t1, hle', h0] <;> first | (refine panQ_of ?_; decide +kernel) | (change _ = true; decide +kernel) | kernel_rfl | (refine ⟨?_, ?_⟩ <;> first | (change _ = true; decide +kernel) | kernel_rfl)
  · rw [hp] at h1
    rw [ht] at t1
    have hle' : ¬ (s.length : Int) < q := by omega
    have h0 : ¬ q < 0 := by omega
    have h2 := ev_pparse (s ++ 32 :: t)
    have t2 := ev_tokens (s ++ 32 :: t) (by simp; omega)
    have hb1 : s.length + 1 ≤ 4611686018427387904 := by omega
    have hb2 : s.length + (t.length + 1) ≤ 4611686018427387904 := by omega
    have hb3 : s.length + 1 + t.length ≤ 4611686018427387904 := by omega
    unfold stmO errV at h2
    rcases h3 with ⟨e, hx⟩ | ⟨l2, hx, hy⟩
    · rw [hx] at t2
      generalize hps : parseS (s ++ 32 :: t) = z at h2
      obtain ⟨⟨b2, acts2⟩, k2, q2⟩ := z
      simp only [Stm.zero, senc_mk, StB.zero, List.map_nil, toksO] at h1 h2 t1 t2
      simp [Tryz.f9, Tryz.ti3, Tryz.ti4, Tryz.ti9, Tryz.ti22, Tryz.ti23, Tryz.ti24, Tryz.ti25, Tryz.ti26, Tryz.ti28, Tryz.ti44, Tryz.ti46, Tryz.ti56, Tryz.ti58, Tryz.ti80, Tryz.ti84, Tryz.ti94, hw, h9, h8, h1, t1, h2, t2, hle', h0, hb1, hb2, hb3] <;> first | (refine panQ_of ?_; decide +kernel) | (change _ = true; decide +kernel) | kernel_rfl | (refine ⟨?_, ?_⟩ <;> first | (change _ = true; decide +kernel) | kernel_rfl)
    · rw [hx] at t2
      by_cases hql' : q = s.length
      · subst hql'
        generalize hps : parseS (s ++ 32 :: t) = z at h2
        obtain ⟨⟨b2, acts2⟩, k2, q2⟩ := z
        simp only [Stm.zero, senc_mk, StB.zero, List.map_nil, toksO] at h1 h2 t1 t2
        simp [Tryz.f9, Tryz.ti3, Tryz.ti4, Tryz.ti9, Tryz.ti22, Tryz.ti23, Tryz.ti24, Tryz.ti25, Tryz.ti26, Tryz.ti28, Tryz.ti44, Tryz.ti46, Tryz.ti56, Tryz.ti58, Tryz.ti80, Tryz.ti84, Tryz.ti94, hw, h9, h8, h1, t1, h2, t2, hle', h0, hb1, hb2, hb3]
      · have hy := hy.resolve_left hql'
        rw [hy] at h2
        simp only [Stm.zero, senc_mk, StB.zero, List.map_nil, toksO] at h1 h2 t1 t2
        simp [Tryz.f9, Tryz.ti3, Tryz.ti4, Tryz.ti9, Tryz.ti22, Tryz.ti23, Tryz.ti24, Tryz.ti25, Tryz.ti26, Tryz.ti28, Tryz.ti44, Tryz.ti46, Tryz.ti56, Tryz.ti58, Tryz.ti80, Tryz.ti84, Tryz.ti94, hw, h9, h8, h1, t1, h2, t2, hle', h0, hb1, hb2, hb3, hql'] <;> first | (refine panQ_of ?_; decide +kernel) | (change _ = true; decide +kernel) | kernel_rfl | (refine ⟨?_, ?_⟩ <;> first | (change _ = true; decide +kernel) | kernel_rfl)
end Go.Abs
