/- Plain: the parser looks at no token's place. -/
import Derived.Test.YtpmeklllgnnffaaGreatDoorP18
import Derived.Test.YtpmeklllgnnffaaGreatDoorP17
set_option linter.unusedSimpArgs false
set_option linter.unusedVariables false

namespace Go.Abs
set_option linter.unusedSimpArgs false
set_option linter.unusedVariables false
open Go
def strip (t : Tok) : Tok := { t with at_ := 0 }
abbrev strips (l : List Tok) : List Tok := l.map strip
def NatP {α : Type} (P : List Tok → PR α) : Prop := ∀ l, P (strips l) = ((P l).1, strips (P l).2)
theorem isT_strip (s : List UInt8) (l : List Tok) : isT s (strips l) = isT s l := by cases l <;> rfl
theorem topK_strip (l : List Tok) : topK (strips l) = topK l := by cases l <;> rfl
theorem tail_strip (l : List Tok) : (strips l).tail = strips l.tail := by cases l <;> rfl
theorem len_strip (l : List Tok) : (strips l).length = l.length := by simp [strips]
theorem nat_ret {α : Type} (a : α) : NatP (fun r => (some a, r)) := fun l => rfl
theorem nat_none {α : Type} : NatP (fun r => ((none : Option α), r)) := fun l => rfl
theorem nat_then {α β : Type} {P : List Tok → PR α} {f : α → List Tok → PR β} (hp : NatP P) (hf : ∀ a, NatP (f a)) : NatP (fun l => thenP (P l) f) := by
  intro l
  simp only [thenP, hp l]
  cases h : P l with
  | mk o r =>
    cases o with
    | none => rfl
    | some a => exact hf a r
theorem nat_if {α : Type} {s : List UInt8} {A B : List Tok → PR α} (ha : NatP A) (hb : NatP B) : NatP (fun l => if isT s l then A l.tail else B l) := by
  intro l
  simp only [isT_strip, tail_strip]
  cases isT s l
  · simpa using hb l
  · simpa using ha l.tail
theorem nat_fuel {α : Type} {F : Nat → List Tok → PR α} (h : ∀ n, NatP (F n)) : NatP (fun l => F (l.length + 1) l) := by
  intro l
  simp only [len_strip]
  exact h _ l
theorem nat_need (s : List UInt8) : NatP (needP s) := by
  intro l
  unfold needP
  rw [isT_strip, tail_strip]
  cases isT s l <;> rfl
theorem maybe_strip (s : List UInt8) (l : List Tok) : maybeP s (strips l) = ((maybeP s l).1, strips (maybeP s l).2) := by
  unfold maybeP
  rw [isT_strip, tail_strip]
  cases isT s l <;> rfl
theorem one_strip : ∀ (ss : List (List UInt8)) (l : List Tok), oneP ss (strips l) = ((oneP ss l).1, strips (oneP ss l).2)
  | [], l => rfl
  | s :: r, l => by
    unfold oneP
    rw [isT_strip, tail_strip, one_strip r l]
    cases isT s l
    · simp only [Bool.false_eq_true, if_false]
      cases oneP r l with
      | mk n l' => cases n <;> rfl
    · rfl
theorem nat_oneOf (ss : List (List UInt8)) : NatP (oneOfP ss) := by
  intro l
  unfold oneOfP
  rw [one_strip]
  cases oneP ss l with
  | mk n l' => cases n <;> rfl
theorem nat_name : NatP nameP := by
  intro l
  cases l with
  | nil => rfl
  | cons t r =>
    simp only [nameP, List.map_cons, strip]
    split <;> rfl
theorem nat_num : NatP numP := by
  intro l
  cases l with
  | nil => rfl
  | cons t r =>
    simp only [numP, List.map_cons, strip]
    split <;> rfl
theorem nat_list {α : Type} {f : List Tok → PR α} (hf : NatP f) : ∀ n, NatP (listP f n)
  | 0 => fun l => rfl
  | n + 1 => nat_then hf fun a => nat_if (A := fun r => thenP (listP f n r) fun xs r' => (some (a :: xs), r')) (nat_then (nat_list hf n) fun xs => nat_ret _) (nat_ret _)
theorem opAt_strip (tbl : List (List UInt8 × List UInt8)) (l : List Tok) : opAt tbl (strips l) = opAt tbl l := by
  induction tbl with
  | nil => rfl
  | cons p r ih => obtain ⟨s, o⟩ := p; simp only [opAt, isT_strip, ih]
theorem nat_more {part : List Tok → PR Xp} (hp : NatP part) (tbl : List (List UInt8 × List UInt8)) : ∀ n e, NatP (moreP part tbl n e)
  | 0, e => fun l => rfl
  | n + 1, e => fun l => by
    simp only [moreP, opAt_strip, tail_strip]
    cases opAt tbl l with
    | none => rfl
    | some o => exact nat_then hp (fun f => nat_more hp tbl n (xop o [e, f])) l.tail
theorem nat_chain {part : List Tok → PR Xp} (hp : NatP part) (tbl : List (List UInt8 × List UInt8)) : NatP (chainP part tbl) :=
  nat_then hp fun e => nat_fuel fun n => nat_more hp tbl n e
theorem nat_paren {or : List Tok → PR Xp} (ho : NatP or) : NatP (parenP or) :=
  nat_then ho fun e => nat_if (A := fun r => (some e, r)) (nat_ret _) nat_none
theorem nat_atom {or : List Tok → PR Xp} (ho : NatP or) : NatP (atomP or) := by
  intro l
  cases l with
  | nil => rfl
  | cons t r =>
    have hi := fun s => isT_strip s (t :: r)
    have hq := nat_paren ho r
    have hd := nat_if (s := [46]) (A := fun r => thenP (nameP r) fun c r' => (some (Xp.mk oColumn Val.zero t.s c []), r')) (B := fun r => (some (Xp.mk oColumn Val.zero [] t.s []), r)) (nat_then nat_name fun c => nat_ret _) (nat_ret _) r
    simp only [strips, List.map_cons] at hi hq hd ⊢
    simp only [atomP, hi]
    have e1 : (strip t).kind = t.kind := rfl
    have e2 : (strip t).n = t.n := rfl
    have e3 : (strip t).s = t.s := rfl
    simp only [e1, e2, e3]
    split
    · rfl
    · split
      · rfl
      · split
        · exact hd
        · split
          · rfl
          · split
            · rfl
            · split
              · rfl
              · split
                · exact hq
                · rfl
theorem nat_unary {or : List Tok → PR Xp} (ho : NatP or) : ∀ k, NatP (unaryP or k)
  | 0 => fun l => rfl
  | k + 1 => nat_if (A := fun l => thenP (unaryP or k l) fun e r => (some (xop oNeg [e]), r)) (nat_then (nat_unary ho k) fun e => nat_ret _) (nat_atom ho)
theorem nat_is (e : Xp) : NatP (isP e) := by
  intro l
  unfold isP
  rw [isT_strip, tail_strip, maybe_strip]
  cases isT [73, 83] l
  · rfl
  · simp only [if_true]
    cases maybeP [78, 79, 84] l.tail with
    | mk b r =>
      exact nat_then (nat_need [78, 85, 76, 76]) (fun _ => nat_ret (if b = true then xop oNot [xop oNull [e]] else xop oNull [e])) r
theorem nat_cmp {sum : List Tok → PR Xp} (hs : NatP sum) : NatP (cmpP sum) := by
  refine nat_then hs fun e l => ?_
  simp only [opAt_strip, tail_strip]
  cases opAt cmpTbl l with
  | none => exact nat_is e l
  | some o => exact nat_then hs (fun f => nat_ret (xop o [e, f])) l.tail
theorem nat_not {cmp : List Tok → PR Xp} (hc : NatP cmp) : ∀ k, NatP (notP cmp k)
  | 0 => fun l => rfl
  | k + 1 => nat_if (A := fun l => thenP (notP cmp k l) fun e r => (some (xop oNot [e]), r)) (nat_then (nat_not hc k) fun e => nat_ret _) hc
theorem nat_or : ∀ n, NatP (orP n)
  | 0 => fun l => rfl
  | n + 1 => by
    have h1 : NatP (unaryL (orP n)) := nat_fuel fun k => nat_unary (nat_or n) k
    have h2 : NatP (notL (orP n)) := nat_fuel fun k => nat_not (nat_cmp (nat_chain (nat_chain h1 termTbl) sumTbl)) k
    exact nat_chain (nat_chain h2 andTbl) orTbl
theorem nat_expr : NatP exprP := nat_fuel nat_or
theorem nat_where : NatP whereP := nat_if (A := fun l => thenP (exprP l) fun e r => (some [e], r)) (nat_then nat_expr fun e => nat_ret _) (nat_ret _)
theorem var_strip (l : List Tok) : varP (strips l) = ((varP l).1, strips (varP l).2) := by
  cases l with
  | nil => rfl
  | cons t r =>
    simp only [varP, List.map_cons, strip]
    split <;> rfl
theorem nat_source : NatP sourceP := by
  intro l
  unfold sourceP
  rw [one_strip]
  cases oneP [[73, 78, 83, 69, 82, 84, 69, 68], [68, 69, 76, 69, 84, 69, 68], [79, 76, 68], [78, 69, 87]] l with
  | mk n r =>
    cases n with
    | zero =>
      refine nat_then nat_name (fun t r' => ?_) r
      rw [var_strip]
    | succ n => simp only [var_strip]
theorem nat_items : NatP itemsP := nat_if (nat_ret _) (nat_fuel (nat_list nat_expr))
theorem nat_query : NatP queryP :=
  nat_then (nat_need _) fun _ => nat_then nat_items fun is => nat_then (nat_need _) fun _ => nat_then (nat_fuel (nat_list nat_source)) fun ss => nat_then nat_where fun w => nat_ret _
theorem nat_set : NatP setP := nat_then nat_name fun c => nat_then (nat_need _) fun _ => nat_then nat_expr fun e => nat_ret _
theorem nat_ins : NatP insP :=
  nat_then (nat_need _) fun _ => nat_then nat_name fun t =>
    nat_if (A := fun r => thenP (needP [40] r) fun _ r => thenP (listP exprP (r.length + 1) r) fun vs r => thenP (needP [41] r) fun _ r => (some { StB.zero with kind := 12, table := t, values := vs }, r))
      (nat_then (nat_need _) fun _ => nat_then (nat_fuel (nat_list nat_expr)) fun vs => nat_then (nat_need _) fun _ => nat_ret _) (nat_then nat_query fun q => nat_ret _)
theorem nat_upd : NatP updP := nat_then nat_name fun t => nat_then (nat_need _) fun _ => nat_then (nat_fuel (nat_list nat_set)) fun ss => nat_then nat_where fun w => nat_ret _
theorem nat_del : NatP delP := nat_then (nat_need _) fun _ => nat_then nat_name fun t => nat_then nat_where fun w => nat_ret _
theorem nat_act : NatP actP :=
  nat_if (A := fun l => thenP (insP l) fun b r => (some (some b), r)) (nat_then nat_ins fun b => nat_ret _)
    (nat_if (A := fun l => thenP (updP l) fun b r => (some (some b), r)) (nat_then nat_upd fun b => nat_ret _)
      (nat_if (A := fun l => thenP (delP l) fun b r => (some (some b), r)) (nat_then nat_del fun b => nat_ret _) (nat_ret _)))
theorem nat_column : NatP columnP := by
  refine nat_then nat_name fun n => nat_then (nat_oneOf _) fun t => nat_if (A := fun r => thenP (needP [78, 85, 76, 76] r) fun _ r => (some (⟨n, t, true, (maybeP [85, 78, 73, 81, 85, 69] r).1⟩ : Col), (maybeP [85, 78, 73, 81, 85, 69] r).2)) (nat_then (nat_need _) fun _ l => ?_) fun l => ?_
  · simp only [maybe_strip]
  · simp only [maybe_strip]
theorem nat_acts : ∀ n, NatP (actsP n)
  | 0 => fun l => rfl
  | n + 1 => nat_then nat_act fun o => match o with
    | none => nat_none
    | some b => nat_if (A := fun r => thenP (actsP n r) fun xs r' => (some (Stm.mk b [] :: xs), r')) (nat_then (nat_acts n) fun xs => nat_ret _) (nat_ret _)
theorem nat_when : NatP whenP := nat_then (nat_oneOf _) fun n => by
  by_cases h : n = 2
  · simp only [if_pos h]
    exact nat_then (nat_fuel (nat_list nat_source)) fun ss => nat_then nat_where fun w => nat_ret _
  · simp only [if_neg h]
    exact nat_ret _
theorem nat_do : NatP doP := nat_then (nat_need _) fun _ => nat_if (nat_ret _) (nat_then (nat_fuel nat_acts) fun xs => nat_then (nat_need _) fun _ => nat_ret _)
theorem nat_rule (n : List UInt8) : NatP (ruleP n) :=
  nat_then (nat_need _) fun _ => nat_then nat_num fun p => nat_then (nat_need _) fun _ => nat_then (nat_oneOf _) fun e => nat_then (nat_need _) fun _ => nat_then nat_name fun t => fun l => by
    simp only [maybe_strip]
    exact nat_then nat_when (fun w => nat_then nat_do fun d => nat_ret _) _
theorem nat_create : NatP createP := nat_then (nat_oneOf _) fun k => nat_then nat_name fun n => by
  by_cases h1 : k = 1
  · simp only [if_pos h1]
    exact nat_then (nat_need _) fun _ => nat_then (nat_fuel (nat_list nat_column)) fun cs => nat_then (nat_need _) fun _ => nat_ret _
  · by_cases h2 : k = 2
    · simp only [if_neg h1, if_pos h2]
      exact nat_then (nat_need _) fun _ => nat_then nat_name fun t => nat_then (nat_need _) fun _ => nat_then nat_name fun c => nat_then (nat_need _) fun _ => nat_ret _
    · simp only [if_neg h1, if_neg h2]
      exact nat_rule n
theorem nat_drop : NatP dropP := nat_then (nat_oneOf _) fun k => nat_then nat_name fun n => nat_ret _
theorem nat_small (k : Nat) : NatP (smallP k) := by
  unfold smallP
  by_cases h1 : k ≤ 3
  · simp only [if_pos h1]; exact nat_ret _
  by_cases h2 : k = 4
  · simp only [if_neg h1, if_pos h2]; exact nat_then nat_name fun n => nat_ret _
  by_cases h3 : k = 5
  · simp only [if_neg h1, if_neg h2, if_pos h3]; exact nat_then (nat_need _) fun _ => nat_then nat_name fun n => nat_ret _
  by_cases h4 : k = 6
  · simp only [if_neg h1, if_neg h2, if_neg h3, if_pos h4]; exact nat_create
  · simp only [if_neg h1, if_neg h2, if_neg h3, if_neg h4]; exact nat_drop
theorem nat_stmt : NatP stmtP := nat_then nat_act fun o => match o with
  | some b => nat_ret _
  | none => fun l => by
    simp only [isT_strip]
    cases isT [83, 69, 76, 69, 67, 84] l
    · simp only [Bool.false_eq_true, if_false]
      exact nat_then (nat_oneOf _) (fun k => nat_small k) l
    · simp only [if_true]
      exact nat_then nat_query (fun q => nat_ret _) l
theorem alikes_strips : ∀ {l m : List Tok}, Alikes l m → strips l = strips m
  | [], [], _ => rfl
  | a :: l, b :: m, h => by
    obtain ⟨⟨h1, h2, h3⟩, h4⟩ := h
    simp only [strips, List.map_cons, strip, h1, h2, h3]
    rw [show l.map strip = m.map strip from alikes_strips h4]
  | [], _ :: _, h => h.elim
  | _ :: _, [], h => h.elim
theorem nat_alike {α : Type} {P : List Tok → PR α} (hp : NatP P) {l m : List Tok} (h : strips l = strips m) : (P l).1 = (P m).1 ∧ strips (P l).2 = strips (P m).2 := by
  have h1 := hp l
  have h2 := hp m
  rw [h, h2] at h1
  exact ⟨(congrArg Prod.fst h1).symm, (congrArg Prod.snd h1).symm⟩
end Go.Abs
namespace Go.Abs
set_option linter.unusedSimpArgs false
set_option linter.unusedVariables false
open Go
theorem tw_app {p : UInt8 → Bool} (b : UInt8) (hb : p b = false) (x : List UInt8) : ∀ r : List UInt8, (r ++ b :: x).takeWhile p = r.takeWhile p ∧ (r ++ b :: x).dropWhile p = r.dropWhile p ++ b :: x
  | [] => by simp [List.takeWhile_cons, List.dropWhile_cons, hb]
  | c :: r => by
    have ih := tw_app b hb x r
    by_cases hc : p c = true <;> simp [List.takeWhile_cons, List.dropWhile_cons, hc, ih]
theorem tw_stop {p : UInt8 → Bool} (y : List UInt8) : ∀ r : List UInt8, r.dropWhile p ≠ [] → (r ++ y).takeWhile p = r.takeWhile p ∧ (r ++ y).dropWhile p = r.dropWhile p ++ y
  | [], h => absurd rfl h
  | c :: r, h => by
    by_cases hc : p c = true
    · simp only [List.dropWhile_cons, hc, if_true] at h
      have ih := tw_stop y r h
      simp [List.takeWhile_cons, List.dropWhile_cons, hc, ih]
    · simp [List.takeWhile_cons, List.dropWhile_cons, hc]
theorem blk_run {b : UInt8} (hb : isBlk b = true) : isRun b = false ∧ b ≠ 39 ∧ b ≠ 61 ∧ b ≠ 62 := by
  simp only [isBlk, Bool.or_eq_true, beq_iff_eq] at hb
  rcases hb with (rfl | rfl) | rfl <;> decide
theorem quote_app (b : UInt8) (hb : b ≠ 39) (x : List UInt8) : ∀ (acc t a u : List UInt8), quoteS acc t = some (a, u) → quoteS acc (t ++ b :: x) = some (a, u ++ b :: x)
  | acc, [], a, u, h => by simp [quoteS] at h
  | acc, [c], a, u, h => by
    simp only [quoteS] at h
    split at h
    · rename_i hc
      simp only [Option.some.injEq, Prod.mk.injEq] at h
      obtain ⟨rfl, rfl⟩ := h
      simp [quoteS, hc, hb]
    · cases h
  | acc, c :: d :: r, a, u, h => by
    simp only [quoteS] at h
    simp only [List.cons_append, quoteS]
    split at h
    · rename_i hc
      rw [if_pos hc]
      split at h
      · rename_i hd
        rw [if_pos hd]
        exact quote_app b hb x _ _ _ _ h
      · rename_i hd
        rw [if_neg hd]
        simp only [Option.some.injEq, Prod.mk.injEq] at h
        obtain ⟨rfl, rfl⟩ := h
        rfl
    · rename_i hc
      rw [if_neg hc]
      exact quote_app b hb x _ _ _ _ h
theorem sym_app (c b : UInt8) (h1 : b ≠ 61) (h2 : b ≠ 62) (r x : List UInt8) : symS (c :: (r ++ b :: x)) = symS (c :: r) := by
  cases r with
  | nil => simp [symS, h1, h2]
  | cons d r => simp [symS]
theorem sym_len (c : UInt8) (r : List UInt8) : symS (c :: r) ≤ (c :: r).length := by
  cases r with
  | nil => simp only [symS]; split <;> simp
  | cons d r =>
    simp only [symS]
    split
    · simp
    · split <;> simp
theorem tok_app {b : UInt8} (hb : isBlk b = true) (x : List UInt8) {p : Nat} {c : UInt8} {r : List UInt8} {t : Tok} {u : List UInt8} (h : tokS p (c :: r) = .ok (t, u)) : tokS p (c :: (r ++ b :: x)) = .ok (t, u ++ b :: x) := by
  obtain ⟨b1, b2, b3, b4⟩ := blk_run hb
  have ht := tw_app b b1 x (c :: r)
  simp only [List.cons_append] at ht
  simp only [tokS] at h ⊢
  rw [ht.1, ht.2]
  split at h
  · rename_i hc
    rw [if_pos hc]
    split at h
    · rename_i k hk
      simp only [Except.ok.injEq, Prod.mk.injEq] at h ⊢
      exact ⟨h.1, by rw [h.2]⟩
    · cases h
  · rename_i hc
    rw [if_neg hc]
    split at h
    · rename_i hq
      rw [if_pos hq]
      split at h
      · rename_i a u' hk
        rw [quote_app b b2 x _ _ _ _ hk]
        simp only
        split at h
        · rename_i hl
          rw [if_pos hl]
          simp only [Except.ok.injEq, Prod.mk.injEq] at h ⊢
          exact ⟨h.1, by rw [h.2]⟩
        · cases h
      · cases h
    · rename_i hq
      rw [if_neg hq, sym_app c b b3 b4]
      split at h
      · cases h
      · rename_i hs
        rw [if_neg hs]
        have hl := sym_len c r
        simp only [Except.ok.injEq, Prod.mk.injEq] at h ⊢
        obtain ⟨rfl, rfl⟩ := h
        rw [← List.cons_append, List.take_append_of_le_length hl, List.drop_append_of_le_length hl]
        exact ⟨rfl, rfl⟩
theorem tok_nz {p : Nat} {c : UInt8} {r : List UInt8} {t : Tok} {u : List UInt8} (h : tokS p (c :: r) = .ok (t, u)) : t.kind ≠ 0 := by
  simp only [tokS] at h
  split at h
  · split at h
    · rename_i k hk
      simp only [Except.ok.injEq, Prod.mk.injEq] at h
      rw [← h.1]
      have := run_ok hk
      cases this <;> simp
    · cases h
  · split at h
    · split at h
      · split at h
        · simp only [Except.ok.injEq, Prod.mk.injEq] at h
          rw [← h.1]; simp
        · cases h
      · cases h
    · split at h
      · cases h
      · simp only [Except.ok.injEq, Prod.mk.injEq] at h
        rw [← h.1]; simp
theorem quote_len : ∀ (acc t a u : List UInt8), quoteS acc t = some (a, u) → u.length < t.length
  | acc, [], a, u, h => by simp [quoteS] at h
  | acc, [c], a, u, h => by
    simp only [quoteS] at h
    split at h
    · simp only [Option.some.injEq, Prod.mk.injEq] at h; rw [← h.2]; simp
    · cases h
  | acc, c :: d :: r, a, u, h => by
    simp only [quoteS] at h
    split at h
    · split at h
      · have := quote_len _ _ _ _ h; simp; omega
      · simp only [Option.some.injEq, Prod.mk.injEq] at h; rw [← h.2]; simp
    · have := quote_len _ _ _ _ h; simp at this ⊢; omega
theorem dw_len {p : UInt8 → Bool} : ∀ r : List UInt8, (r.dropWhile p).length ≤ r.length
  | [] => by simp
  | c :: r => by
    have := dw_len (p := p) r
    by_cases hc : p c = true <;> simp [List.dropWhile_cons, hc]; omega
theorem tok_len {p : Nat} {c : UInt8} {r : List UInt8} {t : Tok} {u : List UInt8} (h : tokS p (c :: r) = .ok (t, u)) : u.length < (c :: r).length := by
  simp only [tokS] at h
  split at h
  · rename_i hc
    split at h
    · simp only [Except.ok.injEq, Prod.mk.injEq] at h
      have := dw_len (p := isRun) r
      rw [← h.2, List.dropWhile_cons, if_pos hc]; simp; omega
    · cases h
  · split at h
    · split at h
      · rename_i hk
        split at h
        · simp only [Except.ok.injEq, Prod.mk.injEq] at h
          have := quote_len _ _ _ _ hk
          rw [← h.2]; simp; omega
        · cases h
      · cases h
    · split at h
      · cases h
      · rename_i hs
        simp only [Except.ok.injEq, Prod.mk.injEq] at h
        rw [← h.2]; simp; omega
theorem blank_all {r : List UInt8} (h : unblank r = []) : blanks r = r.length := by
  have := List.takeWhile_append_dropWhile (p := isBlk) (l := r)
  unfold unblank at h
  rw [h, List.append_nil] at this
  unfold blanks
  rw [this]
theorem next_len {p : Nat} {r : List UInt8} {t : Tok} {u : List UInt8} (h : nextTok p r = .ok (t, u)) : t.kind = 0 ∧ u = [] ∧ unblank r = [] ∧ t = ⟨0, 0, (p + r.length : Nat), []⟩ ∨ t.kind ≠ 0 ∧ u.length < r.length ∧ unblank r ≠ [] := by
  unfold nextTok at h
  cases hr : unblank r with
  | nil =>
    have hb := blank_all hr
    rw [hr] at h
    simp only [tokS, Except.ok.injEq, Prod.mk.injEq] at h
    left
    refine ⟨by rw [← h.1], by rw [← h.2], rfl, by rw [← h.1, hb]⟩
  | cons c r' =>
    rw [hr] at h
    right
    have h1 := tok_len h
    have h2 := dw_len (p := isBlk) r
    have h3 : (unblank r).length = (c :: r').length := by rw [hr]
    unfold unblank at h3
    exact ⟨tok_nz h, by omega, by simp⟩
theorem next_app {b : UInt8} (hb : isBlk b = true) (x : List UInt8) {p : Nat} {r : List UInt8} {t : Tok} {u : List UInt8} (h : nextTok p r = .ok (t, u)) (hk : t.kind ≠ 0) : nextTok p (r ++ b :: x) = .ok (t, u ++ b :: x) := by
  rcases next_len h with h1 | ⟨_, _, hr⟩
  · exact absurd h1.1 hk
  · have hs := tw_stop (b :: x) r hr
    unfold nextTok blanks unblank at h ⊢
    rw [hs.1, hs.2]
    unfold unblank at hr
    cases hd : r.dropWhile isBlk with
    | nil => exact absurd hd hr
    | cons c r' =>
      rw [hd] at h
      rw [List.cons_append]
      exact tok_app hb x h
theorem next_over {b : UInt8} (hb : isBlk b = true) (x : List UInt8) {p : Nat} {r : List UInt8} (hr : unblank r = []) : nextTok p (r ++ b :: x) = nextTok (p + r.length + 1) x := by
  have hall : ∀ (r : List UInt8), r.dropWhile isBlk = [] → (r ++ b :: x).takeWhile isBlk = r ++ b :: x.takeWhile isBlk ∧ (r ++ b :: x).dropWhile isBlk = x.dropWhile isBlk := by
    intro r
    induction r with
    | nil => intro _; simp [List.takeWhile_cons, List.dropWhile_cons, hb]
    | cons c r ih =>
      intro h
      by_cases hc : isBlk c = true
      · simp only [List.dropWhile_cons, hc, if_true] at h
        have := ih h
        simp [List.takeWhile_cons, List.dropWhile_cons, hc, this]
      · simp [List.dropWhile_cons, hc] at h
  have h := hall r hr
  unfold nextTok blanks unblank
  rw [h.1, h.2]
  congr 1
  simp; omega
theorem toks_fuel : ∀ (f g p : Nat) (r : List UInt8), r.length < f → r.length < g → toksS f p r = toksS g p r
  | 0, g, p, r, h, _ => by omega
  | f + 1, 0, p, r, _, h => by omega
  | f + 1, g + 1, p, r, hf, hg => by
    rw [toksS, toksS]
    cases hn : nextTok p r with
    | error e => rfl
    | ok q =>
      obtain ⟨t, u⟩ := q
      simp only
      split
      · rfl
      · rename_i hk
        rcases next_len hn with h1 | ⟨_, hl, _⟩
        · exact absurd h1.1 hk
        · rw [toks_fuel f g _ u (by omega) (by omega)]
def behindS (l : List Tok) : Except Nat (List Tok) → Except Nat (List Tok)
  | .ok m => .ok (l ++ m)
  | .error e => .error e
theorem toks_app {b : UInt8} (hb : isBlk b = true) (x : List UInt8) : ∀ (f p : Nat) (r : List UInt8) (l : List Tok), toksS f p r = .ok l → ∀ g, r.length + x.length + 1 < g →
    toksS g p (r ++ b :: x) = behindS l.dropLast (toksS (x.length + 1) (p + r.length + 1) x)
  | 0, p, r, l, h, g, hg => by simp [toksS] at h
  | f + 1, p, r, l, h, 0, hg => by omega
  | f + 1, p, r, l, h, g + 1, hg => by
    rw [toksS] at h
    cases hn : nextTok p r with
    | error e => rw [hn] at h; cases h
    | ok q =>
      obtain ⟨t, u⟩ := q
      rw [hn] at h
      simp only at h
      split at h
      · rename_i hk
        simp only [Except.ok.injEq] at h
        subst h
        rcases next_len hn with ⟨_, _, hr, _⟩ | ⟨h0, _, _⟩
        · have e : toksS (g + 1) p (r ++ b :: x) = toksS (g + 1) (p + r.length + 1) x := by
            rw [toksS, toksS, next_over hb x hr]
            cases hx : nextTok (p + r.length + 1) x with
            | error e => rfl
            | ok q =>
              obtain ⟨t', u'⟩ := q
              simp only
              split
              · rfl
              · rename_i hk'
                rcases next_len hx with h1 | ⟨_, hl, _⟩
                · exact absurd h1.1 hk'
                · have e2 : p + ((r ++ b :: x).length - u'.length) = p + r.length + 1 + (x.length - u'.length) := by simp; omega
                  rw [e2]
          rw [e, toks_fuel (g + 1) (x.length + 1) _ x (by omega) (by omega)]
          simp only [List.dropLast_singleton]
          unfold behindS
          cases toksS (x.length + 1) (p + r.length + 1) x <;> simp
        · exact absurd hk h0
      · rename_i hk
        rcases next_len hn with h1 | ⟨_, hl, _⟩
        · exact absurd h1.1 hk
        · cases hu : toksS f (p + (r.length - u.length)) u with
          | error e => rw [hu] at h; cases h
          | ok l' =>
            rw [hu] at h
            simp only [Except.ok.injEq] at h
            subst h
            have ih := toks_app hb x f _ u l' hu g (by omega)
            have e2 : p + ((r ++ b :: x).length - (u ++ b :: x).length) = p + (r.length - u.length) := by simp; omega
            have e3 : p + (r.length - u.length) + u.length + 1 = p + r.length + 1 := by omega
            have hne : l' ≠ [] := by
              obtain ⟨m, e, h1, _⟩ := toks_ok _ _ _ _ hu
              rw [h1]; simp
            rw [toksS, next_app hb x hn hk]
            simp only [if_neg hk, e2]
            rw [ih, e3, List.dropLast_cons_of_ne_nil hne]
            unfold behindS
            cases toksS (x.length + 1) (p + r.length + 1) x <;> simp
theorem toks_pad {b : UInt8} (hb : isBlk b = true) (x : List UInt8) (p : Nat) : toksS ((b :: x).length + 1) p (b :: x) = toksS (x.length + 1) (p + 1) x := by
  have h := toks_app hb x 1 p [] [⟨0, 0, p, []⟩] (by simp [toksS, nextTok, unblank, blanks, tokS]) ((b :: x).length + 1) (by simp)
  simp only [List.nil_append, List.dropLast_singleton, List.length_nil, Nat.add_zero] at h
  rw [h]
  unfold behindS
  cases toksS (x.length + 1) (p + 1) x <;> simp
def shiftT (d : Int) (t : Tok) : Tok := { t with at_ := t.at_ + d }
def shiftE (d : Nat) : Except Nat (List Tok) → Except Nat (List Tok)
  | .ok l => .ok (l.map (shiftT d))
  | .error e => .error (e + d)
theorem run_shift (p d : Nat) (w : List UInt8) : runS ((p + d : Nat) : Int) w = (runS p w).map (shiftT d) := by
  unfold runS
  split
  · simp [shiftT]
  · split
    · simp [shiftT]
    · split <;> simp [shiftT]
theorem tok_shift (p d : Nat) (r : List UInt8) : tokS (p + d) r = match tokS p r with
    | .ok (t, u) => .ok (shiftT d t, u)
    | .error e => .error (e + d) := by
  cases r with
  | nil => simp [tokS, shiftT]
  | cons c r =>
    simp only [tokS, run_shift]
    split
    · cases runS p ((c :: r).takeWhile isRun) <;> rfl
    · split
      · cases quoteS [] r with
        | none => rfl
        | some q =>
          obtain ⟨a, u⟩ := q
          simp only
          split
          · simp [shiftT]
          · rfl
      · split
        · rfl
        · rfl
theorem toks_shift : ∀ (f p d : Nat) (r : List UInt8), toksS f (p + d) r = shiftE d (toksS f p r)
  | 0, p, d, r => by simp [toksS, shiftE]
  | f + 1, p, d, r => by
    have hn : nextTok (p + d) r = match nextTok p r with
        | .ok (t, u) => .ok (shiftT d t, u)
        | .error e => .error (e + d) := by
      unfold nextTok
      rw [show p + d + blanks r = p + blanks r + d by omega, tok_shift]
    rw [toksS, toksS, hn]
    cases nextTok p r with
    | error e => rfl
    | ok q =>
      obtain ⟨t, u⟩ := q
      simp only
      have e0 : (shiftT (d : Int) t).kind = t.kind := rfl
      by_cases hk : t.kind = 0
      · rw [if_pos hk, if_pos (e0.trans hk)]
        simp [shiftE]
      · rw [if_neg hk, if_neg (show ¬ (shiftT (d : Int) t).kind = 0 from hk), show p + d + (r.length - u.length) = p + (r.length - u.length) + d by omega, toks_shift f]
        cases toksS f (p + (r.length - u.length)) u <;> simp [shiftE, shiftT]
def renderS : List (Tok × Bool) → List UInt8
  | [] => []
  | (t, b) :: l => (if b = true then [32] else []) ++ (showTok t ++ renderS l)
theorem render_app : ∀ a b : List (Tok × Bool), renderS (a ++ b) = renderS a ++ renderS b
  | [], b => rfl
  | (t, f) :: a, b => by simp [renderS, render_app a b]
def openT (t : Tok) : Prop := t.kind = 5 ∧ (t.s = [40] ∨ t.s = [46])
def closeT (t : Tok) : Prop := t.kind = 5 ∧ (t.s = [41] ∨ t.s = [44] ∨ t.s = [46] ∨ t.s = [59])
def NextOk (t : Tok) : List (Tok × Bool) → Prop
  | [] => True
  | (u, b) :: _ => b = true ∨ openT t ∨ closeT u
def SeqOk : List (Tok × Bool) → Prop
  | [] => True
  | (t, b) :: l => (OkTok t ∧ t.kind ≠ 0) ∧ NextOk t l ∧ SeqOk l
def FolT (t : Tok) (r : List UInt8) : Prop := r = [] ∨ ∃ c x, r = c :: x ∧ (isBlk c = true ∨ (c = 41 ∨ c = 44 ∨ c = 46 ∨ c = 59) ∨ openT t)
theorem take_fol {w r : List UInt8} (hw : w.all isRun = true) (hr : r = [] ∨ ∃ c x, r = c :: x ∧ isRun c = false) : (w ++ r).takeWhile isRun = w ∧ (w ++ r).dropWhile isRun = r := by
  have h0 : r.takeWhile isRun = [] ∧ r.dropWhile isRun = r := by
    rcases hr with rfl | ⟨c, x, rfl, hc⟩
    · exact ⟨rfl, rfl⟩
    · simp [List.takeWhile_cons, List.dropWhile_cons, hc]
  induction w with
  | nil => simpa using h0
  | cons c w ih =>
    simp only [List.all_cons, Bool.and_eq_true] at hw
    have := ih hw.2
    simp [List.takeWhile_cons, List.dropWhile_cons, hw.1, this]
theorem tok_run' {p : Nat} {w r : List UInt8} (hw : w.all isRun = true) (hn : w ≠ []) (hr : r = [] ∨ ∃ c x, r = c :: x ∧ isRun c = false) {t : Tok} (ht : runS p w = some t) : tokS p (w ++ r) = .ok (t, r) := by
  have ⟨h1, h2⟩ := take_fol hw hr
  cases w with
  | nil => exact absurd rfl hn
  | cons c w =>
    simp only [List.all_cons, Bool.and_eq_true] at hw
    rw [List.cons_append] at h1 h2 ⊢
    simp only [tokS, hw.1, if_true, h1, h2, ht]
theorem quote_back' : ∀ (s acc r : List UInt8), (r = [] ∨ ∃ c x, r = c :: x ∧ c ≠ 39) → Go.Abs.quoteS acc (quoteE s ++ 39 :: r) = some (acc ++ s, r)
  | [], acc, r, hr => by
    rcases hr with rfl | ⟨c, x, rfl, hc⟩
    · simp [quoteE, quoteS]
    · simp [quoteE, quoteS, hc]
  | b :: s, acc, r, hr => by
    have e : quoteE (b :: s) = (if b = 39 then [39, 39] else [b]) ++ quoteE s := rfl
    rw [e]
    by_cases h : b = 39
    · subst h
      simp only [if_true, List.cons_append, List.nil_append, quoteS]
      rw [quote_back' s _ r hr]; simp
    · have hne : ∃ d u, quoteE s ++ 39 :: r = d :: u := by
        cases hs : quoteE s with
        | nil => exact ⟨39, r, rfl⟩
        | cons d u => exact ⟨d, u ++ 39 :: r, rfl⟩
      obtain ⟨d, u, hdu⟩ := hne
      simp only [if_neg h, List.cons_append, List.nil_append, hdu, quoteS]
      rw [← hdu, quote_back' s _ r hr]; simp
theorem close_run {c : UInt8} (h : c = 41 ∨ c = 44 ∨ c = 46 ∨ c = 59) : isRun c = false ∧ c ≠ 39 ∧ c ≠ 61 ∧ c ≠ 62 := by
  rcases h with rfl | rfl | rfl | rfl <;> decide
theorem fol_run {t : Tok} {r : List UInt8} (h : FolT t r) (hk : t.kind ≠ 5) : r = [] ∨ ∃ c x, r = c :: x ∧ isRun c = false ∧ c ≠ 39 := by
  rcases h with rfl | ⟨c, x, rfl, h | h | h⟩
  · exact .inl rfl
  · have := blk_run h; exact .inr ⟨c, x, rfl, this.1, this.2.1⟩
  · have := close_run h; exact .inr ⟨c, x, rfl, this.1, this.2.1⟩
  · exact absurd h.1 hk
theorem tok_back' {t : Tok} (h : OkTok t) (p : Nat) (r : List UInt8) (hr : FolT t r) : tokS p (showTok t ++ r) = .ok (t.to p, r) := by
  cases h with
  | word q w hw =>
    have ⟨h1, h2⟩ := cap_run hw
    have hf := (fol_run hr (by simp)).imp id (fun | ⟨c, x, e, h, _⟩ => (⟨c, x, e, h⟩ : ∃ c x, r = c :: x ∧ isRun c = false))
    exact tok_run' h1 h2 hf (by simp [runS, hw, Tok.to])
  | name q w hw =>
    have ⟨h1, h2⟩ := name_run hw
    have hf := (fol_run hr (by simp)).imp id (fun | ⟨c, x, e, h, _⟩ => (⟨c, x, e, h⟩ : ∃ c x, r = c :: x ∧ isRun c = false))
    exact tok_run' h1 h2 hf (by simp [runS, name_notcap hw, hw, Tok.to])
  | num q u hu =>
    have ⟨h1, h2⟩ := dec_digits u
    have ⟨h3, h4⟩ := dig_run h1
    have ⟨h5, h6⟩ := dig_notcap h1
    have e : showTok ⟨3, u, q, []⟩ = Lib.decDigits u := by
      simp only [showTok, if_true, Lib.itoa]
      rw [if_neg (by omega)]; rfl
    rw [e]
    have hf := (fol_run hr (by simp)).imp id (fun | ⟨c, x, e, h, _⟩ => (⟨c, x, e, h⟩ : ∃ c x, r = c :: x ∧ isRun c = false))
    exact tok_run' h3 h4 hf (by simp [runS, h1, h2, h5, h6, hu, Tok.to])
  | str q a ha =>
    have e : showTok ⟨4, 0, q, a⟩ = 39 :: (quoteE a ++ [39]) := by simp [showTok]
    have hf := (fol_run hr (by simp)).imp id (fun | ⟨c, x, e, _, h⟩ => (⟨c, x, e, h⟩ : ∃ c x, r = c :: x ∧ c ≠ 39))
    have hq := quote_back' a [] r hf
    rw [e, List.cons_append, List.append_assoc]
    have h39 : isRun 39 = false := rfl
    simp only [List.cons_append, List.nil_append] at hq ⊢
    simp [tokS, h39, hq, ha, Tok.to]
  | sym1 q c hc =>
    have ⟨h1, h2, _⟩ := sym_not c hc
    have e : showTok ⟨5, 0, q, [c]⟩ = [c] := by simp [showTok]
    rw [e]
    have hs : symS (c :: r) = 1 := by
      rcases hr with rfl | ⟨d, x, rfl, hd⟩
      · rw [symS, if_pos hc]
      · have : ¬ (c = 60 ∧ d = 62 ∨ c = 60 ∧ d = 61 ∨ c = 62 ∧ d = 61) := by
          rcases hd with hd | hd | ⟨_, hd⟩
          · have := blk_run hd; rintro (⟨_, h⟩ | ⟨_, h⟩ | ⟨_, h⟩) <;> simp [h] at this
          · have := close_run hd; rintro (⟨_, h⟩ | ⟨_, h⟩ | ⟨_, h⟩) <;> simp [h] at this
          · simp only [List.cons.injEq, and_true] at hd
            rcases hd with rfl | rfl <;> rintro (⟨h, _⟩ | ⟨h, _⟩ | ⟨h, _⟩) <;> revert h <;> decide
        rw [symS, if_neg this, if_pos hc]
    simp only [List.cons_append, List.nil_append, tokS, h1, Bool.false_eq_true, if_false, if_neg h2, hs]
    simp [Tok.to]
  | sym2 q c d hcd =>
    have hc : isRun c = false ∧ ¬ c = 39 := by rcases hcd with ⟨rfl, rfl⟩ | ⟨rfl, rfl⟩ | ⟨rfl, rfl⟩ <;> decide
    have e : showTok ⟨5, 0, q, [c, d]⟩ = [c, d] := by simp [showTok]
    rw [e]
    have hs : symS (c :: d :: r) = 2 := by rw [symS, if_pos hcd]
    simp only [List.cons_append, List.nil_append, tokS, hc.1, Bool.false_eq_true, if_false, if_neg hc.2, hs]
    simp [Tok.to]
theorem seq_fol {t : Tok} {l : List (Tok × Bool)} (hn : NextOk t l) (hl : SeqOk l) : FolT t (renderS l) := by
  cases l with
  | nil => exact .inl rfl
  | cons q l =>
    obtain ⟨u, b⟩ := q
    right
    obtain ⟨c, v, hcv, hc⟩ := show_head hl.1.1
    rw [renderS, hcv]
    rcases hn with rfl | h | h
    · exact ⟨32, _, rfl, .inl rfl⟩
    · cases b
      · exact ⟨c, _, rfl, .inr (.inr h)⟩
      · exact ⟨32, _, rfl, .inl rfl⟩
    · cases b
      · refine ⟨c, _, rfl, .inr (.inl ?_)⟩
        have e : showTok u = u.s := by unfold showTok; rw [if_neg (by rw [h.1]; omega), if_neg (by rw [h.1]; omega)]
        rw [e] at hcv
        rcases h.2 with h | h | h | h <;> rw [h] at hcv <;> simp at hcv <;> simp [← hcv.1]
      · exact ⟨32, _, rfl, .inl rfl⟩
theorem toks_render : ∀ (l : List (Tok × Bool)) (f p : Nat), SeqOk l → l.length < f → ∃ m e, toksS f p (renderS l) = .ok (m ++ [e]) ∧ e.kind = 0 ∧ e.n = 0 ∧ e.s = [] ∧ Alikes (l.map Prod.fst) m
  | [], f + 1, p, _, hf => by
    refine ⟨[], ⟨0, 0, ((p : Nat) : Int), []⟩, ?_, rfl, rfl, rfl, trivial⟩
    simp [renderS, toksS, nextTok, blanks, unblank, tokS]
  | (t, b) :: l, f + 1, p, h, hf => by
    obtain ⟨⟨ht, hk⟩, hn, hl⟩ := h
    obtain ⟨c, u, hcu, hc⟩ := show_head ht
    have hfol := seq_fol hn hl
    have hb : (if b = true then [32] else [] : List UInt8).all isBlk = true := by cases b <;> rfl
    have hnx : nextTok p (renderS ((t, b) :: l)) = .ok (t.to (p + (if b = true then [32] else [] : List UInt8).length : Nat), renderS l) := by
      have := tok_back' ht (p + (if b = true then [32] else [] : List UInt8).length) (renderS l) hfol
      rw [renderS]
      rw [hcu] at this ⊢
      rw [List.cons_append, next_blank hb p hc]; exact this
    obtain ⟨m, e, h1, h2, h3, h4, h5⟩ := toks_render l f (p + ((renderS ((t, b) :: l)).length - (renderS l).length)) hl (by simp at hf; omega)
    refine ⟨t.to (p + (if b = true then [32] else [] : List UInt8).length : Nat) :: m, e, ?_, h2, h3, h4, ⟨rfl, rfl, rfl⟩, h5⟩
    have hk' : ¬ (t.to (p + (if b = true then [32] else [] : List UInt8).length : Nat)).kind = 0 := hk
    rw [toksS, hnx]
    simp only [if_neg hk']
    rw [h1]; rfl
end Go.Abs
namespace Go.Abs
set_option linter.unusedSimpArgs false
set_option linter.unusedVariables false
open Go
def wT (w : List UInt8) : Tok := ⟨1, 0, 0, w⟩
def nT (w : List UInt8) : Tok := ⟨2, 0, 0, w⟩
def iT (n : Int) : Tok := ⟨3, n, 0, []⟩
def sT (w : List UInt8) : Tok := ⟨4, 0, 0, w⟩
def yT (w : List UInt8) : Tok := ⟨5, 0, 0, w⟩
abbrev Pcs := List (Tok × Bool)
def valT (v : Val) : Tok := if v.kind = 1 then wT (if v.n = 1 then [84, 82, 85, 69] else [70, 65, 76, 83, 69]) else if v.kind = 2 then iT v.n else if v.kind = 3 then sT v.s else wT [78, 85, 76, 76]
def opTok (op : List UInt8) : Tok := if op = oAnd then wT [65, 78, 68] else if op = oOr then wT [79, 82] else yT op
mutual
def pcE : Xp → Bool → Pcs
  | .mk op v var col kids, b =>
    if op = oValue then [(valT v, b)]
    else if op = oColumn then (if var = [] then [(nT col, b)] else [(nT var, b), (yT [46], false), (nT col, false)])
    else match pcEs kids (decide (op = oNeg ∨ op = oNot)) with
      | a :: r => if op = oNeg then (yT [40], b) :: (yT [45], false) :: (a ++ [(yT [41], false)]) else if op = oNot then (yT [40], b) :: (wT [78, 79, 84], false) :: (a ++ [(yT [41], false)])
        else if op = oNull then (yT [40], b) :: (a ++ [(wT [73, 83], true), (wT [78, 85, 76, 76], true), (yT [41], false)])
        else match r with
          | c :: _ => (yT [40], b) :: (a ++ (opTok op, true) :: (c ++ [(yT [41], false)]))
          | [] => []
      | [] => []
def pcEs : List Xp → Bool → List Pcs
  | [], _ => []
  | e :: l, b => pcE e b :: pcEs l true
end
abbrev ts (l : Pcs) : List Tok := l.map Prod.fst
theorem pc_value (v : Val) (var col : List UInt8) (l : List Xp) (b : Bool) : pcE (.mk oValue v var col l) b = [(valT v, b)] := by simp [pcE]
theorem pc_column (v : Val) (var col : List UInt8) (l : List Xp) (b : Bool) : pcE (.mk oColumn v var col l) b = if var = [] then [(nT col, b)] else [(nT var, b), (yT [46], false), (nT col, false)] := by simp [pcE, oColumn, oValue]
theorem pc_neg (v : Val) (var col : List UInt8) (a : Xp) (b : Bool) : pcE (.mk oNeg v var col [a]) b = (yT [40], b) :: (yT [45], false) :: (pcE a true ++ [(yT [41], false)])  := by simp [pcE, pcEs, oNeg, oColumn, oValue]
theorem pc_not (v : Val) (var col : List UInt8) (a : Xp) (b : Bool) : pcE (.mk oNot v var col [a]) b = (yT [40], b) :: (wT [78, 79, 84], false) :: (pcE a true ++ [(yT [41], false)])  := by simp [pcE, pcEs, oNeg, oNot, oColumn, oValue]
theorem pc_null (v : Val) (var col : List UInt8) (a : Xp) (b : Bool) : pcE (.mk oNull v var col [a]) b = (yT [40], b) :: (pcE a false ++ [(wT [73, 83], true), (wT [78, 85, 76, 76], true), (yT [41], false)])  := by simp [pcE, pcEs, oNeg, oNot, oNull, oColumn, oValue]
theorem pc_two {op : List UInt8} (v : Val) (var col : List UInt8) (a c : Xp) (b : Bool) (n1 : op ≠ oNeg) (n2 : op ≠ oNot) (n3 : op ≠ oNull) (n4 : op ≠ oValue) (n5 : op ≠ oColumn) :
    pcE (.mk op v var col [a, c]) b = (yT [40], b) :: (pcE a false ++ (opTok op, true) :: (pcE c true ++ [(yT [41], false)]))  := by simp [pcE, pcEs, n1, n2, n3, n4, n5]
theorem showTok_val (v : Val) : showTok (valT v) = showV v := by
  unfold valT showV showTok
  by_cases h1 : v.kind = 1
  · by_cases hn : v.n = 1 <;> simp [h1, hn, wT]
  · by_cases h2 : v.kind = 2
    · simp [h2, iT]
    · by_cases h3 : v.kind = 3
      · simp [h3, sT]
      · simp [h1, h2, h3, wT]
theorem showTok_w (w : List UInt8) : showTok (wT w) = w := by simp [showTok, wT]
theorem showTok_n (w : List UInt8) : showTok (nT w) = w := by simp [showTok, nT]
theorem showTok_y (w : List UInt8) : showTok (yT w) = w := by simp [showTok, yT]
theorem showTok_op (op : List UInt8) : showTok (opTok op) = upS op := by
  unfold opTok upS
  by_cases h1 : op = oAnd
  · simp [h1, showTok_w]
  · by_cases h2 : op = oOr
    · simp [h2, showTok_w, oAnd, oOr]
    · simp [h1, h2, showTok_y]
theorem render_val (v : Val) (b : Bool) : renderS [(valT v, b)] = (if b = true then [32] else []) ++ showV v := by simp [renderS, showTok_val]
theorem render_pc : ∀ (d : Nat) (e : Xp) (b : Bool), rightE d e = true → renderS (pcE e b) = (if b = true then [32] else []) ++ showE e
  | 0, .mk op v var col l, b, h => by cases h
  | d + 1, .mk op v var col l, b, h => by
    rcases right_parts h with ⟨rfl, rfl, rfl, rfl, h1, h2⟩ | ⟨rfl, rfl, rfl, h1, h2⟩ | ⟨a, h1, rfl, rfl, rfl, rfl, h2⟩ | ⟨a, c, h1, n1, n2, n3, n4, n5, rfl, rfl, rfl, rfl, h2, h3⟩
    · rw [pc_value, showE_value, render_val]
    · rw [pc_column, showE_column]
      by_cases hv : var = [] <;> simp [hv, renderS, showTok_n, showTok_y]
    · have iha := fun b => render_pc d a b h2
      rcases h1 with rfl | rfl | rfl
      · rw [pc_neg, showE_neg]
        simp [renderS, render_app, iha, showTok_y]
      · rw [pc_not, showE_not]
        simp [renderS, render_app, iha, showTok_y, showTok_w]
      · rw [pc_null, showE_null]
        simp [renderS, render_app, iha, showTok_y, showTok_w]
    · have iha := fun b => render_pc d a b h2
      have ihc := fun b => render_pc d c b h3
      rw [pc_two _ _ _ _ _ _ n1 n2 n3 n4 n5, showE_two n1 n2 n3 n4 n5]
      simp [renderS, render_app, iha, ihc, showTok_y, showTok_op]
def GoodR (r : Pcs) : Prop := SeqOk r ∧ ∀ t, NextOk t r
theorem good_nil : GoodR [] := ⟨trivial, fun t => trivial⟩
theorem ok_word {w : List UInt8} (h : allB isCap w = true) : OkTok (wT w) ∧ (wT w).kind ≠ 0 := ⟨.word 0 w h, by simp [wT]⟩
theorem ok_name {w : List UInt8} (h : nameS w = true) : OkTok (nT w) ∧ (nT w).kind ≠ 0 := ⟨.name 0 w h, by simp [nT]⟩
theorem ok_num {n : Int} (h0 : 0 ≤ n) (h : n ≤ 9223372036854775807) : OkTok (iT n) ∧ (iT n).kind ≠ 0 := by
  refine ⟨?_, by simp [iT]⟩
  obtain ⟨u, rfl⟩ := Int.eq_ofNat_of_zero_le h0
  exact .num 0 u (by omega)
theorem ok_sym1 {c : UInt8} (h : [60, 62, 61, 43, 45, 42, 40, 41, 44, 46, 59].contains c = true) : OkTok (yT [c]) ∧ (yT [c]).kind ≠ 0 := ⟨.sym1 0 c h, by simp [yT]⟩
theorem ok_sym2 {c d : UInt8} (h : c = 60 ∧ d = 62 ∨ c = 60 ∧ d = 61 ∨ c = 62 ∧ d = 61) : OkTok (yT [c, d]) ∧ (yT [c, d]).kind ≠ 0 := ⟨.sym2 0 c d h, by simp [yT]⟩
theorem ok_val {v : Val} (h : rightS v = true) (h2 : v.kind ≠ 2 ∨ 0 ≤ v.n) (ho : v.ok) : OkTok (valT v) ∧ (valT v).kind ≠ 0 := by
  unfold valT
  by_cases k1 : v.kind = 1
  · rw [if_pos k1]
    by_cases hn : v.n = 1
    · rw [if_pos hn]; exact ok_word (by decide)
    · rw [if_neg hn]; exact ok_word (by decide)
  · rw [if_neg k1]
    by_cases k2 : v.kind = 2
    · rw [if_pos k2]
      have := ho.2.1
      unfold inI at this
      exact ok_num (by rcases h2 with h2 | h2; exact absurd k2 h2; exact h2) (by omega)
    · rw [if_neg k2]
      by_cases k3 : v.kind = 3
      · rw [if_pos k3]
        have := (right_text h).1
        have hl : v.s.length ≤ 24 := by
          have := h
          unfold rightS at this
          simp [k1, k2, k3] at this
          omega
        exact ⟨.str 0 _ hl, by simp [sT]⟩
      · rw [if_neg k3]; exact ok_word (by decide)
theorem ok_op {op : List UInt8} (h : op ∈ twoOps) : OkTok (opTok op) ∧ (opTok op).kind ≠ 0 := by
  simp only [twoOps, List.mem_cons, List.not_mem_nil, or_false] at h
  rcases h with rfl | rfl | rfl | rfl | rfl | rfl | rfl | rfl | rfl | rfl | rfl
  · exact ok_sym1 (by decide)
  · exact ok_sym1 (by decide)
  · exact ok_sym1 (by decide)
  · exact ok_sym1 (by decide)
  · exact ok_sym2 (by decide)
  · exact ok_sym1 (by decide)
  · exact ok_sym2 (by decide)
  · exact ok_sym1 (by decide)
  · exact ok_sym2 (by decide)
  · exact ok_word (by decide)
  · exact ok_word (by decide)
theorem good_blank {t : Tok} {r : Pcs} (ht : OkTok t ∧ t.kind ≠ 0) (hn : NextOk t r) (hr : SeqOk r) : GoodR ((t, true) :: r) := ⟨⟨ht, hn, hr⟩, fun u => .inl rfl⟩
theorem good_close {s : List UInt8} {b : Bool} {r : Pcs} (hs : s = [41] ∨ s = [44] ∨ s = [46] ∨ s = [59]) (hr : GoodR r) : GoodR ((yT s, b) :: r) := by
  refine ⟨⟨?_, hr.2 _, hr.1⟩, fun u => .inr (.inr ⟨rfl, hs⟩)⟩
  rcases hs with rfl | rfl | rfl | rfl <;> exact ok_sym1 (by decide)
theorem open_next (r : Pcs) : NextOk (yT [40]) r := by
  cases r with
  | nil => trivial
  | cons q r => exact .inr (.inl ⟨rfl, .inl rfl⟩)
theorem pc_head : ∀ (e : Xp) (b : Bool), pcE e b = [] ∨ ∃ t r, pcE e b = (t, b) :: r
  | .mk op v var col kids, b => by
    unfold pcE
    split
    · exact .inr ⟨_, _, rfl⟩
    · split
      · split <;> exact .inr ⟨_, _, rfl⟩
      · split
        · split
          · exact .inr ⟨_, _, rfl⟩
          · split
            · exact .inr ⟨_, _, rfl⟩
            · split
              · exact .inr ⟨_, _, rfl⟩
              · split
                · exact .inr ⟨_, _, rfl⟩
                · exact .inl rfl
        · exact .inl rfl
theorem good_pc' (e : Xp) {r : Pcs} (hs : SeqOk (pcE e true ++ r)) (hr : GoodR r) : GoodR (pcE e true ++ r) := by
  rcases pc_head e true with h | ⟨t, q, h⟩
  · rw [h]; exact hr
  · rw [h] at hs ⊢
    exact ⟨hs, fun u => .inl rfl⟩
theorem seq_pc : ∀ (d : Nat) (e : Xp) (b : Bool), rightE d e = true → e.ok → ∀ r, GoodR r → SeqOk (pcE e b ++ r)
  | 0, .mk op v var col l, b, h, _ => by cases h
  | d + 1, .mk op v var col l, b, h, ho => by
    intro r hr
    have hc : GoodR ((yT [41], false) :: r) := good_close (.inl rfl) hr
    have h40 : OkTok (yT [40]) ∧ (yT [40]).kind ≠ 0 := ok_sym1 (by decide)
    rcases right_parts h with ⟨rfl, rfl, rfl, rfl, h1, h2⟩ | ⟨rfl, rfl, rfl, h1, h2⟩ | ⟨a, h1, rfl, rfl, rfl, rfl, h2⟩ | ⟨a, c, h1, n1, n2, n3, n4, n5, rfl, rfl, rfl, rfl, h2, h3⟩
    · rw [pc_value]
      exact ⟨ok_val h1 h2 ho.2.1, hr.2 _, hr.1⟩
    · rw [pc_column]
      by_cases hv : var = []
      · rw [if_pos hv]
        exact ⟨ok_name h1, hr.2 _, hr.1⟩
      · rw [if_neg hv]
        have h2 := h2.resolve_left hv
        exact ⟨ok_name h2, .inr (.inr ⟨rfl, .inr (.inr (.inl rfl))⟩), ok_sym1 (by decide), .inr (.inl ⟨rfl, .inr rfl⟩), ok_name h1, hr.2 _, hr.1⟩
    · have hoa : a.ok := ho.2.2.2.2.2.1
      have iha := fun b r hr => seq_pc d a b h2 hoa r hr
      rcases h1 with rfl | rfl | rfl
      · rw [pc_neg]
        have h0 := good_pc' a (iha true _ hc) hc
        simp only [List.cons_append, List.append_assoc, List.nil_append]
        exact ⟨h40, open_next _, ok_sym1 (by decide), h0.2 _, h0.1⟩
      · rw [pc_not]
        have h0 := good_pc' a (iha true _ hc) hc
        simp only [List.cons_append, List.append_assoc, List.nil_append]
        exact ⟨h40, open_next _, ok_word (by decide), h0.2 _, h0.1⟩
      · rw [pc_null]
        have h0 : GoodR ((wT [78, 85, 76, 76], true) :: (yT [41], false) :: r) := good_blank (ok_word (by decide)) (hc.2 _) hc.1
        have h1 : GoodR ((wT [73, 83], true) :: (wT [78, 85, 76, 76], true) :: (yT [41], false) :: r) := good_blank (ok_word (by decide)) (h0.2 _) h0.1
        simp only [List.cons_append, List.append_assoc, List.nil_append]
        exact ⟨h40, open_next _, iha false _ h1⟩
    · have hoa : a.ok := ho.2.2.2.2.2.1
      have hoc : c.ok := ho.2.2.2.2.2.2.1
      have iha := fun b r hr => seq_pc d a b h2 hoa r hr
      have ihc := fun b r hr => seq_pc d c b h3 hoc r hr
      rw [pc_two _ _ _ _ _ _ n1 n2 n3 n4 n5]
      have h0 := good_pc' c (ihc true _ hc) hc
      have h1 : GoodR ((opTok op, true) :: (pcE c true ++ (yT [41], false) :: r)) := good_blank (ok_op h1) (h0.2 _) h0.1
      simp only [List.cons_append, List.append_assoc, List.nil_append]
      exact ⟨h40, open_next _, iha false _ h1⟩
theorem good_pc {d : Nat} {e : Xp} (h : rightE d e = true) (ho : e.ok) {r : Pcs} (hr : GoodR r) : GoodR (pcE e true ++ r) := good_pc' e (seq_pc d e true h ho r hr) hr
def Begins (l : List Tok) : Prop := isT [45] l = false ∧ isT [78, 79, 84] l = false
theorem begins_val (v : Val) (r : List Tok) : Begins (valT v :: r) := by
  unfold valT Begins
  by_cases k1 : v.kind = 1
  · by_cases hn : v.n = 1 <;> simp [k1, hn, wT, isT]
  · by_cases k2 : v.kind = 2
    · simp [k2, iT, isT]
    · by_cases k3 : v.kind = 3
      · simp [k3, sT, isT]
      · simp [k1, k2, k3, wT, isT]
theorem begins_pc : ∀ (d : Nat) (e : Xp) (b : Bool) (r : List Tok), rightE d e = true → Begins (ts (pcE e b) ++ r)
  | 0, .mk op v var col l, b, r, h => by cases h
  | d + 1, .mk op v var col l, b, r, h => by
    rcases right_parts h with ⟨rfl, rfl, rfl, rfl, h1, h2⟩ | ⟨rfl, rfl, rfl, h1, h2⟩ | ⟨a, h1, rfl, rfl, rfl, rfl, h2⟩ | ⟨a, c, h1, n1, n2, n3, n4, n5, rfl, rfl, rfl, rfl, h2, h3⟩
    · rw [pc_value]; exact begins_val v r
    · rw [pc_column]
      by_cases hv : var = [] <;> simp [hv, Begins, isT, nT]
    · rcases h1 with rfl | rfl | rfl
      · rw [pc_neg]; simp [Begins, isT, yT]
      · rw [pc_not]; simp [Begins, isT, yT]
      · rw [pc_null]; simp [Begins, isT, yT]
    · rw [pc_two _ _ _ _ _ _ n1 n2 n3 n4 n5]; simp [Begins, isT, yT]
theorem more_stop {part : List Tok → PR Xp} {tbl : List (List UInt8 × List UInt8)} {n : Nat} {e : Xp} {r : List Tok} (h : opAt tbl r = none) : moreP part tbl (n + 1) e r = (some e, r) := by simp [moreP, h]
theorem chain_stop {part : List Tok → PR Xp} {tbl : List (List UInt8 × List UInt8)} {l : List Tok} {e : Xp} {r : List Tok} (h : part l = (some e, r)) (hr : opAt tbl r = none) : chainP part tbl l = (some e, r) := by
  simp only [chainP, h, thenP]
  exact more_stop hr
theorem chain_one {part : List Tok → PR Xp} {tbl : List (List UInt8 × List UInt8)} {l : List Tok} {a b : Xp} {t : Tok} {o : List UInt8} {r1 r : List Tok} (h : part l = (some a, t :: r1)) (ho : opAt tbl (t :: r1) = some o) (h1 : part r1 = (some b, r)) (hr : opAt tbl r = none) :
    chainP part tbl l = (some (xop o [a, b]), r) := by
  simp only [chainP, h, thenP, List.length_cons]
  rw [moreP, ho]
  simp only [List.tail_cons, h1, thenP]
  exact more_stop hr
structure Stop (r : List Tok) : Prop where
  term : opAt termTbl r = none
  sum : opAt sumTbl r = none
  cmp : opAt cmpTbl r = none
  is_ : isT [73, 83] r = false
  and : opAt andTbl r = none
  or : opAt orTbl r = none
theorem stop_sym {s : List UInt8} (h : s = [41] ∨ s = [44] ∨ s = [59]) (p : Int) (r : List Tok) : Stop (⟨5, 0, p, s⟩ :: r) := by
  rcases h with rfl | rfl | rfl <;> constructor <;> simp [opAt, isT, termTbl, sumTbl, cmpTbl, andTbl, orTbl]
theorem stop_end (n p : Int) (s : List UInt8) (r : List Tok) : Stop (⟨0, n, p, s⟩ :: r) := by constructor <;> simp [opAt, isT, termTbl, sumTbl, cmpTbl, andTbl, orTbl]
theorem stop_word {w : List UInt8} (h1 : w ≠ [73, 83]) (h2 : w ≠ [65, 78, 68]) (h3 : w ≠ [79, 82]) (h4 : allB isCap w = true) (p : Int) (r : List Tok) : Stop (⟨1, 0, p, w⟩ :: r) := by
  have hc : ∀ c ∈ w, 65 ≤ c.toNat := by
    intro c hc
    simp only [allB, Bool.and_eq_true] at h4
    have := List.all_eq_true.1 h4.1 c hc
    simp only [isCap, Bool.and_eq_true, decide_eq_true_eq, UInt8.le_iff_toNat_le] at this
    exact this.1
  have hs : ∀ c : UInt8, c.toNat < 65 → ∀ r, w ≠ c :: r := by
    rintro c hc r rfl
    have := hc
    have := (by assumption : ∀ d ∈ (c :: r), 65 ≤ d.toNat) c (by simp)
    omega
  have k42 := hs 42 (by decide)
  have k43 := hs 43 (by decide)
  have k45 := hs 45 (by decide)
  have k60 := hs 60 (by decide)
  have k61 := hs 61 (by decide)
  have k62 := hs 62 (by decide)
  constructor <;> simp [opAt, isT, termTbl, sumTbl, cmpTbl, andTbl, orTbl, h1, h2, h3, k42, k43, k45, k60, k61, k62]
section
variable {or : List Tok → PR Xp} {l r : List Tok} {e : Xp}
theorem unaryL_atom (hb : Begins l) (h : atomP or l = (some e, r)) : unaryL or l = (some e, r) := by
  unfold unaryL
  rw [unaryP, hb.1]
  exact h
theorem termP_stop (h : unaryL or l = (some e, r)) (hr : opAt termTbl r = none) : termP or l = (some e, r) := chain_stop h hr
theorem sumP_stop (h : unaryL or l = (some e, r)) (hr : opAt termTbl r = none) (hr2 : opAt sumTbl r = none) : sumP or l = (some e, r) := chain_stop (termP_stop h hr) hr2
theorem cmpP_stop (h : sumP or l = (some e, r)) (hr : opAt cmpTbl r = none) (hr2 : isT [73, 83] r = false) : cmpP (sumP or) l = (some e, r) := by
  simp only [cmpP, h, thenP, hr, isP, hr2, Bool.false_eq_true, if_false]
theorem notL_cmp (hb : Begins l) (h : cmpP (sumP or) l = (some e, r)) : notL or l = (some e, r) := by
  unfold notL
  rw [notP, hb.2]
  exact h
theorem not_up (h : notL or l = (some e, r)) (hr : Stop r) : chainP (andP or) orTbl l = (some e, r) := chain_stop (chain_stop h hr.and) hr.or
theorem cmp_up (hb : Begins l) (h : cmpP (sumP or) l = (some e, r)) (hr : Stop r) : chainP (andP or) orTbl l = (some e, r) := not_up (notL_cmp hb h) hr
theorem sum_up (hb : Begins l) (h : sumP or l = (some e, r)) (hr : Stop r) : chainP (andP or) orTbl l = (some e, r) := cmp_up hb (cmpP_stop h hr.cmp hr.is_) hr
theorem term_up (hb : Begins l) (h : termP or l = (some e, r)) (hr : Stop r) : chainP (andP or) orTbl l = (some e, r) := sum_up hb (chain_stop h hr.sum) hr
theorem unary_up (hn : isT [78, 79, 84] l = false) (h : unaryL or l = (some e, r)) (hr : Stop r) : chainP (andP or) orTbl l = (some e, r) := by
  have h1 : cmpP (sumP or) l = (some e, r) := cmpP_stop (sumP_stop h hr.term hr.sum) hr.cmp hr.is_
  refine not_up ?_ hr
  unfold notL
  rw [notP, hn]
  exact h1
end
theorem two_op {op : List UInt8} (h : op ∈ twoOps) (r : List Tok) : (op = [42] ∧ opAt termTbl (opTok op :: r) = some op) ∨
    (opAt termTbl (opTok op :: r) = none ∧ (((op = [43] ∨ op = [45]) ∧ opAt sumTbl (opTok op :: r) = some op) ∨
    (opAt sumTbl (opTok op :: r) = none ∧ (opAt cmpTbl (opTok op :: r) = some op ∨
    (opAt cmpTbl (opTok op :: r) = none ∧ isT [73, 83] (opTok op :: r) = false ∧ ((op = oAnd ∧ opAt andTbl (opTok op :: r) = some op) ∨
    (opAt andTbl (opTok op :: r) = none ∧ op = oOr ∧ opAt orTbl (opTok op :: r) = some op))))))) := by
  simp only [twoOps, List.mem_cons, List.not_mem_nil, or_false] at h
  rcases h with rfl | rfl | rfl | rfl | rfl | rfl | rfl | rfl | rfl | rfl | rfl <;> simp [opTok, yT, wT, opAt, isT, termTbl, sumTbl, cmpTbl, andTbl, orTbl, oAnd, oOr]
theorem eta_val {v : Val} (k n : Int) (s : List UInt8) (h1 : v.kind = k) (h2 : v.n = n) (h3 : v.s = s) : (⟨k, n, s⟩ : Val) = v := by
  obtain ⟨a, b, c⟩ := v
  simp only at h1 h2 h3
  subst h1; subst h2; subst h3; rfl
theorem right_zero {v : Val} (h : rightS v = true) : (v.kind = 0 ∧ v.n = 0 ∧ v.s = []) ∨ (v.kind = 1 ∧ (v.n = 0 ∨ v.n = 1) ∧ v.s = []) ∨ (v.kind = 2 ∧ v.s = []) ∨ (v.kind = 3 ∧ v.n = 0) := by
  obtain ⟨k, n, s⟩ := v
  unfold rightS at h
  simp only at h ⊢
  by_cases k0 : k = 0
  · simp [k0] at h ⊢; exact h
  by_cases k1 : k = 1
  · simp [k1] at h ⊢; grind
  by_cases k2 : k = 2
  · simp [k2] at h ⊢; exact h
  by_cases k3 : k = 3
  · simp [k3] at h ⊢; exact h.1
  · simp [k0, k1, k2, k3] at h
theorem atom_val {or : List Tok → PR Xp} {v : Val} (h : rightS v = true) (r : List Tok) : atomP or (valT v :: r) = (some (xval v), r) := by
  rcases right_zero h with ⟨a, b, c⟩ | ⟨a, b | b, c⟩ | ⟨a, b⟩ | ⟨a, b⟩
  · have e := eta_val 0 0 [] a b c
    rw [← e]; simp [valT, wT, atomP, isT, Val.zero, xval]
  · have e := eta_val 1 0 [] a b c
    rw [← e]; simp [valT, wT, atomP, isT, Val.zero, xval]
  · have e := eta_val 1 1 [] a b c
    rw [← e]; simp [valT, wT, atomP, isT, Val.zero, xval]
  · have e := eta_val 2 v.n [] a rfl b
    rw [← e]; simp [valT, iT, atomP, isT, Val.zero, xval]
  · have e := eta_val 3 0 v.s a b rfl
    rw [← e]; simp [valT, sT, atomP, isT, Val.zero, xval]
theorem atom_paren {or : List Tok → PR Xp} {l r : List Tok} {e : Xp} (h : or l = (some e, yT [41] :: r)) : atomP or (yT [40] :: l) = (some e, r) := by
  simp [atomP, yT, isT, parenP, h, thenP]
theorem atom_pc : ∀ (d n : Nat) (e : Xp) (b : Bool), d ≤ n → rightE d e = true → ∀ r, isT [46] r = false → atomP (orP n) (ts (pcE e b) ++ r) = (some e, r)
  | 0, n, .mk op v var col l, b, _, h => by cases h
  | d + 1, 0, .mk op v var col l, b, hd, h => by omega
  | d + 1, n + 1, .mk op v var col l, b, hd, h => by
    intro r hr
    have hstop : ∀ r, Stop (yT [41] :: r) := fun r => stop_sym (.inl rfl) 0 r
    have hdot : ∀ r, isT [46] (yT [41] :: r) = false := fun r => by simp [isT, yT]
    rcases right_parts h with ⟨rfl, rfl, rfl, rfl, h1, h2⟩ | ⟨rfl, rfl, rfl, h1, h2⟩ | ⟨a, h1, rfl, rfl, rfl, rfl, h2⟩ | ⟨a, c, h1, n1, n2, n3, n4, n5, rfl, rfl, rfl, rfl, h2, h3⟩
    · rw [pc_value]
      exact atom_val h1 r
    · rw [pc_column]
      by_cases hv : var = []
      · subst hv
        simp [atomP, nT, hr]
      · simp [hv, atomP, nT, yT, isT, nameP, thenP]
    · have iha := fun b r hr => atom_pc d n a b (by omega) h2 r hr
      rcases h1 with rfl | rfl | rfl
      · rw [pc_neg]
        simp only [ts, List.map_cons, List.map_append, List.map_nil, List.cons_append, List.append_assoc, List.nil_append]
        refine atom_paren ?_
        have hu : unaryL (orP n) (yT [45] :: (ts (pcE a true) ++ yT [41] :: r)) = (some (xop oNeg [a]), yT [41] :: r) := by
          have h1 := iha true (yT [41] :: r) (hdot r)
          have hb := begins_pc d a true (yT [41] :: r) h2
          unfold unaryL
          rw [unaryP]
          have e : isT [45] (yT [45] :: (ts (pcE a true) ++ yT [41] :: r)) = true := by simp [isT, yT]
          rw [if_pos e, List.tail_cons, List.length_cons, unaryP, hb.1]
          simp only [Bool.false_eq_true, if_false]
          rw [h1]; rfl
        exact unary_up (by simp [isT, yT]) hu (hstop r)
      · rw [pc_not]
        simp only [ts, List.map_cons, List.map_append, List.map_nil, List.cons_append, List.append_assoc, List.nil_append]
        refine atom_paren ?_
        have hu : notL (orP n) (wT [78, 79, 84] :: (ts (pcE a true) ++ yT [41] :: r)) = (some (xop oNot [a]), yT [41] :: r) := by
          have h1 := iha true (yT [41] :: r) (hdot r)
          have hb := begins_pc d a true (yT [41] :: r) h2
          have hc := cmpP_stop (sumP_stop (unaryL_atom hb h1) (hstop r).term (hstop r).sum) (hstop r).cmp (hstop r).is_
          unfold notL
          rw [notP]
          have e : isT [78, 79, 84] (wT [78, 79, 84] :: (ts (pcE a true) ++ yT [41] :: r)) = true := by simp [isT, wT]
          rw [if_pos e, List.tail_cons, List.length_cons, notP, hb.2]
          simp only [Bool.false_eq_true, if_false]
          rw [hc]; rfl
        exact not_up hu (hstop r)
      · rw [pc_null]
        simp only [ts, List.map_cons, List.map_append, List.map_nil, List.cons_append, List.append_assoc, List.nil_append]
        refine atom_paren ?_
        have h1 := iha false (wT [73, 83] :: wT [78, 85, 76, 76] :: yT [41] :: r) (by simp [isT, wT])
        have hb := begins_pc d a false (wT [73, 83] :: wT [78, 85, 76, 76] :: yT [41] :: r) h2
        have hs := sumP_stop (unaryL_atom hb h1) (by simp [opAt, isT, wT, termTbl]) (by simp [opAt, isT, wT, sumTbl])
        refine cmp_up hb ?_ (hstop r)
        simp only [cmpP]
        rw [hs]
        simp [thenP, opAt, isT, wT, cmpTbl, isP, maybeP, needP, xop]
    · have iha := fun b r hr => atom_pc d n a b (by omega) h2 r hr
      have ihc := fun b r hr => atom_pc d n c b (by omega) h3 r hr
      rw [pc_two _ _ _ _ _ _ n1 n2 n3 n4 n5]
      simp only [ts, List.map_cons, List.map_append, List.map_nil, List.cons_append, List.append_assoc, List.nil_append]
      refine atom_paren ?_
      have hod : isT [46] (opTok op :: (ts (pcE c true) ++ yT [41] :: r)) = false := by
        simp only [twoOps, List.mem_cons, List.not_mem_nil, or_false] at h1
        rcases h1 with rfl | rfl | rfl | rfl | rfl | rfl | rfl | rfl | rfl | rfl | rfl <;> simp [opTok, yT, wT, isT, oAnd, oOr]
      have ha := iha false (opTok op :: (ts (pcE c true) ++ yT [41] :: r)) hod
      have hc := ihc true (yT [41] :: r) (hdot r)
      have hba := begins_pc d a false (opTok op :: (ts (pcE c true) ++ yT [41] :: r)) h2
      have hbc := begins_pc d c true (yT [41] :: r) h3
      have ua := unaryL_atom hba ha
      have uc := unaryL_atom hbc hc
      have st := hstop r
      rcases two_op h1 (ts (pcE c true) ++ yT [41] :: r) with ⟨rfl, t1⟩ | ⟨t1, ⟨_, t2⟩ | ⟨t2, t3 | ⟨t3, t4, ⟨rfl, t5⟩ | ⟨t5, rfl, t6⟩⟩⟩⟩
      · exact term_up hba (chain_one ua t1 uc st.term) st
      · exact sum_up hba (chain_one (termP_stop ua t1) t2 (termP_stop uc st.term) st.sum) st
      · refine cmp_up hba ?_ st
        simp only [cmpP]
        rw [sumP_stop ua t1 t2]
        simp only [thenP, t3, List.tail_cons]
        rw [sumP_stop uc st.term st.sum]
        rfl
      · have na := notL_cmp hba (cmpP_stop (sumP_stop ua t1 t2) t3 t4)
        have nc := notL_cmp hbc (cmpP_stop (sumP_stop uc st.term st.sum) st.cmp st.is_)
        exact chain_stop (chain_one na t5 nc st.and) st.or
      · have na := notL_cmp hba (cmpP_stop (sumP_stop ua t1 t2) t3 t4)
        have nc := notL_cmp hbc (cmpP_stop (sumP_stop uc st.term st.sum) st.cmp st.is_)
        exact chain_one (chain_stop na t5) t6 (chain_stop nc st.and) st.or
theorem or_pc {d n : Nat} {e : Xp} {b : Bool} (hd : d ≤ n) (h : rightE d e = true) {r : List Tok} (hr : Stop r) (hdot : isT [46] r = false) : orP (n + 1) (ts (pcE e b) ++ r) = (some e, r) := by
  have hb := begins_pc d e b r h
  exact unary_up hb.2 (unaryL_atom hb (atom_pc d n e b hd h r hdot)) hr
end Go.Abs
