/- Plain: what the parser reads is within bounds. -/
import Derived.Test.YtpmeklllgnnffaaGreatDoorR17
import Derived.Test.YtpmeklllgnnffaaGreatDoorR18
import Derived.Test.YtpmeklllgnnffaaGreatDoorR21
set_option linter.unusedSimpArgs false
set_option linter.unusedVariables false

namespace Go.Abs
set_option linter.unusedSimpArgs false
set_option linter.unusedVariables false
open Go
theorem inI0 : inI 0 := by unfold inI; omega
theorem quote_small : ∀ (acc t a u : List UInt8), quoteS acc t = some (a, u) → u.length ≤ t.length
  | acc, [], a, u, h => by simp [quoteS] at h
  | acc, [c], a, u, h => by
    simp only [quoteS] at h
    split at h
    · cases h; simp
    · cases h
  | acc, c :: d :: r, a, u, h => by
    simp only [quoteS] at h
    split at h
    · split at h
      · have := quote_small _ _ _ _ h; simp; omega
      · cases h; simp
    · have := quote_small _ _ _ _ h; simp at this ⊢; omega
theorem run_small {p : Int} {w : List UInt8} {t : Tok} (h : runS p w = some t) : inI t.n ∧ t.s.length ≤ w.length ∧ (t.kind = 3 → t.s = []) ∧ t.kind ≠ 4 := by
  unfold runS at h
  split at h
  · cases h; exact ⟨inI0, by simp, by simp, by simp⟩
  · split at h
    · cases h; exact ⟨inI0, by simp, by simp, by simp⟩
    · split at h
      · rename_i hc
        cases h
        exact ⟨by unfold inI; simp only; omega, by simp, by simp, by simp⟩
      · cases h
theorem tok_small {p : Nat} {r : List UInt8} {t : Tok} {u : List UInt8} (h : tokS p r = .ok (t, u)) : u.length ≤ r.length ∧ inI t.n ∧ (t.s.length ≤ r.length ∧ t.kind ≠ 4 ∨ t.s.length ≤ 24) := by
  cases r with
  | nil =>
    simp only [tokS, Except.ok.injEq, Prod.mk.injEq] at h
    rw [← h.1, ← h.2]
    exact ⟨by simp, inI0, .inr (by simp)⟩
  | cons c r =>
    simp only [tokS] at h
    split at h
    · split at h
      · rename_i k hk
        simp only [Except.ok.injEq, Prod.mk.injEq] at h
        obtain ⟨h1, h2, h3, h4⟩ := run_small hk
        have hl := takeWhile_len (p := isRun) (c :: r)
        rw [← h.1, ← h.2]
        exact ⟨by rw [dropWhile_drop, List.length_drop]; omega, h1, .inl ⟨by omega, h4⟩⟩
      · cases h
    · split at h
      · split at h
        · split at h
          · rename_i a u' hq hl
            simp only [Except.ok.injEq, Prod.mk.injEq] at h
            have := quote_small _ _ _ _ hq
            rw [← h.1, ← h.2]
            exact ⟨by simp; omega, inI0, .inr hl⟩
          · cases h
        · cases h
      · split at h
        · cases h
        · simp only [Except.ok.injEq, Prod.mk.injEq] at h
          rw [← h.1, ← h.2]
          exact ⟨by rw [List.length_drop]; omega, inI0, .inl ⟨by rw [List.length_take]; omega, by simp⟩⟩
theorem next_small {p : Nat} {r : List UInt8} {t : Tok} {u : List UInt8} (h : nextTok p r = .ok (t, u)) : u.length ≤ r.length ∧ inI t.n ∧ (t.s.length ≤ r.length ∧ t.kind ≠ 4 ∨ t.s.length ≤ 24) := by
  unfold nextTok at h
  have hd : (unblank r).length ≤ r.length := by unfold unblank; rw [dropWhile_drop, List.length_drop]; omega
  obtain ⟨h1, h2, h3⟩ := tok_small h
  refine ⟨by omega, h2, ?_⟩
  rcases h3 with ⟨h3, h4⟩ | h3
  · exact .inl ⟨by omega, h4⟩
  · exact .inr h3
theorem toks_small : ∀ (f p : Nat) (r : List UInt8) (l : List Tok), toksS f p r = .ok l → ∀ t ∈ l, inI t.n ∧ (t.s.length ≤ r.length ∧ t.kind ≠ 4 ∨ t.s.length ≤ 24)
  | 0, p, r, l, h, t, ht => by cases h
  | f + 1, p, r, l, h, t, ht => by
    simp only [toksS] at h
    cases hn : nextTok p r with
    | error e => rw [hn] at h; cases h
    | ok q =>
      obtain ⟨k, u⟩ := q
      rw [hn] at h
      obtain ⟨h1, h2, h3⟩ := next_small hn
      simp only at h
      split at h
      · simp only [Except.ok.injEq] at h
        subst h
        simp only [List.mem_singleton] at ht
        subst ht
        exact ⟨h2, h3⟩
      · cases hx : toksS f (p + (r.length - u.length)) u with
        | error e => rw [hx] at h; cases h
        | ok m =>
          rw [hx] at h
          simp only [Except.ok.injEq] at h
          subst h
          rcases List.mem_cons.1 ht with rfl | ht
          · exact ⟨h2, h3⟩
          · obtain ⟨i1, i2⟩ := toks_small f _ u m hx t ht
            refine ⟨i1, ?_⟩
            rcases i2 with ⟨i2, i3⟩ | i2
            · exact .inl ⟨by omega, i3⟩
            · exact .inr i2
def TSm (t : Tok) : Prop := inI t.n ∧ t.s.length ≤ 1048576
def TSs (l : List Tok) : Prop := l.length ≤ 100000 ∧ ∀ t ∈ l, TSm t
theorem tb_tail {l : List Tok} (h : TSs l) : TSs l.tail := ⟨Nat.le_trans (by simp) h.1, fun t ht => h.2 t (List.mem_of_mem_tail ht)⟩
theorem tb_next {t : Tok} {r : List Tok} (h : TSs (t :: r)) : TSs r := ⟨Nat.le_trans (by simp) h.1, fun x hx => h.2 x (.tail _ hx)⟩
def OkP {α : Type} (Q : α → Prop) (P : List Tok → PR α) : Prop := ∀ l, TSs l → TSs (P l).2 ∧ ∀ a, (P l).1 = some a → Q a
theorem op_ret {α : Type} {Q : α → Prop} {a : α} (h : Q a) : OkP Q (fun r => (some a, r)) := fun l hl => ⟨hl, fun b hb => by cases hb; exact h⟩
theorem op_none {α : Type} {Q : α → Prop} : OkP Q (fun r => ((none : Option α), r)) := fun l hl => ⟨hl, fun b hb => by cases hb⟩
theorem op_then {α β : Type} {Q : α → Prop} {R : β → Prop} {P : List Tok → PR α} {f : α → List Tok → PR β} (hp : OkP Q P) (hf : ∀ a, Q a → OkP R (f a)) : OkP R (fun l => thenP (P l) f) := by
  intro l hl
  have h := hp l hl
  simp only [thenP]
  cases hP : P l with
  | mk o r =>
    rw [hP] at h
    cases o with
    | none => exact ⟨h.1, fun b hb => by cases hb⟩
    | some a => exact hf a (h.2 a rfl) r h.1
theorem op_if {α : Type} {Q : α → Prop} {s : List UInt8} {A B : List Tok → PR α} (ha : OkP Q A) (hb : OkP Q B) : OkP Q (fun l => if isT s l then A l.tail else B l) := by
  intro l hl
  simp only
  cases hi : isT s l
  · simpa using hb l hl
  · simpa using ha l.tail (tb_tail hl)
theorem op_fuel {α : Type} {Q : α → Prop} {F : Nat → List Tok → PR α} (h : ∀ n, OkP Q (F n)) : OkP Q (fun l => F (l.length + 1) l) := fun l => h _ l
def Any {α : Type} (_ : α) : Prop := True
theorem op_need (s : List UInt8) : OkP Any (needP s) := op_if (op_ret trivial) op_none
theorem maybe_ok (s : List UInt8) (l : List Tok) (h : TSs l) : TSs (maybeP s l).2 := by
  unfold maybeP
  cases hi : isT s l
  · exact h
  · exact tb_tail h
theorem one_ok : ∀ (ss : List (List UInt8)) (l : List Tok), TSs l → TSs (oneP ss l).2
  | [], l, h => h
  | s :: r, l, h => by
    unfold oneP
    cases hi : isT s l
    · simp only [Bool.false_eq_true, if_false]
      have := one_ok r l h
      cases ho : oneP r l with
      | mk n l' => rw [ho] at this; cases n <;> exact this
    · exact tb_tail h
theorem op_oneOf (ss : List (List UInt8)) : OkP (fun n : Nat => n ≤ ss.length) (oneOfP ss) := by
  intro l hl
  have h1 := one_ok ss l hl
  have h2 := one_le ss l
  unfold oneOfP
  cases ho : oneP ss l with
  | mk n l' =>
    rw [ho] at h1 h2
    cases n with
    | zero => exact ⟨h1, fun a ha => by cases ha⟩
    | succ n => exact ⟨h1, fun a ha => by cases ha; exact h2⟩
abbrev Sm (s : List UInt8) : Prop := s.length ≤ 1048576
theorem op_name : OkP Sm nameP := by
  intro l hl
  cases l with
  | nil => exact ⟨hl, fun a ha => by cases ha⟩
  | cons t r =>
    simp only [nameP]
    split
    · exact ⟨tb_next hl, fun a ha => by cases ha; exact (hl.2 t (.head _)).2⟩
    · exact ⟨hl, fun a ha => by cases ha⟩
def AllQ {α : Type} (Q : α → Prop) (n : Nat) (xs : List α) : Prop := (∀ a ∈ xs, Q a) ∧ xs.length ≤ n
theorem op_list {α : Type} {Q : α → Prop} {f : List Tok → PR α} (hf : OkP Q f) : ∀ n, OkP (AllQ Q n) (listP f n)
  | 0 => op_none
  | n + 1 => by
    refine op_then hf fun a ha => op_if (A := fun r => thenP (listP f n r) fun xs r' => (some (a :: xs), r')) (op_then (op_list hf n) fun xs hx => op_ret ⟨fun b hb => ?_, by simpa using hx.2⟩) (op_ret ⟨fun b hb => ?_, by simp⟩)
    · rcases List.mem_cons.1 hb with rfl | hb
      · exact ha
      · exact hx.1 b hb
    · rcases List.mem_cons.1 hb with rfl | hb
      · exact ha
      · cases hb
theorem opAt_ok {tbl : List (List UInt8 × List UInt8)} {l : List Tok} {o : List UInt8} (ht : ∀ p ∈ tbl, Sm p.2) (h : opAt tbl l = some o) : Sm o := by
  induction tbl with
  | nil => cases h
  | cons p r ih =>
    obtain ⟨s, o'⟩ := p
    simp only [opAt] at h
    split at h
    · cases h; exact ht (s, o) (.head _)
    · exact ih (fun p hp => ht p (.tail _ hp)) h
theorem val_ok {v : Val} (h : v.ok) : (xval v).ok := ⟨by decide, h, by decide, by decide, by decide, trivial⟩
theorem zero_ok : Val.zero.ok := ⟨⟨by decide, by decide⟩, ⟨by decide, by decide⟩, by decide⟩
theorem xop1_ok {o : List UInt8} {e : Xp} (ho : Sm o) (h : e.ok) : (xop o [e]).ok := ⟨ho, zero_ok, by decide, by decide, by simp, h, trivial⟩
theorem xop2_ok {o : List UInt8} {e f : Xp} (ho : Sm o) (h : e.ok) (h2 : f.ok) : (xop o [e, f]).ok := ⟨ho, zero_ok, by decide, by decide, by simp, h, h2, trivial⟩
theorem op_more {part : List Tok → PR Xp} (hp : OkP Xp.ok part) (tbl : List (List UInt8 × List UInt8)) (ht : ∀ p ∈ tbl, Sm p.2) : ∀ n e, e.ok → OkP Xp.ok (moreP part tbl n e)
  | 0, e, he => op_none
  | n + 1, e, he => fun l hl => by
    simp only [moreP]
    cases ho : opAt tbl l with
    | none => exact op_ret he l hl
    | some o => exact op_then hp (fun f hf => op_more hp tbl ht n (xop o [e, f]) (xop2_ok (opAt_ok ht ho) he hf)) l.tail (tb_tail hl)
theorem op_chain {part : List Tok → PR Xp} (hp : OkP Xp.ok part) (tbl : List (List UInt8 × List UInt8)) (ht : ∀ p ∈ tbl, Sm p.2) : OkP Xp.ok (chainP part tbl) :=
  op_then hp fun e he => op_fuel fun n => op_more hp tbl ht n e he
theorem op_paren {or : List Tok → PR Xp} (ho : OkP Xp.ok or) : OkP Xp.ok (parenP or) :=
  op_then ho fun e he => op_if (A := fun r => (some e, r)) (op_ret he) op_none
theorem op_atom {or : List Tok → PR Xp} (ho : OkP Xp.ok or) : OkP Xp.ok (atomP or) := by
  intro l hl
  cases l with
  | nil => exact op_none [] hl
  | cons t r =>
    have hr := tb_next hl
    obtain ⟨hn, hs⟩ := hl.2 t (.head _)
    have hd := op_if (s := [46]) (A := fun r => thenP (nameP r) fun c r' => (some (Xp.mk oColumn Val.zero t.s c []), r')) (B := fun r => (some (Xp.mk oColumn Val.zero [] t.s []), r)) (Q := Xp.ok)
      (op_then op_name fun c hc => op_ret ⟨by decide, zero_ok, hs, hc, by decide, trivial⟩) (op_ret ⟨by decide, zero_ok, by decide, hs, by decide, trivial⟩) r hr
    simp only [atomP]
    split
    · exact op_ret (val_ok ⟨⟨by show (-9223372036854775808 : Int) ≤ 2; decide, by show (2 : Int) ≤ 9223372036854775807; decide⟩, hn, Nat.zero_le _⟩) r hr
    · split
      · exact op_ret (val_ok ⟨⟨by show (-9223372036854775808 : Int) ≤ 3; decide, by show (3 : Int) ≤ 9223372036854775807; decide⟩, ⟨by show (-9223372036854775808 : Int) ≤ 0; decide, by show (0 : Int) ≤ 9223372036854775807; decide⟩, hs⟩) r hr
      · split
        · exact hd
        · split
          · exact op_ret (val_ok zero_ok) r hr
          · split
            · exact op_ret (val_ok ⟨⟨by decide, by decide⟩, ⟨by decide, by decide⟩, by decide⟩) r hr
            · split
              · exact op_ret (val_ok ⟨⟨by decide, by decide⟩, ⟨by decide, by decide⟩, by decide⟩) r hr
              · split
                · exact op_paren ho r hr
                · exact op_none _ hl
theorem op_unary {or : List Tok → PR Xp} (ho : OkP Xp.ok or) : ∀ k, OkP Xp.ok (unaryP or k)
  | 0 => op_none
  | k + 1 => op_if (A := fun l => thenP (unaryP or k l) fun e r => (some (xop oNeg [e]), r)) (op_then (op_unary ho k) fun e he => op_ret (xop1_ok (by decide) he)) (op_atom ho)
theorem op_is (e : Xp) (he : e.ok) : OkP Xp.ok (isP e) := by
  intro l hl
  unfold isP
  cases hi : isT [73, 83] l
  · exact op_ret he l hl
  · have h2 := maybe_ok [78, 79, 84] l.tail (tb_tail hl)
    simp only [if_true]
    cases hm : maybeP [78, 79, 84] l.tail with
    | mk b r =>
      rw [hm] at h2
      exact op_then (op_need [78, 85, 76, 76]) (fun _ _ => op_ret (Q := Xp.ok) (a := if b = true then xop oNot [xop oNull [e]] else xop oNull [e]) (by
        cases b
        · exact xop1_ok (by decide) he
        · exact xop1_ok (by decide) (xop1_ok (by decide) he))) r h2
theorem op_cmp {sum : List Tok → PR Xp} (hs : OkP Xp.ok sum) : OkP Xp.ok (cmpP sum) := by
  refine op_then hs fun e he l hl => ?_
  try simp only
  cases ho : opAt cmpTbl l with
  | none => exact op_is e he l hl
  | some o => exact op_then hs (fun f hf => op_ret (xop2_ok (opAt_ok (by decide) ho) he hf)) l.tail (tb_tail hl)
theorem op_not {cmp : List Tok → PR Xp} (hc : OkP Xp.ok cmp) : ∀ k, OkP Xp.ok (notP cmp k)
  | 0 => op_none
  | k + 1 => op_if (A := fun l => thenP (notP cmp k l) fun e r => (some (xop oNot [e]), r)) (op_then (op_not hc k) fun e he => op_ret (xop1_ok (by decide) he)) hc
section
variable {or : List Tok → PR Xp} (ho : OkP Xp.ok or)
include ho
theorem op_unaryL : OkP Xp.ok (unaryL or) := op_fuel fun k => op_unary ho k
theorem op_term : OkP Xp.ok (termP or) := op_chain (op_unaryL ho) termTbl (by decide)
theorem op_sum : OkP Xp.ok (sumP or) := op_chain (op_term ho) sumTbl (by decide)
theorem op_notL : OkP Xp.ok (notL or) := op_fuel fun k => op_not (op_cmp (op_sum ho)) k
theorem op_and : OkP Xp.ok (andP or) := op_chain (op_notL ho) andTbl (by decide)
end
theorem op_or : ∀ n, OkP Xp.ok (orP n)
  | 0 => op_none
  | n + 1 => op_chain (op_and (op_or n)) orTbl (by decide)
theorem op_expr : OkP Xp.ok exprP := op_fuel op_or
theorem toks_len (s : List UInt8) : ∀ (f j : Nat) (l : List Tok), j ≤ s.length → toksS f j (s.drop j) = .ok l → l.length ≤ s.length - j + 1
  | 0, j, l, hj, h => by cases h
  | f + 1, j, l, hj, h => by
    have hle := takeWhile_len (p := isBlk) (s.drop j)
    rw [List.length_drop] at hle
    have hkl : j + blanks (s.drop j) ≤ s.length := by have : ((s.drop j).takeWhile isBlk).length = blanks (s.drop j) := rfl; omega
    have ht := next_tok s _ hkl
    have hn : nextTok j (s.drop j) = tokS (j + blanks (s.drop j)) (s.drop (j + blanks (s.drop j))) := by unfold nextTok; rw [unblank_drop]
    have hjk : j ≤ j + blanks (s.drop j) := by omega
    simp only [toksS, hn] at h
    generalize j + blanks (s.drop j) = k at *
    cases hr : tokS k (s.drop k) with
    | error e => rw [hr] at h; cases h
    | ok p =>
      obtain ⟨t, u⟩ := p
      rw [hr] at ht h
      obtain ⟨_, ⟨n, hu, hnl, hn1⟩, hu0⟩ := ht
      have hul : u.length = s.length - k - n := by rw [hu, List.length_drop, List.length_drop]
      rw [List.length_drop] at hnl
      simp only at h
      by_cases hk0 : t.kind = 0
      · rw [if_pos hk0] at h
        simp only [Except.ok.injEq] at h
        subst h
        simp
      · rw [if_neg hk0] at h
        have hn1 := hn1 hk0
        have hq2 : j + ((s.drop j).length - u.length) = k + n := by rw [List.length_drop]; omega
        have hud : u = s.drop (k + n) := by rw [hu, List.drop_drop]
        rw [hq2] at h
        cases hx : toksS f (k + n) u with
        | error e => rw [hx] at h; cases h
        | ok m =>
          rw [hx] at h
          simp only [Except.ok.injEq] at h
          subst h
          rw [hud] at hx
          have := toks_len s f (k + n) m (by omega) hx
          simp only [List.length_cons]
          omega
theorem toks_tsm {s : List UInt8} {l : List Tok} (hr : s.length ≤ 2000) (h : toksS (s.length + 1) 0 s = .ok l) : TSs l := by
  have h0 := toks_len s (s.length + 1) 0 l (Nat.zero_le _) (by simpa using h)
  refine ⟨by omega, fun t ht => ?_⟩
  obtain ⟨h1, h2⟩ := toks_small _ _ s l h t ht
  exact ⟨h1, by rcases h2 with h2 | h2 <;> omega⟩
def Lst {α : Type} (Q : α → Prop) (xs : List α) : Prop := xs.length ≤ 1048576 ∧ ∀ a ∈ xs, Q a
theorem op_lst {α : Type} {Q : α → Prop} {f : List Tok → PR α} (hf : OkP Q f) : OkP (Lst Q) (fun l => listP f (l.length + 1) l) := fun l hl => by
  obtain ⟨h1, h2⟩ := op_list hf (l.length + 1) l hl
  exact ⟨h1, fun a ha => ⟨by have := (h2 a ha).2; have := hl.1; omega, (h2 a ha).1⟩⟩
theorem lst_nil {α : Type} {Q : α → Prop} : Lst Q [] := ⟨Nat.zero_le _, fun a ha => by cases ha⟩
theorem op_where : OkP (Lst Xp.ok) whereP := op_if (A := fun l => thenP (exprP l) fun e r => (some [e], r)) (op_then op_expr fun e he => op_ret ⟨by simp, fun a ha => by simp only [List.mem_singleton] at ha; subst ha; exact he⟩) (op_ret lst_nil)
theorem var_ok {l : List Tok} (h : TSs l) : TSs (varP l).2 ∧ Sm (varP l).1 := by
  cases l with
  | nil => exact ⟨h, Nat.zero_le _⟩
  | cons t r =>
    simp only [varP]
    split
    · exact ⟨tb_next h, (h.2 t (.head _)).2⟩
    · exact ⟨h, Nat.zero_le _⟩
theorem op_source : OkP Src.ok sourceP := by
  intro l hl
  have h2 := one_ok [[73, 78, 83, 69, 82, 84, 69, 68], [68, 69, 76, 69, 84, 69, 68], [79, 76, 68], [78, 69, 87]] l hl
  have h3 := one_le [[73, 78, 83, 69, 82, 84, 69, 68], [68, 69, 76, 69, 84, 69, 68], [79, 76, 68], [78, 69, 87]] l
  unfold sourceP
  cases ho : oneP [[73, 78, 83, 69, 82, 84, 69, 68], [68, 69, 76, 69, 84, 69, 68], [79, 76, 68], [78, 69, 87]] l with
  | mk n r =>
    rw [ho] at h2 h3
    cases n with
    | zero =>
      exact op_then op_name (f := fun t r' => (some (⟨0, t, (varP r').1⟩ : Src), (varP r').2)) (R := Src.ok) (fun t ht r' hr' => ⟨(var_ok hr').1, fun a ha => by
        cases ha
        exact ⟨⟨by show (-9223372036854775808 : Int) ≤ 0; decide, by show (0 : Int) ≤ 9223372036854775807; decide⟩, ht, (var_ok hr').2⟩⟩) r h2
    | succ n => exact ⟨(var_ok h2).1, fun a ha => by
        cases ha
        simp only [List.length_cons, List.length_nil] at h3
        exact ⟨⟨by show (-9223372036854775808 : Int) ≤ ((n : Int) + 1); omega, by show ((n : Int) + 1) ≤ 9223372036854775807; omega⟩, Nat.zero_le _, (var_ok h2).2⟩⟩
structure Qry.ok (q : Qry) : Prop where
  items : Lst Xp.ok q.items
  src : Lst Src.ok q.src
  wher : Lst Xp.ok q.wher
theorem op_items : OkP (Lst Xp.ok) itemsP := op_if (op_ret lst_nil) (op_lst op_expr)
theorem op_query : OkP Qry.ok queryP :=
  op_then (op_need _) fun _ _ => op_then op_items fun is hi => op_then (op_need _) fun _ _ => op_then (op_lst op_source) fun ss hs => op_then op_where fun w hw => op_ret ⟨hi, hs, hw⟩
theorem op_set : OkP SetE.ok setP := op_then op_name fun c hc => op_then (op_need _) fun _ _ => op_then op_expr fun e he => op_ret ⟨hc, he⟩
theorem inIk {k : Int} (h0 : -100 ≤ k) (h1 : k ≤ 100) : inI k := ⟨by omega, by omega⟩
theorem zb_ok : StB.zero.ok := ⟨inIk (by decide) (by decide), Nat.zero_le _, Nat.zero_le _, Nat.zero_le _, lst_nil, lst_nil, lst_nil, lst_nil, lst_nil, lst_nil, inIk (by decide) (by decide), inIk (by decide) (by decide)⟩
theorem op_ins : OkP StB.ok insP :=
  op_then (op_need _) fun _ _ => op_then op_name fun t ht =>
    op_if (A := fun r => thenP (needP [40] r) fun _ r => thenP (listP exprP (r.length + 1) r) fun vs r => thenP (needP [41] r) fun _ r => (some { StB.zero with kind := 12, table := t, values := vs }, r))
      (op_then (op_need _) fun _ _ => op_then (op_lst op_expr) fun vs hv => op_then (op_need _) fun _ _ => op_ret { zb_ok with kind := inIk (by simp) (by simp), table := ht, values := hv })
      (op_then op_query fun q hq => op_ret { zb_ok with kind := inIk (by simp) (by simp), table := ht, items := hq.items, src := hq.src, wher := hq.wher })
theorem op_upd : OkP StB.ok updP := op_then op_name fun t ht => op_then (op_need _) fun _ _ => op_then (op_lst op_set) fun ss hs => op_then op_where fun w hw => op_ret { zb_ok with kind := inIk (by simp) (by simp), table := ht, sets := hs, wher := hw }
theorem op_del : OkP StB.ok delP := op_then (op_need _) fun _ _ => op_then op_name fun t ht => op_then op_where fun w hw => op_ret { zb_ok with kind := inIk (by simp) (by simp), table := ht, wher := hw }
def OptQ {α : Type} (Q : α → Prop) (o : Option α) : Prop := ∀ a, o = some a → Q a
theorem op_act : OkP (OptQ StB.ok) actP :=
  op_if (A := fun l => thenP (insP l) fun b r => (some (some b), r)) (op_then op_ins fun b hb => op_ret fun a ha => by cases ha; exact hb)
    (op_if (A := fun l => thenP (updP l) fun b r => (some (some b), r)) (op_then op_upd fun b hb => op_ret fun a ha => by cases ha; exact hb)
      (op_if (A := fun l => thenP (delP l) fun b r => (some (some b), r)) (op_then op_del fun b hb => op_ret fun a ha => by cases ha; exact hb) (op_ret fun a ha => by cases ha)))
end Go.Abs
namespace Go.Abs
set_option linter.unusedSimpArgs false
set_option linter.unusedVariables false
open Go Go.Proofs
attribute [local simp] i_nil i_blk i_skip i_ret i_exit i_seq i_block i_cond i_region' i_ops_nil i_ops i_drawn' k_none k_0 k_1 k_2 k_3 k_4 k_5 d_in a_nil a_cons alt1 h_nil h_one h_two z_nil z_cons z_cells zeqL zeq q_alloc q_some nxtN i_drh d_hi i_drw_nil i_drw u_nil u_code u_ops u_drw u_lp u_again u_exit u_ret u_panic c_bool o_some o_val o_panic d_some d_val d_panic w_none w_fast wantG q_nil q_zero q_succ t_zero t_succ g_zero g_succ s_zero s_succ s_some s_none v_tmp v_const v_func f_quiet gc_none gc_pure wrap_i64 p_move p_assign p_pick p_alloc p_box p_build p_buildSlice p_load p_store p_nilCheck p_binOp n_tmp n_int n_bool n_str n_ptr n_fun n_iface nilCmp p_unOp p_convert p_makeSlice p_makeInterface p_makeFunc p_slice p_fieldAddr p_field p_indexAddr p_index p_extract p_callv p_callb p_panic quiet_val new_val e_assign e_call e_load e_store e_alloc e_box e_move e_pick e_build e_buildSlice e_nilCheck e_binOp e_unOp e_convert e_makeSlice e_makeInterface e_makeFunc e_slice e_fieldAddr e_field e_indexAddr e_index e_extract e_panic callD fpRead adoptZ fulls adopt adoptL ofValue ofScalar binOpV unOpV intBin strBin eqRes veq veqF eqDepth val? finish resL r_tmp r_cell normL normTop tipIs refsL refs ownRefs single frz frzL ren renL renOwn callOp doCall backR writeBack builtinV loadV storeV storeW iceT cellsAt takeV D.isAgg overlay vcells cellOk fieldAddrV indexAddrV fieldV partV indexV buildV fillV buildSliceV litElems appendV appElems elemOk convertV convV winStr makeSliceV sliceV natOf
attribute [local simp ↓] brB_true brB_false brB_dec brB_not brB_and brB_or brB_beq brB_bne
def errV (k q : Int) : V := .agg [.int .i64 k, .int .i64 q]
def kindV (k q : Int) : V := .iface 58 (.agg [.int .i64 k, .int .i64 q])
end Go.Abs
