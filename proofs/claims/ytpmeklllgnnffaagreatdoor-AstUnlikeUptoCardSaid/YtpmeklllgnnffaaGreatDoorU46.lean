/- Plain: the text of tokens is cut into these again. -/
import Derived.Test.YtpmeklllgnnffaaGreatDoorU19
import Derived.Lib.Join
import Derived.Test.YtpmeklllgnnffaaGreatDoorU39
set_option linter.unusedSimpArgs false
set_option linter.unusedVariables false

namespace Go.Abs
set_option linter.unusedSimpArgs false
set_option linter.unusedVariables false
open Go

def showTok (t : Tok) : List UInt8 := if t.kind = 3 then Lib.itoa t.n else if t.kind = 4 then 39 :: (quoteE t.s ++ [39]) else t.s
def textS (l : List Tok) : List UInt8 := Lib.join ((l.filter fun t => decide (1 ≤ t.kind ∧ t.kind ≤ 5)).map showTok) [32]

/- what a token is -/
inductive OkTok : Tok → Prop where
  | word (p : Int) (w : List UInt8) : allB isCap w = true → OkTok ⟨1, 0, p, w⟩
  | name (p : Int) (w : List UInt8) : nameS w = true → OkTok ⟨2, 0, p, w⟩
  | num (p : Int) (u : Nat) : u ≤ 9223372036854775807 → OkTok ⟨3, u, p, []⟩
  | str (p : Int) (a : List UInt8) : a.length ≤ 24 → OkTok ⟨4, 0, p, a⟩
  | sym1 (p : Int) (c : UInt8) : [60, 62, 61, 43, 45, 42, 40, 41, 44, 46, 59].contains c = true → OkTok ⟨5, 0, p, [c]⟩
  | sym2 (p : Int) (c d : UInt8) : (c = 60 ∧ d = 62 ∨ c = 60 ∧ d = 61 ∨ c = 62 ∧ d = 61) → OkTok ⟨5, 0, p, [c, d]⟩

theorem name_notcap {w : List UInt8} (h : nameS w = true) : allB isCap w = false := by
  cases w with
  | nil => rfl
  | cons c r =>
    simp only [nameS, Bool.and_eq_true, isLow, decide_eq_true_eq, UInt8.le_iff_toNat_le] at h
    have h1 : 97 ≤ c.toNat := h.1.1.1
    have : isCap c = false := by
      simp only [isCap, Bool.and_eq_false_iff, decide_eq_false_iff_not, UInt8.le_iff_toNat_le]
      right
      have : (90 : UInt8).toNat = 90 := rfl
      omega
    simp [allB, this]
theorem dig_notcap {w : List UInt8} (h : allB isDig w = true) : allB isCap w = false ∧ nameS w = false := by
  cases w with
  | nil => exact ⟨rfl, rfl⟩
  | cons c r =>
    simp only [allB, List.all_cons, Bool.and_eq_true, isDig, decide_eq_true_eq, UInt8.le_iff_toNat_le] at h
    have h1 : c.toNat ≤ 57 := h.1.1.2
    have e1 : (65 : UInt8).toNat = 65 := rfl
    have e2 : (97 : UInt8).toNat = 97 := rfl
    have a : isCap c = false := by
      simp only [isCap, Bool.and_eq_false_iff, decide_eq_false_iff_not, UInt8.le_iff_toNat_le]
      left; omega
    have b : isLow c = false := by
      simp only [isLow, Bool.and_eq_false_iff, decide_eq_false_iff_not, UInt8.le_iff_toNat_le]
      left; omega
    exact ⟨by simp [allB, a], by simp [nameS, b]⟩

theorem run_ok {p : Int} {w : List UInt8} {t : Tok} (h : runS p w = some t) : OkTok t := by
  unfold runS at h
  split at h
  · rename_i hc; cases h; exact .word p w hc
  · split at h
    · rename_i hc; cases h; exact .name p w hc
    · split at h
      · rename_i hc; cases h; exact .num p _ hc.2
      · cases h
theorem tok_ok {p : Nat} {r : List UInt8} {t : Tok} {u : List UInt8} (h : tokS p r = .ok (t, u)) : t.kind = 0 ∧ t = ⟨0, 0, p, []⟩ ∨ OkTok t := by
  cases r with
  | nil => simp only [tokS, Except.ok.injEq, Prod.mk.injEq] at h; left; rw [← h.1]; exact ⟨rfl, rfl⟩
  | cons c r =>
    right
    simp only [tokS] at h
    split at h
    · split at h
      · rename_i k hk
        simp only [Except.ok.injEq, Prod.mk.injEq] at h
        rw [← h.1]; exact run_ok hk
      · cases h
    · split at h
      · split at h
        · split at h
          · rename_i a u' _ hl
            simp only [Except.ok.injEq, Prod.mk.injEq] at h
            rw [← h.1]; exact .str _ _ hl
          · cases h
        · cases h
      · split at h
        · cases h
        · rename_i hs
          simp only [Except.ok.injEq, Prod.mk.injEq] at h
          rw [← h.1]
          match r, hs with
          | [], hs =>
            simp only [symS] at hs ⊢
            by_cases hc : [60, 62, 61, 43, 45, 42, 40, 41, 44, 46, 59].contains c = true
            · rw [if_pos hc]; exact .sym1 _ _ hc
            · rw [if_neg hc] at hs; exact absurd rfl hs
          | d :: r, hs =>
            simp only [symS] at hs ⊢
            by_cases h2 : c = 60 ∧ d = 62 ∨ c = 60 ∧ d = 61 ∨ c = 62 ∧ d = 61
            · rw [if_pos h2]; exact .sym2 _ _ _ h2
            · rw [if_neg h2] at hs ⊢
              by_cases hc : [60, 62, 61, 43, 45, 42, 40, 41, 44, 46, 59].contains c = true
              · rw [if_pos hc]; exact .sym1 _ _ hc
              · rw [if_neg hc] at hs; exact absurd rfl hs

/- what stands behind a token of a text that was written -/
def Fol (r : List UInt8) : Prop := ∃ t, r = 32 :: t ∨ r = 9 :: t

theorem run_take {w r : List UInt8} (hw : w.all isRun = true) (hr : Fol r) : (w ++ r).takeWhile isRun = w ∧ (w ++ r).dropWhile isRun = r := by
  have h0 : r.takeWhile isRun = [] ∧ r.dropWhile isRun = r := by
    obtain ⟨t, rfl | rfl⟩ := hr <;> exact ⟨rfl, rfl⟩
  induction w with
  | nil => simpa using h0
  | cons c w ih =>
    simp only [List.all_cons, Bool.and_eq_true] at hw
    have := ih hw.2
    simp [List.takeWhile_cons, List.dropWhile_cons, hw.1, this]
theorem cap_run {w : List UInt8} (h : allB isCap w = true) : w.all isRun = true ∧ w ≠ [] := by
  simp only [allB, Bool.and_eq_true, Bool.not_eq_true', List.isEmpty_eq_false_iff] at h
  refine ⟨List.all_eq_true.2 fun c hc => ?_, h.2⟩
  have := List.all_eq_true.1 h.1 c hc
  simp [isRun, this]
theorem dig_run {w : List UInt8} (h : allB isDig w = true) : w.all isRun = true ∧ w ≠ [] := by
  simp only [allB, Bool.and_eq_true, Bool.not_eq_true', List.isEmpty_eq_false_iff] at h
  refine ⟨List.all_eq_true.2 fun c hc => ?_, h.2⟩
  have := List.all_eq_true.1 h.1 c hc
  simp [isRun, this]
theorem name_run {w : List UInt8} (h : nameS w = true) : w.all isRun = true ∧ w ≠ [] := by
  cases w with
  | nil => cases h
  | cons c r =>
    simp only [nameS, Bool.and_eq_true] at h
    refine ⟨?_, by simp⟩
    simp only [List.all_cons, Bool.and_eq_true]
    refine ⟨by simp [isRun, h.1.1], List.all_eq_true.2 fun d hd => ?_⟩
    have := List.all_eq_true.1 h.1.2 d hd
    simp only [Bool.or_eq_true] at this
    rcases this with (h | h) | h <;> simp [isRun, h]
theorem tok_run {p : Nat} {w r : List UInt8} (hw : w.all isRun = true) (hn : w ≠ []) (hr : Fol r) {t : Tok} (ht : runS p w = some t) : tokS p (w ++ r) = .ok (t, r) := by
  have ⟨h1, h2⟩ := run_take hw hr
  cases w with
  | nil => exact absurd rfl hn
  | cons c w =>
    simp only [List.all_cons, Bool.and_eq_true] at hw
    rw [List.cons_append] at h1 h2 ⊢
    simp only [tokS, hw.1, if_true, h1, h2, ht]

theorem quote_back : ∀ (s acc r : List UInt8), Fol r → Go.Abs.quoteS acc (quoteE s ++ 39 :: r) = some (acc ++ s, r)
  | [], acc, r, hr => by
    obtain ⟨t, rfl | rfl⟩ := hr <;> simp [quoteE, quoteS]
  | b :: s, acc, r, hr => by
    have e : quoteE (b :: s) = (if b = 39 then [39, 39] else [b]) ++ quoteE s := rfl
    rw [e]
    by_cases h : b = 39
    · subst h
      simp only [if_true, List.cons_append, List.nil_append, quoteS]
      rw [quote_back s _ r hr]; simp
    · have hne : ∃ d u, quoteE s ++ 39 :: r = d :: u := by
        cases hs : quoteE s with
        | nil => exact ⟨39, r, rfl⟩
        | cons d u => exact ⟨d, u ++ 39 :: r, rfl⟩
      obtain ⟨d, u, hdu⟩ := hne
      simp only [if_neg h, List.cons_append, List.nil_append, hdu, quoteS]
      rw [← hdu, quote_back s _ r hr]; simp

def Tok.to (t : Tok) (p : Int) : Tok := { t with at_ := p }
theorem sym_not (c : UInt8) (h : [60, 62, 61, 43, 45, 42, 40, 41, 44, 46, 59].contains c = true) : isRun c = false ∧ ¬ c = 39 ∧ isBlk c = false := by
  simp only [List.contains_cons, List.contains_nil, Bool.or_false, Bool.or_eq_true, beq_iff_eq] at h
  rcases h with h | h | h | h | h | h | h | h | h | h | h <;> subst h <;> decide
theorem tok_back {t : Tok} (h : OkTok t) (p : Nat) (r : List UInt8) (hr : Fol r) : tokS p (showTok t ++ r) = .ok (t.to p, r) := by
  cases h with
  | word q w hw =>
    have ⟨h1, h2⟩ := cap_run hw
    exact tok_run h1 h2 hr (by simp [runS, hw, Tok.to])
  | name q w hw =>
    have ⟨h1, h2⟩ := name_run hw
    exact tok_run h1 h2 hr (by simp [runS, name_notcap hw, hw, Tok.to])
  | num q u hu =>
    have ⟨h1, h2⟩ := dec_digits u
    have ⟨h3, h4⟩ := dig_run h1
    have ⟨h5, h6⟩ := dig_notcap h1
    have e : showTok ⟨3, u, q, []⟩ = Lib.decDigits u := by
      simp only [showTok, if_true, Lib.itoa]
      rw [if_neg (by omega)]; rfl
    rw [e]
    exact tok_run h3 h4 hr (by simp [runS, h1, h2, h5, h6, hu, Tok.to])
  | str q a ha =>
    have e : showTok ⟨4, 0, q, a⟩ = 39 :: (quoteE a ++ [39]) := by simp [showTok]
    have hq := quote_back a [] r hr
    rw [e, List.cons_append, List.append_assoc]
    have h39 : isRun 39 = false := rfl
    simp only [List.cons_append, List.nil_append] at hq ⊢
    simp [tokS, h39, hq, ha, Tok.to]
  | sym1 q c hc =>
    have ⟨h1, h2, _⟩ := sym_not c hc
    have e : showTok ⟨5, 0, q, [c]⟩ = [c] := by simp [showTok]
    rw [e]
    have hs : symS (c :: r) = 1 := by
      obtain ⟨t, rfl | rfl⟩ := hr
      · have : ¬ (c = 60 ∧ (32 : UInt8) = 62 ∨ c = 60 ∧ (32 : UInt8) = 61 ∨ c = 62 ∧ (32 : UInt8) = 61) := by
          rintro (⟨_, h⟩ | ⟨_, h⟩ | ⟨_, h⟩) <;> revert h <;> decide
        rw [symS, if_neg this, if_pos hc]
      · have : ¬ (c = 60 ∧ (9 : UInt8) = 62 ∨ c = 60 ∧ (9 : UInt8) = 61 ∨ c = 62 ∧ (9 : UInt8) = 61) := by
          rintro (⟨_, h⟩ | ⟨_, h⟩ | ⟨_, h⟩) <;> revert h <;> decide
        rw [symS, if_neg this, if_pos hc]
    simp only [List.cons_append, List.nil_append, tokS, h1, Bool.false_eq_true, if_false, if_neg h2, hs]
    simp [Tok.to]
  | sym2 q c d hcd =>
    have hc : isRun c = false ∧ ¬ c = 39 := by rcases hcd with ⟨rfl, rfl⟩ | ⟨rfl, rfl⟩ | ⟨rfl, rfl⟩ <;> decide
    have e : showTok ⟨5, 0, q, [c, d]⟩ = [c, d] := by simp [showTok]
    rw [e]
    have hs : symS (c :: d :: r) = 2 := by rw [symS, if_pos hcd]
    simp only [List.cons_append, List.nil_append, tokS, hc.1, Bool.false_eq_true, if_false, if_neg hc.2, hs]
    simp [Tok.to]
theorem show_head {t : Tok} (h : OkTok t) : ∃ c u, showTok t = c :: u ∧ isBlk c = false := by
  have blk : ∀ {c : UInt8}, isRun c = true → isBlk c = false := fun {c} hc => by
    simp only [isBlk, Bool.or_eq_false_iff, beq_eq_false_iff_ne]
    refine ⟨⟨?_, ?_⟩, ?_⟩ <;> rintro rfl <;> revert hc <;> decide
  have run : ∀ {w : List UInt8}, w.all isRun = true → w ≠ [] → ∃ c u, w = c :: u ∧ isBlk c = false := fun {w} h1 h2 => by
    cases w with
    | nil => exact absurd rfl h2
    | cons c u => simp only [List.all_cons, Bool.and_eq_true] at h1; exact ⟨c, u, rfl, blk h1.1⟩
  cases h with
  | word q w hw => have ⟨h1, h2⟩ := cap_run hw; exact run h1 h2
  | name q w hw => have ⟨h1, h2⟩ := name_run hw; exact run h1 h2
  | num q u hu =>
    have ⟨h3, h4⟩ := dig_run (dec_digits u).1
    have e : showTok ⟨3, u, q, []⟩ = Lib.decDigits u := by
      simp only [showTok, if_true, Lib.itoa]
      rw [if_neg (by omega)]; rfl
    rw [e]; exact run h3 h4
  | str q a ha => exact ⟨39, _, by simp [showTok]; rfl, rfl⟩
  | sym1 q c hc => exact ⟨c, [], by simp [showTok], (sym_not c hc).2.2⟩
  | sym2 q c d hcd => exact ⟨c, [d], by simp [showTok], by rcases hcd with ⟨rfl, rfl⟩ | ⟨rfl, rfl⟩ | ⟨rfl, rfl⟩ <;> decide⟩
theorem next_blank {b : List UInt8} (hb : b.all isBlk = true) (p : Nat) {c : UInt8} {r : List UInt8} (hc : isBlk c = false) : nextTok p (b ++ c :: r) = tokS (p + b.length) (c :: r) := by
  have h : (b ++ c :: r).takeWhile isBlk = b ∧ (b ++ c :: r).dropWhile isBlk = c :: r := by
    induction b with
    | nil => simp [List.takeWhile_cons, List.dropWhile_cons, hc]
    | cons d b ih =>
      simp only [List.all_cons, Bool.and_eq_true] at hb
      have := ih hb.2
      simp [List.takeWhile_cons, List.dropWhile_cons, hb.1, this]
  unfold nextTok blanks unblank
  rw [h.1, h.2]
theorem next_end {b : List UInt8} (hb : b.all isBlk = true) (p : Nat) : nextTok p b = .ok (⟨0, 0, (p + b.length : Nat), []⟩, []) := by
  have h : b.takeWhile isBlk = b ∧ b.dropWhile isBlk = [] := by
    induction b with
    | nil => exact ⟨rfl, rfl⟩
    | cons d b ih =>
      simp only [List.all_cons, Bool.and_eq_true] at hb
      have := ih hb.2
      simp [List.takeWhile_cons, List.dropWhile_cons, hb.1, this]
  unfold nextTok blanks unblank
  rw [h.1, h.2]; rfl

/- the tokens' text behind one another -/
def bodyS : List Tok → List UInt8
  | [] => []
  | [t] => showTok t
  | t :: u :: l => showTok t ++ 32 :: bodyS (u :: l)
def Alike (a b : Tok) : Prop := a.kind = b.kind ∧ a.n = b.n ∧ a.s = b.s
def Alikes : List Tok → List Tok → Prop
  | [], [] => True
  | a :: l, b :: m => Alike a b ∧ Alikes l m
  | _, _ => False
theorem toks_body : ∀ (l : List Tok) (f p : Nat) (b : List UInt8), (∀ t ∈ l, OkTok t ∧ t.kind ≠ 0) → b.all isBlk = true → l.length < f → ∃ m e, toksS f p (b ++ bodyS l ++ [9]) = .ok (m ++ [e]) ∧ e.kind = 0 ∧ e.n = 0 ∧ e.s = [] ∧ Alikes l m
  | [], f + 1, p, b, _, hb, _ => by
    have h9 : (b ++ [9]).all isBlk = true := by simp [hb, isBlk]
    refine ⟨[], ⟨0, 0, ((p + (b ++ [9]).length : Nat) : Int), []⟩, ?_, rfl, rfl, rfl, trivial⟩
    simp only [bodyS, List.append_nil, toksS, next_end h9, if_true, List.nil_append]
  | [t], f + 1, p, b, hl, hb, hf => by
    obtain ⟨ht, hk⟩ := hl t (by simp)
    obtain ⟨c, u, hcu, hc⟩ := show_head ht
    have hn : nextTok p (b ++ showTok t ++ [9]) = .ok (t.to (p + b.length : Nat), [9]) := by
      have := tok_back ht (p + b.length) [9] ⟨[], .inr rfl⟩
      rw [hcu] at this ⊢
      rw [List.append_assoc, List.cons_append, next_blank hb p hc]; exact this
    have hk' : ¬ (t.to (p + b.length : Nat)).kind = 0 := hk
    cases f with
    | zero => simp at hf
    | succ f =>
      have h9 : ([9] : List UInt8).all isBlk = true := rfl
      refine ⟨[t.to (p + b.length : Nat)], ⟨0, 0, ((p + ((b ++ showTok t ++ [9]).length - [9].length) + [9].length : Nat) : Int), []⟩, ?_, rfl, rfl, rfl, ⟨rfl, rfl, rfl⟩, trivial⟩
      · rw [bodyS, toksS, hn]
        simp only [if_neg hk']
        rw [toksS, next_end h9]
        simp
  | t :: t' :: l, f + 1, p, b, hl, hb, hf => by
    obtain ⟨ht, hk⟩ := hl t (by simp)
    obtain ⟨c, u, hcu, hc⟩ := show_head ht
    have hn : nextTok p (b ++ bodyS (t :: t' :: l) ++ [9]) = .ok (t.to (p + b.length : Nat), 32 :: (bodyS (t' :: l) ++ [9])) := by
      have := tok_back ht (p + b.length) (32 :: (bodyS (t' :: l) ++ [9])) ⟨_, .inl rfl⟩
      have e : b ++ bodyS (t :: t' :: l) ++ [9] = b ++ (showTok t ++ 32 :: (bodyS (t' :: l) ++ [9])) := by simp [bodyS]
      rw [e]
      rw [hcu] at this ⊢
      rw [List.cons_append, next_blank hb p hc]; exact this
    have hk' : ¬ (t.to (p + b.length : Nat)).kind = 0 := hk
    obtain ⟨m, e, h1, h2, h3, h4, h5⟩ := toks_body (t' :: l) f (p + ((b ++ bodyS (t :: t' :: l) ++ [9]).length - (32 :: (bodyS (t' :: l) ++ [9])).length)) [32] (fun x hx => hl x (by simp [hx])) rfl (by simp at hf ⊢; omega)
    refine ⟨t.to (p + b.length : Nat) :: m, e, ?_, h2, h3, h4, ⟨rfl, rfl, rfl⟩, h5⟩
    rw [toksS, hn]
    simp only [if_neg hk']
    have e2 : [32] ++ bodyS (t' :: l) ++ [9] = 32 :: (bodyS (t' :: l) ++ [9]) := by simp
    rw [e2] at h1
    rw [h1]; rfl

theorem join_body : ∀ l : List Tok, Lib.join (l.map showTok) [32] = bodyS l
  | [] => rfl
  | [t] => by simp [Lib.join_one, bodyS]
  | t :: u :: l => by
    have ih := join_body (u :: l)
    rw [bodyS, ← ih]
    simp only [List.map_cons, Lib.join, List.intercalate, List.intersperse, List.flatten_cons, List.cons_append, List.nil_append]
theorem toks_ok : ∀ (f p : Nat) (r : List UInt8) (l : List Tok), toksS f p r = .ok l → ∃ m e, l = m ++ [e] ∧ e.kind = 0 ∧ e.n = 0 ∧ e.s = [] ∧ ∀ t ∈ m, OkTok t ∧ t.kind ≠ 0
  | 0, p, r, l, h => by simp [toksS] at h
  | f + 1, p, r, l, h => by
    rw [toksS] at h
    cases hn : nextTok p r with
    | error e => rw [hn] at h; cases h
    | ok q =>
      obtain ⟨t, u⟩ := q
      rw [hn] at h
      simp only at h
      have hk := tok_ok (p := p + blanks r) (r := unblank r) hn
      split at h
      · rename_i h0
        simp only [Except.ok.injEq] at h
        refine ⟨[], t, by rw [← h]; rfl, h0, ?_, ?_, by simp⟩
        · rcases hk with ⟨_, e⟩ | hk
          · rw [e]
          · cases hk <;> simp at h0
        · rcases hk with ⟨_, e⟩ | hk
          · rw [e]
          · cases hk <;> simp at h0
      · rename_i h0
        cases ht : toksS f (p + (r.length - u.length)) u with
        | error e => rw [ht] at h; cases h
        | ok l' =>
          rw [ht] at h
          simp only [Except.ok.injEq] at h
          obtain ⟨m, e, h1, h2, h3, h4, h5⟩ := toks_ok _ _ _ _ ht
          refine ⟨t :: m, e, by rw [← h, h1]; rfl, h2, h3, h4, fun x hx => ?_⟩
          rcases List.mem_cons.1 hx with rfl | hx
          · rcases hk with ⟨e, _⟩ | hk
            · exact absurd e h0
            · exact ⟨hk, h0⟩
          · exact h5 x hx
theorem kinds {t : Tok} (h : OkTok t) : 1 ≤ t.kind ∧ t.kind ≤ 5 := by cases h <;> exact ⟨by simp, by simp⟩
theorem text_body {m : List Tok} {e : Tok} (he : e.kind = 0) (hm : ∀ t ∈ m, OkTok t ∧ t.kind ≠ 0) : textS (m ++ [e]) = bodyS m := by
  unfold textS
  have h1 : (m ++ [e]).filter (fun t => decide (1 ≤ t.kind ∧ t.kind ≤ 5)) = m := by
    rw [List.filter_append]
    have h2 : m.filter (fun t => decide (1 ≤ t.kind ∧ t.kind ≤ 5)) = m := List.filter_eq_self.2 fun t ht => decide_eq_true (kinds (hm t ht).1)
    have h3 : [e].filter (fun t => decide (1 ≤ t.kind ∧ t.kind ≤ 5)) = [] := by simp [he]
    rw [h2, h3, List.append_nil]
  rw [h1, join_body]
theorem alike_body : ∀ {l m : List Tok}, Alikes l m → bodyS l = bodyS m
  | [], [], _ => rfl
  | [a], [b], h => by
    obtain ⟨⟨h1, h2, h3⟩, _⟩ := h
    simp only [bodyS, showTok, h1, h2, h3]
  | a :: a' :: l, b :: b' :: m, h => by
    obtain ⟨⟨h1, h2, h3⟩, h4⟩ := h
    have := alike_body h4
    simp only [bodyS, showTok, h1, h2, h3, this]
  | [], _ :: _, h => h.elim
  | _ :: _, [], h => h.elim
  | [_], _ :: _ :: _, h => h.2.elim
  | _ :: _ :: _, [_], h => h.2.elim
theorem alike_ok : ∀ {l m : List Tok}, Alikes l m → (∀ t ∈ l, OkTok t ∧ t.kind ≠ 0) → ∀ t ∈ m, OkTok t ∧ t.kind ≠ 0
  | [], [], _, _, t, ht => by simp at ht
  | a :: l, b :: m, ⟨⟨h1, h2, h3⟩, h4⟩, h, t, ht => by
    rcases List.mem_cons.1 ht with rfl | ht
    · obtain ⟨ha, hk⟩ := h a (by simp)
      obtain ⟨k, n, p, s⟩ := t
      simp only at h1 h2 h3
      subst h1; subst h2; subst h3
      refine ⟨?_, hk⟩
      cases ha with
      | word q w hw => exact .word _ _ hw
      | name q w hw => exact .name _ _ hw
      | num q u hu => exact .num _ _ hu
      | str q a ha => exact .str _ _ ha
      | sym1 q c hc => exact .sym1 _ _ hc
      | sym2 q c d hcd => exact .sym2 _ _ _ hcd
    · exact alike_ok h4 (fun x hx => h x (by simp [hx])) t ht
  | [], _ :: _, h, _, _, _ => h.elim
  | _ :: _, [], h, _, _, _ => h.elim
theorem alikes_len : ∀ {l m : List Tok}, Alikes l m → l.length = m.length
  | [], [], _ => rfl
  | _ :: _, _ :: _, h => by simp [alikes_len h.2]
  | [], _ :: _, h => h.elim
  | _ :: _, [], h => h.elim
/- the law -/
theorem lex_back {s : List UInt8} {l : List Tok} (h : toksS (s.length + 1) 0 s = .ok l) :
    ∃ m, toksS (([10, 32] ++ textS l ++ [9]).length + 1) 0 ([10, 32] ++ textS l ++ [9]) = .ok m ∧ Alikes l m ∧ textS m = textS l := by
  obtain ⟨m0, e, rfl, he, hn, hs, hm⟩ := toks_ok _ _ _ _ h
  have ht := text_body he hm
  have hlen : m0.length ≤ (bodyS m0).length := by
    clear h ht
    induction m0 with
    | nil => simp
    | cons t l ih =>
      have hl := ih (fun x hx => hm x (by simp [hx]))
      obtain ⟨c, u, hcu, _⟩ := show_head (hm t (by simp)).1
      cases l with
      | nil => simp [bodyS, hcu]
      | cons t' l => simp only [bodyS, hcu, List.length_append, List.length_cons] at hl ⊢; omega
  rw [ht]
  obtain ⟨m, e', h1, h2, h3, h4, h5⟩ := toks_body m0 (([10, 32] ++ bodyS m0 ++ [9]).length + 1) 0 [10, 32] hm rfl (by simp; omega)
  refine ⟨m ++ [e'], h1, ?_, ?_⟩
  · have app : ∀ {a b : List Tok}, Alikes a b → Alikes (a ++ [e]) (b ++ [e']) := by
      intro a
      induction a with
      | nil => intro b hb; cases b with
        | nil => exact ⟨⟨by rw [he, h2], by rw [hn, h3], by rw [hs, h4]⟩, trivial⟩
        | cons => exact hb.elim
      | cons x a ih => intro b hb; cases b with
        | nil => exact hb.elim
        | cons y b => exact ⟨hb.1, ih hb.2⟩
    exact app h5
  · rw [text_body h2 (alike_ok h5 hm), alike_body h5]
end Go.Abs

namespace Go.Abs
set_option linter.unusedSimpArgs false
set_option linter.unusedVariables false
open Go

abbrev PR (α : Type) := Option α × List Tok

def isT (s : List UInt8) : List Tok → Bool
  | [] => false
  | t :: _ => (decide (t.kind = 1) || decide (t.kind = 5)) && decide (t.s = s)
def topK : List Tok → Int
  | [] => 0
  | t :: _ => t.kind
def topAt : List Tok → Int
  | [] => 0
  | t :: _ => t.at_

/- and then -/
def thenP {α β : Type} (x : PR α) (f : α → List Tok → PR β) : PR β :=
  match x with
  | (none, r) => (none, r)
  | (some a, r) => f a r

def needP (s : List UInt8) (l : List Tok) : PR Unit := if isT s l then (some (), l.tail) else (none, l)
def maybeP (s : List UInt8) (l : List Tok) : Bool × List Tok := if isT s l then (true, l.tail) else (false, l)
/- which one of some, from 1 on; 0: none -/
def oneP : List (List UInt8) → List Tok → Nat × List Tok
  | [], l => (0, l)
  | s :: r, l => if isT s l then (1, l.tail) else match oneP r l with
    | (0, l') => (0, l')
    | (n + 1, l') => (n + 2, l')
def oneOfP (ss : List (List UInt8)) (l : List Tok) : PR Nat :=
  match oneP ss l with
  | (0, l') => (none, l')
  | (n + 1, l') => (some (n + 1), l')
def nameP : List Tok → PR (List UInt8)
  | [] => (none, [])
  | t :: r => if t.kind = 2 then (some t.s, r) else (none, t :: r)

/- one and more, with commas between -/
def listP {α : Type} (f : List Tok → PR α) : Nat → List Tok → PR (List α)
  | 0, l => (none, l)
  | n + 1, l => thenP (f l) fun a r => if isT [44] r then thenP (listP f n r.tail) fun xs r' => (some (a :: xs), r') else (some [a], r)

def xval (v : Val) : Xp := .mk oValue v [] [] []
def xop (s : List UInt8) (kids : List Xp) : Xp := .mk s Val.zero [] [] kids

/- ops between parts -/
def opAt : List (List UInt8 × List UInt8) → List Tok → Option (List UInt8)
  | [], _ => none
  | (s, o) :: r, l => if isT s l then some o else opAt r l
def moreP (part : List Tok → PR Xp) (tbl : List (List UInt8 × List UInt8)) : Nat → Xp → List Tok → PR Xp
  | 0, _, l => (none, l)
  | n + 1, e, l => match opAt tbl l with
    | none => (some e, l)
    | some o => thenP (part l.tail) fun f r => moreP part tbl n (xop o [e, f]) r
def chainP (part : List Tok → PR Xp) (tbl : List (List UInt8 × List UInt8)) (l : List Tok) : PR Xp :=
  thenP (part l) fun e r => moreP part tbl (r.length + 1) e r

def parenP (or : List Tok → PR Xp) (l : List Tok) : PR Xp :=
  thenP (or l) fun e r => if isT [41] r then (some e, r.tail) else (none, r)
def atomP (or : List Tok → PR Xp) : List Tok → PR Xp
  | [] => (none, [])
  | t :: r =>
    if t.kind = 3 then (some (xval ⟨2, t.n, []⟩), r)
    else if t.kind = 4 then (some (xval ⟨3, 0, t.s⟩), r)
    else if t.kind = 2 then
      if isT [46] r then thenP (nameP r.tail) fun c r' => (some (.mk oColumn Val.zero t.s c []), r')
      else (some (.mk oColumn Val.zero [] t.s []), r)
    else if isT [78, 85, 76, 76] (t :: r) then (some (xval Val.zero), r)
    else if isT [70, 65, 76, 83, 69] (t :: r) then (some (xval ⟨1, 0, []⟩), r)
    else if isT [84, 82, 85, 69] (t :: r) then (some (xval ⟨1, 1, []⟩), r)
    else if isT [40] (t :: r) then parenP or r
    else (none, t :: r)
def unaryP (or : List Tok → PR Xp) : Nat → List Tok → PR Xp
  | 0, l => (none, l)
  | k + 1, l => if isT [45] l then thenP (unaryP or k l.tail) fun e r => (some (xop oNeg [e]), r) else atomP or l
def termTbl : List (List UInt8 × List UInt8) := [([42], [42])]
def sumTbl : List (List UInt8 × List UInt8) := [([43], [43]), ([45], [45])]
def cmpTbl : List (List UInt8 × List UInt8) := [([61], [61]), ([60, 62], [60, 62]), ([60], [60]), ([60, 61], [60, 61]), ([62], [62]), ([62, 61], [62, 61])]
def andTbl : List (List UInt8 × List UInt8) := [([65, 78, 68], oAnd)]
def orTbl : List (List UInt8 × List UInt8) := [([79, 82], oOr)]
def isP (e : Xp) (l : List Tok) : PR Xp :=
  if isT [73, 83] l then
    match maybeP [78, 79, 84] l.tail with
    | (b, r) => thenP (needP [78, 85, 76, 76] r) fun _ r' => (some (if b = true then xop oNot [xop oNull [e]] else xop oNull [e]), r')
  else (some e, l)
def cmpP (sum : List Tok → PR Xp) (l : List Tok) : PR Xp :=
  thenP (sum l) fun e r => match opAt cmpTbl r with
    | some o => thenP (sum r.tail) fun f r' => (some (xop o [e, f]), r')
    | none => isP e r
def notP (cmp : List Tok → PR Xp) : Nat → List Tok → PR Xp
  | 0, l => (none, l)
  | k + 1, l => if isT [78, 79, 84] l then thenP (notP cmp k l.tail) fun e r => (some (xop oNot [e]), r) else cmp l
def unaryL (or : List Tok → PR Xp) (l : List Tok) : PR Xp := unaryP or (l.length + 1) l
def termP (or : List Tok → PR Xp) : List Tok → PR Xp := chainP (unaryL or) termTbl
def sumP (or : List Tok → PR Xp) : List Tok → PR Xp := chainP (termP or) sumTbl
def notL (or : List Tok → PR Xp) (l : List Tok) : PR Xp := notP (cmpP (sumP or)) (l.length + 1) l
def andP (or : List Tok → PR Xp) : List Tok → PR Xp := chainP (notL or) andTbl
def orP : Nat → List Tok → PR Xp
  | 0, l => (none, l)
  | n + 1, l => chainP (andP (orP n)) orTbl l
def exprP (l : List Tok) : PR Xp := orP (l.length + 1) l

/- statements -/
def whereP (l : List Tok) : PR (List Xp) :=
  if isT [87, 72, 69, 82, 69] l then thenP (exprP l.tail) fun e r => (some [e], r) else (some [], l)
def varP (l : List Tok) : List UInt8 × List Tok :=
  match l with
  | [] => ([], [])
  | t :: r => if t.kind = 2 then (t.s, r) else ([], t :: r)
def sourceP (l : List Tok) : PR Src :=
  match oneP [[73, 78, 83, 69, 82, 84, 69, 68], [68, 69, 76, 69, 84, 69, 68], [79, 76, 68], [78, 69, 87]] l with
  | (0, r) => thenP (nameP r) fun t r' => (some ⟨0, t, (varP r').1⟩, (varP r').2)
  | (n + 1, r) => (some ⟨n + 1, [], (varP r).1⟩, (varP r).2)
def itemsP (l : List Tok) : PR (List Xp) := if isT [42] l then (some [], l.tail) else listP exprP (l.length + 1) l
structure Qry where
  items : List Xp
  src : List Src
  wher : List Xp
def queryP (l : List Tok) : PR Qry :=
  thenP (needP [83, 69, 76, 69, 67, 84] l) fun _ r => thenP (itemsP r) fun is r => thenP (needP [70, 82, 79, 77] r) fun _ r =>
  thenP (listP sourceP (r.length + 1) r) fun ss r => thenP (whereP r) fun w r => (some ⟨is, ss, w⟩, r)
def setP (l : List Tok) : PR SetE :=
  thenP (nameP l) fun c r => thenP (needP [61] r) fun _ r => thenP (exprP r) fun e r => (some ⟨c, e⟩, r)
def StB.zero : StB := ⟨0, [], [], [], [], [], [], [], [], [], 0, 0, false, false⟩
def insP (l : List Tok) : PR StB :=
  thenP (needP [73, 78, 84, 79] l) fun _ r => thenP (nameP r) fun t r =>
  if isT [86, 65, 76, 85, 69, 83] r then
    thenP (needP [40] r.tail) fun _ r => thenP (listP exprP (r.length + 1) r) fun vs r => thenP (needP [41] r) fun _ r =>
      (some { StB.zero with kind := 12, table := t, values := vs }, r)
  else thenP (queryP r) fun q r => (some { StB.zero with kind := 12, table := t, items := q.items, src := q.src, wher := q.wher }, r)
def updP (l : List Tok) : PR StB :=
  thenP (nameP l) fun t r => thenP (needP [83, 69, 84] r) fun _ r => thenP (listP setP (r.length + 1) r) fun ss r => thenP (whereP r) fun w r =>
    (some { StB.zero with kind := 13, table := t, sets := ss, wher := w }, r)
def delP (l : List Tok) : PR StB :=
  thenP (needP [70, 82, 79, 77] l) fun _ r => thenP (nameP r) fun t r => thenP (whereP r) fun w r => (some { StB.zero with kind := 14, table := t, wher := w }, r)
/- an act, if the next token begins one -/
def actP (l : List Tok) : PR (Option StB) :=
  if isT [73, 78, 83, 69, 82, 84] l then thenP (insP l.tail) fun b r => (some (some b), r)
  else if isT [85, 80, 68, 65, 84, 69] l then thenP (updP l.tail) fun b r => (some (some b), r)
  else if isT [68, 69, 76, 69, 84, 69] l then thenP (delP l.tail) fun b r => (some (some b), r)
  else (some none, l)
def typeP (l : List Tok) : PR Nat := oneOfP [[66, 79, 79, 76], [73, 78, 84], [84, 69, 88, 84]] l
def columnP (l : List Tok) : PR Col :=
  thenP (nameP l) fun n r => thenP (typeP r) fun t r =>
  if isT [78, 79, 84] r then thenP (needP [78, 85, 76, 76] r.tail) fun _ r => (some ⟨n, t, true, (maybeP [85, 78, 73, 81, 85, 69] r).1⟩, (maybeP [85, 78, 73, 81, 85, 69] r).2)
  else (some ⟨n, t, false, (maybeP [85, 78, 73, 81, 85, 69] r).1⟩, (maybeP [85, 78, 73, 81, 85, 69] r).2)
def numP : List Tok → PR Int
  | [] => (none, [])
  | t :: r => if t.kind = 3 then (some t.n, r) else (none, t :: r)
/- acts with a semicolon between -/
def actsP : Nat → List Tok → PR (List Stm)
  | 0, l => (none, l)
  | n + 1, l => thenP (actP l) fun o r => match o with
    | none => (none, r)
    | some b => if isT [59] r then thenP (actsP n r.tail) fun xs r' => (some (.mk b [] :: xs), r') else (some [.mk b []], r)
def whenP (l : List Tok) : PR (List Src × List Xp) :=
  thenP (oneOfP [[65, 76, 87, 65, 89, 83], [87, 72, 69, 78]] l) fun n r =>
  if n = 2 then thenP (listP sourceP (r.length + 1) r) fun ss r => thenP (whereP r) fun w r => (some (ss, w), r) else (some ([], []), r)
def doP (l : List Tok) : PR (Option (List Stm)) :=
  thenP (needP [68, 79] l) fun _ r => if isT [82, 79, 76, 76, 66, 65, 67, 75] r then (some none, r.tail) else
  thenP (actsP (r.length + 1) r) fun xs r => thenP (needP [69, 78, 68] r) fun _ r => (some (some xs), r)
def ruleP (n : List UInt8) (l : List Tok) : PR Stm :=
  thenP (needP [80, 82, 73, 79, 82, 73, 84, 89] l) fun _ r => thenP (numP r) fun p r => thenP (needP [79, 78] r) fun _ r => thenP (oneOfP [[73, 78, 83, 69, 82, 84], [68, 69, 76, 69, 84, 69], [85, 80, 68, 65, 84, 69]] r) fun e r =>
  thenP (needP [84, 79] r) fun _ r => thenP (nameP r) fun t r => thenP (whenP (maybeP [68, 69, 70, 69, 82, 82, 69, 68] r).2) fun w r' => thenP (doP r') fun d r' =>
    (some (.mk { StB.zero with kind := 8, name := n, table := t, src := w.1, wher := w.2, prio := p, event := e, deferred := (maybeP [68, 69, 70, 69, 82, 82, 69, 68] r).1, rolls := d.isNone } (d.getD [])), r')
def whatP (l : List Tok) : PR Nat := oneOfP [[84, 65, 66, 76, 69], [73, 78, 68, 69, 88], [82, 85, 76, 69]] l
def createP (l : List Tok) : PR Stm :=
  thenP (whatP l) fun k r => thenP (nameP r) fun n r =>
  if k = 1 then thenP (needP [40] r) fun _ r => thenP (listP columnP (r.length + 1) r) fun cs r => thenP (needP [41] r) fun _ r =>
    (some (.mk { StB.zero with kind := 6, name := n, cols := cs } []), r)
  else if k = 2 then thenP (needP [79, 78] r) fun _ r => thenP (nameP r) fun t r => thenP (needP [40] r) fun _ r => thenP (nameP r) fun c r => thenP (needP [41] r) fun _ r =>
    (some (.mk { StB.zero with kind := 7, name := n, table := t, col := c } []), r)
  else ruleP n r
def dropP (l : List Tok) : PR Stm := thenP (whatP l) fun k r => thenP (nameP r) fun n r => (some (.mk { StB.zero with kind := 8 + k, name := n } []), r)
def smallP (k : Nat) (r : List Tok) : PR Stm :=
  if k ≤ 3 then (some (.mk { StB.zero with kind := k } []), r)
  else if k = 4 then thenP (nameP r) fun n r => (some (.mk { StB.zero with kind := 4, name := n } []), r)
  else if k = 5 then thenP (needP [84, 79] r) fun _ r => thenP (nameP r) fun n r => (some (.mk { StB.zero with kind := 5, name := n } []), r)
  else if k = 6 then createP r else dropP r
def stmtP (l : List Tok) : PR Stm :=
  thenP (actP l) fun o r => match o with
  | some b => (some (.mk b []), r)
  | none => if isT [83, 69, 76, 69, 67, 84] r then thenP (queryP r) fun q r => (some (.mk { StB.zero with kind := 15, items := q.items, src := q.src, wher := q.wher } []), r)
    else thenP (oneOfP [[66, 69, 71, 73, 78], [67, 79, 77, 77, 73, 84], [65, 66, 79, 82, 84], [83, 65, 86, 69, 80, 79, 73, 78, 84], [82, 79, 76, 76, 66, 65, 67, 75], [67, 82, 69, 65, 84, 69], [68, 82, 79, 80]] r) fun k r => smallP k r

/- a text -/
def Stm.zero : Stm := .mk StB.zero []
def Xp.zero : Xp := .mk [] Val.zero [] [] []
def readP {α : Type} (p : List Tok → PR α) (right : α → Bool) (zero : α) (s : List UInt8) : α × Int × Int :=
  if 2000 < s.length then (zero, 8, 0)
  else match toksS (s.length + 1) 0 s with
    | .error e => (zero, 1, e)
    | .ok l => match p l with
      | (none, r) => (zero, 1, topAt r)
      | (some x, r) => if topK r = 0 then (if right x then (x, 0, 0) else (zero, 8, 0)) else (zero, 1, topAt r)
def parseS (s : List UInt8) : Stm × Int × Int := readP stmtP rightStm Stm.zero s
def parseXS (s : List UInt8) : Xp × Int × Int := readP exprP (rightE 20) Xp.zero s
end Go.Abs

