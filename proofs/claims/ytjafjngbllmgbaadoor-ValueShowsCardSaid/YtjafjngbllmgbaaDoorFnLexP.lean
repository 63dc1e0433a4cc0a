/- Plain: the text of tokens is cut into these again. -/
import Derived.Test.YtjafjngbllmgbaaDoorFnLexS
import Derived.Test.YtjafjngbllmgbaaDoorFnOneByte
import Derived.Lib.Join
namespace Go.Abs
set_option linter.unusedSimpArgs false
set_option linter.unusedVariables false
open Go

def showTok (t : Tok) : List UInt8 := if t.kind = 3 then Lib.itoa t.n else if t.kind = 4 then 39 :: (quoteE t.s ++ [39]) else t.s
def textS (l : List Tok) : List UInt8 := Lib.join ((l.filter fun t => decide (1 ≤ t.kind ∧ t.kind ≤ 5)).map showTok) [32]

/- what a token is -/
inductive OkTok : Tok → Prop where
  | word (p : Int) (w : List UInt8) : allB isCap w = true → OkTok ⟨1, 0, p, w⟩
  | name (p : Int) (w : List UInt8) : nameS w = true → OkTok ⟨2, 0, p, w⟩
  | num (p : Int) (u : Nat) : u ≤ 9223372036854775807 → OkTok ⟨3, u, p, []⟩
  | str (p : Int) (a : List UInt8) : a.length ≤ 24 → OkTok ⟨4, 0, p, a⟩
  | sym1 (p : Int) (c : UInt8) : [60, 62, 61, 43, 45, 42, 40, 41, 44, 46, 59].contains c = true → OkTok ⟨5, 0, p, [c]⟩
  | sym2 (p : Int) (c d : UInt8) : (c = 60 ∧ d = 62 ∨ c = 60 ∧ d = 61 ∨ c = 62 ∧ d = 61) → OkTok ⟨5, 0, p, [c, d]⟩

theorem name_notcap {w : List UInt8} (h : nameS w = true) : allB isCap w = false := by
  cases w with
  | nil => rfl
  | cons c r =>
    simp only [nameS, Bool.and_eq_true, isLow, decide_eq_true_eq, UInt8.le_iff_toNat_le] at h
    have h1 : 97 ≤ c.toNat := h.1.1.1
    have : isCap c = false := by
      simp only [isCap, Bool.and_eq_false_iff, decide_eq_false_iff_not, UInt8.le_iff_toNat_le]
      right
      have : (90 : UInt8).toNat = 90 := rfl
      omega
    simp [allB, this]
theorem dig_notcap {w : List UInt8} (h : allB isDig w = true) : allB isCap w = false ∧ nameS w = false := by
  cases w with
  | nil => exact ⟨rfl, rfl⟩
  | cons c r =>
    simp only [allB, List.all_cons, Bool.and_eq_true, isDig, decide_eq_true_eq, UInt8.le_iff_toNat_le] at h
    have h1 : c.toNat ≤ 57 := h.1.1.2
    have e1 : (65 : UInt8).toNat = 65 := rfl
    have e2 : (97 : UInt8).toNat = 97 := rfl
    have a : isCap c = false := by
      simp only [isCap, Bool.and_eq_false_iff, decide_eq_false_iff_not, UInt8.le_iff_toNat_le]
      left; omega
    have b : isLow c = false := by
      simp only [isLow, Bool.and_eq_false_iff, decide_eq_false_iff_not, UInt8.le_iff_toNat_le]
      left; omega
    exact ⟨by simp [allB, a], by simp [nameS, b]⟩

theorem run_ok {p : Int} {w : List UInt8} {t : Tok} (h : runS p w = some t) : OkTok t := by
  unfold runS at h
  split at h
  · rename_i hc; cases h; exact .word p w hc
  · split at h
    · rename_i hc; cases h; exact .name p w hc
    · split at h
      · rename_i hc; cases h; exact .num p _ hc.2
      · cases h
theorem tok_ok {p : Nat} {r : List UInt8} {t : Tok} {u : List UInt8} (h : tokS p r = .ok (t, u)) : t.kind = 0 ∧ t = ⟨0, 0, p, []⟩ ∨ OkTok t := by
  cases r with
  | nil => simp only [tokS, Except.ok.injEq, Prod.mk.injEq] at h; left; rw [← h.1]; exact ⟨rfl, rfl⟩
  | cons c r =>
    right
    simp only [tokS] at h
    split at h
    · split at h
      · rename_i k hk
        simp only [Except.ok.injEq, Prod.mk.injEq] at h
        rw [← h.1]; exact run_ok hk
      · cases h
    · split at h
      · split at h
        · split at h
          · rename_i a u' _ hl
            simp only [Except.ok.injEq, Prod.mk.injEq] at h
            rw [← h.1]; exact .str _ _ hl
          · cases h
        · cases h
      · split at h
        · cases h
        · rename_i hs
          simp only [Except.ok.injEq, Prod.mk.injEq] at h
          rw [← h.1]
          match r, hs with
          | [], hs =>
            simp only [symS] at hs ⊢
            by_cases hc : [60, 62, 61, 43, 45, 42, 40, 41, 44, 46, 59].contains c = true
            · rw [if_pos hc]; exact .sym1 _ _ hc
            · rw [if_neg hc] at hs; exact absurd rfl hs
          | d :: r, hs =>
            simp only [symS] at hs ⊢
            by_cases h2 : c = 60 ∧ d = 62 ∨ c = 60 ∧ d = 61 ∨ c = 62 ∧ d = 61
            · rw [if_pos h2]; exact .sym2 _ _ _ h2
            · rw [if_neg h2] at hs ⊢
              by_cases hc : [60, 62, 61, 43, 45, 42, 40, 41, 44, 46, 59].contains c = true
              · rw [if_pos hc]; exact .sym1 _ _ hc
              · rw [if_neg hc] at hs; exact absurd rfl hs

/- what stands behind a token of a text that was written -/
def Fol (r : List UInt8) : Prop := ∃ t, r = 32 :: t ∨ r = 9 :: t

theorem run_take {w r : List UInt8} (hw : w.all isRun = true) (hr : Fol r) : (w ++ r).takeWhile isRun = w ∧ (w ++ r).dropWhile isRun = r := by
  have h0 : r.takeWhile isRun = [] ∧ r.dropWhile isRun = r := by
    obtain ⟨t, rfl | rfl⟩ := hr <;> exact ⟨rfl, rfl⟩
  induction w with
  | nil => simpa using h0
  | cons c w ih =>
    simp only [List.all_cons, Bool.and_eq_true] at hw
    have := ih hw.2
    simp [List.takeWhile_cons, List.dropWhile_cons, hw.1, this]
theorem cap_run {w : List UInt8} (h : allB isCap w = true) : w.all isRun = true ∧ w ≠ [] := by
  simp only [allB, Bool.and_eq_true, Bool.not_eq_true', List.isEmpty_eq_false_iff] at h
  refine ⟨List.all_eq_true.2 fun c hc => ?_, h.2⟩
  have := List.all_eq_true.1 h.1 c hc
  simp [isRun, this]
theorem dig_run {w : List UInt8} (h : allB isDig w = true) : w.all isRun = true ∧ w ≠ [] := by
  simp only [allB, Bool.and_eq_true, Bool.not_eq_true', List.isEmpty_eq_false_iff] at h
  refine ⟨List.all_eq_true.2 fun c hc => ?_, h.2⟩
  have := List.all_eq_true.1 h.1 c hc
  simp [isRun, this]
theorem name_run {w : List UInt8} (h : nameS w = true) : w.all isRun = true ∧ w ≠ [] := by
  cases w with
  | nil => cases h
  | cons c r =>
    simp only [nameS, Bool.and_eq_true] at h
    refine ⟨?_, by simp⟩
    simp only [List.all_cons, Bool.and_eq_true]
    refine ⟨by simp [isRun, h.1.1], List.all_eq_true.2 fun d hd => ?_⟩
    have := List.all_eq_true.1 h.1.2 d hd
    simp only [Bool.or_eq_true] at this
    rcases this with (h | h) | h <;> simp [isRun, h]
theorem tok_run {p : Nat} {w r : List UInt8} (hw : w.all isRun = true) (hn : w ≠ []) (hr : Fol r) {t : Tok} (ht : runS p w = some t) : tokS p (w ++ r) = .ok (t, r) := by
  have ⟨h1, h2⟩ := run_take hw hr
  cases w with
  | nil => exact absurd rfl hn
  | cons c w =>
    simp only [List.all_cons, Bool.and_eq_true] at hw
    rw [List.cons_append] at h1 h2 ⊢
    simp only [tokS, hw.1, if_true, h1, h2, ht]

theorem quote_back : ∀ (s acc r : List UInt8), Fol r → Go.Abs.quoteS acc (quoteE s ++ 39 :: r) = some (acc ++ s, r)
  | [], acc, r, hr => by
    obtain ⟨t, rfl | rfl⟩ := hr <;> simp [quoteE, quoteS]
  | b :: s, acc, r, hr => by
    have e : quoteE (b :: s) = (if b = 39 then [39, 39] else [b]) ++ quoteE s := rfl
    rw [e]
    by_cases h : b = 39
    · subst h
      simp only [if_true, List.cons_append, List.nil_append, quoteS]
      rw [quote_back s _ r hr]; simp
    · have hne : ∃ d u, quoteE s ++ 39 :: r = d :: u := by
        cases hs : quoteE s with
        | nil => exact ⟨39, r, rfl⟩
        | cons d u => exact ⟨d, u ++ 39 :: r, rfl⟩
      obtain ⟨d, u, hdu⟩ := hne
      simp only [if_neg h, List.cons_append, List.nil_append, hdu, quoteS]
      rw [← hdu, quote_back s _ r hr]; simp

def Tok.to (t : Tok) (p : Int) : Tok := { t with at_ := p }
theorem sym_not (c : UInt8) (h : [60, 62, 61, 43, 45, 42, 40, 41, 44, 46, 59].contains c = true) : isRun c = false ∧ ¬ c = 39 ∧ isBlk c = false := by
  simp only [List.contains_cons, List.contains_nil, Bool.or_false, Bool.or_eq_true, beq_iff_eq] at h
  rcases h with h | h | h | h | h | h | h | h | h | h | h <;> subst h <;> decide
theorem tok_back {t : Tok} (h : OkTok t) (p : Nat) (r : List UInt8) (hr : Fol r) : tokS p (showTok t ++ r) = .ok (t.to p, r) := by
  cases h with
  | word q w hw =>
    have ⟨h1, h2⟩ := cap_run hw
    exact tok_run h1 h2 hr (by simp [runS, hw, Tok.to])
  | name q w hw =>
    have ⟨h1, h2⟩ := name_run hw
    exact tok_run h1 h2 hr (by simp [runS, name_notcap hw, hw, Tok.to])
  | num q u hu =>
    have ⟨h1, h2⟩ := dec_digits u
    have ⟨h3, h4⟩ := dig_run h1
    have ⟨h5, h6⟩ := dig_notcap h1
    have e : showTok ⟨3, u, q, []⟩ = Lib.decDigits u := by
      simp only [showTok, if_true, Lib.itoa]
      rw [if_neg (by omega)]; rfl
    rw [e]
    exact tok_run h3 h4 hr (by simp [runS, h1, h2, h5, h6, hu, Tok.to])
  | str q a ha =>
    have e : showTok ⟨4, 0, q, a⟩ = 39 :: (quoteE a ++ [39]) := by simp [showTok]
    have hq := quote_back a [] r hr
    rw [e, List.cons_append, List.append_assoc]
    have h39 : isRun 39 = false := rfl
    simp only [List.cons_append, List.nil_append] at hq ⊢
    simp [tokS, h39, hq, ha, Tok.to]
  | sym1 q c hc =>
    have ⟨h1, h2, _⟩ := sym_not c hc
    have e : showTok ⟨5, 0, q, [c]⟩ = [c] := by simp [showTok]
    rw [e]
    have hs : symS (c :: r) = 1 := by
      obtain ⟨t, rfl | rfl⟩ := hr
      · have : ¬ (c = 60 ∧ (32 : UInt8) = 62 ∨ c = 60 ∧ (32 : UInt8) = 61 ∨ c = 62 ∧ (32 : UInt8) = 61) := by
          rintro (⟨_, h⟩ | ⟨_, h⟩ | ⟨_, h⟩) <;> revert h <;> decide
        rw [symS, if_neg this, if_pos hc]
      · have : ¬ (c = 60 ∧ (9 : UInt8) = 62 ∨ c = 60 ∧ (9 : UInt8) = 61 ∨ c = 62 ∧ (9 : UInt8) = 61) := by
          rintro (⟨_, h⟩ | ⟨_, h⟩ | ⟨_, h⟩) <;> revert h <;> decide
        rw [symS, if_neg this, if_pos hc]
    simp only [List.cons_append, List.nil_append, tokS, h1, Bool.false_eq_true, if_false, if_neg h2, hs]
    simp [Tok.to]
  | sym2 q c d hcd =>
    have hc : isRun c = false ∧ ¬ c = 39 := by rcases hcd with ⟨rfl, rfl⟩ | ⟨rfl, rfl⟩ | ⟨rfl, rfl⟩ <;> decide
    have e : showTok ⟨5, 0, q, [c, d]⟩ = [c, d] := by simp [showTok]
    rw [e]
    have hs : symS (c :: d :: r) = 2 := by rw [symS, if_pos hcd]
    simp only [List.cons_append, List.nil_append, tokS, hc.1, Bool.false_eq_true, if_false, if_neg hc.2, hs]
    simp [Tok.to]
theorem show_head {t : Tok} (h : OkTok t) : ∃ c u, showTok t = c :: u ∧ isBlk c = false := by
  have blk : ∀ {c : UInt8}, isRun c = true → isBlk c = false := fun {c} hc => by
    simp only [isBlk, Bool.or_eq_false_iff, beq_eq_false_iff_ne]
    refine ⟨⟨?_, ?_⟩, ?_⟩ <;> rintro rfl <;> revert hc <;> decide
  have run : ∀ {w : List UInt8}, w.all isRun = true → w ≠ [] → ∃ c u, w = c :: u ∧ isBlk c = false := fun {w} h1 h2 => by
    cases w with
    | nil => exact absurd rfl h2
    | cons c u => simp only [List.all_cons, Bool.and_eq_true] at h1; exact ⟨c, u, rfl, blk h1.1⟩
  cases h with
  | word q w hw => have ⟨h1, h2⟩ := cap_run hw; exact run h1 h2
  | name q w hw => have ⟨h1, h2⟩ := name_run hw; exact run h1 h2
  | num q u hu =>
    have ⟨h3, h4⟩ := dig_run (dec_digits u).1
    have e : showTok ⟨3, u, q, []⟩ = Lib.decDigits u := by
      simp only [showTok, if_true, Lib.itoa]
      rw [if_neg (by omega)]; rfl
    rw [e]; exact run h3 h4
  | str q a ha => exact ⟨39, _, by simp [showTok]; rfl, rfl⟩
  | sym1 q c hc => exact ⟨c, [], by simp [showTok], (sym_not c hc).2.2⟩
  | sym2 q c d hcd => exact ⟨c, [d], by simp [showTok], by rcases hcd with ⟨rfl, rfl⟩ | ⟨rfl, rfl⟩ | ⟨rfl, rfl⟩ <;> decide⟩
theorem next_blank {b : List UInt8} (hb : b.all isBlk = true) (p : Nat) {c : UInt8} {r : List UInt8} (hc : isBlk c = false) : nextTok p (b ++ c :: r) = tokS (p + b.length) (c :: r) := by
  have h : (b ++ c :: r).takeWhile isBlk = b ∧ (b ++ c :: r).dropWhile isBlk = c :: r := by
    induction b with
    | nil => simp [List.takeWhile_cons, List.dropWhile_cons, hc]
    | cons d b ih =>
      simp only [List.all_cons, Bool.and_eq_true] at hb
      have := ih hb.2
      simp [List.takeWhile_cons, List.dropWhile_cons, hb.1, this]
  unfold nextTok blanks unblank
  rw [h.1, h.2]
theorem next_end {b : List UInt8} (hb : b.all isBlk = true) (p : Nat) : nextTok p b = .ok (⟨0, 0, (p + b.length : Nat), []⟩, []) := by
  have h : b.takeWhile isBlk = b ∧ b.dropWhile isBlk = [] := by
    induction b with
    | nil => exact ⟨rfl, rfl⟩
    | cons d b ih =>
      simp only [List.all_cons, Bool.and_eq_true] at hb
      have := ih hb.2
      simp [List.takeWhile_cons, List.dropWhile_cons, hb.1, this]
  unfold nextTok blanks unblank
  rw [h.1, h.2]; rfl

/- the tokens' text behind one another -/
def bodyS : List Tok → List UInt8
  | [] => []
  | [t] => showTok t
  | t :: u :: l => showTok t ++ 32 :: bodyS (u :: l)
def Alike (a b : Tok) : Prop := a.kind = b.kind ∧ a.n = b.n ∧ a.s = b.s
def Alikes : List Tok → List Tok → Prop
  | [], [] => True
  | a :: l, b :: m => Alike a b ∧ Alikes l m
  | _, _ => False
theorem toks_body : ∀ (l : List Tok) (f p : Nat) (b : List UInt8), (∀ t ∈ l, OkTok t ∧ t.kind ≠ 0) → b.all isBlk = true → l.length < f → ∃ m e, toksS f p (b ++ bodyS l ++ [9]) = .ok (m ++ [e]) ∧ e.kind = 0 ∧ e.n = 0 ∧ e.s = [] ∧ Alikes l m
  | [], f + 1, p, b, _, hb, _ => by
    have h9 : (b ++ [9]).all isBlk = true := by simp [hb, isBlk]
    refine ⟨[], ⟨0, 0, ((p + (b ++ [9]).length : Nat) : Int), []⟩, ?_, rfl, rfl, rfl, trivial⟩
    simp only [bodyS, List.append_nil, toksS, next_end h9, if_true, List.nil_append]
  | [t], f + 1, p, b, hl, hb, hf => by
    obtain ⟨ht, hk⟩ := hl t (by simp)
    obtain ⟨c, u, hcu, hc⟩ := show_head ht
    have hn : nextTok p (b ++ showTok t ++ [9]) = .ok (t.to (p + b.length : Nat), [9]) := by
      have := tok_back ht (p + b.length) [9] ⟨[], .inr rfl⟩
      rw [hcu] at this ⊢
      rw [List.append_assoc, List.cons_append, next_blank hb p hc]; exact this
    have hk' : ¬ (t.to (p + b.length : Nat)).kind = 0 := hk
    cases f with
    | zero => simp at hf
    | succ f =>
      have h9 : ([9] : List UInt8).all isBlk = true := rfl
      refine ⟨[t.to (p + b.length : Nat)], ⟨0, 0, ((p + ((b ++ showTok t ++ [9]).length - [9].length) + [9].length : Nat) : Int), []⟩, ?_, rfl, rfl, rfl, ⟨rfl, rfl, rfl⟩, trivial⟩
      · rw [bodyS, toksS, hn]
        simp only [if_neg hk']
        rw [toksS, next_end h9]
        simp
  | t :: t' :: l, f + 1, p, b, hl, hb, hf => by
    obtain ⟨ht, hk⟩ := hl t (by simp)
    obtain ⟨c, u, hcu, hc⟩ := show_head ht
    have hn : nextTok p (b ++ bodyS (t :: t' :: l) ++ [9]) = .ok (t.to (p + b.length : Nat), 32 :: (bodyS (t' :: l) ++ [9])) := by
      have := tok_back ht (p + b.length) (32 :: (bodyS (t' :: l) ++ [9])) ⟨_, .inl rfl⟩
      have e : b ++ bodyS (t :: t' :: l) ++ [9] = b ++ (showTok t ++ 32 :: (bodyS (t' :: l) ++ [9])) := by simp [bodyS]
      rw [e]
      rw [hcu] at this ⊢
      rw [List.cons_append, next_blank hb p hc]; exact this
    have hk' : ¬ (t.to (p + b.length : Nat)).kind = 0 := hk
    obtain ⟨m, e, h1, h2, h3, h4, h5⟩ := toks_body (t' :: l) f (p + ((b ++ bodyS (t :: t' :: l) ++ [9]).length - (32 :: (bodyS (t' :: l) ++ [9])).length)) [32] (fun x hx => hl x (by simp [hx])) rfl (by simp at hf ⊢; omega)
    refine ⟨t.to (p + b.length : Nat) :: m, e, ?_, h2, h3, h4, ⟨rfl, rfl, rfl⟩, h5⟩
    rw [toksS, hn]
    simp only [if_neg hk']
    have e2 : [32] ++ bodyS (t' :: l) ++ [9] = 32 :: (bodyS (t' :: l) ++ [9]) := by simp
    rw [e2] at h1
    rw [h1]; rfl

theorem join_body : ∀ l : List Tok, Lib.join (l.map showTok) [32] = bodyS l
  | [] => rfl
  | [t] => by simp [Lib.join_one, bodyS]
  | t :: u :: l => by
    have ih := join_body (u :: l)
    rw [bodyS, ← ih]
    simp only [List.map_cons, Lib.join, List.intercalate, List.intersperse, List.flatten_cons, List.cons_append, List.nil_append]
theorem toks_ok : ∀ (f p : Nat) (r : List UInt8) (l : List Tok), toksS f p r = .ok l → ∃ m e, l = m ++ [e] ∧ e.kind = 0 ∧ e.n = 0 ∧ e.s = [] ∧ ∀ t ∈ m, OkTok t ∧ t.kind ≠ 0
  | 0, p, r, l, h => by simp [toksS] at h
  | f + 1, p, r, l, h => by
    rw [toksS] at h
    cases hn : nextTok p r with
    | error e => rw [hn] at h; cases h
    | ok q =>
      obtain ⟨t, u⟩ := q
      rw [hn] at h
      simp only at h
      have hk := tok_ok (p := p + blanks r) (r := unblank r) hn
      split at h
      · rename_i h0
        simp only [Except.ok.injEq] at h
        refine ⟨[], t, by rw [← h]; rfl, h0, ?_, ?_, by simp⟩
        · rcases hk with ⟨_, e⟩ | hk
          · rw [e]
          · cases hk <;> simp at h0
        · rcases hk with ⟨_, e⟩ | hk
          · rw [e]
          · cases hk <;> simp at h0
      · rename_i h0
        cases ht : toksS f (p + (r.length - u.length)) u with
        | error e => rw [ht] at h; cases h
        | ok l' =>
          rw [ht] at h
          simp only [Except.ok.injEq] at h
          obtain ⟨m, e, h1, h2, h3, h4, h5⟩ := toks_ok _ _ _ _ ht
          refine ⟨t :: m, e, by rw [← h, h1]; rfl, h2, h3, h4, fun x hx => ?_⟩
          rcases List.mem_cons.1 hx with rfl | hx
          · rcases hk with ⟨e, _⟩ | hk
            · exact absurd e h0
            · exact ⟨hk, h0⟩
          · exact h5 x hx
theorem kinds {t : Tok} (h : OkTok t) : 1 ≤ t.kind ∧ t.kind ≤ 5 := by cases h <;> exact ⟨by simp, by simp⟩
theorem text_body {m : List Tok} {e : Tok} (he : e.kind = 0) (hm : ∀ t ∈ m, OkTok t ∧ t.kind ≠ 0) : textS (m ++ [e]) = bodyS m := by
  unfold textS
  have h1 : (m ++ [e]).filter (fun t => decide (1 ≤ t.kind ∧ t.kind ≤ 5)) = m := by
    rw [List.filter_append]
    have h2 : m.filter (fun t => decide (1 ≤ t.kind ∧ t.kind ≤ 5)) = m := List.filter_eq_self.2 fun t ht => decide_eq_true (kinds (hm t ht).1)
    have h3 : [e].filter (fun t => decide (1 ≤ t.kind ∧ t.kind ≤ 5)) = [] := by simp [he]
    rw [h2, h3, List.append_nil]
  rw [h1, join_body]
theorem alike_body : ∀ {l m : List Tok}, Alikes l m → bodyS l = bodyS m
  | [], [], _ => rfl
  | [a], [b], h => by
    obtain ⟨⟨h1, h2, h3⟩, _⟩ := h
    simp only [bodyS, showTok, h1, h2, h3]
  | a :: a' :: l, b :: b' :: m, h => by
    obtain ⟨⟨h1, h2, h3⟩, h4⟩ := h
    have := alike_body h4
    simp only [bodyS, showTok, h1, h2, h3, this]
  | [], _ :: _, h => h.elim
  | _ :: _, [], h => h.elim
  | [_], _ :: _ :: _, h => h.2.elim
  | _ :: _ :: _, [_], h => h.2.elim
theorem alike_ok : ∀ {l m : List Tok}, Alikes l m → (∀ t ∈ l, OkTok t ∧ t.kind ≠ 0) → ∀ t ∈ m, OkTok t ∧ t.kind ≠ 0
  | [], [], _, _, t, ht => by simp at ht
  | a :: l, b :: m, ⟨⟨h1, h2, h3⟩, h4⟩, h, t, ht => by
    rcases List.mem_cons.1 ht with rfl | ht
    · obtain ⟨ha, hk⟩ := h a (by simp)
      obtain ⟨k, n, p, s⟩ := t
      simp only at h1 h2 h3
      subst h1; subst h2; subst h3
      refine ⟨?_, hk⟩
      cases ha with
      | word q w hw => exact .word _ _ hw
      | name q w hw => exact .name _ _ hw
      | num q u hu => exact .num _ _ hu
      | str q a ha => exact .str _ _ ha
      | sym1 q c hc => exact .sym1 _ _ hc
      | sym2 q c d hcd => exact .sym2 _ _ _ hcd
    · exact alike_ok h4 (fun x hx => h x (by simp [hx])) t ht
  | [], _ :: _, h, _, _, _ => h.elim
  | _ :: _, [], h, _, _, _ => h.elim
theorem alikes_len : ∀ {l m : List Tok}, Alikes l m → l.length = m.length
  | [], [], _ => rfl
  | _ :: _, _ :: _, h => by simp [alikes_len h.2]
  | [], _ :: _, h => h.elim
  | _ :: _, [], h => h.elim
/- the law -/
theorem lex_back {s : List UInt8} {l : List Tok} (h : toksS (s.length + 1) 0 s = .ok l) :
    ∃ m, toksS (([10, 32] ++ textS l ++ [9]).length + 1) 0 ([10, 32] ++ textS l ++ [9]) = .ok m ∧ Alikes l m ∧ textS m = textS l := by
  obtain ⟨m0, e, rfl, he, hn, hs, hm⟩ := toks_ok _ _ _ _ h
  have ht := text_body he hm
  have hlen : m0.length ≤ (bodyS m0).length := by
    clear h ht
    induction m0 with
    | nil => simp
    | cons t l ih =>
      have hl := ih (fun x hx => hm x (by simp [hx]))
      obtain ⟨c, u, hcu, _⟩ := show_head (hm t (by simp)).1
      cases l with
      | nil => simp [bodyS, hcu]
      | cons t' l => simp only [bodyS, hcu, List.length_append, List.length_cons] at hl ⊢; omega
  rw [ht]
  obtain ⟨m, e', h1, h2, h3, h4, h5⟩ := toks_body m0 (([10, 32] ++ bodyS m0 ++ [9]).length + 1) 0 [10, 32] hm rfl (by simp; omega)
  refine ⟨m ++ [e'], h1, ?_, ?_⟩
  · have app : ∀ {a b : List Tok}, Alikes a b → Alikes (a ++ [e]) (b ++ [e']) := by
      intro a
      induction a with
      | nil => intro b hb; cases b with
        | nil => exact ⟨⟨by rw [he, h2], by rw [hn, h3], by rw [hs, h4]⟩, trivial⟩
        | cons => exact hb.elim
      | cons x a ih => intro b hb; cases b with
        | nil => exact hb.elim
        | cons y b => exact ⟨hb.1, ih hb.2⟩
    exact app h5
  · rw [text_body h2 (alike_ok h5 hm), alike_body h5]
end Go.Abs
