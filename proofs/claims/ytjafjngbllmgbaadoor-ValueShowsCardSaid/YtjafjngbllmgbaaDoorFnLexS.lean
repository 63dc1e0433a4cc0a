/- Plain: how a text is cut into tokens. -/
import Derived.Lib.ParseIntB
import Derived.Lib.ItoaNum
namespace Go.Abs
set_option linter.unusedSimpArgs false
set_option linter.unusedVariables false
open Go

structure Tok where
  kind : Int
  n : Int
  at_ : Int
  s : List UInt8
  deriving DecidableEq

def isDig (c : UInt8) : Bool := 48 ≤ c && c ≤ 57
def isCap (c : UInt8) : Bool := 65 ≤ c && c ≤ 90
def isLow (c : UInt8) : Bool := 97 ≤ c && c ≤ 122
def isRun (c : UInt8) : Bool := isDig c || isCap c || isLow c || c == 95
def isBlk (c : UInt8) : Bool := c == 32 || c == 9 || c == 10
def allB (p : UInt8 → Bool) (s : List UInt8) : Bool := s.all p && !s.isEmpty
def nameS (s : List UInt8) : Bool :=
  match s with
  | [] => false
  | c :: r => isLow c && r.all (fun c => isLow c || isDig c || c == 95) && decide (r.length + 1 ≤ 16)

/- the number of digits -/
def digN (c : UInt8) : Nat := c.toNat - 48
def decF (n : Nat) : List UInt8 → Nat
  | [] => n
  | c :: l => decF (n * 10 + digN c) l
def decS (s : List UInt8) : Nat := decF 0 s

/- the token of a run -/
def runS (at_ : Int) (w : List UInt8) : Option Tok :=
  if allB isCap w then some ⟨1, 0, at_, w⟩
  else if nameS w then some ⟨2, 0, at_, w⟩
  else if allB isDig w ∧ decS w ≤ 9223372036854775807 then some ⟨3, decS w, at_, []⟩ else none

/- a text behind its first quote: what it holds, what is left -/
def quoteS : List UInt8 → List UInt8 → Option (List UInt8 × List UInt8)
  | _, [] => none
  | acc, [c] => if c = 39 then some (acc, []) else none
  | acc, c :: d :: r => if c = 39 then (if d = 39 then quoteS (acc ++ [39]) r else some (acc, d :: r)) else quoteS (acc ++ [c]) (d :: r)

def symS (r : List UInt8) : Nat :=
  match r with
  | [] => 0
  | [c] => if [60, 62, 61, 43, 45, 42, 40, 41, 44, 46, 59].contains c then 1 else 0
  | c :: d :: _ => if c = 60 ∧ d = 62 ∨ c = 60 ∧ d = 61 ∨ c = 62 ∧ d = 61 then 2 else if [60, 62, 61, 43, 45, 42, 40, 41, 44, 46, 59].contains c then 1 else 0

/- the next token of a text without blanks ahead, from a place on: what it is, what is left; an error: none stands there -/
def tokS (p : Nat) (r : List UInt8) : Except Nat (Tok × List UInt8) :=
  match r with
  | [] => .ok (⟨0, 0, p, []⟩, [])
  | c :: t =>
    if isRun c then (match runS p ((c :: t).takeWhile isRun) with
      | some k => .ok (k, (c :: t).dropWhile isRun)
      | none => .error p)
    else if c = 39 then (match quoteS [] t with
      | some (a, u) => if a.length ≤ 24 then .ok (⟨4, 0, p, a⟩, u) else .error p
      | none => .error p)
    else if symS (c :: t) = 0 then .error p else .ok (⟨5, 0, p, (c :: t).take (symS (c :: t))⟩, (c :: t).drop (symS (c :: t)))
def blanks (r : List UInt8) : Nat := (r.takeWhile isBlk).length
def unblank (r : List UInt8) : List UInt8 := r.dropWhile isBlk
def nextTok (p : Nat) (r : List UInt8) : Except Nat (Tok × List UInt8) := tokS (p + blanks r) (unblank r)
/- all tokens; the first number: at least the text's length, and one more -/
def toksS : Nat → Nat → List UInt8 → Except Nat (List Tok)
  | 0, p, _ => .error p
  | f + 1, p, r => match nextTok p r with
    | .error e => .error e
    | .ok (t, u) => if t.kind = 0 then .ok [t] else match toksS f (p + (r.length - u.length)) u with
      | .error e => .error e
      | .ok l => .ok (t :: l)

theorem decF_nil (n : Nat) : decF n [] = n := by unfold decF; rfl
theorem decF_cons (n : Nat) (c : UInt8) (l : List UInt8) : decF n (c :: l) = decF (n * 10 + digN c) l := by conv => lhs; unfold decF
theorem decF_le : ∀ (l : List UInt8) (n : Nat), n ≤ decF n l
  | [], n => Nat.le_refl _
  | c :: l, n => by rw [decF_cons]; exact Nat.le_trans (by omega) (decF_le l _)
theorem decF_app : ∀ (l m : List UInt8) (n : Nat), decF n (l ++ m) = decF (decF n l) m
  | [], m, n => rfl
  | c :: l, m, n => by rw [List.cons_append, decF_cons, decF_cons, decF_app l m]

/- the library's reader of numbers at digits -/
theorem parseM_digits : ∀ (l : List UInt8) (acc : Nat), l.all isDig = true → acc ≤ 18446744073709551615 →
    Lib.parseUintM (2 ^ 64 - 1) acc l = if decF acc l ≤ 18446744073709551615 then .ok (decF acc l) else .range
  | [], acc, _, h => by simp [Lib.parseUintM, decF_nil, h]
  | c :: l, acc, hd, h => by
    simp only [List.all_cons, Bool.and_eq_true] at hd
    have hc : 48 ≤ c.toNat ∧ c.toNat ≤ 57 := by
      have := hd.1
      simp only [isDig, Bool.and_eq_true, decide_eq_true_eq, UInt8.le_iff_toNat_le] at this
      exact this
    rw [Lib.parseUintM, if_pos hc, decF_cons]
    have hle := decF_le l (acc * 10 + digN c)
    have hdg : c.toNat - 48 = digN c := rfl
    rw [hdg]
    by_cases h1 : 1844674407370955162 ≤ acc
    · rw [if_pos h1, if_neg (by omega)]
    · rw [if_neg h1]
      by_cases h2 : 2 ^ 64 - 1 < acc * 10 + digN c
      · rw [if_pos h2, if_neg (by omega)]
      · rw [if_neg h2, parseM_digits l _ hd.2 (by omega)]
theorem parseInt_digits {l : List UInt8} (h : allB isDig l = true) : Lib.parseIntB 64 l = if decS l ≤ 9223372036854775807 then .ok (decS l : Int) else .range := by
  simp only [allB, Bool.and_eq_true, Bool.not_eq_true', List.isEmpty_eq_false_iff] at h
  cases l with
  | nil => exact absurd rfl h.2
  | cons c r =>
    have hc : 48 ≤ c.toNat ∧ c.toNat ≤ 57 := by
      have := h.1
      simp only [List.all_cons, Bool.and_eq_true, isDig, decide_eq_true_eq, UInt8.le_iff_toNat_le] at this
      exact this.1
    have h1 : ¬ (c.toNat = 43 ∨ c.toNat = 45) := by omega
    have h2 : ¬ c.toNat = 45 := by omega
    unfold Lib.parseIntB Lib.parseUintB
    simp only [if_neg h1, if_neg (List.cons_ne_nil c r), parseM_digits (c :: r) 0 h.1 (by decide)]
    have e : decF 0 (c :: r) = decS (c :: r) := rfl
    rw [e]
    by_cases h3 : decS (c :: r) ≤ 18446744073709551615
    · rw [if_pos h3]
      simp only
      by_cases h4 : decS (c :: r) ≤ 9223372036854775807
      · rw [if_pos h4, if_neg (by omega), if_neg (by omega), if_neg h2]
      · rw [if_neg h4, if_pos (by omega)]
    · rw [if_neg h3, if_neg (by omega)]

/- the number's digits come back -/
theorem dec_digits : ∀ u : Nat, allB isDig (Lib.decDigits u) = true ∧ decS (Lib.decDigits u) = u := by
  intro u
  induction u using Nat.strongRecOn with
  | _ u ih =>
    have hdig : ∀ k, k < 10 → isDig (UInt8.ofNat (48 + k)) = true ∧ (UInt8.ofNat (48 + k)).toNat = 48 + k := by
      intro k hk
      have h1 : (UInt8.ofNat (48 + k)).toNat = 48 + k := by rw [UInt8.toNat_ofNat']; omega
      refine ⟨?_, h1⟩
      simp only [isDig, Bool.and_eq_true, decide_eq_true_eq, UInt8.le_iff_toNat_le, h1]
      constructor
      · show 48 ≤ 48 + k; omega
      · show 48 + k ≤ 57; omega
    rw [Lib.decDigits]
    by_cases h : u < 10
    · rw [dif_pos h]
      have := hdig u h
      generalize UInt8.ofNat (48 + u) = c at *
      refine ⟨by simp [allB, this.1], ?_⟩
      rw [decS, decF_cons, decF_nil, digN, this.2]; omega
    · rw [dif_neg h]
      have hq := ih (u / 10) (by omega)
      have := hdig (u % 10) (by omega)
      generalize UInt8.ofNat (48 + u % 10) = c at *
      simp only [allB, Bool.and_eq_true, Bool.not_eq_true', List.isEmpty_eq_false_iff] at hq ⊢
      refine ⟨⟨by simp [hq.1.1, this.1], by simp⟩, ?_⟩
      unfold decS
      rw [decF_app]
      have e : decF 0 (Lib.decDigits (u / 10)) = u / 10 := hq.2
      rw [e, decF_cons, decF_nil, digN, this.2]
      omega
end Go.Abs
