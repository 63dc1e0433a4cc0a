/- Plain: unlike right values have unlike texts. -/
import Derived.Test.YtjafjngbllmgbaaDoorFnVShow
import Derived.Test.YtjafjngbllmgbaaDoorFnLexP
namespace Go.Abs
set_option linter.unusedSimpArgs false
set_option linter.unusedVariables false
open Go

theorem dec_inj {u v : Nat} (h : Lib.decDigits u = Lib.decDigits v) : u = v := by
  have h1 := (dec_digits u).2
  have h2 := (dec_digits v).2
  rw [h, h2] at h1
  exact h1.symm
theorem dec_head (u : Nat) : ∃ c r, Lib.decDigits u = c :: r ∧ isDig c = true := by
  have h := (dec_digits u).1
  cases hd : Lib.decDigits u with
  | nil => rw [hd] at h; simp [allB] at h
  | cons c r =>
    rw [hd] at h
    simp only [allB, List.all_cons, Bool.and_eq_true] at h
    exact ⟨c, r, rfl, h.1.1⟩
theorem itoa_head (n : Int) : ∃ c r, Lib.itoa n = c :: r ∧ (isDig c = true ∧ 0 ≤ n ∨ c = 45 ∧ n < 0) := by
  by_cases h : n < 0
  · refine ⟨45, Lib.decDigits n.natAbs, by simp [Lib.itoa, h], .inr ⟨rfl, h⟩⟩
  · obtain ⟨c, r, h1, h2⟩ := dec_head n.toNat
    exact ⟨c, r, by simp [Lib.itoa, h, h1], .inl ⟨h2, by omega⟩⟩
theorem dig_range {c : UInt8} (h : isDig c = true) : 48 ≤ c.toNat ∧ c.toNat ≤ 57 := by
  simp only [isDig, Bool.and_eq_true, decide_eq_true_eq, UInt8.le_iff_toNat_le] at h
  exact h
theorem itoa_inj {n m : Int} (h : Lib.itoa n = Lib.itoa m) : n = m := by
  by_cases hn : n < 0 <;> by_cases hm : m < 0
  · simp only [Lib.itoa, hn, hm, if_true, List.cons.injEq, true_and] at h
    have := dec_inj h
    omega
  · obtain ⟨c, r, h1, h2⟩ := dec_head m.toNat
    simp only [Lib.itoa, hn, hm, if_true, if_false, h1, List.cons.injEq] at h
    have := dig_range h2
    rw [← h.1] at this
    have e : (45 : UInt8).toNat = 45 := rfl
    omega
  · obtain ⟨c, r, h1, h2⟩ := dec_head n.toNat
    simp only [Lib.itoa, hn, hm, if_true, if_false, h1, List.cons.injEq] at h
    have := dig_range h2
    rw [h.1] at this
    have e : (45 : UInt8).toNat = 45 := rfl
    omega
  · simp only [Lib.itoa, hn, hm, if_false] at h
    have := dec_inj h
    omega
theorem quoteE_inj {s t : List UInt8} (h : quoteE s ++ [39] = quoteE t ++ [39]) : s = t := by
  have hf : Fol [32] := ⟨[], .inl rfl⟩
  have h1 := quote_back s [] [32] hf
  have h2 := quote_back t [] [32] hf
  have e : quoteE s ++ 39 :: [32] = quoteE t ++ 39 :: [32] := by
    have := congrArg (· ++ [32]) h
    simpa using this
  rw [e, h2] at h1
  simp only [List.nil_append, Option.some.injEq, Prod.mk.injEq] at h1
  exact h1.1.symm
/- which kind a text's first byte tells -/
theorem showV_inj {a b : Val} (ha : rightS a = true) (hb : rightS b = true) : showV a = showV b ↔ a = b := by
  refine ⟨fun h => ?_, by rintro rfl; rfl⟩
  obtain ⟨k, n, s⟩ := a
  obtain ⟨k', n', s'⟩ := b
  have shape : ∀ {k n : Int} {s : List UInt8}, rightS ⟨k, n, s⟩ = true → (k = 0 ∧ n = 0 ∧ s = []) ∨ (k = 1 ∧ (n = 0 ∨ n = 1) ∧ s = []) ∨ (k = 2 ∧ s = []) ∨ (k = 3 ∧ n = 0) := by
    intro k n s h
    simp only [rightS] at h
    split at h
    · simp at h; exact .inl ⟨by assumption, h⟩
    · split at h
      · simp at h; exact .inr (.inl ⟨by assumption, h.2, h.1⟩)
      · split at h
        · simp at h; exact .inr (.inr (.inl ⟨by assumption, h⟩))
        · split at h
          · simp at h; exact .inr (.inr (.inr ⟨by assumption, h.1⟩))
          · cases h
  have e45 : (45 : UInt8).toNat = 45 := rfl
  have e39 : (39 : UInt8).toNat = 39 := rfl
  have e78 : (78 : UInt8).toNat = 78 := rfl
  have e84 : (84 : UInt8).toNat = 84 := rfl
  have e70 : (70 : UInt8).toNat = 70 := rfl
  have num : ∀ (n : Int) (c : UInt8) (r : List UInt8), Lib.itoa n = c :: r → 45 ≤ c.toNat ∧ c.toNat ≤ 57 := fun n c r e => by
    obtain ⟨c', r', h1, h2⟩ := itoa_head n
    rw [h1] at e
    cases e
    rcases h2 with ⟨h2, _⟩ | ⟨rfl, _⟩
    · have := dig_range h2; omega
    · omega
  rcases shape ha with ⟨rfl, rfl, rfl⟩ | ⟨rfl, hn, rfl⟩ | ⟨rfl, rfl⟩ | ⟨rfl, rfl⟩ <;> rcases shape hb with ⟨rfl, rfl, rfl⟩ | ⟨rfl, hn', rfl⟩ | ⟨rfl, rfl⟩ | ⟨rfl, rfl⟩
  · rfl
  · rcases hn' with rfl | rfl <;> simp [showV] at h
  · simp [showV] at h; have := num _ _ _ h.symm; omega
  · simp [showV] at h
  · rcases hn with rfl | rfl <;> simp [showV] at h
  · rcases hn with rfl | rfl <;> rcases hn' with rfl | rfl <;> simp [showV] at h ⊢
  · rcases hn with rfl | rfl <;> simp [showV] at h <;> (have := num _ _ _ h.symm; omega)
  · rcases hn with rfl | rfl <;> simp [showV] at h
  · simp [showV] at h; have := num _ _ _ h; omega
  · rcases hn' with rfl | rfl <;> simp [showV] at h <;> (have := num _ _ _ h; omega)
  · simp [showV] at h; rw [itoa_inj h]
  · simp [showV] at h; have := num _ _ _ h; omega
  · simp [showV] at h
  · rcases hn' with rfl | rfl <;> simp [showV] at h
  · simp [showV] at h; have := num _ _ _ h.symm; omega
  · simp [showV] at h
    have := quoteE_inj (s := s) (t := s') (by rw [h])
    rw [this]
end Go.Abs
