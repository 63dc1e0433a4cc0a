/- Which statements are right, by the reference: plain parts. -/
import Derived.Test.YtpmeklllgnnffaaGreatDoorA17
import Derived.Test.YtpmeklllgnnffaaGreatDoorA18

namespace Go.Abs
set_option linter.unusedSimpArgs false
set_option linter.unusedVariables false
open Go Go.Proofs

theorem name_ne {s : List UInt8} (h : nameS s = true) : s ≠ [] := by rintro rfl; cases h
theorem cols_ne {l : List Col} (h : colsS l = 0) : l ≠ [] := by rintro rfl; simp [colsS] at h
theorem len0 {α : Type} (l : List α) : (l.length = 0) ↔ l = [] := List.length_eq_zero_iff
theorem len0' {α : Type} (l : List α) : (0 = l.length) ↔ l = [] := by rw [eq_comm]; exact List.length_eq_zero_iff
theorem sum0 {α β γ : Type} (a : List α) (b : List β) (c : List γ) : ((a.length : Int) + b.length + c.length = 0) ↔ (a = [] ∧ b = [] ∧ c = []) := by
  rw [← List.length_eq_zero_iff (l := a), ← List.length_eq_zero_iff (l := b), ← List.length_eq_zero_iff (l := c)]
  omega
/- what the program asks of sources and conditions together -/
theorem rightFrom_eq (src : List Src) (wher : List Xp) : rightFromS src wher 1 = (srcsS src 1 && rightsE wher 0 1) := by
  unfold rightFromS srcsS
  by_cases h : 1 ≤ (src.length : Int)
  · have e : (if (1 : Int) < src.length then 1 else (src.length : Int)) = 1 := by split <;> omega
    rw [e]; simp [Bool.and_assoc]
  · simp [h]
theorem rightFrom_eq0 (src : List Src) (wher : List Xp) : rightFromS src wher 0 = (srcsS src 0 && (rightsE wher 0 1 && (!decide (src = []) || decide (wher = [])))) := by
  unfold rightFromS srcsS
  by_cases h : src = []
  · subst h
    cases wher with
    | nil => simp [rightsE]
    | cons e r => simp [rightsE]
  · have h1 : 0 < src.length := List.length_pos_iff.2 h
    have e : (if (1 : Int) < src.length then 1 else (src.length : Int)) = 1 := by split <;> omega
    rw [e]; simp [h, Bool.and_assoc]
end Go.Abs

