/- Laws of the three truths, with no program in sight. -/
import Derived.Test.YthdcamicjblnkaaFnRefA
namespace Go.Abs
set_option linter.unusedSimpArgs false
set_option linter.unusedVariables false
open Go Go.Proofs

theorem three_cases (t : Int) : threeS t = 0 ∨ threeS t = 1 ∨ threeS t = 2 := by
  have := threeS_le t
  omega
theorem three_idem (t : Int) : threeS (threeS t) = threeS t := by
  rcases three_cases t with h | h | h <;> rw [h] <;> rfl
theorem notS_three (t : Int) : notS (threeS t) = notS t := by unfold notS; rw [three_idem]
theorem andS_three (a b : Int) : andS (threeS a) (threeS b) = andS a b := by unfold andS; rw [three_idem, three_idem]
theorem orS_three (a b : Int) : orS (threeS a) (threeS b) = orS a b := by unfold orS; rw [notS_three, notS_three]
theorem not_and (a b : Int) : notS (andS a b) = orS (notS a) (notS b) := by
  rw [← andS_three a b, ← notS_three a, ← notS_three b]
  rcases three_cases a with h | h | h <;> rcases three_cases b with h' | h' | h' <;> rw [h, h'] <;> rfl
theorem and_or (a b c : Int) : andS a (orS b c) = orS (andS a b) (andS a c) := by
  rw [← andS_three a b, ← andS_three a c, ← orS_three b c, ← andS_three a]
  rcases three_cases a with h | h | h <;> rcases three_cases b with h' | h' | h' <;> rcases three_cases c with h2 | h2 | h2 <;> rw [h, h', h2] <;> rfl
theorem not_not_three (a : Int) : notS (notS a) = threeS a := by
  rw [← notS_three a]
  rcases three_cases a with h | h | h <;> rw [h] <;> rfl
theorem truth_of (a : Int) : truthS (ofS a) = (threeS a, 0) := by
  unfold ofS truthS
  rcases three_cases a with h | h | h <;> simp [h]
theorem right_of (a : Int) : rightS (ofS a) = true := by
  unfold ofS
  by_cases h : threeS a = 2
  · simp [h, rightS]
  · have : a = 0 ∨ a = 1 := by
      unfold threeS at h
      split at h
      · assumption
      · exact absurd rfl h
    rcases this with rfl | rfl <;> simp [threeS, rightS]

end Go.Abs
