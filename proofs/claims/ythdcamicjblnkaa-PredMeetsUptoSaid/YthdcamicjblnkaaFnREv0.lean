/- What the reference's Eval comes to, op by op. -/
import Derived.Test.YthdcamicjblnkaaFnTwo
import Derived.Test.YthdcamicjblnkaaFnRefB
import Derived.Test.YthdcamicjblnkaaFnRefD
import Derived.Test.YthdcamicjblnkaaFnArgs
import Derived.Test.YthdcamicjblnkaaFnEvalB
namespace Go.Abs
set_option linter.unusedSimpArgs false
set_option linter.unusedVariables false
open Go Go.Proofs

theorem andS_in (a b : Int) : andS a b = 0 ∨ andS a b = 1 ∨ andS a b = 2 := by
  unfold andS
  repeat' split
  all_goals simp
theorem notS_in (a : Int) : notS a = 0 ∨ notS a = 1 ∨ notS a = 2 := by
  unfold notS
  have := threeS_le a
  split <;> omega
theorem orS_in (a b : Int) : orS a b = 0 ∨ orS a b = 1 ∨ orS a b = 2 := notS_in _
theorem holdsS_in (op : List UInt8) (v w : Val) : (holdsS op v w).1 = 0 ∨ (holdsS op v w).1 = 1 ∨ (holdsS op v w).1 = 2 := by
  unfold holdsS
  simp only
  repeat' split
  all_goals simp
theorem truthS_in (v : Val) : (truthS v).1 = 0 ∨ (truthS v).1 = 1 ∨ (truthS v).1 = 2 := by
  unfold truthS
  have := threeS_le v.n
  repeat' split
  all_goals simp
  omega
theorem reckonS_err (op : List UInt8) (v w : Val) (h : ¬ (reckonS op v w).2 = 0) : (reckonS op v w).1 = ⟨0, 0, []⟩ := by
  by_cases h1 : ¬ (op = [43] ∨ op = [45] ∨ op = [42]) ∨ rightS v = false ∨ rightS w = false
  · unfold reckonS; rw [if_pos h1]
  unfold reckonS at h ⊢
  rw [if_neg h1] at h ⊢
  by_cases h2 : v.kind = 0 ∨ w.kind = 0
  · rw [if_pos h2]
  rw [if_neg h2] at h ⊢
  by_cases h3 : op = [43] ∧ v.kind = 3 ∧ w.kind = 3
  · rw [if_pos h3] at h ⊢
    by_cases h4 : 24 < (v.s.length : Int) + (w.s.length : Int)
    · rw [if_pos h4]
    · rw [if_neg h4] at h; exact absurd rfl h
  rw [if_neg h3] at h ⊢
  by_cases h4 : v.kind ≠ 2 ∨ w.kind ≠ 2
  · rw [if_pos h4]
  rw [if_neg h4] at h ⊢
  by_cases h5 : (reckonN op v.n w.n).2 = true
  · rw [if_pos h5] at h; exact absurd rfl h
  · rw [if_neg h5]
theorem out_reckon (op : List UInt8) (v w : Val) : outP (reckonR op v w) = .ret (.tup [.agg [.int .i64 (reckonS op v w).1.kind, .int .i64 (reckonS op v w).1.n, .str (reckonS op v w).1.s], .int .i64 (reckonS op v w).2]) := by
  unfold reckonR outP
  by_cases h : (reckonS op v w).2 = 0
  · simp [h, valS, codeS]
  · simp [h, valS, codeS, reckonS_err op v w h]
end Go.Abs
