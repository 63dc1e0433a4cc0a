/- What strings.Join comes to. -/
import Derived.Test.YtenpkhklgjgdjaaDoorFnPr
namespace Go.Abs
set_option linter.unusedSimpArgs false
set_option linter.unusedVariables false
open Go Go.Proofs

theorem join_len : ∀ (xs : List (List UInt8)) (sep : List UInt8) (b : Nat), (∀ x ∈ xs, x.length ≤ b) → (Lib.join xs sep).length ≤ xs.length * (b + sep.length)
  | [], sep, b, _ => by rw [Lib.join_nil]; simp
  | [x], sep, b, h => by
    rw [Lib.join_one]
    have := h x (by simp)
    simp; omega
  | x :: y :: r, sep, b, h => by
    have ih := join_len (y :: r) sep b (fun z hz => h z (by simp [hz]))
    have hx := h x (by simp)
    rw [Lib.join_length] at ih ⊢
    simp only [Lib.lens, List.map_cons, List.sum_cons, List.length_cons] at ih ⊢
    have e : (r.length + 1 + 1) * (b + sep.length) = (r.length + 1) * (b + sep.length) + (b + sep.length) := by rw [Nat.add_mul (r.length + 1), Nat.one_mul]
    have e2 : sep.length * (r.length + 1) = sep.length * r.length + sep.length := by rw [Nat.mul_add, Nat.mul_one]
    omega
theorem ev_join (l : List (List UInt8)) (sep : List UInt8) (h1 : l.length ≤ 140737488355328) (h2 : (Lib.join l sep).length ≤ 140737488355328) : EV 22 [.slice .froz (l.map V.str), .str sep] [] = some (.ret (.str (Lib.join l sep)), []) := by
  unfold EV
  rw [ev_eq]
  simp [pr0, primRun, joinP, strsOf_map, h1, h2]
end Go.Abs
