/- What values nodes have: numbers in range, errors told by a number. -/
import Derived.Test.YthdcamicjblnkaaFnREv0
namespace Go.Abs
set_option linter.unusedSimpArgs false
set_option linter.unusedVariables false
open Go Go.Proofs

def rowsQ (l : List (List Val)) : Prop := ∀ r ∈ l, rowQ r
theorem good_kid {es : List Ev} (h : ∀ e ∈ es, good e) (i : Nat) : good (kidS es i) := by
  unfold kidS
  cases hi : es[i]? with
  | none => simp [good]
  | some e => exact h e (List.mem_of_getElem? hi)
def goodI : Except Int Int → Prop
  | .ok t => t = 0 ∨ t = 1 ∨ t = 2
  | .error c => ¬ c = 0
theorem good_truth {e : Ev} (h : good e) : goodI (truthR e) := by
  cases e with
  | ok v =>
    unfold truthR
    by_cases ht : (truthS v).2 = 0
    · simp only [ht, if_true]; exact truthS_in v
    · simp only [ht, if_false]; exact ht
  | error c => exact h
theorem good_of {t : Int} (h : t = 0 ∨ t = 1 ∨ t = 2) : good (.ok (ofS t)) := by
  rcases h with rfl | rfl | rfl <;> simp [good, ofS, threeS, inI]
theorem wrap_in (x : Int) : inI (IntKind.i64.wrap x) := by
  obtain ⟨t, _, h2, h3⟩ := wrap_split x
  exact ⟨h2, h3⟩
theorem reckonN_in (op : List UInt8) (a b : Int) : inI (reckonN op a b).1 := by
  unfold reckonN
  repeat' split
  all_goals first | exact wrap_in _ | skip
  unfold timesS
  simp only
  split <;> exact wrap_in _
theorem good_reckon (op : List UInt8) (v w : Val) : good (reckonR op v w) := by
  unfold reckonR
  by_cases h : (reckonS op v w).2 = 0
  · simp only [h, if_true, good]
    have z : inI 0 := by simp [inI]
    have three : inI 3 := by simp [inI]
    have two : inI 2 := by simp [inI]
    unfold reckonS
    repeat' split
    all_goals first | exact ⟨z, z⟩ | exact ⟨three, z⟩ | exact ⟨two, reckonN_in _ _ _⟩
  · rw [if_neg h]; exact h
theorem good_evalB {l : List (List Val)} (hl : rowsQ l) {op : List UInt8} {v : Val} (hv : v.q) {var col : Int} {es : List Ev} (h : ∀ e ∈ es, good e) : good (evalB l op v var col es) := by
  have e15 : good (.error 15) := by simp [good]
  have k0 := good_kid h 0
  have k1 := good_kid h 1
  have t0 := good_truth k0
  have t1 := good_truth k1
  unfold evalB
  split
  · exact e15
  split
  · exact hv
  split
  · unfold columnS
    split
    · exact e15
    split
    · exact e15
    split
    · exact e15
    split
    · exact e15
    · rename_i r hr _ _ w hw
      exact hl r (List.mem_of_getElem? hr) w (List.mem_of_getElem? hw)
  split
  · cases hk : kidS es 0 with
    | ok a => exact good_reckon _ _ _
    | error c => rw [hk] at k0; exact k0
  split
  · cases hk : truthR (kidS es 0) with
    | ok a => exact good_of (notS_in _)
    | error c => rw [hk] at t0; exact t0
  split
  · cases hk : kidS es 0 with
    | ok a => exact good_of (by split <;> simp)
    | error c => rw [hk] at k0; exact k0
  split
  · cases hk : kidS es 0 with
    | ok a =>
      cases hk1 : kidS es 1 with
      | ok b => exact good_reckon _ _ _
      | error c => rw [hk1] at k1; exact k1
    | error c => rw [hk] at k0; exact k0
  split
  · unfold bothS
    cases hk : truthR (kidS es 0) with
    | ok a =>
      rw [hk] at t0
      simp only
      split
      · exact good_of t0
      · cases hk1 : truthR (kidS es 1) with
        | ok b => exact good_of (andS_in _ _)
        | error c => rw [hk1] at t1; exact t1
    | error c => rw [hk] at t0; exact t0
  split
  · unfold bothS
    cases hk : truthR (kidS es 0) with
    | ok a =>
      rw [hk] at t0
      simp only
      split
      · exact good_of t0
      · cases hk1 : truthR (kidS es 1) with
        | ok b => exact good_of (orS_in _ _)
        | error c => rw [hk1] at t1; exact t1
    | error c => rw [hk] at t0; exact t0
  · unfold compareS
    cases hk : kidS es 0 with
    | ok a =>
      cases hk1 : kidS es 1 with
      | ok b =>
        simp only
        split
        · exact good_of (holdsS_in _ _ _)
        · rename_i hc; exact hc
      | error c => rw [hk1] at k1; exact k1
    | error c => rw [hk] at k0; exact k0

end Go.Abs
