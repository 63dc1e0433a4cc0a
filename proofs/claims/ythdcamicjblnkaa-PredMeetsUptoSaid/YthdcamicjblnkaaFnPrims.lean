/- What stands for functions without a body does what they do. -/
import Derived.Test.YthdcamicjblnkaaFnValue
import Derived.Lib.Bytealg
import Derived.Laws.Externs
import Derived.Eval
import Derived.Test.YthdcamicjblnkaaChecked
namespace Go.Abs
set_option linter.unusedSimpArgs false
set_option linter.unusedVariables false
open Go Go.Proofs

theorem compareBytes_eq : ∀ a b : List UInt8, Lib.compareBytes a b = if Op.bytesLess a b then -1 else if a = b then 0 else 1
  | [], [] => by simp [Lib.compareBytes, Op.bytesLess]
  | [], b :: bs => by simp [Lib.compareBytes, Op.bytesLess]
  | a :: l, [] => by simp [Lib.compareBytes, Op.bytesLess]
  | a :: l, b :: bs => by
    rw [Lib.compareBytes, Op.bytesLess, compareBytes_eq l bs]
    by_cases h1 : a < b
    · simp [h1]
    · by_cases h2 : b < a
      · have : ¬ a = b := fun e => by subst e; exact h1 h2
        simp [h1, h2, this]
      · have : a = b := UInt8.le_antisymm (UInt8.not_lt.1 h2) (UInt8.not_lt.1 h1)
        subst this
        simp [h1]

set_option maxRecDepth 100000 in
theorem cmp_sound : PrimSound Try.prog 92 (.pure cmpP) := by
  intro cl hcl args st out st' h G W vs hS ha
  simp only [primRun] at h
  cases hc : cmpP args with
  | none => rw [hc] at h; cases h
  | some v =>
    rw [hc] at h
    simp only [Option.some.injEq, Prod.mk.injEq] at h
    obtain ⟨rfl, rfl⟩ := h
    unfold cmpP at hc
    split at hc
    · rename_i a b
      simp only [Option.some.injEq] at hc
      obtain ⟨u1, r1, e1, h1, h2⟩ := ha
      obtain ⟨u2, r2, rfl, h3, h4⟩ := h2
      simp only [Reps] at h4
      subst h4
      obtain ⟨s1, rfl, rfl⟩ := h1
      obtain ⟨s2, rfl, rfl⟩ := h3
      obtain rfl : vs = #[.string s1, .string s2] := Array.ext' (by simpa using e1)
      unfold Does
      rw [run_callFunc_extern Try.func92 (by kernel_rfl) (by kernel_rfl) (by kernel_rfl) (e := Extern.BytealgCompare.compare) (by kernel_rfl), Lib.run_compareString]
      simp only [Result.andThen]
      refine ⟨G, _, Good.refl hS, rfl, ?_⟩
      rw [← hc, compareBytes_eq]
      rfl
    · cases hc

set_option maxRecDepth 100000 in
theorem prims_sound : ∀ f p, pr0 f = some p → PrimSound Try.prog f p := by
  intro f p h
  unfold pr0 at h
  split at h
  · rename_i hf; subst hf; cases h; exact catch_sound
  · split at h
    · rename_i hf; subst hf; cases h; exact cmp_sound
    · cases h

set_option maxRecDepth 100000 in
theorem noNum : NoNum Try.prog := by
  have h : (Try.prog.funcs.toList.all fun fn => !(fn.name == "runtime.NumGoroutine")) = true := by kernel_rfl
  intro f fn hf
  have := List.all_eq_true.1 h fn (List.mem_of_getElem? (by simpa using hf))
  simpa using this
theorem mixed : Try.prog.follows .mixedOrders = true := Checked.mixed Try.checked
end Go.Abs
