/- What stands for functions without a body does what they do. -/
import Derived.Test.YtjafjngbllmgbaaDoorFnPr
import Derived.Test.YtjafjngbllmgbaaDoorAbsTop
import Derived.Test.YtjafjngbllmgbaaDoorShelf
import Derived.Lib.Bytealg
import Derived.Lib.AppendIntMem
import Derived.Laws.Externs
import Derived.Eval
import Derived.Test.YtjafjngbllmgbaaDoorChecked
namespace Go.Abs
set_option linter.unusedSimpArgs false
set_option linter.unusedVariables false
open Go Go.Proofs

set_option maxRecDepth 100000 in
theorem repl_sound : PrimSound Tryd.prog 43 (.pure replP) := by
  intro cl hcl args st out st' h G W vs hS ha
  simp only [primRun] at h
  cases hc : replP args with
  | none => rw [hc] at h; cases h
  | some v =>
    rw [hc] at h
    simp only [Option.some.injEq, Prod.mk.injEq] at h
    obtain ⟨rfl, rfl⟩ := h
    unfold replP at hc
    split at hc
    · rename_i a b c
      split at hc
      · rename_i hcond
        simp only [Option.some.injEq] at hc
        obtain ⟨u1, r1, e1, h1, h2⟩ := ha
        obtain ⟨u2, r2, rfl, h3, h4⟩ := h2
        obtain ⟨u3, r3, rfl, h5, h6⟩ := h4
        simp only [Reps] at h6
        subst h6
        obtain ⟨s1, rfl, rfl⟩ := h1
        obtain ⟨s2, rfl, rfl⟩ := h3
        obtain ⟨s3, rfl, rfl⟩ := h5
        obtain rfl : vs = #[.string s1, .string s2, .string s3] := Array.ext' (by simpa using e1)
        obtain ⟨m, hm⟩ := hS.base.1
        have hent : (callFunc 43 #[.string s1, .string s2, .string s3]).run Tryd.prog W = .ok (.enter 43 #[.string s1, .string s2, .string s3]) W := by
          simp [callFunc, Tryd.func43, Tryd.f43]
        unfold Does
        rw [hent]
        simp only
        have l : ∀ s : ByteArray, s.data.toList.length = s.size := fun s => by simp
        rw [l, l, l] at hcond
        refine (Tryd.strings_ReplaceAll s1 s2 s3 m W hcond.1 (hS.cell hm) hcond.2.1 hcond.2.2).mono fun e W' ⟨he, hg⟩ => ?_
        subst he
        refine ⟨G, _, good_below hS hg, rfl, ?_⟩
        rw [← hc]
        exact ⟨_, rfl, by simp⟩
      · cases hc
    · cases hc

theorem compareBytes_eq : ∀ a b : List UInt8, Lib.compareBytes a b = if Op.bytesLess a b then -1 else if a = b then 0 else 1
  | [], [] => by simp [Lib.compareBytes, Op.bytesLess]
  | [], b :: bs => by simp [Lib.compareBytes, Op.bytesLess]
  | a :: l, [] => by simp [Lib.compareBytes, Op.bytesLess]
  | a :: l, b :: bs => by
    rw [Lib.compareBytes, Op.bytesLess, compareBytes_eq l bs]
    by_cases h1 : a < b
    · simp [h1]
    · by_cases h2 : b < a
      · have : ¬ a = b := fun e => by subst e; exact h1 h2
        simp [h1, h2, this]
      · have : a = b := UInt8.le_antisymm (UInt8.not_lt.1 h2) (UInt8.not_lt.1 h1)
        subst this
        simp [h1]

set_option maxRecDepth 100000 in
theorem cmp_sound : PrimSound Tryd.prog 51 (.pure cmpP) := by
  intro cl hcl args st out st' h G W vs hS ha
  simp only [primRun] at h
  cases hc : cmpP args with
  | none => rw [hc] at h; cases h
  | some v =>
    rw [hc] at h
    simp only [Option.some.injEq, Prod.mk.injEq] at h
    obtain ⟨rfl, rfl⟩ := h
    unfold cmpP at hc
    split at hc
    · rename_i a b
      simp only [Option.some.injEq] at hc
      obtain ⟨u1, r1, e1, h1, h2⟩ := ha
      obtain ⟨u2, r2, rfl, h3, h4⟩ := h2
      simp only [Reps] at h4
      subst h4
      obtain ⟨s1, rfl, rfl⟩ := h1
      obtain ⟨s2, rfl, rfl⟩ := h3
      obtain rfl : vs = #[.string s1, .string s2] := Array.ext' (by simpa using e1)
      unfold Does
      rw [run_callFunc_extern Tryd.func51 (by kernel_rfl) (by kernel_rfl) (by kernel_rfl) (e := Extern.BytealgCompare.compare) (by kernel_rfl), Lib.run_compareString]
      simp only [Result.andThen]
      refine ⟨G, _, Good.refl hS, rfl, ?_⟩
      rw [← hc, compareBytes_eq]
      rfl
    · cases hc

set_option maxRecDepth 100000 in
theorem itoa_sound : PrimSound Tryd.prog 42 (.pure itoaP) := by
  intro cl hcl args st out st' h G W vs hS ha
  simp only [primRun] at h
  cases hc : itoaP args with
  | none => rw [hc] at h; cases h
  | some v =>
    rw [hc] at h
    simp only [Option.some.injEq, Prod.mk.injEq] at h
    obtain ⟨rfl, rfl⟩ := h
    unfold itoaP at hc
    split at hc
    · rename_i n
      split at hc
      · rename_i hcond
        simp only [Option.some.injEq] at hc
        obtain ⟨u1, r1, e1, h1, h2⟩ := ha
        simp only [Reps] at h2
        subst h2
        simp only [Rep] at h1
        subst h1
        obtain rfl : vs = #[.int .i64 n] := Array.ext' (by simpa using e1)
        obtain ⟨g, T, f, hg, htf⟩ := hS.base.2
        have htab : Lib.TabIs Tryd.prog W "internal/strconv.uint64pow10" .u64 Lib.pow10Tab := by
          unfold Lib.TabIs World.var?
          rw [show Tryd.prog.globalNamed "internal/strconv.uint64pow10" = some 1 by kernel_rfl, Option.bind_some]
          subst hg
          rw [(hS.fix _ _ htf).1]
        have hent : (callFunc 42 #[.int .i64 n]).run Tryd.prog W = .ok (.enter 42 #[.int .i64 n]) W := by
          simp [callFunc, Tryd.func42, Tryd.f42]
        unfold Does
        rw [hent]
        simp only
        refine (Tryd.strconv_Itoa n hcond.1 hcond.2 W htab).mono fun e W' ⟨he, k, os, hw⟩ => ?_
        subst he
        subst hw
        refine ⟨G, _, good_below hS (Lib.below_grow _ _ (Nat.le_refl _) k os), rfl, ?_⟩
        rw [← hc]
        exact ⟨_, rfl, by simp⟩
      · cases hc
    · cases hc

set_option maxRecDepth 100000 in
theorem prims_sound : ∀ f p, pr0 f = some p → PrimSound Tryd.prog f p := by
  intro f p h
  unfold pr0 at h
  split at h
  · rename_i hf; subst hf; cases h; exact repl_sound
  · split at h
    · rename_i hf; subst hf; cases h; exact cmp_sound
    · split at h
      · rename_i hf; subst hf; cases h; exact itoa_sound
      · cases h

set_option maxRecDepth 100000 in
theorem noNum : NoNum Tryd.prog := by
  have h : (Tryd.prog.funcs.toList.all fun fn => !(fn.name == "runtime.NumGoroutine")) = true := by kernel_rfl
  intro f fn hf
  have := List.all_eq_true.1 h fn (List.mem_of_getElem? (by simpa using hf))
  simpa using this
theorem mixed : Tryd.prog.follows .mixedOrders = true := Checked.mixed Tryd.checked
end Go.Abs
