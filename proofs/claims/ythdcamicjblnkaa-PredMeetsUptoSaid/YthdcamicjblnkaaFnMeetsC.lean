/- PredMeets, as the row says it, where what it reads is of bulk at most 1048576. -/
import Derived.Test.YthdcamicjblnkaaFnPredM
import Derived.Test.YthdcamicjblnkaaFnArgsP
import Derived.Test.YthdcamicjblnkaaFnPrims
import Derived.WalkKit
import Derived.ProofKit
import Derived.OpenShut
import Derived.JoinedCond
namespace Go.Proofs.Ythdcamicjblnkaa.predMeets
set_option linter.unusedSimpArgs false
set_option linter.unusedVariables false
open Go.ChangeShapes Go.WideShapes Go.ChangeAt Go.RowKit Go.Abs

theorem own : ownKnob Try.prog.godebug = Option.none := by kernel_rfl

set_option maxRecDepth 100000 in
theorem contract (H : Type) (enc : TypeId × Value → H) (W : World) (base : Nat) (args : Array Value) (ds gs : List (DataW H)) (before : List MemPlace)
    (hval : ∀ (j : Nat) t v, Try.f3.params[j]? = some t → args[j]? = some v → Value.okWide Try.prog W .any base t v)
    (hW : DataW.Whole enc Try.prog Try.f3.params.toList Rows.predMeetsSpec.vars false W args.toList ds gs before) (hk : Rows.uptoSmall H (ds ++ gs) = true) :
    Calls Try.prog 3 args W fun e W' => ∃ v, e = .returned v ∧ Rows.predMeetsSpec.post enc Try.prog Try.f3 false true false false W args v W' := by
  have hW' := hW
  obtain ⟨p, q, hA0, hV, rfl, hfz, hnd⟩ := hW
  have hA : DataW.TrodAll enc Try.prog W 0 (fun _ => true) true Try.f3.params.toList args.toList ds p := hA0
  rw [Try.params3] at hA hval
  obtain ⟨v0, vs0, d0, ds0, p0, q0, hargs, rfl, rfl, h0, r0⟩ := trodAll_cons hA
  obtain ⟨v1, vs1, d1, ds1, p1, q1, rfl, rfl, rfl, h1, r1⟩ := trodAll_cons r0
  obtain ⟨rfl, rfl, rfl⟩ := trodAll_nil r1
  obtain rfl : args = #[v0, v1] := by cases args; simp_all
  obtain ⟨rfl, rfl⟩ := trodVars_none hV
  have k0 : ∃ cs, v0 = .agg cs := by
    have := hval 0 25 v0 rfl rfl
    simp only [Value.okWide, Try.underlying25] at this
    exact ⟨_, this.choose_spec.1⟩
  have k1 : ∀ cs, v1 ≠ .agg cs := by
    have := hval 1 26 v1 rfl rfl
    rintro cs rfl
    simp [Value.okWide, Cell.okWide, Cell.ok, Try.underlying26] at this
  have hb : bulk d0 + (bulk d1 + 0) ≤ 1048576 := of_decide_eq_true hk
  obtain ⟨c, qc, sc, rc⟩ := rs_arg_agg h0 rs_cnd (fun a => ⟨_, rfl⟩) k0
  obtain ⟨row, qr, sr, rr⟩ := rs_arg h1 rs_row (fun l => ⟨_, rfl, rfl, rfl⟩) k1
  have hr : Reps (G0 W) [c.enc, rowE row] [v0, v1] := ⟨_, _, rfl, rc, _, _, rfl, rr, rfl⟩
  have hcz : szs Tst.sz c.ts + szs Node.sz c.ns ≤ 1048576 := by have : c.sz = szs Tst.sz c.ts + szs Node.sz c.ns := rfl; omega
  have hts := szs_len Tst.sz tsz_pos c.ts
  have hns := szs_len Node.sz sz_pos c.ns
  have hrw := szs_len Val.sz vsz_pos row
  have hrz : rowZ row = szs Val.sz row + 1 := rfl
  have hok : ∀ m ∈ c.ns, m.ok := fun m hm => ok_of m (qc m hm) (by have := szs_mem Node.sz hm; omega)
  have hc := law_calls mixed noNum prims_sound Try.func3 rfl (vs := #[v0, v1]) trivial hr (ev_predmeets c.ts (by omega) c.ns (by omega) hok row (by omega) qr)
  refine hc.mono fun e W' ⟨he, hg⟩ => ⟨_, he, ?_⟩
  exact post_true (by kernel_rfl) (tb := 4) rfl Try.underlying4 (fun t ht => by
    rw [Try.params3] at ht
    simp at ht
    rcases ht with rfl | rfl <;> exact ⟨by kernel_rfl, by decide +kernel⟩) hW' rfl ⟨rfl, rfl, rfl⟩ hg

set_option maxRecDepth 100000 in
theorem lifted (os : Os) (started : os.Started) (H : Type) (enc : TypeId × Value → H) (F : Stop.Interp) :
    ReturnsInHanded {} Try.checked os 3 .any ((Rows.OpenSpec.upto Rows.predMeetsSpec).pre6 enc Try.prog Try.f3 Rows.predMeetsUptoRow.domain false) (((Rows.OpenSpec.upto Rows.predMeetsSpec).at F).post enc Try.prog Try.f3 false true false false) := by
  refine returnsInHanded_of_cond (C := Try.checked) (s := Rows.OpenSpec.upto Rows.predMeetsSpec) (k := Rows.uptoSmall) rfl own started (by kernel_rfl) Try.func3
    (OpenSpec.witness (enc := enc) (C := Try.checked) (s := Rows.OpenSpec.upto Rows.predMeetsSpec) (k := Rows.uptoSmall) rfl false
      ⟨#[], #[.agg #[.slice Option.none 0 0, .slice Option.none 0 0], .slice Option.none 0 0], []⟩ 8 (by kernel_rfl) (by kernel_rfl) (by kernel_rfl)
      (x := ([.agg [.nil, .nil], .nil], [], [])) (by kernel_rfl) rfl (by kernel_rfl)) ?_
  intro W base args ds gs before hval hW _ hk _
  exact contract H enc W base args ds gs before hval hW hk

theorem over : Rows.predMeetsUptoRow.holds Try.pinned (Rows.OpenSpec.upto Rows.predMeetsSpec) :=
  OpenClaim.holds_of_cond 3 Try.f3 rfl rfl rfl rfl rfl rfl rfl ⟨rfl, rfl, rfl, rfl, rfl⟩ rfl rfl rfl rfl rfl (by kernel_rfl) Try.func3 (by kernel_rfl)
    (of_decide_eq_true (by kernel_rfl)) (by unfold Func.isWrapper; first | (rw [if_pos (by decide +kernel)]; kernel_rfl) | (rw [if_neg (by decide +kernel)]; exact ⟨rfl, rfl⟩))
    (fun os started H enc _ F => lifted os started H enc F)

theorem proved : Rows.PredMeetsUptoSaid :=
  over
end Go.Proofs.Ythdcamicjblnkaa.predMeets
