/- CodeRanges, as its row and its card say it. -/
import Derived.Test.YtmjfninbnlhmoaaDoorFnCCard
import Derived.Test.YtmjfninbnlhmoaaDoorFnArgsC
import Derived.Test.YtmjfninbnlhmoaaDoorFnCodeR
namespace Go.Proofs.YtmjfninbnlhmoaaDoor.codeRanges
open Go.ChangeShapes Go.WideShapes Go.ChangeAt Go.RowKit Go.Abs shared

set_option maxRecDepth 100000 in
theorem contract (H : Type) (enc : TypeId × Value → H) (W : World) (base : Nat) (args : Array Value) (ds gs : List (DataW H)) (before : List MemPlace)
    (hval : ∀ (j : Nat) t v, Tryd.f5.params[j]? = some t → args[j]? = some v → Value.okWide Tryd.prog W .any base t v)
    (hW : DataW.Whole enc Tryd.prog Tryd.f5.params.toList Rows.codeRangesSpec.vars false W args.toList ds gs before) (hS : W.ShapedOpen Tryd.prog) :
    Calls Tryd.prog 5 args W fun e W' => ∃ v, e = .returned v ∧ Rows.codeRangesSpec.post enc Tryd.prog Tryd.f5 false true false false W args v W' := by
  have hW' := hW
  obtain ⟨p, q, hA0, hV, rfl, hfz, hnd⟩ := hW
  have hA : DataW.TrodAll enc Tryd.prog W 0 (fun _ => true) true Tryd.f5.params.toList args.toList ds p := hA0
  rw [Tryd.params5] at hA hval
  obtain ⟨v0, vs0, d0, ds0, p0, pq0, hargs, rfl, rfl, h0, r0⟩ := trodAll_cons hA
  obtain ⟨v1, vs1, d1, ds1, p1, pq1, rfl, rfl, rfl, h1, r1⟩ := trodAll_cons r0
  obtain ⟨v2, vs2, d2, ds2, p2, pq2, rfl, rfl, rfl, h2, r2⟩ := trodAll_cons r1
  obtain ⟨rfl, rfl, rfl⟩ := trodAll_nil r2
  obtain rfl : args = #[v0, v1, v2] := by cases args; simp_all
  obtain ⟨rfl, rfl⟩ := trodVars_none hV
  have k0 : ∃ cs, v0 = .agg cs := by
    have := hval 0 23 v0 rfl rfl
    simp only [Value.okWide, Tryd.underlying23] at this
    exact ⟨_, this.choose_spec.1⟩
  obtain ⟨a0, q0, s0, e0⟩ := rs_arg_agg h0 rs_value (fun a => ⟨_, rfl⟩) k0
  have k1 : ∃ cs, v1 = .agg cs := by
    have := hval 1 23 v1 rfl rfl
    simp only [Value.okWide, Tryd.underlying23] at this
    exact ⟨_, this.choose_spec.1⟩
  obtain ⟨a1, q1, s1, e1⟩ := rs_arg_agg h1 rs_value (fun a => ⟨_, rfl⟩) k1
  have k2 : ∀ cs, v2 ≠ .agg cs := by
    have := hval 2 3 v2 rfl rfl
    rintro cs rfl
    simp [Value.okWide, Cell.okWide, Cell.ok, Tryd.underlying3] at this
  obtain ⟨a2, q2, s2, e2⟩ := rs_arg h2 rs_vi64 (fun a => ⟨_, rfl, rfl, rfl⟩) k2
  have hr : Reps (G0 W) [Val.enc a0, Val.enc a1, V.int .i64 a2] [v0, v1, v2] := ⟨_, _, rfl, e0, _, _, rfl, e1, _, _, rfl, e2, rfl⟩
  have hc := law_calls mixed noNum prims_sound Tryd.func5 rfl (vs := #[v0, v1, v2]) (shared.base hS) hr (ev_ranges a0 a1 a2 q0.2 q1.2 q2)
  refine hc.mono fun e W' ⟨he, hg⟩ => ⟨_, he, ?_⟩
  exact post_true (by kernel_rfl) (tb := 4) rfl Tryd.underlying4 (fun t ht => by
    rw [Tryd.params5] at ht
    simp at ht
    rcases ht with rfl | rfl <;> exact ⟨by kernel_rfl, by decide +kernel⟩) hW' rfl ⟨rfl, rfl, rfl⟩ hg

theorem reads (os : Os) {H : Type} (enc : TypeId × Value → H) : ∃ places, DataW.whole enc Tryd.prog ((laidWorld os).forCall (fun _ _ => 0) ⟨#[], #[.agg #[.int .i64 0, .int .i64 0, .string ⟨#[]⟩], .agg #[.int .i64 0, .int .i64 0, .string ⟨#[]⟩], .int .i64 0], []⟩).memory Tryd.f5.params.toList Rows.codeRangesSpec.vars false (#[.agg #[.int .i64 0, .int .i64 0, .string ⟨#[]⟩], .agg #[.int .i64 0, .int .i64 0, .string ⟨#[]⟩], .int .i64 0] : Array Value).toList 8 = some ([.agg [.lit (.int .i64 0), .lit (.int .i64 0), .lit (.string [])], .agg [.lit (.int .i64 0), .lit (.int .i64 0), .lit (.string [])], .lit (.int .i64 0)], [], places) :=
  ⟨[], by kernel_rfl⟩

set_option maxRecDepth 100000 in
theorem lifted (os : Os) (started : os.Started) (H : Type) (enc : TypeId × Value → H) (F : Stop.Interp) :
    ReturnsInHanded {} Tryd.checked os 5 .any ((OpenSpec.ofChange Rows.codeRangesSpec).preRow enc Tryd.prog Tryd.f5 Rows.codeRangesRow.domain false Rows.codeRangesRow.laid) (((OpenSpec.ofChange Rows.codeRangesSpec).at F).post enc Tryd.prog Tryd.f5 false true false false) := by
  obtain ⟨places, hx⟩ := reads os enc
  refine returnsInHanded_of_row (C := Tryd.checked) (s := OpenSpec.ofChange Rows.codeRangesSpec) own started (by kernel_rfl) Tryd.func5
    (witness_row_at (enc := enc) (C := Tryd.checked) false (laidWorld os) #[.agg #[.int .i64 0, .int .i64 0, .string ⟨#[]⟩], .agg #[.int .i64 0, .int .i64 0, .string ⟨#[]⟩], .int .i64 0] rfl (by kernel_rfl) (by kernel_rfl) (by kernel_rfl)
      (OpenSpec.preRow_of_cond 8 hx (by kernel_rfl) (fun k hk => by cases hk) (by kernel_rfl) (laid_met os _))) ?_
  intro W base args ds gs before hval hW _ _ _ _ hS _
  exact contract H enc W base args ds gs before hval hW hS

theorem said : Rows.CodeRangesSaid :=
  OpenClaim.holds_of_cond 5 Tryd.f5 rfl rfl rfl rfl rfl rfl rfl ⟨rfl, rfl, rfl, rfl, rfl⟩ rfl rfl rfl rfl rfl (by kernel_rfl) Tryd.func5 (by kernel_rfl)
    (of_decide_eq_true (by kernel_rfl)) (by unfold Func.isWrapper; first | (rw [if_pos (by decide +kernel)]; kernel_rfl) | (rw [if_neg (by decide +kernel)]; exact ⟨rfl, rfl⟩))
    (fun os started H enc _ F => by rw [OpenClaim.pre_eq_preRow]; exact lifted os started H enc F)

theorem plain (f : FuncId) (fn : Func) (hf : Tryd.pinned.checked.prog.funcNamed "tripwire/tripwirelaw03.CodeRanges" = some f) (hfn : Tryd.pinned.checked.prog.funcs[f]? = some fn) :
    true = Tryd.pinned.checked.prog.looks [] ∧ ∀ (j : Nat) t, fn.params[j]? = some t → Tryd.pinned.checked.prog.wantsStandIn t = false := by
  obtain rfl : f = 5 := Option.some.inj ((show Tryd.prog.funcNamed "tripwire/tripwirelaw03.CodeRanges" = some 5 by kernel_rfl).symm.trans hf) |>.symm
  obtain rfl : fn = Tryd.f5 := (Option.some.inj (Tryd.func5.symm.trans hfn)).symm
  refine ⟨by kernel_rfl, fun j t ht => ?_⟩
  rw [Tryd.params5] at ht
  have hm : t = 3 ∨ t = 23 := by
    have h := Array.mem_of_getElem? ht
    simp at h
    first | exact h | exact h.symm | (rcases h with h | h | h <;> simp [h])
  rcases hm with rfl | rfl
  · exact (show Tryd.prog.wantsStandIn 3 = false by kernel_rfl)
  · exact (show Tryd.prog.wantsStandIn 23 = false by kernel_rfl)

theorem card : Rows.CodeRangesCardSaid :=
  Claim7.holds_tied_plain_at .later [] _ _ _ _ said (fun _ h => by cases h) (by kernel_rfl) (fun _ h => by cases h) codeRanges_row_tie rfl ⟨rfl, rfl⟩ (by kernel_rfl) rfl plain (by kernel_rfl)
end Go.Proofs.YtmjfninbnlhmoaaDoor.codeRanges
