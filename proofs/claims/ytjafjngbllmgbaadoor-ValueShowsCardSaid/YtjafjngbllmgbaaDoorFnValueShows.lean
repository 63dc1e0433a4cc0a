/- ValueShows, as its row and its card say it. -/
import Derived.Test.YtjafjngbllmgbaaDoorFnVCardS
import Derived.Test.YtjafjngbllmgbaaDoorFnArgsV
import Derived.Test.YtjafjngbllmgbaaDoorFnVShows
namespace Go.Proofs.YtjafjngbllmgbaaDoor.valueShows
open Go.ChangeShapes Go.WideShapes Go.ChangeAt Go.RowKit Go.Abs shared

set_option maxRecDepth 100000 in
theorem contract (H : Type) (enc : TypeId × Value → H) (W : World) (base : Nat) (args : Array Value) (ds gs : List (DataW H)) (before : List MemPlace)
    (hval : ∀ (j : Nat) t v, Tryd.f8.params[j]? = some t → args[j]? = some v → Value.okWide Tryd.prog W .any base t v)
    (hW : DataW.Whole enc Tryd.prog Tryd.f8.params.toList Rows.valueShowsSpec.vars false W args.toList ds gs before) (hS : W.ShapedOpen Tryd.prog) (hL : laidMet Tryd.prog Rows.valueShowsRow.laid W) :
    Calls Tryd.prog 8 args W fun e W' => ∃ v, e = .returned v ∧ Rows.valueShowsSpec.post enc Tryd.prog Tryd.f8 false true false false W args v W' := by
  have hW' := hW
  obtain ⟨p, q, hA0, hV, rfl, hfz, hnd⟩ := hW
  have hA : DataW.TrodAll enc Tryd.prog W 0 (fun _ => true) true Tryd.f8.params.toList args.toList ds p := hA0
  rw [Tryd.params8] at hA hval
  obtain ⟨v0, vs0, d0, ds0, p0, pq0, hargs, rfl, rfl, h0, r0⟩ := trodAll_cons hA
  obtain ⟨v1, vs1, d1, ds1, p1, pq1, rfl, rfl, rfl, h1, r1⟩ := trodAll_cons r0
  obtain ⟨rfl, rfl, rfl⟩ := trodAll_nil r1
  obtain rfl : args = #[v0, v1] := by cases args; simp_all
  obtain ⟨rfl, rfl⟩ := trodVars_none hV
  have k0 : ∃ cs, v0 = .agg cs := by
    have := hval 0 23 v0 rfl rfl
    simp only [Value.okWide, Tryd.underlying23] at this
    exact ⟨_, this.choose_spec.1⟩
  obtain ⟨a0, q0, s0, e0⟩ := rs_arg_agg h0 rs_value (fun a => ⟨_, rfl⟩) k0
  have k1 : ∃ cs, v1 = .agg cs := by
    have := hval 1 23 v1 rfl rfl
    simp only [Value.okWide, Tryd.underlying23] at this
    exact ⟨_, this.choose_spec.1⟩
  obtain ⟨a1, q1, s1, e1⟩ := rs_arg_agg h1 rs_value (fun a => ⟨_, rfl⟩) k1
  have hr : Reps (G0 W) [Val.enc a0, Val.enc a1] [v0, v1] := ⟨_, _, rfl, e0, _, _, rfl, e1, rfl⟩
  have hc := law_calls mixed noNum prims_sound Tryd.func8 rfl (vs := #[v0, v1]) (shared.base hS hL) hr (ev_vshows a0 a1 q0.2 q1.2)
  refine hc.mono fun e W' ⟨he, hg⟩ => ⟨_, he, ?_⟩
  exact post_true (by kernel_rfl) (tb := 4) rfl Tryd.underlying4 (fun t ht => by
    rw [Tryd.params8] at ht
    simp at ht
    subst ht
    exact ⟨by kernel_rfl, by decide +kernel⟩) hW' rfl ⟨rfl, rfl, rfl⟩ hg

theorem reads (os : Os) {H : Type} (enc : TypeId × Value → H) : ∃ places, DataW.whole enc Tryd.prog ((laidWorld os).forCall (fun _ _ => 0) ⟨#[], #[.agg #[.int .i64 0, .int .i64 0, .string ⟨#[]⟩], .agg #[.int .i64 0, .int .i64 0, .string ⟨#[]⟩]], []⟩).memory Tryd.f8.params.toList Rows.valueShowsSpec.vars false (#[.agg #[.int .i64 0, .int .i64 0, .string ⟨#[]⟩], .agg #[.int .i64 0, .int .i64 0, .string ⟨#[]⟩]] : Array Value).toList 8 = some ([.agg [.lit (.int .i64 0), .lit (.int .i64 0), .lit (.string [])], .agg [.lit (.int .i64 0), .lit (.int .i64 0), .lit (.string [])]], [], places) :=
  ⟨[], by kernel_rfl⟩

set_option maxRecDepth 100000 in
theorem lifted (os : Os) (started : os.Started) (H : Type) (enc : TypeId × Value → H) (F : Stop.Interp) :
    ReturnsInHanded {} Tryd.checked os 8 .any ((OpenSpec.ofChange Rows.valueShowsSpec).preRow enc Tryd.prog Tryd.f8 Rows.valueShowsRow.domain false Rows.valueShowsRow.laid) (((OpenSpec.ofChange Rows.valueShowsSpec).at F).post enc Tryd.prog Tryd.f8 false true false false) := by
  obtain ⟨places, hx⟩ := reads os enc
  refine returnsInHanded_of_row (C := Tryd.checked) (s := OpenSpec.ofChange Rows.valueShowsSpec) own started (by kernel_rfl) Tryd.func8
    (witness_row_at (enc := enc) (C := Tryd.checked) false (laidWorld os) #[.agg #[.int .i64 0, .int .i64 0, .string ⟨#[]⟩], .agg #[.int .i64 0, .int .i64 0, .string ⟨#[]⟩]] rfl (by kernel_rfl) (by kernel_rfl) (by kernel_rfl)
      (OpenSpec.preRow_of_cond 8 hx (by kernel_rfl) (fun k hk => by cases hk) (by kernel_rfl) (laid_met os _))) ?_
  intro W base args ds gs before hval hW _ _ _ hL hS _
  exact contract H enc W base args ds gs before hval hW hS hL

theorem said : Rows.ValueShowsSaid :=
  OpenClaim.holds_of_cond 8 Tryd.f8 rfl rfl rfl rfl rfl rfl rfl ⟨rfl, rfl, rfl, rfl, rfl⟩ rfl rfl rfl rfl rfl (by kernel_rfl) Tryd.func8 (by kernel_rfl)
    (of_decide_eq_true (by kernel_rfl)) (by unfold Func.isWrapper; first | (rw [if_pos (by decide +kernel)]; kernel_rfl) | (rw [if_neg (by decide +kernel)]; exact ⟨rfl, rfl⟩))
    (fun os started H enc _ F => by rw [OpenClaim.pre_eq_preRow]; exact lifted os started H enc F)

theorem plain (f : FuncId) (fn : Func) (hf : Tryd.pinned.checked.prog.funcNamed "tripwire/tripwirelaw02.ValueShows" = some f) (hfn : Tryd.pinned.checked.prog.funcs[f]? = some fn) :
    false = Tryd.pinned.checked.prog.looks [] ∧ ∀ (j : Nat) t, fn.params[j]? = some t → Tryd.pinned.checked.prog.wantsStandIn t = false := by
  obtain rfl : f = 8 := Option.some.inj ((show Tryd.prog.funcNamed "tripwire/tripwirelaw02.ValueShows" = some 8 by kernel_rfl).symm.trans hf) |>.symm
  obtain rfl : fn = Tryd.f8 := (Option.some.inj (Tryd.func8.symm.trans hfn)).symm
  refine ⟨by kernel_rfl, fun j t ht => ?_⟩
  rw [Tryd.params8] at ht
  have hm : t = 23 := by simpa using Array.mem_of_getElem? ht
  subst hm
  exact (show Tryd.prog.wantsStandIn 23 = false by kernel_rfl)

theorem card : Rows.ValueShowsCardSaid :=
  Claim7.holds_tied_plain_at .later [] _ _ _ _ said (fun _ h => by cases h) (by kernel_rfl) (fun _ h => by cases h) valueShows_row_tie rfl ⟨rfl, rfl⟩ (by kernel_rfl) rfl plain (by kernel_rfl)
end Go.Proofs.YtjafjngbllmgbaaDoor.valueShows
