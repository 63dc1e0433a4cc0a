/- ParseBack, as its card says it, where what it reads is of bulk at most 1048576. -/
import Derived.Test.YtpmeklllgnnffaaGreatDoorP14
import Derived.Deep.DeepWitnessRowRef
import Derived.Test.YtpmeklllgnnffaaGreatDoorP32
set_option linter.unusedSimpArgs false
set_option linter.unusedVariables false

namespace Go.Proofs.YtpmeklllgnnffaaGreatDoor.parseBack
set_option linter.unusedSimpArgs false
set_option linter.unusedVariables false
open Go.ChangeShapes Go.WideShapes Go.ChangeAt Go.RowKit Go.Abs shared
set_option maxRecDepth 100000 in
theorem contract (H : Type) (enc : TypeId × Value → H) (W : World) (base : Nat) (args : Array Value) (ds gs : List (DataW H)) (before : List MemPlace)
    (hval : ∀ (j : Nat) t v, Tryz.f7.params[j]? = some t → args[j]? = some v → Value.okWide Tryz.prog W .any base t v)
    (hW : DataW.Whole enc Tryz.prog Tryz.f7.params.toList Rows.parseBackSpec.vars false W args.toList ds gs before) (hk : Rows.uptoSmall H (ds ++ gs) = true) (hS : W.ShapedOpen Tryz.prog) (hL : laidMet Tryz.prog Rows.parseBackRow.laid W) :
    Calls Tryz.prog 7 args W fun e W' => ∃ v, e = .returned v ∧ Rows.parseBackSpec.post enc Tryz.prog Tryz.f7 false true false false W args v W' := by
  have hW' := hW
  obtain ⟨p, q, hA0, hV, rfl, hfz, hnd⟩ := hW
  have hA : DataW.TrodAll enc Tryz.prog W 0 (fun _ => true) true Tryz.f7.params.toList args.toList ds p := hA0
  rw [Tryz.params7] at hA hval
  obtain ⟨v0, vs0, d0, ds0, p0, q0_, hargs0, rfl, rfl, h0, r0⟩ := trodAll_cons hA
  obtain ⟨rfl, rfl, rfl⟩ := trodAll_nil r0
  obtain rfl : args = #[v0] := by cases args; simp_all
  obtain ⟨rfl, rfl⟩ := trodVars_none hV
  have k0 : ∃ cs, v0 = .agg cs := by
    have := hval 0 28 v0 rfl rfl
    cases v0 <;> first | exact ⟨_, rfl⟩ | (simp [Value.okWide, Cell.okWide, Cell.ok, Tryz.underlying28] at this)
  have hb : bulk d0 + 0 ≤ 1048576 := of_decide_eq_true hk
  obtain ⟨e0, qe0, s0, rn0⟩ := rs_arg_agg h0 rs_stm agg_stm k0
  have hr : Reps (G0 W) [e0.enc] [v0] := ⟨_, _, rfl, rn0, rfl⟩
  have hc := law_calls mixed noNum prims_sound Tryz.func7 rfl (vs := #[v0]) (shared.base hS hL) hr (ev_parseback e0 (sok_of e0 qe0 (by omega)))
  refine hc.mono fun e W' ⟨he, hg⟩ => ⟨_, he, ?_⟩
  exact post_true (by kernel_rfl) (tb := 4) rfl Tryz.underlying4 (fun t ht => by
    rw [Tryz.params7] at ht
    simp at ht
    first | (subst ht; exact ⟨by kernel_rfl, by decide +kernel⟩) | (rcases ht with rfl | rfl <;> exact ⟨by kernel_rfl, by decide +kernel⟩) | (rcases ht with rfl | rfl | rfl <;> exact ⟨by kernel_rfl, by decide +kernel⟩)) hW' rfl ⟨rfl, rfl, rfl⟩ hg
def arg : Array Value := #[.agg #[.int .i64 0, .string ⟨#[]⟩, .string ⟨#[]⟩, .string ⟨#[]⟩, .slice Option.none 0 0, .slice Option.none 0 0, .slice Option.none 0 0, .slice Option.none 0 0, .slice Option.none 0 0, .slice Option.none 0 0, .int .i64 0, .int .i64 0, .bool false, .bool false, .slice Option.none 0 0]]
theorem reads (os : Os) {H : Type} (enc : TypeId × Value → H) : ∃ x places, (DataW.whole enc Tryz.prog ((laidWorld os).forCall (fun _ _ => 0) ⟨#[], arg, []⟩).memory Tryz.f7.params.toList Rows.parseBackSpec.vars false arg.toList 8 = some (x, [], places)) ∧ Rows.uptoSmall H (x ++ []) = true :=
  ⟨[.agg [.lit (.int .i64 0), .lit (.string []), .lit (.string []), .lit (.string []), .nil, .nil, .nil, .nil, .nil, .nil, .lit (.int .i64 0), .lit (.int .i64 0), .lit (.bool false), .lit (.bool false), .nil]], [], by kernel_rfl, by kernel_rfl⟩
set_option maxRecDepth 100000 in
theorem lifted (os : Os) (started : os.Started) (H : Type) (enc : TypeId × Value → H) (F : Stop.Interp) :
    ReturnsInHanded {} Tryz.checked os 7 .any ((Rows.OpenSpec.upto Rows.parseBackSpec).preRow enc Tryz.prog Tryz.f7 Rows.parseBackUptoRow.domain false Rows.parseBackUptoRow.laid) (((Rows.OpenSpec.upto Rows.parseBackSpec).at F).post enc Tryz.prog Tryz.f7 false true false false) := by
  obtain ⟨x, places, hx, hsm⟩ := reads os enc
  refine returnsInHanded_of_row (C := Tryz.checked) (s := Rows.OpenSpec.upto Rows.parseBackSpec) own started (by kernel_rfl) Tryz.func7
    (witness_row_atRef (enc := enc) (C := Tryz.checked) false (laidWorld os) arg rfl (by kernel_rfl) (by kernel_rfl) (by kernel_rfl)
      (OpenSpec.preRow_of_cond 8 hx (by kernel_rfl) (fun k hk => by cases hk; exact hsm) (by kernel_rfl) (laid_met os _))) ?_
  intro W base args ds gs before hval hW _ hk _ hL hS _
  exact contract H enc W base args ds gs before hval hW (hk _ rfl) hS hL
theorem said : Rows.ParseBackUptoSaid :=
  OpenClaim.holds_of_cond 7 Tryz.f7 rfl rfl rfl rfl rfl rfl rfl ⟨rfl, rfl, rfl, rfl, rfl⟩ rfl rfl rfl rfl rfl (by kernel_rfl) Tryz.func7 (by kernel_rfl)
    (of_decide_eq_true (by kernel_rfl)) (by unfold Func.isWrapper; first | (rw [if_pos (by decide +kernel)]; kernel_rfl) | (rw [if_neg (by decide +kernel)]; exact ⟨rfl, rfl⟩))
    (fun os started H enc _ F => by rw [OpenClaim.pre_eq_preRow]; exact lifted os started H enc F)
theorem plain (f : FuncId) (fn : Func) (hf : Tryz.pinned.checked.prog.funcNamed "tripwire/tripwirelaw14.ParseBack" = some f) (hfn : Tryz.pinned.checked.prog.funcs[f]? = some fn) :
    true = Tryz.pinned.checked.prog.looks [] ∧ ∀ (j : Nat) t, fn.params[j]? = some t → Tryz.pinned.checked.prog.wantsStandIn t = false := by
  obtain rfl : f = 7 := Option.some.inj ((show Tryz.prog.funcNamed "tripwire/tripwirelaw14.ParseBack" = some 7 by kernel_rfl).symm.trans hf) |>.symm
  obtain rfl : fn = Tryz.f7 := (Option.some.inj (Tryz.func7.symm.trans hfn)).symm
  refine ⟨by kernel_rfl, fun j t ht => ?_⟩
  rw [Tryz.params7] at ht
  have h := Array.mem_of_getElem? ht
  simp at h
  have hm : t = 28 := by first | exact h | exact h.symm | (rcases h with h | h <;> first | exact h | exact h.symm) | (rcases h with h | h | h <;> first | exact h | exact h.symm)
  subst hm
  exact (show Tryz.prog.wantsStandIn 28 = false by kernel_rfl)
theorem card : Rows.ParseBackUptoCardSaid :=
  Claim7.holds_tied_plain_at .later [] _ _ _ _ said (fun _ h => by cases h) (by kernel_rfl) (fun _ h => by cases h) parseBackUpto_row_tie rfl ⟨rfl, rfl⟩ (by kernel_rfl) rfl plain (by kernel_rfl)
end Go.Proofs.YtpmeklllgnnffaaGreatDoor.parseBack
