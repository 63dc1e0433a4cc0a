/- ParsePlaces, as its card says it, where what it reads is of bulk at most 1048576. -/
import Derived.Test.YtpmeklllgnnffaaGreatDoorR14
import Derived.Deep.DeepWitnessRowRef
import Derived.Test.YtpmeklllgnnffaaGreatDoorR26
set_option linter.unusedSimpArgs false
set_option linter.unusedVariables false

namespace Go.Proofs.YtpmeklllgnnffaaGreatDoor.parsePlaces
set_option linter.unusedSimpArgs false
set_option linter.unusedVariables false
open Go.ChangeShapes Go.WideShapes Go.ChangeAt Go.RowKit Go.Abs shared
set_option maxRecDepth 100000 in
theorem contract (H : Type) (enc : TypeId × Value → H) (W : World) (base : Nat) (args : Array Value) (ds gs : List (DataW H)) (before : List MemPlace)
    (hval : ∀ (j : Nat) t v, Tryz.f9.params[j]? = some t → args[j]? = some v → Value.okWide Tryz.prog W .any base t v)
    (hW : DataW.Whole enc Tryz.prog Tryz.f9.params.toList Rows.parsePlacesSpec.vars false W args.toList ds gs before) (hk : Rows.uptoSmall H (ds ++ gs) = true) (hS : W.ShapedOpen Tryz.prog) (hL : laidMet Tryz.prog Rows.parsePlacesRow.laid W) :
    Calls Tryz.prog 9 args W fun e W' => ∃ v, e = .returned v ∧ Rows.parsePlacesSpec.post enc Tryz.prog Tryz.f9 false true false false W args v W' := by
  have hW' := hW
  obtain ⟨p, q, hA0, hV, rfl, hfz, hnd⟩ := hW
  have hA : DataW.TrodAll enc Tryz.prog W 0 (fun _ => true) true Tryz.f9.params.toList args.toList ds p := hA0
  rw [Tryz.params9] at hA hval
  obtain ⟨v0, vs0, d0, ds0, p0, q0_, hargs0, rfl, rfl, h0, r0⟩ := trodAll_cons hA
  obtain ⟨v1, vs1, d1, ds1, p1, q1_, hargs1, rfl, rfl, h1, r1⟩ := trodAll_cons r0
  obtain ⟨rfl, rfl, rfl⟩ := trodAll_nil r1
  obtain rfl : args = #[v0, v1] := by cases args; simp_all
  obtain ⟨rfl, rfl⟩ := trodVars_none hV
  have k0 : ∀ cs, v0 ≠ .agg cs := by
    have := hval 0 9 v0 rfl rfl
    rintro cs rfl
    simp [Value.okWide, Cell.okWide, Cell.ok, Tryz.underlying9] at this
  have k1 : ∀ cs, v1 ≠ .agg cs := by
    have := hval 1 9 v1 rfl rfl
    rintro cs rfl
    simp [Value.okWide, Cell.okWide, Cell.ok, Tryz.underlying9] at this
  have hb : bulk d0 + (bulk d1 + 0) ≤ 1048576 := of_decide_eq_true hk
  obtain ⟨e0, qe0, s0, rn0⟩ := rs_arg h0 (rs_text (W := W)) (fun a => ⟨_, rfl, rfl, rfl⟩) k0
  obtain ⟨e1, qe1, s1, rn1⟩ := rs_arg h1 (rs_text (W := W)) (fun a => ⟨_, rfl, rfl, rfl⟩) k1
  have hr : Reps (G0 W) [.str e0, .str e1] [v0, v1] := ⟨_, _, rfl, rn0, ⟨_, _, rfl, rn1, rfl⟩⟩
  have hc := law_calls mixed noNum prims_sound Tryz.func9 rfl (vs := #[v0, v1]) (shared.base hS hL) hr (ev_parseplaces e0 e1 ((by omega : e0.length ≤ 1048576)) ((by omega : e1.length ≤ 1048576)))
  refine hc.mono fun e W' ⟨he, hg⟩ => ⟨_, he, ?_⟩
  exact post_true (by kernel_rfl) (tb := 4) rfl Tryz.underlying4 (fun t ht => by
    rw [Tryz.params9] at ht
    simp at ht
    first | (subst ht; exact ⟨by kernel_rfl, by decide +kernel⟩) | (rcases ht with rfl | rfl <;> exact ⟨by kernel_rfl, by decide +kernel⟩) | (rcases ht with rfl | rfl | rfl <;> exact ⟨by kernel_rfl, by decide +kernel⟩)) hW' rfl ⟨rfl, rfl, rfl⟩ hg
def arg : Array Value := #[.string ⟨#[]⟩, .string ⟨#[]⟩]
theorem reads (os : Os) {H : Type} (enc : TypeId × Value → H) : ∃ x places, (DataW.whole enc Tryz.prog ((laidWorld os).forCall (fun _ _ => 0) ⟨#[], arg, []⟩).memory Tryz.f9.params.toList Rows.parsePlacesSpec.vars false arg.toList 8 = some (x, [], places)) ∧ Rows.uptoSmall H (x ++ []) = true :=
  ⟨[.lit (.string []), .lit (.string [])], [], by kernel_rfl, by kernel_rfl⟩
set_option maxRecDepth 100000 in
theorem lifted (os : Os) (started : os.Started) (H : Type) (enc : TypeId × Value → H) (F : Stop.Interp) :
    ReturnsInHanded {} Tryz.checked os 9 .any ((Rows.OpenSpec.upto Rows.parsePlacesSpec).preRow enc Tryz.prog Tryz.f9 Rows.parsePlacesUptoRow.domain false Rows.parsePlacesUptoRow.laid) (((Rows.OpenSpec.upto Rows.parsePlacesSpec).at F).post enc Tryz.prog Tryz.f9 false true false false) := by
  obtain ⟨x, places, hx, hsm⟩ := reads os enc
  refine returnsInHanded_of_row (C := Tryz.checked) (s := Rows.OpenSpec.upto Rows.parsePlacesSpec) own started (by kernel_rfl) Tryz.func9
    (witness_row_atRef (enc := enc) (C := Tryz.checked) false (laidWorld os) arg rfl (by kernel_rfl) (by kernel_rfl) (by kernel_rfl)
      (OpenSpec.preRow_of_cond 8 hx (by kernel_rfl) (fun k hk => by cases hk; exact hsm) (by kernel_rfl) (laid_met os _))) ?_
  intro W base args ds gs before hval hW _ hk _ hL hS _
  exact contract H enc W base args ds gs before hval hW (hk _ rfl) hS hL
theorem said : Rows.ParsePlacesUptoSaid :=
  OpenClaim.holds_of_cond 9 Tryz.f9 rfl rfl rfl rfl rfl rfl rfl ⟨rfl, rfl, rfl, rfl, rfl⟩ rfl rfl rfl rfl rfl (by kernel_rfl) Tryz.func9 (by kernel_rfl)
    (of_decide_eq_true (by kernel_rfl)) (by unfold Func.isWrapper; first | (rw [if_pos (by decide +kernel)]; kernel_rfl) | (rw [if_neg (by decide +kernel)]; exact ⟨rfl, rfl⟩))
    (fun os started H enc _ F => by rw [OpenClaim.pre_eq_preRow]; exact lifted os started H enc F)
theorem plain (f : FuncId) (fn : Func) (hf : Tryz.pinned.checked.prog.funcNamed "tripwire/tripwirelaw14.ParsePlaces" = some f) (hfn : Tryz.pinned.checked.prog.funcs[f]? = some fn) :
    true = Tryz.pinned.checked.prog.looks [] ∧ ∀ (j : Nat) t, fn.params[j]? = some t → Tryz.pinned.checked.prog.wantsStandIn t = false := by
  obtain rfl : f = 9 := Option.some.inj ((show Tryz.prog.funcNamed "tripwire/tripwirelaw14.ParsePlaces" = some 9 by kernel_rfl).symm.trans hf) |>.symm
  obtain rfl : fn = Tryz.f9 := (Option.some.inj (Tryz.func9.symm.trans hfn)).symm
  refine ⟨by kernel_rfl, fun j t ht => ?_⟩
  rw [Tryz.params9] at ht
  have h := Array.mem_of_getElem? ht
  simp at h
  have hm : t = 9 := by first | exact h | exact h.symm | (rcases h with h | h <;> first | exact h | exact h.symm) | (rcases h with h | h | h <;> first | exact h | exact h.symm)
  subst hm
  exact (show Tryz.prog.wantsStandIn 9 = false by kernel_rfl)
theorem card : Rows.ParsePlacesUptoCardSaid :=
  Claim7.holds_tied_plain_at .later [] _ _ _ _ said (fun _ h => by cases h) (by kernel_rfl) (fun _ h => by cases h) parsePlacesUpto_row_tie rfl ⟨rfl, rfl⟩ (by kernel_rfl) rfl plain (by kernel_rfl)
end Go.Proofs.YtpmeklllgnnffaaGreatDoor.parsePlaces
