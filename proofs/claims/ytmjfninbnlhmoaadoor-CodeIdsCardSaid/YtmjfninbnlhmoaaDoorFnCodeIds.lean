/- CodeIds, as its row and its card say it. -/
import Derived.Test.YtmjfninbnlhmoaaDoorFnCCard
import Derived.Test.YtmjfninbnlhmoaaDoorFnArgsC
import Derived.Test.YtmjfninbnlhmoaaDoorFnCodeS
namespace Go.Proofs.YtmjfninbnlhmoaaDoor.codeIds
open Go.ChangeShapes Go.WideShapes Go.ChangeAt Go.RowKit Go.Abs shared

set_option maxRecDepth 100000 in
theorem contract (H : Type) (enc : TypeId × Value → H) (W : World) (base : Nat) (args : Array Value) (ds gs : List (DataW H)) (before : List MemPlace)
    (hval : ∀ (j : Nat) t v, Tryd.f6.params[j]? = some t → args[j]? = some v → Value.okWide Tryd.prog W .any base t v)
    (hW : DataW.Whole enc Tryd.prog Tryd.f6.params.toList Rows.codeIdsSpec.vars false W args.toList ds gs before) (hS : W.ShapedOpen Tryd.prog) :
    Calls Tryd.prog 6 args W fun e W' => ∃ v, e = .returned v ∧ Rows.codeIdsSpec.post enc Tryd.prog Tryd.f6 false true false false W args v W' := by
  have hW' := hW
  obtain ⟨p, q, hA0, hV, rfl, hfz, hnd⟩ := hW
  have hA : DataW.TrodAll enc Tryd.prog W 0 (fun _ => true) true Tryd.f6.params.toList args.toList ds p := hA0
  rw [Tryd.params6] at hA hval
  obtain ⟨v0, vs0, d0, ds0, p0, pq0, hargs, rfl, rfl, h0, r0⟩ := trodAll_cons hA
  obtain ⟨v1, vs1, d1, ds1, p1, pq1, rfl, rfl, rfl, h1, r1⟩ := trodAll_cons r0
  obtain ⟨v2, vs2, d2, ds2, p2, pq2, rfl, rfl, rfl, h2, r2⟩ := trodAll_cons r1
  obtain ⟨rfl, rfl, rfl⟩ := trodAll_nil r2
  obtain rfl : args = #[v0, v1, v2] := by cases args; simp_all
  obtain ⟨rfl, rfl⟩ := trodVars_none hV
  have k0 : ∀ cs, v0 ≠ .agg cs := by
    have := hval 0 3 v0 rfl rfl
    rintro cs rfl
    simp [Value.okWide, Cell.okWide, Cell.ok, Tryd.underlying3] at this
  obtain ⟨a0, q0, s0, e0⟩ := rs_arg h0 rs_vi64 (fun a => ⟨_, rfl, rfl, rfl⟩) k0
  have k1 : ∀ cs, v1 ≠ .agg cs := by
    have := hval 1 3 v1 rfl rfl
    rintro cs rfl
    simp [Value.okWide, Cell.okWide, Cell.ok, Tryd.underlying3] at this
  obtain ⟨a1, q1, s1, e1⟩ := rs_arg h1 rs_vi64 (fun a => ⟨_, rfl, rfl, rfl⟩) k1
  have k2 : ∀ cs, v2 ≠ .agg cs := by
    have := hval 2 9 v2 rfl rfl
    rintro cs rfl
    simp [Value.okWide, Cell.okWide, Cell.ok, Tryd.underlying9] at this
  obtain ⟨a2, q2, s2, e2⟩ := rs_arg h2 rs_vtext (fun a => ⟨_, rfl, rfl, rfl⟩) k2
  have hr : Reps (G0 W) [V.int .i64 a0, V.int .i64 a1, V.str a2] [v0, v1, v2] := ⟨_, _, rfl, e0, _, _, rfl, e1, _, _, rfl, e2, rfl⟩
  have hc := law_calls mixed noNum prims_sound Tryd.func6 rfl (vs := #[v0, v1, v2]) (shared.base hS) hr (ev_ids a0 a1 a2 q0 q1)
  refine hc.mono fun e W' ⟨he, hg⟩ => ⟨_, he, ?_⟩
  exact post_true (by kernel_rfl) (tb := 4) rfl Tryd.underlying4 (fun t ht => by
    rw [Tryd.params6] at ht
    simp at ht
    rcases ht with rfl | rfl <;> exact ⟨by kernel_rfl, by decide +kernel⟩) hW' rfl ⟨rfl, rfl, rfl⟩ hg

theorem reads (os : Os) {H : Type} (enc : TypeId × Value → H) : ∃ places, DataW.whole enc Tryd.prog ((laidWorld os).forCall (fun _ _ => 0) ⟨#[], #[.int .i64 0, .int .i64 0, .string ⟨#[]⟩], []⟩).memory Tryd.f6.params.toList Rows.codeIdsSpec.vars false (#[.int .i64 0, .int .i64 0, .string ⟨#[]⟩] : Array Value).toList 8 = some ([.lit (.int .i64 0), .lit (.int .i64 0), .lit (.string [])], [], places) :=
  ⟨[], by kernel_rfl⟩

set_option maxRecDepth 100000 in
theorem lifted (os : Os) (started : os.Started) (H : Type) (enc : TypeId × Value → H) (F : Stop.Interp) :
    ReturnsInHanded {} Tryd.checked os 6 .any ((OpenSpec.ofChange Rows.codeIdsSpec).preRow enc Tryd.prog Tryd.f6 Rows.codeIdsRow.domain false Rows.codeIdsRow.laid) (((OpenSpec.ofChange Rows.codeIdsSpec).at F).post enc Tryd.prog Tryd.f6 false true false false) := by
  obtain ⟨places, hx⟩ := reads os enc
  refine returnsInHanded_of_row (C := Tryd.checked) (s := OpenSpec.ofChange Rows.codeIdsSpec) own started (by kernel_rfl) Tryd.func6
    (witness_row_at (enc := enc) (C := Tryd.checked) false (laidWorld os) #[.int .i64 0, .int .i64 0, .string ⟨#[]⟩] rfl (by kernel_rfl) (by kernel_rfl) (by kernel_rfl)
      (OpenSpec.preRow_of_cond 8 hx (by kernel_rfl) (fun k hk => by cases hk) (by kernel_rfl) (laid_met os _))) ?_
  intro W base args ds gs before hval hW _ _ _ _ hS _
  exact contract H enc W base args ds gs before hval hW hS

theorem said : Rows.CodeIdsSaid :=
  OpenClaim.holds_of_cond 6 Tryd.f6 rfl rfl rfl rfl rfl rfl rfl ⟨rfl, rfl, rfl, rfl, rfl⟩ rfl rfl rfl rfl rfl (by kernel_rfl) Tryd.func6 (by kernel_rfl)
    (of_decide_eq_true (by kernel_rfl)) (by unfold Func.isWrapper; first | (rw [if_pos (by decide +kernel)]; kernel_rfl) | (rw [if_neg (by decide +kernel)]; exact ⟨rfl, rfl⟩))
    (fun os started H enc _ F => by rw [OpenClaim.pre_eq_preRow]; exact lifted os started H enc F)

theorem plain (f : FuncId) (fn : Func) (hf : Tryd.pinned.checked.prog.funcNamed "tripwire/tripwirelaw03.CodeIds" = some f) (hfn : Tryd.pinned.checked.prog.funcs[f]? = some fn) :
    true = Tryd.pinned.checked.prog.looks [] ∧ ∀ (j : Nat) t, fn.params[j]? = some t → Tryd.pinned.checked.prog.wantsStandIn t = false := by
  obtain rfl : f = 6 := Option.some.inj ((show Tryd.prog.funcNamed "tripwire/tripwirelaw03.CodeIds" = some 6 by kernel_rfl).symm.trans hf) |>.symm
  obtain rfl : fn = Tryd.f6 := (Option.some.inj (Tryd.func6.symm.trans hfn)).symm
  refine ⟨by kernel_rfl, fun j t ht => ?_⟩
  rw [Tryd.params6] at ht
  have hm : t = 3 ∨ t = 9 := by
    have h := Array.mem_of_getElem? ht
    simp at h
    first | exact h | exact h.symm | (rcases h with h | h | h <;> simp [h])
  rcases hm with rfl | rfl
  · exact (show Tryd.prog.wantsStandIn 3 = false by kernel_rfl)
  · exact (show Tryd.prog.wantsStandIn 9 = false by kernel_rfl)

theorem card : Rows.CodeIdsCardSaid :=
  Claim7.holds_tied_plain_at .later [] _ _ _ _ said (fun _ h => by cases h) (by kernel_rfl) (fun _ h => by cases h) codeIds_row_tie rfl ⟨rfl, rfl⟩ (by kernel_rfl) rfl plain (by kernel_rfl)
end Go.Proofs.YtmjfninbnlhmoaaDoor.codeIds
