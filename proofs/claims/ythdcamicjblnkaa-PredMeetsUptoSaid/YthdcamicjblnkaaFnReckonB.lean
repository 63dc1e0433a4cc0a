/- What Reckon comes to. -/
import Derived.Test.YthdcamicjblnkaaFnReckon
namespace Go.Abs
set_option linter.unusedSimpArgs false
set_option linter.unusedVariables false
open Go Go.Proofs

noncomputable def reckonN (op : List UInt8) (n n' : Int) : Int × Bool :=
  if op = [43] then (IntKind.i64.wrap (n + n'), if n < 0 then (if n' < 0 then decide (IntKind.i64.wrap (n + n') < 0) else true) else if n' < 0 then true else decide (0 ≤ IntKind.i64.wrap (n + n')))
  else if op = [45] then (IntKind.i64.wrap (n - n'), if n < 0 then (if n' < 0 then true else decide (IntKind.i64.wrap (n - n') < 0)) else if n' < 0 then decide (0 ≤ IntKind.i64.wrap (n - n')) else true)
  else timesS n n'
noncomputable def reckonS (op : List UInt8) (v w : Val) : Val × Int :=
  if ¬ (op = [43] ∨ op = [45] ∨ op = [42]) ∨ rightS v = false ∨ rightS w = false then (⟨0, 0, []⟩, 15)
  else if v.kind = 0 ∨ w.kind = 0 then (⟨0, 0, []⟩, 0)
  else if op = [43] ∧ v.kind = 3 ∧ w.kind = 3 then (if 24 < (v.s.length : Int) + (w.s.length : Int) then (⟨0, 0, []⟩, 8) else (⟨3, 0, v.s ++ w.s⟩, 0))
  else if v.kind ≠ 2 ∨ w.kind ≠ 2 then (⟨0, 0, []⟩, 4)
  else if (reckonN op v.n w.n).2 = true then (⟨2, (reckonN op v.n w.n).1, []⟩, 0) else (⟨0, 0, []⟩, 7)

theorem ite_two' {α : Type} {p : Prop} [Decidable p] {x y r : α} (h : p → x = r) (h' : ¬ p → y = r) : (if p then x else y) = r := by by_cases hp : p <;> simp [hp, h, h']
theorem right_len {n : Int} {s : List UInt8} (h : rightS ⟨3, n, s⟩ = true) : s.length ≤ 24 := by
  simp [rightS] at h; exact h.2

set_option maxRecDepth 100000 in
set_option maxHeartbeats 4000000 in
theorem ev_reckon (op : List UInt8) (k n : Int) (s : List UInt8) (k' n' : Int) (s' : List UInt8) : EV 94 [.str op, .agg [.int .i64 k, .int .i64 n, .str s], .agg [.int .i64 k', .int .i64 n', .str s']] [] =
    some (.ret (.tup [.agg [.int .i64 (reckonS op ⟨k, n, s⟩ ⟨k', n', s'⟩).1.kind, .int .i64 (reckonS op ⟨k, n, s⟩ ⟨k', n', s'⟩).1.n, .str (reckonS op ⟨k, n, s⟩ ⟨k', n', s'⟩).1.s], .int .i64 (reckonS op ⟨k, n, s⟩ ⟨k', n', s'⟩).2]), []) := by
  rw [EV_mki rfl Try.func94 rfl (by kernel_rfl)]
  by_cases hs : s.length ≤ 24 ∧ s'.length ≤ 24
  · have hw : IntKind.i64.wrap ((s.length : Int) + (s'.length : Int)) = (s.length : Int) + (s'.length : Int) := wrap_i64 (by omega)
    have hl : s.length + s'.length ≤ 4611686018427387904 := by omega
    simp +contextual (maxSteps := 10000000) [i_nil, i_blk, i_skip, i_ret, i_exit, i_seq, i_block, i_cond, i_region', i_ops_nil, i_ops, i_drawn', d_in, a_nil, a_cons, alt1, h_nil, h_one, h_two, z_nil, z_cons, z_cells, zeqL, zeq, q_alloc, q_some, isAlO, nxtN, i_drh, d_hi, i_drw_nil, i_drw, u_nil, u_code, u_ops, u_drw, u_lp, u_again, u_exit, u_ret, u_panic, c_bool, o_some, o_val, o_panic, d_some, d_val, d_panic, w_none, w_fast, wantG, q_nil, q_zero, q_succ, t_zero, t_succ, g_zero, g_succ, s_zero, s_succ, s_some, s_none, v_tmp, v_const, v_func, f_quiet, ↓brB_true, ↓brB_false, ↓brB_dec, ↓brB_not, ↓brB_and, ↓brB_or, ↓brB_beq, ↓brB_bne, gc_none, gc_pure, wrap_i64, p_move, p_assign, p_pick, p_alloc, p_box, p_build, p_buildSlice, p_load, p_store, p_nilCheck, p_binOp, n_tmp, n_int, n_bool, n_str, n_ptr, n_fun, n_iface, nilCmp, p_unOp, p_convert, p_makeSlice, p_makeInterface, p_makeFunc, p_slice, p_fieldAddr, p_field, p_indexAddr, p_index, p_extract, p_callv, p_callb, p_panic, quiet_val, new_val, e_assign, e_call, e_load, e_store, e_alloc, e_box, e_move, e_pick, e_build, e_buildSlice, e_nilCheck, e_binOp, e_unOp, e_convert, e_makeSlice, e_makeInterface, e_makeFunc, e_slice, e_fieldAddr, e_field, e_indexAddr, e_index, e_extract, e_panic, callD, fpRead, adopt, adoptL, ofValue, ofScalar, binOpV, unOpV, intBin, strBin, eqRes, veq, veqF, eqDepth, val?, finish, resL, r_tmp, r_cell, normL, normTop, tipIs, refsL, refs, ownRefs, single, frz, frzL, ren, renL, renOwn, callOp, doCall, backR, writeBack, builtinV, loadV, storeV, cellsAt, takeV, D.isAgg, overlay, vcells, cellOk, fieldAddrV, indexAddrV, fieldV, partV, indexV, buildV, fillV, buildSliceV, litElems, appendV, appElems, elemOk, convertV, convV, winStr, makeSliceV, sliceV, natOf, Try.f94, Try.ti3, Try.ti4, Try.ti9, Try.ti37, ev_right, ev_times, ev_number, ↓brB_gen (b := rightS _), ↓brB_gen (b := (timesS _ _).2), hw, hl]
    try simp only [brP, dite_eq_ite]
    simp only [reckonS]
    generalize rightS ⟨k, n, s⟩ = r1 at *
    generalize rightS ⟨k', n', s'⟩ = r2 at *
    repeat' (refine ite_two' (fun h => ?_) (fun h => ?_))
    all_goals first | (simp [reckonN, *]; done) | (simp_all [reckonN]; done)
  by_cases h1 : rightS ⟨k, n, s⟩ = true
  · by_cases h2 : rightS ⟨k', n', s'⟩ = true
    · by_cases h3 : k = 3
      · by_cases h4 : k' = 3
        · subst h3 h4; exact absurd ⟨right_len h1, right_len h2⟩ hs
        · subst h3
          simp +contextual (maxSteps := 10000000) [i_nil, i_blk, i_skip, i_ret, i_exit, i_seq, i_block, i_cond, i_region', i_ops_nil, i_ops, i_drawn', d_in, a_nil, a_cons, alt1, h_nil, h_one, h_two, z_nil, z_cons, z_cells, zeqL, zeq, q_alloc, q_some, isAlO, nxtN, i_drh, d_hi, i_drw_nil, i_drw, u_nil, u_code, u_ops, u_drw, u_lp, u_again, u_exit, u_ret, u_panic, c_bool, o_some, o_val, o_panic, d_some, d_val, d_panic, w_none, w_fast, wantG, q_nil, q_zero, q_succ, t_zero, t_succ, g_zero, g_succ, s_zero, s_succ, s_some, s_none, v_tmp, v_const, v_func, f_quiet, ↓brB_true, ↓brB_false, ↓brB_dec, ↓brB_not, ↓brB_and, ↓brB_or, ↓brB_beq, ↓brB_bne, gc_none, gc_pure, wrap_i64, p_move, p_assign, p_pick, p_alloc, p_box, p_build, p_buildSlice, p_load, p_store, p_nilCheck, p_binOp, n_tmp, n_int, n_bool, n_str, n_ptr, n_fun, n_iface, nilCmp, p_unOp, p_convert, p_makeSlice, p_makeInterface, p_makeFunc, p_slice, p_fieldAddr, p_field, p_indexAddr, p_index, p_extract, p_callv, p_callb, p_panic, quiet_val, new_val, e_assign, e_call, e_load, e_store, e_alloc, e_box, e_move, e_pick, e_build, e_buildSlice, e_nilCheck, e_binOp, e_unOp, e_convert, e_makeSlice, e_makeInterface, e_makeFunc, e_slice, e_fieldAddr, e_field, e_indexAddr, e_index, e_extract, e_panic, callD, fpRead, adopt, adoptL, ofValue, ofScalar, binOpV, unOpV, intBin, strBin, eqRes, veq, veqF, eqDepth, val?, finish, resL, r_tmp, r_cell, normL, normTop, tipIs, refsL, refs, ownRefs, single, frz, frzL, ren, renL, renOwn, callOp, doCall, backR, writeBack, builtinV, loadV, storeV, cellsAt, takeV, D.isAgg, overlay, vcells, cellOk, fieldAddrV, indexAddrV, fieldV, partV, indexV, buildV, fillV, buildSliceV, litElems, appendV, appElems, elemOk, convertV, convV, winStr, makeSliceV, sliceV, natOf, Try.f94, Try.ti3, Try.ti4, Try.ti9, Try.ti37, ev_right, ev_times, ev_number, ↓brB_gen (b := rightS _), ↓brB_gen (b := (timesS _ _).2), h4]
          try simp only [brP, dite_eq_ite]
          simp only [reckonS]
          generalize rightS ⟨3, n, s⟩ = r1 at *
          generalize rightS ⟨k', n', s'⟩ = r2 at *
          repeat' (refine ite_two' (fun h => ?_) (fun h => ?_))
          all_goals first | (simp [reckonN, *]; done) | (simp_all [reckonN]; done)
      
      · simp +contextual (maxSteps := 10000000) [i_nil, i_blk, i_skip, i_ret, i_exit, i_seq, i_block, i_cond, i_region', i_ops_nil, i_ops, i_drawn', d_in, a_nil, a_cons, alt1, h_nil, h_one, h_two, z_nil, z_cons, z_cells, zeqL, zeq, q_alloc, q_some, isAlO, nxtN, i_drh, d_hi, i_drw_nil, i_drw, u_nil, u_code, u_ops, u_drw, u_lp, u_again, u_exit, u_ret, u_panic, c_bool, o_some, o_val, o_panic, d_some, d_val, d_panic, w_none, w_fast, wantG, q_nil, q_zero, q_succ, t_zero, t_succ, g_zero, g_succ, s_zero, s_succ, s_some, s_none, v_tmp, v_const, v_func, f_quiet, ↓brB_true, ↓brB_false, ↓brB_dec, ↓brB_not, ↓brB_and, ↓brB_or, ↓brB_beq, ↓brB_bne, gc_none, gc_pure, wrap_i64, p_move, p_assign, p_pick, p_alloc, p_box, p_build, p_buildSlice, p_load, p_store, p_nilCheck, p_binOp, n_tmp, n_int, n_bool, n_str, n_ptr, n_fun, n_iface, nilCmp, p_unOp, p_convert, p_makeSlice, p_makeInterface, p_makeFunc, p_slice, p_fieldAddr, p_field, p_indexAddr, p_index, p_extract, p_callv, p_callb, p_panic, quiet_val, new_val, e_assign, e_call, e_load, e_store, e_alloc, e_box, e_move, e_pick, e_build, e_buildSlice, e_nilCheck, e_binOp, e_unOp, e_convert, e_makeSlice, e_makeInterface, e_makeFunc, e_slice, e_fieldAddr, e_field, e_indexAddr, e_index, e_extract, e_panic, callD, fpRead, adopt, adoptL, ofValue, ofScalar, binOpV, unOpV, intBin, strBin, eqRes, veq, veqF, eqDepth, val?, finish, resL, r_tmp, r_cell, normL, normTop, tipIs, refsL, refs, ownRefs, single, frz, frzL, ren, renL, renOwn, callOp, doCall, backR, writeBack, builtinV, loadV, storeV, cellsAt, takeV, D.isAgg, overlay, vcells, cellOk, fieldAddrV, indexAddrV, fieldV, partV, indexV, buildV, fillV, buildSliceV, litElems, appendV, appElems, elemOk, convertV, convV, winStr, makeSliceV, sliceV, natOf, Try.f94, Try.ti3, Try.ti4, Try.ti9, Try.ti37, ev_right, ev_times, ev_number, ↓brB_gen (b := rightS _), ↓brB_gen (b := (timesS _ _).2), h3]
        try simp only [brP, dite_eq_ite]
        simp only [reckonS]
        generalize rightS ⟨k, n, s⟩ = r1 at *
        generalize rightS ⟨k', n', s'⟩ = r2 at *
        repeat' (refine ite_two' (fun h => ?_) (fun h => ?_))
        all_goals first | (simp [reckonN, *]; done) | (simp_all [reckonN]; done)
    
    · rw [Bool.not_eq_true] at h2
      simp +contextual (maxSteps := 10000000) [i_nil, i_blk, i_skip, i_ret, i_exit, i_seq, i_block, i_cond, i_region', i_ops_nil, i_ops, i_drawn', d_in, a_nil, a_cons, alt1, h_nil, h_one, h_two, z_nil, z_cons, z_cells, zeqL, zeq, q_alloc, q_some, isAlO, nxtN, i_drh, d_hi, i_drw_nil, i_drw, u_nil, u_code, u_ops, u_drw, u_lp, u_again, u_exit, u_ret, u_panic, c_bool, o_some, o_val, o_panic, d_some, d_val, d_panic, w_none, w_fast, wantG, q_nil, q_zero, q_succ, t_zero, t_succ, g_zero, g_succ, s_zero, s_succ, s_some, s_none, v_tmp, v_const, v_func, f_quiet, ↓brB_true, ↓brB_false, ↓brB_dec, ↓brB_not, ↓brB_and, ↓brB_or, ↓brB_beq, ↓brB_bne, gc_none, gc_pure, wrap_i64, p_move, p_assign, p_pick, p_alloc, p_box, p_build, p_buildSlice, p_load, p_store, p_nilCheck, p_binOp, n_tmp, n_int, n_bool, n_str, n_ptr, n_fun, n_iface, nilCmp, p_unOp, p_convert, p_makeSlice, p_makeInterface, p_makeFunc, p_slice, p_fieldAddr, p_field, p_indexAddr, p_index, p_extract, p_callv, p_callb, p_panic, quiet_val, new_val, e_assign, e_call, e_load, e_store, e_alloc, e_box, e_move, e_pick, e_build, e_buildSlice, e_nilCheck, e_binOp, e_unOp, e_convert, e_makeSlice, e_makeInterface, e_makeFunc, e_slice, e_fieldAddr, e_field, e_indexAddr, e_index, e_extract, e_panic, callD, fpRead, adopt, adoptL, ofValue, ofScalar, binOpV, unOpV, intBin, strBin, eqRes, veq, veqF, eqDepth, val?, finish, resL, r_tmp, r_cell, normL, normTop, tipIs, refsL, refs, ownRefs, single, frz, frzL, ren, renL, renOwn, callOp, doCall, backR, writeBack, builtinV, loadV, storeV, cellsAt, takeV, D.isAgg, overlay, vcells, cellOk, fieldAddrV, indexAddrV, fieldV, partV, indexV, buildV, fillV, buildSliceV, litElems, appendV, appElems, elemOk, convertV, convV, winStr, makeSliceV, sliceV, natOf, Try.f94, Try.ti3, Try.ti4, Try.ti9, Try.ti37, ev_right, ev_times, ev_number, ↓brB_gen (b := rightS _), ↓brB_gen (b := (timesS _ _).2), h2]
      try simp only [brP, dite_eq_ite]
      simp only [reckonS]
      generalize rightS ⟨k, n, s⟩ = r1 at *
      generalize rightS ⟨k', n', s'⟩ = r2 at *
      repeat' (refine ite_two' (fun h => ?_) (fun h => ?_))
      all_goals first | (simp [reckonN, *]; done) | (simp_all [reckonN]; done)
  
  · rw [Bool.not_eq_true] at h1
    simp +contextual (maxSteps := 10000000) [i_nil, i_blk, i_skip, i_ret, i_exit, i_seq, i_block, i_cond, i_region', i_ops_nil, i_ops, i_drawn', d_in, a_nil, a_cons, alt1, h_nil, h_one, h_two, z_nil, z_cons, z_cells, zeqL, zeq, q_alloc, q_some, isAlO, nxtN, i_drh, d_hi, i_drw_nil, i_drw, u_nil, u_code, u_ops, u_drw, u_lp, u_again, u_exit, u_ret, u_panic, c_bool, o_some, o_val, o_panic, d_some, d_val, d_panic, w_none, w_fast, wantG, q_nil, q_zero, q_succ, t_zero, t_succ, g_zero, g_succ, s_zero, s_succ, s_some, s_none, v_tmp, v_const, v_func, f_quiet, ↓brB_true, ↓brB_false, ↓brB_dec, ↓brB_not, ↓brB_and, ↓brB_or, ↓brB_beq, ↓brB_bne, gc_none, gc_pure, wrap_i64, p_move, p_assign, p_pick, p_alloc, p_box, p_build, p_buildSlice, p_load, p_store, p_nilCheck, p_binOp, n_tmp, n_int, n_bool, n_str, n_ptr, n_fun, n_iface, nilCmp, p_unOp, p_convert, p_makeSlice, p_makeInterface, p_makeFunc, p_slice, p_fieldAddr, p_field, p_indexAddr, p_index, p_extract, p_callv, p_callb, p_panic, quiet_val, new_val, e_assign, e_call, e_load, e_store, e_alloc, e_box, e_move, e_pick, e_build, e_buildSlice, e_nilCheck, e_binOp, e_unOp, e_convert, e_makeSlice, e_makeInterface, e_makeFunc, e_slice, e_fieldAddr, e_field, e_indexAddr, e_index, e_extract, e_panic, callD, fpRead, adopt, adoptL, ofValue, ofScalar, binOpV, unOpV, intBin, strBin, eqRes, veq, veqF, eqDepth, val?, finish, resL, r_tmp, r_cell, normL, normTop, tipIs, refsL, refs, ownRefs, single, frz, frzL, ren, renL, renOwn, callOp, doCall, backR, writeBack, builtinV, loadV, storeV, cellsAt, takeV, D.isAgg, overlay, vcells, cellOk, fieldAddrV, indexAddrV, fieldV, partV, indexV, buildV, fillV, buildSliceV, litElems, appendV, appElems, elemOk, convertV, convV, winStr, makeSliceV, sliceV, natOf, Try.f94, Try.ti3, Try.ti4, Try.ti9, Try.ti37, ev_right, ev_times, ev_number, ↓brB_gen (b := rightS _), ↓brB_gen (b := (timesS _ _).2), h1]
    try simp only [brP, dite_eq_ite]
    simp only [reckonS]
    generalize rightS ⟨k, n, s⟩ = r1 at *
    generalize rightS ⟨k', n', s'⟩ = r2 at *
    repeat' (refine ite_two' (fun h => ?_) (fun h => ?_))
    all_goals first | (simp [reckonN, *]; done) | (simp_all [reckonN]; done)

end Go.Abs
