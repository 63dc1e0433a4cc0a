/- What stopping and the arity of an op come to. -/
import Derived.Test.YthdcamicjblnkaaFnReckon
import Derived.Test.YthdcamicjblnkaaFnStop
namespace Go.Abs
set_option linter.unusedSimpArgs false
set_option linter.unusedVariables false
open Go Go.Proofs

def manyS (op : List UInt8) : Int :=
  if op = [118, 97, 108, 117, 101] ∨ op = [99, 111, 108, 117, 109, 110] then 0
  else if op = [110, 101, 103] ∨ op = [110, 111, 116] ∨ op = [110, 117, 108, 108] then 1
  else if op = [43] ∨ op = [45] ∨ op = [42] ∨ op = [61] ∨ op = [60, 62] ∨ op = [60] ∨ op = [60, 61] ∨ op = [62] ∨ op = [62, 61] ∨ op = [97, 110, 100] ∨ op = [111, 114] then 2 else -1
set_option maxHeartbeats 4000000 in
theorem ev_many (op : List UInt8) : EV 71 [.str op] [] = some (.ret (.int .i64 (manyS op)), []) := by
  rw [EV_mki rfl Try.func71 rfl (by kernel_rfl)]
  simp +contextual (maxSteps := 10000000) [i_nil, i_blk, i_skip, i_ret, i_exit, i_seq, i_block, i_cond, i_region', i_ops_nil, i_ops, i_drawn', d_in, a_nil, a_cons, alt1, h_nil, h_one, h_two, z_nil, z_cons, z_cells, zeqL, zeq, q_alloc, q_some, isAlO, nxtN, i_drh, d_hi, i_drw_nil, i_drw, u_nil, u_code, u_ops, u_drw, u_lp, u_again, u_exit, u_ret, u_panic, c_bool, o_some, o_val, o_panic, d_some, d_val, d_panic, w_none, w_fast, wantG, q_nil, q_zero, q_succ, t_zero, t_succ, g_zero, g_succ, s_zero, s_succ, s_some, s_none, v_tmp, v_const, v_func, f_quiet, ↓brB_true, ↓brB_false, ↓brB_dec, ↓brB_not, ↓brB_and, ↓brB_or, ↓brB_beq, ↓brB_bne, gc_none, gc_pure, wrap_i64, p_move, p_assign, p_pick, p_alloc, p_box, p_build, p_buildSlice, p_load, p_store, p_nilCheck, p_binOp, n_tmp, n_int, n_bool, n_str, n_ptr, n_fun, n_iface, nilCmp, p_unOp, p_convert, p_makeSlice, p_makeInterface, p_makeFunc, p_slice, p_fieldAddr, p_field, p_indexAddr, p_index, p_extract, p_callv, p_callb, p_panic, quiet_val, new_val, e_assign, e_call, e_load, e_store, e_alloc, e_box, e_move, e_pick, e_build, e_buildSlice, e_nilCheck, e_binOp, e_unOp, e_convert, e_makeSlice, e_makeInterface, e_makeFunc, e_slice, e_fieldAddr, e_field, e_indexAddr, e_index, e_extract, e_panic, callD, fpRead, adopt, adoptL, ofValue, ofScalar, binOpV, unOpV, intBin, strBin, eqRes, veq, veqF, eqDepth, val?, finish, resL, r_tmp, r_cell, normL, normTop, tipIs, refsL, refs, ownRefs, single, frz, frzL, ren, renL, renOwn, callOp, doCall, backR, writeBack, builtinV, loadV, storeV, cellsAt, takeV, D.isAgg, overlay, vcells, cellOk, fieldAddrV, indexAddrV, fieldV, partV, indexV, buildV, fillV, buildSliceV, litElems, appendV, appElems, elemOk, convertV, convV, winStr, makeSliceV, sliceV, natOf, Try.f71, Try.ti9]
  simp only [brP, dite_eq_ite]
  by_cases h0 : op = [118, 97, 108, 117, 101]
  · subst h0; simp [manyS]
  by_cases h1 : op = [99, 111, 108, 117, 109, 110]
  · subst h1; simp [manyS]
  by_cases h2 : op = [110, 101, 103]
  · subst h2; simp [manyS]
  by_cases h3 : op = [110, 111, 116]
  · subst h3; simp [manyS]
  by_cases h4 : op = [110, 117, 108, 108]
  · subst h4; simp [manyS]
  by_cases h5 : op = [43]
  · subst h5; simp [manyS]
  by_cases h6 : op = [45]
  · subst h6; simp [manyS]
  by_cases h7 : op = [42]
  · subst h7; simp [manyS]
  by_cases h8 : op = [61]
  · subst h8; simp [manyS]
  by_cases h9 : op = [60, 62]
  · subst h9; simp [manyS]
  by_cases h10 : op = [60]
  · subst h10; simp [manyS]
  by_cases h11 : op = [60, 61]
  · subst h11; simp [manyS]
  by_cases h12 : op = [62]
  · subst h12; simp [manyS]
  by_cases h13 : op = [62, 61]
  · subst h13; simp [manyS]
  by_cases h14 : op = [97, 110, 100]
  · subst h14; simp [manyS]
  by_cases h15 : op = [111, 114]
  · subst h15; simp [manyS]
  simp only [h0, h1, h2, h3, h4, h5, h6, h7, h8, h9, h10, h11, h12, h13, h14, h15, if_false, manyS, or_self]
end Go.Abs
