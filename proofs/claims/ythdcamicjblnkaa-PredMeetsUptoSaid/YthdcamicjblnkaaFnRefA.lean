/- What the reference's functions on values come to. -/
import Derived.Test.YthdcamicjblnkaaFnMul
import Derived.Test.YthdcamicjblnkaaFnRight
namespace Go.Abs
set_option linter.unusedSimpArgs false
set_option linter.unusedVariables false
open Go Go.Proofs

def rnotS (t : Int) : Int := if t = 0 then 1 else if t = 1 then 0 else 2
theorem rnot_eq (t : Int) : rnotS t = notS t := by
  unfold rnotS notS threeS
  repeat' split
  all_goals first | rfl | omega | simp_all
theorem ev_rnot (t : Int) : EV 53 [.int .i64 t] [] = some (.ret (.int .i64 (notS t)), []) := by
  rw [← rnot_eq, EV_mki rfl Try.func53 rfl (by kernel_rfl)]
  simp +contextual [i_nil, i_blk, i_skip, i_ret, i_exit, i_seq, i_block, i_cond, i_region', i_ops_nil, i_ops, i_drawn', d_in, a_nil, a_cons, alt1, h_nil, h_one, h_two, z_nil, z_cons, z_cells, zeqL, zeq, q_alloc, q_some, isAlO, nxtN, i_drh, d_hi, i_drw_nil, i_drw, u_nil, u_code, u_ops, u_drw, u_lp, u_again, u_exit, u_ret, u_panic, c_bool, o_some, o_val, o_panic, d_some, d_val, d_panic, w_none, w_fast, wantG, q_nil, q_zero, q_succ, t_zero, t_succ, g_zero, g_succ, s_zero, s_succ, s_some, s_none, v_tmp, v_const, v_func, f_quiet, ↓brB_true, ↓brB_false, ↓brB_dec, ↓brB_not, ↓brB_and, ↓brB_or, ↓brB_beq, ↓brB_bne, gc_none, gc_pure, wrap_i64, p_move, p_assign, p_pick, p_alloc, p_box, p_build, p_buildSlice, p_load, p_store, p_nilCheck, p_binOp, n_tmp, n_int, n_bool, n_str, n_ptr, n_fun, n_iface, nilCmp, p_unOp, p_convert, p_makeSlice, p_makeInterface, p_makeFunc, p_slice, p_fieldAddr, p_field, p_indexAddr, p_index, p_extract, p_callv, p_callb, p_panic, quiet_val, new_val, e_assign, e_call, e_load, e_store, e_alloc, e_box, e_move, e_pick, e_build, e_buildSlice, e_nilCheck, e_binOp, e_unOp, e_convert, e_makeSlice, e_makeInterface, e_makeFunc, e_slice, e_fieldAddr, e_field, e_indexAddr, e_index, e_extract, e_panic, callD, fpRead, adopt, adoptL, ofValue, ofScalar, binOpV, unOpV, intBin, strBin, eqRes, veq, veqF, eqDepth, val?, finish, resL, r_tmp, r_cell, normL, normTop, tipIs, refsL, refs, ownRefs, single, frz, frzL, ren, renL, renOwn, callOp, doCall, backR, writeBack, builtinV, loadV, storeV, cellsAt, takeV, D.isAgg, overlay, vcells, cellOk, fieldAddrV, indexAddrV, fieldV, partV, indexV, buildV, fillV, buildSliceV, litElems, appendV, appElems, elemOk, convertV, convV, winStr, makeSliceV, sliceV, natOf, Try.f53, Try.ti3, rnotS]
  try simp only [brP, dite_eq_ite]
  repeat' split
  all_goals simp_all
def randS (a b : Int) : Int := if a = 0 ∨ b = 0 then 0 else if a = 1 ∧ b = 1 then 1 else 2
theorem rand_eq (a b : Int) : randS a b = andS a b := by
  unfold randS andS threeS
  repeat' split
  all_goals first | rfl | omega
theorem ev_rand (a b : Int) : EV 54 [.int .i64 a, .int .i64 b] [] = some (.ret (.int .i64 (andS a b)), []) := by
  rw [← rand_eq, EV_mki rfl Try.func54 rfl (by kernel_rfl)]
  simp +contextual [i_nil, i_blk, i_skip, i_ret, i_exit, i_seq, i_block, i_cond, i_region', i_ops_nil, i_ops, i_drawn', d_in, a_nil, a_cons, alt1, h_nil, h_one, h_two, z_nil, z_cons, z_cells, zeqL, zeq, q_alloc, q_some, isAlO, nxtN, i_drh, d_hi, i_drw_nil, i_drw, u_nil, u_code, u_ops, u_drw, u_lp, u_again, u_exit, u_ret, u_panic, c_bool, o_some, o_val, o_panic, d_some, d_val, d_panic, w_none, w_fast, wantG, q_nil, q_zero, q_succ, t_zero, t_succ, g_zero, g_succ, s_zero, s_succ, s_some, s_none, v_tmp, v_const, v_func, f_quiet, ↓brB_true, ↓brB_false, ↓brB_dec, ↓brB_not, ↓brB_and, ↓brB_or, ↓brB_beq, ↓brB_bne, gc_none, gc_pure, wrap_i64, p_move, p_assign, p_pick, p_alloc, p_box, p_build, p_buildSlice, p_load, p_store, p_nilCheck, p_binOp, n_tmp, n_int, n_bool, n_str, n_ptr, n_fun, n_iface, nilCmp, p_unOp, p_convert, p_makeSlice, p_makeInterface, p_makeFunc, p_slice, p_fieldAddr, p_field, p_indexAddr, p_index, p_extract, p_callv, p_callb, p_panic, quiet_val, new_val, e_assign, e_call, e_load, e_store, e_alloc, e_box, e_move, e_pick, e_build, e_buildSlice, e_nilCheck, e_binOp, e_unOp, e_convert, e_makeSlice, e_makeInterface, e_makeFunc, e_slice, e_fieldAddr, e_field, e_indexAddr, e_index, e_extract, e_panic, callD, fpRead, adopt, adoptL, ofValue, ofScalar, binOpV, unOpV, intBin, strBin, eqRes, veq, veqF, eqDepth, val?, finish, resL, r_tmp, r_cell, normL, normTop, tipIs, refsL, refs, ownRefs, single, frz, frzL, ren, renL, renOwn, callOp, doCall, backR, writeBack, builtinV, loadV, storeV, cellsAt, takeV, D.isAgg, overlay, vcells, cellOk, fieldAddrV, indexAddrV, fieldV, partV, indexV, buildV, fillV, buildSliceV, litElems, appendV, appElems, elemOk, convertV, convV, winStr, makeSliceV, sliceV, natOf, Try.f54, Try.ti3, randS]
  try simp only [brP, dite_eq_ite]
  repeat' split
  all_goals simp_all
def rorS (a b : Int) : Int := if a = 1 ∨ b = 1 then 1 else if a = 0 ∧ b = 0 then 0 else 2
theorem ror_eq (a b : Int) : rorS a b = orS a b := by
  by_cases a0 : a = 0
  · by_cases b0 : b = 0
    · simp [rorS, orS, notS, andS, threeS, a0, b0]
    · by_cases b1 : b = 1 <;> simp [rorS, orS, notS, andS, threeS, a0, b0, b1]
  · by_cases a1 : a = 1
    · by_cases b0 : b = 0
      · simp [rorS, orS, notS, andS, threeS, a1, b0]
      · by_cases b1 : b = 1 <;> simp [rorS, orS, notS, andS, threeS, a1, b0, b1]
    · by_cases b0 : b = 0
      · simp [rorS, orS, notS, andS, threeS, a0, a1, b0]
      · by_cases b1 : b = 1 <;> simp [rorS, orS, notS, andS, threeS, a0, a1, b0, b1]
theorem ev_ror (a b : Int) : EV 55 [.int .i64 a, .int .i64 b] [] = some (.ret (.int .i64 (orS a b)), []) := by
  rw [← ror_eq, EV_mki rfl Try.func55 rfl (by kernel_rfl)]
  simp +contextual [i_nil, i_blk, i_skip, i_ret, i_exit, i_seq, i_block, i_cond, i_region', i_ops_nil, i_ops, i_drawn', d_in, a_nil, a_cons, alt1, h_nil, h_one, h_two, z_nil, z_cons, z_cells, zeqL, zeq, q_alloc, q_some, isAlO, nxtN, i_drh, d_hi, i_drw_nil, i_drw, u_nil, u_code, u_ops, u_drw, u_lp, u_again, u_exit, u_ret, u_panic, c_bool, o_some, o_val, o_panic, d_some, d_val, d_panic, w_none, w_fast, wantG, q_nil, q_zero, q_succ, t_zero, t_succ, g_zero, g_succ, s_zero, s_succ, s_some, s_none, v_tmp, v_const, v_func, f_quiet, ↓brB_true, ↓brB_false, ↓brB_dec, ↓brB_not, ↓brB_and, ↓brB_or, ↓brB_beq, ↓brB_bne, gc_none, gc_pure, wrap_i64, p_move, p_assign, p_pick, p_alloc, p_box, p_build, p_buildSlice, p_load, p_store, p_nilCheck, p_binOp, n_tmp, n_int, n_bool, n_str, n_ptr, n_fun, n_iface, nilCmp, p_unOp, p_convert, p_makeSlice, p_makeInterface, p_makeFunc, p_slice, p_fieldAddr, p_field, p_indexAddr, p_index, p_extract, p_callv, p_callb, p_panic, quiet_val, new_val, e_assign, e_call, e_load, e_store, e_alloc, e_box, e_move, e_pick, e_build, e_buildSlice, e_nilCheck, e_binOp, e_unOp, e_convert, e_makeSlice, e_makeInterface, e_makeFunc, e_slice, e_fieldAddr, e_field, e_indexAddr, e_index, e_extract, e_panic, callD, fpRead, adopt, adoptL, ofValue, ofScalar, binOpV, unOpV, intBin, strBin, eqRes, veq, veqF, eqDepth, val?, finish, resL, r_tmp, r_cell, normL, normTop, tipIs, refsL, refs, ownRefs, single, frz, frzL, ren, renL, renOwn, callOp, doCall, backR, writeBack, builtinV, loadV, storeV, cellsAt, takeV, D.isAgg, overlay, vcells, cellOk, fieldAddrV, indexAddrV, fieldV, partV, indexV, buildV, fillV, buildSliceV, litElems, appendV, appElems, elemOk, convertV, convV, winStr, makeSliceV, sliceV, natOf, Try.f55, Try.ti3, rorS]
  try simp only [brP, dite_eq_ite]
  repeat' split
  all_goals simp_all

theorem orderR_eq (v w : Val) : orderR v w = orderS v w := by
  obtain ⟨k, n, s⟩ := v
  obtain ⟨k', n', s'⟩ := w
  unfold orderR orderS or3 cmpI cmpS
  simp only [Val.mk.injEq]
  by_cases hk : k = k'
  · subst hk
    by_cases hn : n = n'
    · subst hn
      by_cases hs : s = s'
      · subst hs; simp [less_irrefl]
      · by_cases hl : Op.bytesLess s s' = true <;> simp [hs, hl]
    · by_cases hl : n < n'
      · simp [hn, hl]
      · have : n' < n := by omega
        simp [hn, hl, this]
  · by_cases hl : k < k'
    · simp [hk, hl]
    · have : k' < k := by omega
      simp [hk, hl, this]
theorem ev_rorder (k n : Int) (s : List UInt8) (k' n' : Int) (s' : List UInt8) : EV 35 [.agg [.int .i64 k, .int .i64 n, .str s], .agg [.int .i64 k', .int .i64 n', .str s']] [] =
    some (.ret (.int .i64 (orderS ⟨k, n, s⟩ ⟨k', n', s'⟩)), []) := by
  rw [← orderR_eq]; exact ev_rorderR k n s k' n' s'
end Go.Abs
