/- What the reference's Eval comes to, op by op. -/
import Derived.Test.YthdcamicjblnkaaFnREvA
import Derived.Test.YthdcamicjblnkaaFnGood
import Derived.Test.YthdcamicjblnkaaFnREvB
import Derived.Test.YthdcamicjblnkaaFnREvC
import Derived.Test.YthdcamicjblnkaaFnREvD
namespace Go.Abs
set_option linter.unusedSimpArgs false
set_option linter.unusedVariables false
open Go Go.Proofs
set_option maxRecDepth 100000 in
set_option maxHeartbeats 4000000 in
theorem rev_bad_value (op : List UInt8) (k n var col : Int) (s : List UInt8) (ks rs : List V) (ho : op = [118, 97, 108, 117, 101]) (h : ¬ (ks.length : Int) = 0) : EV 36 [.agg [.str op, .int .i64 k, .int .i64 n, .str s, .int .i64 var, .int .i64 col, .slice .froz ks], .slice .froz rs] [] = some (outP (.error 15), []) := by
  rw [EV_mki rfl Try.func36 rfl (by kernel_rfl)]
  subst ho
  have h' : ¬ ks = [] := fun q => h (by rw [q]; rfl)
  simp [i_nil, i_blk, i_skip, i_ret, i_exit, i_seq, i_block, i_cond, i_region', i_ops_nil, i_ops, i_drawn', d_in, a_nil, a_cons, alt1, h_nil, h_one, h_two, z_nil, z_cons, z_cells, zeqL, zeq, q_alloc, q_some, isAlO, nxtN, i_drh, d_hi, i_drw_nil, i_drw, u_nil, u_code, u_ops, u_drw, u_lp, u_again, u_exit, u_ret, u_panic, c_bool, o_some, o_val, o_panic, d_some, d_val, d_panic, w_none, w_fast, wantG, q_nil, q_zero, q_succ, t_zero, t_succ, g_zero, g_succ, s_zero, s_succ, s_some, s_none, v_tmp, v_const, v_func, f_quiet, ↓brB_true, ↓brB_false, ↓brB_dec, ↓brB_not, ↓brB_and, ↓brB_or, ↓brB_beq, ↓brB_bne, gc_none, gc_pure, wrap_i64, p_move, p_assign, p_pick, p_alloc, p_box, p_build, p_buildSlice, p_load, p_store, p_nilCheck, p_binOp, n_tmp, n_int, n_bool, n_str, n_ptr, n_fun, n_iface, nilCmp, p_unOp, p_convert, p_makeSlice, p_makeInterface, p_makeFunc, p_slice, p_fieldAddr, p_field, p_indexAddr, p_index, p_extract, p_callv, p_callb, p_panic, quiet_val, new_val, e_assign, e_call, e_load, e_store, e_alloc, e_box, e_move, e_pick, e_build, e_buildSlice, e_nilCheck, e_binOp, e_unOp, e_convert, e_makeSlice, e_makeInterface, e_makeFunc, e_slice, e_fieldAddr, e_field, e_indexAddr, e_index, e_extract, e_panic, callD, fpRead, adopt, adoptL, ofValue, ofScalar, binOpV, unOpV, intBin, strBin, eqRes, veq, veqF, eqDepth, val?, finish, resL, r_tmp, r_cell, normL, normTop, tipIs, refsL, refs, ownRefs, single, frz, frzL, ren, renL, renOwn, callOp, doCall, backR, writeBack, builtinV, loadV, storeV, cellsAt, takeV, D.isAgg, overlay, vcells, cellOk, fieldAddrV, indexAddrV, fieldV, partV, indexV, buildV, fillV, buildSliceV, litElems, appendV, appElems, elemOk, convertV, convV, winStr, makeSliceV, sliceV, natOf, Try.f36, Try.ti3, Try.ti9, Try.ti26, Try.ti32, Try.ti37, Try.ti57, Try.ti83, ev_two, outP, valS, codeS, twoL, h, h']
set_option maxRecDepth 100000 in
set_option maxHeartbeats 4000000 in
theorem rev_bad_column (op : List UInt8) (k n var col : Int) (s : List UInt8) (ks rs : List V) (ho : op = [99, 111, 108, 117, 109, 110]) (h : ¬ (ks.length : Int) = 0) : EV 36 [.agg [.str op, .int .i64 k, .int .i64 n, .str s, .int .i64 var, .int .i64 col, .slice .froz ks], .slice .froz rs] [] = some (outP (.error 15), []) := by
  rw [EV_mki rfl Try.func36 rfl (by kernel_rfl)]
  subst ho
  have h' : ¬ ks = [] := fun q => h (by rw [q]; rfl)
  simp [i_nil, i_blk, i_skip, i_ret, i_exit, i_seq, i_block, i_cond, i_region', i_ops_nil, i_ops, i_drawn', d_in, a_nil, a_cons, alt1, h_nil, h_one, h_two, z_nil, z_cons, z_cells, zeqL, zeq, q_alloc, q_some, isAlO, nxtN, i_drh, d_hi, i_drw_nil, i_drw, u_nil, u_code, u_ops, u_drw, u_lp, u_again, u_exit, u_ret, u_panic, c_bool, o_some, o_val, o_panic, d_some, d_val, d_panic, w_none, w_fast, wantG, q_nil, q_zero, q_succ, t_zero, t_succ, g_zero, g_succ, s_zero, s_succ, s_some, s_none, v_tmp, v_const, v_func, f_quiet, ↓brB_true, ↓brB_false, ↓brB_dec, ↓brB_not, ↓brB_and, ↓brB_or, ↓brB_beq, ↓brB_bne, gc_none, gc_pure, wrap_i64, p_move, p_assign, p_pick, p_alloc, p_box, p_build, p_buildSlice, p_load, p_store, p_nilCheck, p_binOp, n_tmp, n_int, n_bool, n_str, n_ptr, n_fun, n_iface, nilCmp, p_unOp, p_convert, p_makeSlice, p_makeInterface, p_makeFunc, p_slice, p_fieldAddr, p_field, p_indexAddr, p_index, p_extract, p_callv, p_callb, p_panic, quiet_val, new_val, e_assign, e_call, e_load, e_store, e_alloc, e_box, e_move, e_pick, e_build, e_buildSlice, e_nilCheck, e_binOp, e_unOp, e_convert, e_makeSlice, e_makeInterface, e_makeFunc, e_slice, e_fieldAddr, e_field, e_indexAddr, e_index, e_extract, e_panic, callD, fpRead, adopt, adoptL, ofValue, ofScalar, binOpV, unOpV, intBin, strBin, eqRes, veq, veqF, eqDepth, val?, finish, resL, r_tmp, r_cell, normL, normTop, tipIs, refsL, refs, ownRefs, single, frz, frzL, ren, renL, renOwn, callOp, doCall, backR, writeBack, builtinV, loadV, storeV, cellsAt, takeV, D.isAgg, overlay, vcells, cellOk, fieldAddrV, indexAddrV, fieldV, partV, indexV, buildV, fillV, buildSliceV, litElems, appendV, appElems, elemOk, convertV, convV, winStr, makeSliceV, sliceV, natOf, Try.f36, Try.ti3, Try.ti9, Try.ti26, Try.ti32, Try.ti37, Try.ti57, Try.ti83, ev_two, outP, valS, codeS, twoL, h, h']
set_option maxRecDepth 100000 in
set_option maxHeartbeats 4000000 in
theorem rev_bad_neg (op : List UInt8) (k n var col : Int) (s : List UInt8) (ks rs : List V) (ho : op = [110, 101, 103]) (h : ¬ (ks.length : Int) = 1) : EV 36 [.agg [.str op, .int .i64 k, .int .i64 n, .str s, .int .i64 var, .int .i64 col, .slice .froz ks], .slice .froz rs] [] = some (outP (.error 15), []) := by
  rw [EV_mki rfl Try.func36 rfl (by kernel_rfl)]
  subst ho
  have h' : ¬ ks.length = 1 := fun q => h (by omega)
  simp [i_nil, i_blk, i_skip, i_ret, i_exit, i_seq, i_block, i_cond, i_region', i_ops_nil, i_ops, i_drawn', d_in, a_nil, a_cons, alt1, h_nil, h_one, h_two, z_nil, z_cons, z_cells, zeqL, zeq, q_alloc, q_some, isAlO, nxtN, i_drh, d_hi, i_drw_nil, i_drw, u_nil, u_code, u_ops, u_drw, u_lp, u_again, u_exit, u_ret, u_panic, c_bool, o_some, o_val, o_panic, d_some, d_val, d_panic, w_none, w_fast, wantG, q_nil, q_zero, q_succ, t_zero, t_succ, g_zero, g_succ, s_zero, s_succ, s_some, s_none, v_tmp, v_const, v_func, f_quiet, ↓brB_true, ↓brB_false, ↓brB_dec, ↓brB_not, ↓brB_and, ↓brB_or, ↓brB_beq, ↓brB_bne, gc_none, gc_pure, wrap_i64, p_move, p_assign, p_pick, p_alloc, p_box, p_build, p_buildSlice, p_load, p_store, p_nilCheck, p_binOp, n_tmp, n_int, n_bool, n_str, n_ptr, n_fun, n_iface, nilCmp, p_unOp, p_convert, p_makeSlice, p_makeInterface, p_makeFunc, p_slice, p_fieldAddr, p_field, p_indexAddr, p_index, p_extract, p_callv, p_callb, p_panic, quiet_val, new_val, e_assign, e_call, e_load, e_store, e_alloc, e_box, e_move, e_pick, e_build, e_buildSlice, e_nilCheck, e_binOp, e_unOp, e_convert, e_makeSlice, e_makeInterface, e_makeFunc, e_slice, e_fieldAddr, e_field, e_indexAddr, e_index, e_extract, e_panic, callD, fpRead, adopt, adoptL, ofValue, ofScalar, binOpV, unOpV, intBin, strBin, eqRes, veq, veqF, eqDepth, val?, finish, resL, r_tmp, r_cell, normL, normTop, tipIs, refsL, refs, ownRefs, single, frz, frzL, ren, renL, renOwn, callOp, doCall, backR, writeBack, builtinV, loadV, storeV, cellsAt, takeV, D.isAgg, overlay, vcells, cellOk, fieldAddrV, indexAddrV, fieldV, partV, indexV, buildV, fillV, buildSliceV, litElems, appendV, appElems, elemOk, convertV, convV, winStr, makeSliceV, sliceV, natOf, Try.f36, Try.ti3, Try.ti9, Try.ti26, Try.ti32, Try.ti37, Try.ti57, Try.ti83, ev_two, outP, valS, codeS, twoL, h, h']
set_option maxRecDepth 100000 in
set_option maxHeartbeats 4000000 in
theorem rev_bad_not (op : List UInt8) (k n var col : Int) (s : List UInt8) (ks rs : List V) (ho : op = [110, 111, 116]) (h : ¬ (ks.length : Int) = 1) : EV 36 [.agg [.str op, .int .i64 k, .int .i64 n, .str s, .int .i64 var, .int .i64 col, .slice .froz ks], .slice .froz rs] [] = some (outP (.error 15), []) := by
  rw [EV_mki rfl Try.func36 rfl (by kernel_rfl)]
  subst ho
  have h' : ¬ ks.length = 1 := fun q => h (by omega)
  simp [i_nil, i_blk, i_skip, i_ret, i_exit, i_seq, i_block, i_cond, i_region', i_ops_nil, i_ops, i_drawn', d_in, a_nil, a_cons, alt1, h_nil, h_one, h_two, z_nil, z_cons, z_cells, zeqL, zeq, q_alloc, q_some, isAlO, nxtN, i_drh, d_hi, i_drw_nil, i_drw, u_nil, u_code, u_ops, u_drw, u_lp, u_again, u_exit, u_ret, u_panic, c_bool, o_some, o_val, o_panic, d_some, d_val, d_panic, w_none, w_fast, wantG, q_nil, q_zero, q_succ, t_zero, t_succ, g_zero, g_succ, s_zero, s_succ, s_some, s_none, v_tmp, v_const, v_func, f_quiet, ↓brB_true, ↓brB_false, ↓brB_dec, ↓brB_not, ↓brB_and, ↓brB_or, ↓brB_beq, ↓brB_bne, gc_none, gc_pure, wrap_i64, p_move, p_assign, p_pick, p_alloc, p_box, p_build, p_buildSlice, p_load, p_store, p_nilCheck, p_binOp, n_tmp, n_int, n_bool, n_str, n_ptr, n_fun, n_iface, nilCmp, p_unOp, p_convert, p_makeSlice, p_makeInterface, p_makeFunc, p_slice, p_fieldAddr, p_field, p_indexAddr, p_index, p_extract, p_callv, p_callb, p_panic, quiet_val, new_val, e_assign, e_call, e_load, e_store, e_alloc, e_box, e_move, e_pick, e_build, e_buildSlice, e_nilCheck, e_binOp, e_unOp, e_convert, e_makeSlice, e_makeInterface, e_makeFunc, e_slice, e_fieldAddr, e_field, e_indexAddr, e_index, e_extract, e_panic, callD, fpRead, adopt, adoptL, ofValue, ofScalar, binOpV, unOpV, intBin, strBin, eqRes, veq, veqF, eqDepth, val?, finish, resL, r_tmp, r_cell, normL, normTop, tipIs, refsL, refs, ownRefs, single, frz, frzL, ren, renL, renOwn, callOp, doCall, backR, writeBack, builtinV, loadV, storeV, cellsAt, takeV, D.isAgg, overlay, vcells, cellOk, fieldAddrV, indexAddrV, fieldV, partV, indexV, buildV, fillV, buildSliceV, litElems, appendV, appElems, elemOk, convertV, convV, winStr, makeSliceV, sliceV, natOf, Try.f36, Try.ti3, Try.ti9, Try.ti26, Try.ti32, Try.ti37, Try.ti57, Try.ti83, ev_two, outP, valS, codeS, twoL, h, h']
set_option maxRecDepth 100000 in
set_option maxHeartbeats 4000000 in
theorem rev_bad_null (op : List UInt8) (k n var col : Int) (s : List UInt8) (ks rs : List V) (ho : op = [110, 117, 108, 108]) (h : ¬ (ks.length : Int) = 1) : EV 36 [.agg [.str op, .int .i64 k, .int .i64 n, .str s, .int .i64 var, .int .i64 col, .slice .froz ks], .slice .froz rs] [] = some (outP (.error 15), []) := by
  rw [EV_mki rfl Try.func36 rfl (by kernel_rfl)]
  subst ho
  have h' : ¬ ks.length = 1 := fun q => h (by omega)
  simp [i_nil, i_blk, i_skip, i_ret, i_exit, i_seq, i_block, i_cond, i_region', i_ops_nil, i_ops, i_drawn', d_in, a_nil, a_cons, alt1, h_nil, h_one, h_two, z_nil, z_cons, z_cells, zeqL, zeq, q_alloc, q_some, isAlO, nxtN, i_drh, d_hi, i_drw_nil, i_drw, u_nil, u_code, u_ops, u_drw, u_lp, u_again, u_exit, u_ret, u_panic, c_bool, o_some, o_val, o_panic, d_some, d_val, d_panic, w_none, w_fast, wantG, q_nil, q_zero, q_succ, t_zero, t_succ, g_zero, g_succ, s_zero, s_succ, s_some, s_none, v_tmp, v_const, v_func, f_quiet, ↓brB_true, ↓brB_false, ↓brB_dec, ↓brB_not, ↓brB_and, ↓brB_or, ↓brB_beq, ↓brB_bne, gc_none, gc_pure, wrap_i64, p_move, p_assign, p_pick, p_alloc, p_box, p_build, p_buildSlice, p_load, p_store, p_nilCheck, p_binOp, n_tmp, n_int, n_bool, n_str, n_ptr, n_fun, n_iface, nilCmp, p_unOp, p_convert, p_makeSlice, p_makeInterface, p_makeFunc, p_slice, p_fieldAddr, p_field, p_indexAddr, p_index, p_extract, p_callv, p_callb, p_panic, quiet_val, new_val, e_assign, e_call, e_load, e_store, e_alloc, e_box, e_move, e_pick, e_build, e_buildSlice, e_nilCheck, e_binOp, e_unOp, e_convert, e_makeSlice, e_makeInterface, e_makeFunc, e_slice, e_fieldAddr, e_field, e_indexAddr, e_index, e_extract, e_panic, callD, fpRead, adopt, adoptL, ofValue, ofScalar, binOpV, unOpV, intBin, strBin, eqRes, veq, veqF, eqDepth, val?, finish, resL, r_tmp, r_cell, normL, normTop, tipIs, refsL, refs, ownRefs, single, frz, frzL, ren, renL, renOwn, callOp, doCall, backR, writeBack, builtinV, loadV, storeV, cellsAt, takeV, D.isAgg, overlay, vcells, cellOk, fieldAddrV, indexAddrV, fieldV, partV, indexV, buildV, fillV, buildSliceV, litElems, appendV, appElems, elemOk, convertV, convV, winStr, makeSliceV, sliceV, natOf, Try.f36, Try.ti3, Try.ti9, Try.ti26, Try.ti32, Try.ti37, Try.ti57, Try.ti83, ev_two, outP, valS, codeS, twoL, h, h']
set_option maxRecDepth 100000 in
set_option maxHeartbeats 4000000 in
theorem rev_bad_two (op : List UInt8) (k n var col : Int) (s : List UInt8) (ks rs : List V) (ovalue : ¬ op = [118, 97, 108, 117, 101]) (ocolumn : ¬ op = [99, 111, 108, 117, 109, 110]) (oneg : ¬ op = [110, 101, 103]) (onot : ¬ op = [110, 111, 116]) (onull : ¬ op = [110, 117, 108, 108]) (ht : op ∈ twoL) (h : ¬ (ks.length : Int) = 2) : EV 36 [.agg [.str op, .int .i64 k, .int .i64 n, .str s, .int .i64 var, .int .i64 col, .slice .froz ks], .slice .froz rs] [] = some (outP (.error 15), []) := by
  rw [EV_mki rfl Try.func36 rfl (by kernel_rfl)]
  have h' : ¬ ks.length = 2 := fun q => h (by omega)
  simp [i_nil, i_blk, i_skip, i_ret, i_exit, i_seq, i_block, i_cond, i_region', i_ops_nil, i_ops, i_drawn', d_in, a_nil, a_cons, alt1, h_nil, h_one, h_two, z_nil, z_cons, z_cells, zeqL, zeq, q_alloc, q_some, isAlO, nxtN, i_drh, d_hi, i_drw_nil, i_drw, u_nil, u_code, u_ops, u_drw, u_lp, u_again, u_exit, u_ret, u_panic, c_bool, o_some, o_val, o_panic, d_some, d_val, d_panic, w_none, w_fast, wantG, q_nil, q_zero, q_succ, t_zero, t_succ, g_zero, g_succ, s_zero, s_succ, s_some, s_none, v_tmp, v_const, v_func, f_quiet, ↓brB_true, ↓brB_false, ↓brB_dec, ↓brB_not, ↓brB_and, ↓brB_or, ↓brB_beq, ↓brB_bne, gc_none, gc_pure, wrap_i64, p_move, p_assign, p_pick, p_alloc, p_box, p_build, p_buildSlice, p_load, p_store, p_nilCheck, p_binOp, n_tmp, n_int, n_bool, n_str, n_ptr, n_fun, n_iface, nilCmp, p_unOp, p_convert, p_makeSlice, p_makeInterface, p_makeFunc, p_slice, p_fieldAddr, p_field, p_indexAddr, p_index, p_extract, p_callv, p_callb, p_panic, quiet_val, new_val, e_assign, e_call, e_load, e_store, e_alloc, e_box, e_move, e_pick, e_build, e_buildSlice, e_nilCheck, e_binOp, e_unOp, e_convert, e_makeSlice, e_makeInterface, e_makeFunc, e_slice, e_fieldAddr, e_field, e_indexAddr, e_index, e_extract, e_panic, callD, fpRead, adopt, adoptL, ofValue, ofScalar, binOpV, unOpV, intBin, strBin, eqRes, veq, veqF, eqDepth, val?, finish, resL, r_tmp, r_cell, normL, normTop, tipIs, refsL, refs, ownRefs, single, frz, frzL, ren, renL, renOwn, callOp, doCall, backR, writeBack, builtinV, loadV, storeV, cellsAt, takeV, D.isAgg, overlay, vcells, cellOk, fieldAddrV, indexAddrV, fieldV, partV, indexV, buildV, fillV, buildSliceV, litElems, appendV, appElems, elemOk, convertV, convV, winStr, makeSliceV, sliceV, natOf, Try.f36, Try.ti3, Try.ti9, Try.ti26, Try.ti32, Try.ti37, Try.ti57, Try.ti83, ev_two, outP, valS, codeS, h, h', ht, ovalue, ocolumn, oneg, onot, onull]
set_option maxRecDepth 100000 in
set_option maxHeartbeats 4000000 in
theorem rev_bad_none (op : List UInt8) (k n var col : Int) (s : List UInt8) (ks rs : List V) (ovalue : ¬ op = [118, 97, 108, 117, 101]) (ocolumn : ¬ op = [99, 111, 108, 117, 109, 110]) (oneg : ¬ op = [110, 101, 103]) (onot : ¬ op = [110, 111, 116]) (onull : ¬ op = [110, 117, 108, 108]) (ht : ¬ op ∈ twoL) : EV 36 [.agg [.str op, .int .i64 k, .int .i64 n, .str s, .int .i64 var, .int .i64 col, .slice .froz ks], .slice .froz rs] [] = some (outP (.error 15), []) := by
  rw [EV_mki rfl Try.func36 rfl (by kernel_rfl)]
  simp [i_nil, i_blk, i_skip, i_ret, i_exit, i_seq, i_block, i_cond, i_region', i_ops_nil, i_ops, i_drawn', d_in, a_nil, a_cons, alt1, h_nil, h_one, h_two, z_nil, z_cons, z_cells, zeqL, zeq, q_alloc, q_some, isAlO, nxtN, i_drh, d_hi, i_drw_nil, i_drw, u_nil, u_code, u_ops, u_drw, u_lp, u_again, u_exit, u_ret, u_panic, c_bool, o_some, o_val, o_panic, d_some, d_val, d_panic, w_none, w_fast, wantG, q_nil, q_zero, q_succ, t_zero, t_succ, g_zero, g_succ, s_zero, s_succ, s_some, s_none, v_tmp, v_const, v_func, f_quiet, ↓brB_true, ↓brB_false, ↓brB_dec, ↓brB_not, ↓brB_and, ↓brB_or, ↓brB_beq, ↓brB_bne, gc_none, gc_pure, wrap_i64, p_move, p_assign, p_pick, p_alloc, p_box, p_build, p_buildSlice, p_load, p_store, p_nilCheck, p_binOp, n_tmp, n_int, n_bool, n_str, n_ptr, n_fun, n_iface, nilCmp, p_unOp, p_convert, p_makeSlice, p_makeInterface, p_makeFunc, p_slice, p_fieldAddr, p_field, p_indexAddr, p_index, p_extract, p_callv, p_callb, p_panic, quiet_val, new_val, e_assign, e_call, e_load, e_store, e_alloc, e_box, e_move, e_pick, e_build, e_buildSlice, e_nilCheck, e_binOp, e_unOp, e_convert, e_makeSlice, e_makeInterface, e_makeFunc, e_slice, e_fieldAddr, e_field, e_indexAddr, e_index, e_extract, e_panic, callD, fpRead, adopt, adoptL, ofValue, ofScalar, binOpV, unOpV, intBin, strBin, eqRes, veq, veqF, eqDepth, val?, finish, resL, r_tmp, r_cell, normL, normTop, tipIs, refsL, refs, ownRefs, single, frz, frzL, ren, renL, renOwn, callOp, doCall, backR, writeBack, builtinV, loadV, storeV, cellsAt, takeV, D.isAgg, overlay, vcells, cellOk, fieldAddrV, indexAddrV, fieldV, partV, indexV, buildV, fillV, buildSliceV, litElems, appendV, appElems, elemOk, convertV, convV, winStr, makeSliceV, sliceV, natOf, Try.f36, Try.ti3, Try.ti9, Try.ti26, Try.ti32, Try.ti37, Try.ti57, Try.ti83, ev_two, outP, valS, codeS, ht, ovalue, ocolumn, oneg, onot, onull]

theorem evalB_bad (l : List (List Val)) (op : List UInt8) (v : Val) (var col : Int) (es : List Ev) (h : ¬ (es.length : Int) = manyS op) : evalB l op v var col es = .error 15 := by
  unfold evalB
  rw [if_pos h]

theorem rev_node (l : List (List Val)) (op : List UInt8) (v : Val) (var col : Int) (kids : List Node)
    (h : ∀ m ∈ kids, EV 36 [m.enc, .slice .froz (rowsE l)] [] = some (outP (evalS l m), []) ∧ good (evalS l m)) :
    EV 36 [(Node.mk op v var col kids).enc, .slice .froz (rowsE l)] [] = some (outP (evalB l op v var col (kids.map (evalS l))), []) := by
  rw [enc_mk]
  by_cases ovalue : op = [118, 97, 108, 117, 101]
  · cases kids with
    | nil => subst ovalue; exact rev_value l _ _ _ _ _ _
    | cons x t =>
      rw [evalB_bad l op v var col _ (by rw [ovalue]; simp [manyS]; omega)]
      exact rev_bad_value op _ _ _ _ _ _ _ ovalue (by simp; omega)
  by_cases ocolumn : op = [99, 111, 108, 117, 109, 110]
  · cases kids with
    | nil => subst ocolumn; exact rev_column l _ _ _ _ _
    | cons x t =>
      rw [evalB_bad l op v var col _ (by rw [ocolumn]; simp [manyS]; omega)]
      exact rev_bad_column op _ _ _ _ _ _ _ ocolumn (by simp; omega)
  by_cases oneg : op = [110, 101, 103]
  · match kids, h with
    | [x], h =>
      obtain ⟨hx, gx⟩ := h x (by simp)
      obtain ⟨xo, xv, xa, xc, xk⟩ := x
      rw [enc_mk] at hx
      subst oneg
      simp only [List.map_cons, List.map_nil, enc_mk]
      exact rev_neg l _ _ _ _ _ _ _ _ _ _ _ _ _ _ gx hx
    | [], _ =>
      rw [evalB_bad l op v var col _ (by rw [oneg]; simp [manyS])]
      exact rev_bad_neg op _ _ _ _ _ _ _ oneg (by simp)
    | x :: y :: t, _ =>
      rw [evalB_bad l op v var col _ (by rw [oneg]; simp [manyS]; omega)]
      exact rev_bad_neg op _ _ _ _ _ _ _ oneg (by simp; omega)
  by_cases onot : op = [110, 111, 116]
  · match kids, h with
    | [x], h =>
      obtain ⟨hx, gx⟩ := h x (by simp)
      obtain ⟨xo, xv, xa, xc, xk⟩ := x
      rw [enc_mk] at hx
      subst onot
      simp only [List.map_cons, List.map_nil, enc_mk]
      exact rev_not l _ _ _ _ _ _ _ _ _ _ _ _ _ _ gx hx
    | [], _ =>
      rw [evalB_bad l op v var col _ (by rw [onot]; simp [manyS])]
      exact rev_bad_not op _ _ _ _ _ _ _ onot (by simp)
    | x :: y :: t, _ =>
      rw [evalB_bad l op v var col _ (by rw [onot]; simp [manyS]; omega)]
      exact rev_bad_not op _ _ _ _ _ _ _ onot (by simp; omega)
  by_cases onull : op = [110, 117, 108, 108]
  · match kids, h with
    | [x], h =>
      obtain ⟨hx, gx⟩ := h x (by simp)
      obtain ⟨xo, xv, xa, xc, xk⟩ := x
      rw [enc_mk] at hx
      subst onull
      simp only [List.map_cons, List.map_nil, enc_mk]
      exact rev_null l _ _ _ _ _ _ _ _ _ _ _ _ _ _ gx hx
    | [], _ =>
      rw [evalB_bad l op v var col _ (by rw [onull]; simp [manyS])]
      exact rev_bad_null op _ _ _ _ _ _ _ onull (by simp)
    | x :: y :: t, _ =>
      rw [evalB_bad l op v var col _ (by rw [onull]; simp [manyS]; omega)]
      exact rev_bad_null op _ _ _ _ _ _ _ onull (by simp; omega)
  by_cases ht : op ∈ twoL
  · have hm : manyS op = 2 := by
      simp only [twoL, List.mem_cons, List.not_mem_nil, or_false] at ht
      rcases ht with rfl | rfl | rfl | rfl | rfl | rfl | rfl | rfl | rfl | rfl | rfl <;> rfl
    match kids, h with
    | [x, y], h =>
      obtain ⟨hx, gx⟩ := h x (by simp)
      obtain ⟨hy, gy⟩ := h y (by simp)
      obtain ⟨xo, xv, xa, xc, xk⟩ := x
      obtain ⟨yo, yv, ya, yc, yk⟩ := y
      rw [enc_mk] at hx hy
      simp only [List.map_cons, List.map_nil, enc_mk]
      simp only [twoL, List.mem_cons, List.not_mem_nil, or_false] at ht
      rcases ht with rfl | rfl | rfl | rfl | rfl | rfl | rfl | rfl | rfl | rfl | rfl
      · exact rev_43 (l := l) (ex := _) (gx := gx) (hx := hx) (ey := _) (gy := gy) (hy := hy) ..
      · exact rev_45 (l := l) (ex := _) (gx := gx) (hx := hx) (ey := _) (gy := gy) (hy := hy) ..
      · exact rev_42 (l := l) (ex := _) (gx := gx) (hx := hx) (ey := _) (gy := gy) (hy := hy) ..
      · exact rev_61 (l := l) (ex := _) (gx := gx) (hx := hx) (ey := _) (gy := gy) (hy := hy) ..
      · exact rev_60_62 (l := l) (ex := _) (gx := gx) (hx := hx) (ey := _) (gy := gy) (hy := hy) ..
      · exact rev_60 (l := l) (ex := _) (gx := gx) (hx := hx) (ey := _) (gy := gy) (hy := hy) ..
      · exact rev_60_61 (l := l) (ex := _) (gx := gx) (hx := hx) (ey := _) (gy := gy) (hy := hy) ..
      · exact rev_62 (l := l) (ex := _) (gx := gx) (hx := hx) (ey := _) (gy := gy) (hy := hy) ..
      · exact rev_62_61 (l := l) (ex := _) (gx := gx) (hx := hx) (ey := _) (gy := gy) (hy := hy) ..
      · exact rev_and (l := l) (ex := _) (gx := gx) (hx := hx) (ey := _) (gy := gy) (hy := hy) ..
      · exact rev_or (l := l) (ex := _) (gx := gx) (hx := hx) (ey := _) (gy := gy) (hy := hy) ..
    | [], _ =>
      rw [evalB_bad l op v var col _ (by rw [hm]; simp)]
      exact rev_bad_two op _ _ _ _ _ _ _ ovalue ocolumn oneg onot onull ht (by simp)
    | [x], _ =>
      rw [evalB_bad l op v var col _ (by rw [hm]; simp)]
      exact rev_bad_two op _ _ _ _ _ _ _ ovalue ocolumn oneg onot onull ht (by simp)
    | x :: y :: z :: t, _ =>
      rw [evalB_bad l op v var col _ (by rw [hm]; simp; omega)]
      exact rev_bad_two op _ _ _ _ _ _ _ ovalue ocolumn oneg onot onull ht (by simp; omega)
  · have hm : manyS op = -1 := by
      unfold manyS
      simp only [twoL, List.mem_cons, List.not_mem_nil, or_false, not_or] at ht
      obtain ⟨h1, h2, h3, h4, h5, h6, h7, h8, h9, h10, h11⟩ := ht
      simp [ovalue, ocolumn, oneg, onot, onull, h1, h2, h3, h4, h5, h6, h7, h8, h9, h10, h11]
    rw [evalB_bad l op v var col _ (by rw [hm]; omega)]
    exact rev_bad_none op _ _ _ _ _ _ _ ovalue ocolumn oneg onot onull ht

mutual
theorem rev_all (l : List (List Val)) (hl : rowsQ l) : ∀ n : Node, n.ok → EV 36 [n.enc, .slice .froz (rowsE l)] [] = some (outP (evalS l n), []) ∧ good (evalS l n)
  | .mk op v var col kids, h => by
    have hk := rev_list l hl kids h.2.2.2.2.2
    rw [evalS, evalsS_eq]
    refine ⟨rev_node l op v var col kids hk, good_evalB hl ⟨h.2.1.1, h.2.1.2.1⟩ fun e he => ?_⟩
    obtain ⟨m, hm, rfl⟩ := List.mem_map.1 he
    exact (hk m hm).2
theorem rev_list (l : List (List Val)) (hl : rowsQ l) : ∀ ns : List Node, Node.oks ns → ∀ m ∈ ns, EV 36 [m.enc, .slice .froz (rowsE l)] [] = some (outP (evalS l m), []) ∧ good (evalS l m)
  | n :: _, h, _, .head _ => rev_all l hl n h.1
  | _ :: ns, h, m, .tail _ hm => rev_list l hl ns h.2 m hm
end
end Go.Abs
