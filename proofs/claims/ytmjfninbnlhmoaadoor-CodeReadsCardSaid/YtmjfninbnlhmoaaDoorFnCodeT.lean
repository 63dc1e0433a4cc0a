/- CodeKeys and CodeReads come back with true. -/
import Derived.Test.YtmjfninbnlhmoaaDoorFnCodeR
import Derived.Test.YtmjfninbnlhmoaaDoorFnCodeJ
namespace Go.Abs
set_option linter.unusedSimpArgs false
set_option linter.unusedVariables false
open Go Go.Proofs

theorem great_one (v : Val) : greatS [v] = greatV v := by simp [greatS]
set_option maxRecDepth 100000 in
set_option maxHeartbeats 8000000 in
theorem ev_keys (v : Val) (more : List UInt8) (iv : inI v.n) : EV 7 [.agg [.int .i64 v.kind, .int .i64 v.n, .str v.s], .str more] [] = some (.ret (.bool true), []) := by
  have g := ev_great [v]
  simp only [List.map_cons, List.map_nil, Val.enc_eq, great_one] at g
  rw [EV_mki rfl Tryd.func7 rfl (by kernel_rfl)]
  cases hg : greatV v with
  | true =>
    rw [hg] at g
    simp [i_nil, i_blk, i_skip, i_ret, i_exit, i_seq, i_block, i_cond, i_region', i_ops_nil, i_ops, i_drawn', i_drw_nil, i_drw, u_nil, u_code, u_ops, u_drw, u_lp, u_again, u_exit, u_ret, u_panic, c_bool, o_some, o_val, o_panic, d_some, d_val, d_panic, w_none, w_fast, wantG, q_nil, q_zero, q_succ, t_zero, t_succ, g_zero, g_succ, s_zero, s_succ, s_some, s_none, v_tmp, v_const, v_func, f_quiet, ↓brB_true, ↓brB_false, ↓brB_dec, ↓brB_not, ↓brB_and, ↓brB_or, ↓brB_beq, ↓brB_bne, gc_none, gc_pure, wrap_i64, p_move, p_assign, p_pick, p_alloc, p_box, p_build, p_buildSlice, p_load, p_store, p_nilCheck, p_binOp, p_unOp, p_convert, p_makeSlice, p_makeInterface, p_makeFunc, p_slice, p_fieldAddr, p_field, p_indexAddr, p_index, p_extract, p_callv, p_callb, p_panic, quiet_val, new_val, e_assign, e_call, e_load, e_store, e_alloc, e_box, e_move, e_pick, e_build, e_buildSlice, e_nilCheck, e_binOp, e_unOp, e_convert, e_makeSlice, e_makeInterface, e_makeFunc, e_slice, e_fieldAddr, e_field, e_indexAddr, e_index, e_extract, e_panic, callD, fpRead, adopt, adoptL, ofValue, ofScalar, binOpV, unOpV, intBin, strBin, eqRes, veq, veqF, eqDepth, val?, finish, resL, r_tmp, r_cell, normL, normTop, tipIs, refsL, refs, ownRefs, single, frz, frzL, ren, renL, renOwn, callOp, doCall, backR, writeBack, builtinV, loadV, storeV, cellsAt, takeV, D.isAgg, overlay, vcells, cellOk, fieldAddrV, indexAddrV, fieldV, partV, indexV, buildV, fillV, buildSliceV, litElems, appendV, appElems, elemOk, convertV, convV, winStr, makeSliceV, sliceV, natOf, Tryd.f7, Tryd.ti3, Tryd.ti9, Tryd.ti23, Tryd.ti26, Tryd.ti44, ev_awake3, g]
  | false =>
    rw [hg] at g
    by_cases hm : 1000 < more.length
    · have hm' : (1000 : Int) < more.length := by omega
      simp [i_nil, i_blk, i_skip, i_ret, i_exit, i_seq, i_block, i_cond, i_region', i_ops_nil, i_ops, i_drawn', i_drw_nil, i_drw, u_nil, u_code, u_ops, u_drw, u_lp, u_again, u_exit, u_ret, u_panic, c_bool, o_some, o_val, o_panic, d_some, d_val, d_panic, w_none, w_fast, wantG, q_nil, q_zero, q_succ, t_zero, t_succ, g_zero, g_succ, s_zero, s_succ, s_some, s_none, v_tmp, v_const, v_func, f_quiet, ↓brB_true, ↓brB_false, ↓brB_dec, ↓brB_not, ↓brB_and, ↓brB_or, ↓brB_beq, ↓brB_bne, gc_none, gc_pure, wrap_i64, p_move, p_assign, p_pick, p_alloc, p_box, p_build, p_buildSlice, p_load, p_store, p_nilCheck, p_binOp, p_unOp, p_convert, p_makeSlice, p_makeInterface, p_makeFunc, p_slice, p_fieldAddr, p_field, p_indexAddr, p_index, p_extract, p_callv, p_callb, p_panic, quiet_val, new_val, e_assign, e_call, e_load, e_store, e_alloc, e_box, e_move, e_pick, e_build, e_buildSlice, e_nilCheck, e_binOp, e_unOp, e_convert, e_makeSlice, e_makeInterface, e_makeFunc, e_slice, e_fieldAddr, e_field, e_indexAddr, e_index, e_extract, e_panic, callD, fpRead, adopt, adoptL, ofValue, ofScalar, binOpV, unOpV, intBin, strBin, eqRes, veq, veqF, eqDepth, val?, finish, resL, r_tmp, r_cell, normL, normTop, tipIs, refsL, refs, ownRefs, single, frz, frzL, ren, renL, renOwn, callOp, doCall, backR, writeBack, builtinV, loadV, storeV, cellsAt, takeV, D.isAgg, overlay, vcells, cellOk, fieldAddrV, indexAddrV, fieldV, partV, indexV, buildV, fillV, buildSliceV, litElems, appendV, appElems, elemOk, convertV, convV, winStr, makeSliceV, sliceV, natOf, Tryd.f7, Tryd.ti3, Tryd.ti9, Tryd.ti23, Tryd.ti26, Tryd.ti44, ev_awake3, g, hm, hm']
    · have hm' : ¬ (1000 : Int) < more.length := by omega
      have k := ev_Key v iv
      have r := ev_rright v.kind v.n v.s
      rw [Val.eta] at r
      cases hr : rightS v with
      | false =>
        rw [hr] at r
        have e : keyT v = ([], 15) := by simp [keyT, hr]
        rw [e] at k
        simp [i_nil, i_blk, i_skip, i_ret, i_exit, i_seq, i_block, i_cond, i_region', i_ops_nil, i_ops, i_drawn', i_drw_nil, i_drw, u_nil, u_code, u_ops, u_drw, u_lp, u_again, u_exit, u_ret, u_panic, c_bool, o_some, o_val, o_panic, d_some, d_val, d_panic, w_none, w_fast, wantG, q_nil, q_zero, q_succ, t_zero, t_succ, g_zero, g_succ, s_zero, s_succ, s_some, s_none, v_tmp, v_const, v_func, f_quiet, ↓brB_true, ↓brB_false, ↓brB_dec, ↓brB_not, ↓brB_and, ↓brB_or, ↓brB_beq, ↓brB_bne, gc_none, gc_pure, wrap_i64, p_move, p_assign, p_pick, p_alloc, p_box, p_build, p_buildSlice, p_load, p_store, p_nilCheck, p_binOp, p_unOp, p_convert, p_makeSlice, p_makeInterface, p_makeFunc, p_slice, p_fieldAddr, p_field, p_indexAddr, p_index, p_extract, p_callv, p_callb, p_panic, quiet_val, new_val, e_assign, e_call, e_load, e_store, e_alloc, e_box, e_move, e_pick, e_build, e_buildSlice, e_nilCheck, e_binOp, e_unOp, e_convert, e_makeSlice, e_makeInterface, e_makeFunc, e_slice, e_fieldAddr, e_field, e_indexAddr, e_index, e_extract, e_panic, callD, fpRead, adopt, adoptL, ofValue, ofScalar, binOpV, unOpV, intBin, strBin, eqRes, veq, veqF, eqDepth, val?, finish, resL, r_tmp, r_cell, normL, normTop, tipIs, refsL, refs, ownRefs, single, frz, frzL, ren, renL, renOwn, callOp, doCall, backR, writeBack, builtinV, loadV, storeV, cellsAt, takeV, D.isAgg, overlay, vcells, cellOk, fieldAddrV, indexAddrV, fieldV, partV, indexV, buildV, fillV, buildSliceV, litElems, appendV, appElems, elemOk, convertV, convV, winStr, makeSliceV, sliceV, natOf, Tryd.f7, Tryd.ti3, Tryd.ti9, Tryd.ti23, Tryd.ti26, Tryd.ti44, ev_awake3, g, hm, hm', k, r]
      | true =>
        rw [hr] at r
        rw [keyT_right hr] at k
        have hkl := key_len hr
        have rk := ev_rkey v iv (by have := rightS_len hr; omega)
        have rd := ev_Read (keyS v ++ more) (by simp; omega)
        have e : readT (keyS v ++ more) = (v, more, 0) := by simp [readT, value_key hr iv more]
        rw [e] at rd
        simp only [Val.enc_eq] at rd k
        have hb : (keyS v).length + more.length ≤ 4611686018427387904 := by omega
        generalize keyS v = ks at *
        simp [i_nil, i_blk, i_skip, i_ret, i_exit, i_seq, i_block, i_cond, i_region', i_ops_nil, i_ops, i_drawn', i_drw_nil, i_drw, u_nil, u_code, u_ops, u_drw, u_lp, u_again, u_exit, u_ret, u_panic, c_bool, o_some, o_val, o_panic, d_some, d_val, d_panic, w_none, w_fast, wantG, q_nil, q_zero, q_succ, t_zero, t_succ, g_zero, g_succ, s_zero, s_succ, s_some, s_none, v_tmp, v_const, v_func, f_quiet, ↓brB_true, ↓brB_false, ↓brB_dec, ↓brB_not, ↓brB_and, ↓brB_or, ↓brB_beq, ↓brB_bne, gc_none, gc_pure, wrap_i64, p_move, p_assign, p_pick, p_alloc, p_box, p_build, p_buildSlice, p_load, p_store, p_nilCheck, p_binOp, p_unOp, p_convert, p_makeSlice, p_makeInterface, p_makeFunc, p_slice, p_fieldAddr, p_field, p_indexAddr, p_index, p_extract, p_callv, p_callb, p_panic, quiet_val, new_val, e_assign, e_call, e_load, e_store, e_alloc, e_box, e_move, e_pick, e_build, e_buildSlice, e_nilCheck, e_binOp, e_unOp, e_convert, e_makeSlice, e_makeInterface, e_makeFunc, e_slice, e_fieldAddr, e_field, e_indexAddr, e_index, e_extract, e_panic, callD, fpRead, adopt, adoptL, ofValue, ofScalar, binOpV, unOpV, intBin, strBin, eqRes, veq, veqF, eqDepth, val?, finish, resL, r_tmp, r_cell, normL, normTop, tipIs, refsL, refs, ownRefs, single, frz, frzL, ren, renL, renOwn, callOp, doCall, backR, writeBack, builtinV, loadV, storeV, cellsAt, takeV, D.isAgg, overlay, vcells, cellOk, fieldAddrV, indexAddrV, fieldV, partV, indexV, buildV, fillV, buildSliceV, litElems, appendV, appElems, elemOk, convertV, convV, winStr, makeSliceV, sliceV, natOf, Tryd.f7, Tryd.ti3, Tryd.ti9, Tryd.ti23, Tryd.ti26, Tryd.ti44, ev_awake3, g, hm, hm', k, r, rk, rd, hb]
set_option maxRecDepth 100000 in
set_option maxHeartbeats 8000000 in
theorem ev_reads (s : List UInt8) : EV 8 [.str s] [] = some (.ret (.bool true), []) := by
  rw [EV_mki rfl Tryd.func8 rfl (by kernel_rfl)]
  by_cases hm : 1000 < s.length
  · have hm' : (1000 : Int) < s.length := by omega
    simp [i_nil, i_blk, i_skip, i_ret, i_exit, i_seq, i_block, i_cond, i_region', i_ops_nil, i_ops, i_drawn', i_drw_nil, i_drw, u_nil, u_code, u_ops, u_drw, u_lp, u_again, u_exit, u_ret, u_panic, c_bool, o_some, o_val, o_panic, d_some, d_val, d_panic, w_none, w_fast, wantG, q_nil, q_zero, q_succ, t_zero, t_succ, g_zero, g_succ, s_zero, s_succ, s_some, s_none, v_tmp, v_const, v_func, f_quiet, ↓brB_true, ↓brB_false, ↓brB_dec, ↓brB_not, ↓brB_and, ↓brB_or, ↓brB_beq, ↓brB_bne, gc_none, gc_pure, wrap_i64, p_move, p_assign, p_pick, p_alloc, p_box, p_build, p_buildSlice, p_load, p_store, p_nilCheck, p_binOp, p_unOp, p_convert, p_makeSlice, p_makeInterface, p_makeFunc, p_slice, p_fieldAddr, p_field, p_indexAddr, p_index, p_extract, p_callv, p_callb, p_panic, quiet_val, new_val, e_assign, e_call, e_load, e_store, e_alloc, e_box, e_move, e_pick, e_build, e_buildSlice, e_nilCheck, e_binOp, e_unOp, e_convert, e_makeSlice, e_makeInterface, e_makeFunc, e_slice, e_fieldAddr, e_field, e_indexAddr, e_index, e_extract, e_panic, callD, fpRead, adopt, adoptL, ofValue, ofScalar, binOpV, unOpV, intBin, strBin, eqRes, veq, veqF, eqDepth, val?, finish, resL, r_tmp, r_cell, normL, normTop, tipIs, refsL, refs, ownRefs, single, frz, frzL, ren, renL, renOwn, callOp, doCall, backR, writeBack, builtinV, loadV, storeV, cellsAt, takeV, D.isAgg, overlay, vcells, cellOk, fieldAddrV, indexAddrV, fieldV, partV, indexV, buildV, fillV, buildSliceV, litElems, appendV, appElems, elemOk, convertV, convV, winStr, makeSliceV, sliceV, natOf, Tryd.f8, Tryd.ti3, Tryd.ti9, Tryd.ti23, Tryd.ti26, ev_awake3, hm, hm']
  · have hm' : ¬ (1000 : Int) < s.length := by omega
    have rd := ev_Read s (by omega)
    have rr := ev_rread s (by omega)
    cases hv : valueS s with
    | error r' =>
      have e1 : readT s = (⟨0, 0, []⟩, [], 16) := by simp [readT, hv]
      have e2 : rreadS s = (⟨0, 0, []⟩, 0) := by simp [rreadS, hv]
      rw [e1] at rd
      rw [e2] at rr
      simp only [rreadO, Val.enc_eq] at rd rr
      simp [i_nil, i_blk, i_skip, i_ret, i_exit, i_seq, i_block, i_cond, i_region', i_ops_nil, i_ops, i_drawn', i_drw_nil, i_drw, u_nil, u_code, u_ops, u_drw, u_lp, u_again, u_exit, u_ret, u_panic, c_bool, o_some, o_val, o_panic, d_some, d_val, d_panic, w_none, w_fast, wantG, q_nil, q_zero, q_succ, t_zero, t_succ, g_zero, g_succ, s_zero, s_succ, s_some, s_none, v_tmp, v_const, v_func, f_quiet, ↓brB_true, ↓brB_false, ↓brB_dec, ↓brB_not, ↓brB_and, ↓brB_or, ↓brB_beq, ↓brB_bne, gc_none, gc_pure, wrap_i64, p_move, p_assign, p_pick, p_alloc, p_box, p_build, p_buildSlice, p_load, p_store, p_nilCheck, p_binOp, p_unOp, p_convert, p_makeSlice, p_makeInterface, p_makeFunc, p_slice, p_fieldAddr, p_field, p_indexAddr, p_index, p_extract, p_callv, p_callb, p_panic, quiet_val, new_val, e_assign, e_call, e_load, e_store, e_alloc, e_box, e_move, e_pick, e_build, e_buildSlice, e_nilCheck, e_binOp, e_unOp, e_convert, e_makeSlice, e_makeInterface, e_makeFunc, e_slice, e_fieldAddr, e_field, e_indexAddr, e_index, e_extract, e_panic, callD, fpRead, adopt, adoptL, ofValue, ofScalar, binOpV, unOpV, intBin, strBin, eqRes, veq, veqF, eqDepth, val?, finish, resL, r_tmp, r_cell, normL, normTop, tipIs, refsL, refs, ownRefs, single, frz, frzL, ren, renL, renOwn, callOp, doCall, backR, writeBack, builtinV, loadV, storeV, cellsAt, takeV, D.isAgg, overlay, vcells, cellOk, fieldAddrV, indexAddrV, fieldV, partV, indexV, buildV, fillV, buildSliceV, litElems, appendV, appElems, elemOk, convertV, convV, winStr, makeSliceV, sliceV, natOf, Tryd.f8, Tryd.ti3, Tryd.ti9, Tryd.ti23, Tryd.ti26, ev_awake3, hm, hm', rd, rr]
    | ok p =>
      obtain ⟨v, r⟩ := p
      obtain ⟨hless, hsuf, hq⟩ := valueS_suf hv
      obtain ⟨hk, iv⟩ := key_value hv
      have e1 : readT s = (v, r, 0) := by simp [readT, hv]
      have e2 : rreadS s = (v, s.length - r.length) := by simp [rreadS, hv]
      rw [e1] at rd
      rw [e2] at rr
      have k := ev_Key v iv
      rw [keyT_right hq] at k
      simp only [rreadO, Val.enc_eq] at rd rr k
      have hn0 : ¬ ((s.length - r.length : Nat) : Int) = 0 := by omega
      have hn0n : ¬ s.length - r.length = 0 := by omega
      have hle : s.length - r.length ≤ s.length := by omega
      have hd : s.drop (s.length - r.length) = r := (List.suffix_iff_eq_drop.1 hsuf).symm
      have ht : s.take (s.length - r.length) = keyS v := by
        have : s.length - r.length = (keyS v).length := by rw [← hk]; simp
        rw [this, ← hk]; exact List.take_left
      generalize s.length - r.length = n at *
      simp [i_nil, i_blk, i_skip, i_ret, i_exit, i_seq, i_block, i_cond, i_region', i_ops_nil, i_ops, i_drawn', i_drw_nil, i_drw, u_nil, u_code, u_ops, u_drw, u_lp, u_again, u_exit, u_ret, u_panic, c_bool, o_some, o_val, o_panic, d_some, d_val, d_panic, w_none, w_fast, wantG, q_nil, q_zero, q_succ, t_zero, t_succ, g_zero, g_succ, s_zero, s_succ, s_some, s_none, v_tmp, v_const, v_func, f_quiet, ↓brB_true, ↓brB_false, ↓brB_dec, ↓brB_not, ↓brB_and, ↓brB_or, ↓brB_beq, ↓brB_bne, gc_none, gc_pure, wrap_i64, p_move, p_assign, p_pick, p_alloc, p_box, p_build, p_buildSlice, p_load, p_store, p_nilCheck, p_binOp, p_unOp, p_convert, p_makeSlice, p_makeInterface, p_makeFunc, p_slice, p_fieldAddr, p_field, p_indexAddr, p_index, p_extract, p_callv, p_callb, p_panic, quiet_val, new_val, e_assign, e_call, e_load, e_store, e_alloc, e_box, e_move, e_pick, e_build, e_buildSlice, e_nilCheck, e_binOp, e_unOp, e_convert, e_makeSlice, e_makeInterface, e_makeFunc, e_slice, e_fieldAddr, e_field, e_indexAddr, e_index, e_extract, e_panic, callD, fpRead, adopt, adoptL, ofValue, ofScalar, binOpV, unOpV, intBin, strBin, eqRes, veq, veqF, eqDepth, val?, finish, resL, r_tmp, r_cell, normL, normTop, tipIs, refsL, refs, ownRefs, single, frz, frzL, ren, renL, renOwn, callOp, doCall, backR, writeBack, builtinV, loadV, storeV, cellsAt, takeV, D.isAgg, overlay, vcells, cellOk, fieldAddrV, indexAddrV, fieldV, partV, indexV, buildV, fillV, buildSliceV, litElems, appendV, appElems, elemOk, convertV, convV, winStr, makeSliceV, sliceV, natOf, Tryd.f8, Tryd.ti3, Tryd.ti9, Tryd.ti23, Tryd.ti26, ev_awake3, hm, hm', rd, rr, k, hn0, hn0n, hle, hd, ht]
end Go.Abs
