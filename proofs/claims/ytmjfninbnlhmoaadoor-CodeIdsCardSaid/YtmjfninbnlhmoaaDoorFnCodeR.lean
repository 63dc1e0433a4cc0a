/- The laws of package code come back with true: orders, nexts, ranges, ids. -/
import Derived.Test.YtmjfninbnlhmoaaDoorFnCodeQ
import Derived.Test.YtmjfninbnlhmoaaDoorFnCodeJ
namespace Go.Abs
set_option linter.unusedSimpArgs false
set_option linter.unusedVariables false
open Go Go.Proofs

theorem ev_awake3 : EV 11 [] [] = some (.ret (.bool true), []) := ev_some.2 ⟨40, by kernel_rfl⟩
theorem Val.ext {v w : Val} (h1 : v.kind = w.kind) (h2 : v.n = w.n) (h3 : v.s = w.s) : v = w := by cases v; cases w; simp_all
theorem val_ne {k n k' n' : Int} {s s' : List UInt8} (h : ¬ (⟨k, n, s⟩ : Val) = ⟨k', n', s'⟩) : ¬ k = k' ∨ (k = k' ∧ ¬ n = n') ∨ (k = k' ∧ n = n' ∧ ¬ s = s') := by
  by_cases h1 : k = k'
  · by_cases h2 : n = n'
    · by_cases h3 : s = s'
      · exact absurd (by rw [h1, h2, h3]) h
      · exact .inr (.inr ⟨h1, h2, h3⟩)
    · exact .inr (.inl ⟨h1, h2⟩)
  · exact .inl h1
theorem key_first {v : Val} (h : rightS v = true) : ∃ b r, keyS v = b :: r ∧ b ≠ 255 := by
  unfold keyS
  split
  · exact ⟨1, _, rfl, by decide⟩
  · split
    · exact ⟨2, _, rfl, by decide⟩
    · split
      · exact ⟨3, _, rfl, by decide⟩
      · exact ⟨0, _, rfl, by decide⟩
theorem keyT_right {v : Val} (h : rightS v = true) : keyT v = (keyS v, 0) := by simp [keyT, h]
theorem sign_order {v w : Val} (hv : rightS v = true) (hw : rightS w = true) (iv : inI v.n) (iw : inI w.n) : signS (keyS v) (keyS w) = orderR v w := by
  by_cases h : v = w
  · subst h; rw [sign_self]; simp [orderR]
  · have := sign_key hv hw iv iw h [] []
    simpa using this
set_option maxHeartbeats 4000000 in
theorem ev_orders (v w : Val) (iv : inI v.n) (iw : inI w.n) : EV 3 [.agg [.int .i64 v.kind, .int .i64 v.n, .str v.s], .agg [.int .i64 w.kind, .int .i64 w.n, .str w.s]] [] = some (.ret (.bool true), []) := by
  have r1 := ev_rright v.kind v.n v.s
  have r2 := ev_rright w.kind w.n w.s
  rw [Val.eta] at r1 r2
  rw [EV_mki rfl Tryd.func3 rfl (by kernel_rfl)]
  cases h1 : rightS v with
  | false =>
    rw [h1] at r1
    simp [i_nil, i_blk, i_skip, i_ret, i_exit, i_seq, i_block, i_cond, i_region', i_ops_nil, i_ops, i_drawn', i_drw_nil, i_drw, u_nil, u_code, u_ops, u_drw, u_lp, u_again, u_exit, u_ret, u_panic, c_bool, o_some, o_val, o_panic, d_some, d_val, d_panic, w_none, w_fast, wantG, q_nil, q_zero, q_succ, t_zero, t_succ, g_zero, g_succ, s_zero, s_succ, s_some, s_none, v_tmp, v_const, v_func, f_quiet, ↓brB_true, ↓brB_false, ↓brB_dec, ↓brB_not, ↓brB_and, ↓brB_or, ↓brB_beq, ↓brB_bne, gc_none, gc_pure, wrap_i64, p_move, p_assign, p_pick, p_alloc, p_box, p_build, p_buildSlice, p_load, p_store, p_nilCheck, p_binOp, p_unOp, p_convert, p_makeSlice, p_makeInterface, p_makeFunc, p_slice, p_fieldAddr, p_field, p_indexAddr, p_index, p_extract, p_callv, p_callb, p_panic, quiet_val, new_val, e_assign, e_call, e_load, e_store, e_alloc, e_box, e_move, e_pick, e_build, e_buildSlice, e_nilCheck, e_binOp, e_unOp, e_convert, e_makeSlice, e_makeInterface, e_makeFunc, e_slice, e_fieldAddr, e_field, e_indexAddr, e_index, e_extract, e_panic, callD, fpRead, adopt, adoptL, ofValue, ofScalar, binOpV, unOpV, intBin, strBin, eqRes, veq, veqF, eqDepth, val?, finish, resL, r_tmp, r_cell, normL, normTop, tipIs, refsL, refs, ownRefs, single, frz, frzL, ren, renL, renOwn, callOp, doCall, backR, writeBack, builtinV, loadV, storeV, cellsAt, takeV, D.isAgg, overlay, vcells, cellOk, fieldAddrV, indexAddrV, fieldV, partV, indexV, buildV, fillV, buildSliceV, litElems, appendV, appElems, elemOk, convertV, convV, winStr, makeSliceV, sliceV, natOf, Tryd.f3, Tryd.ti3, Tryd.ti9, Tryd.ti23, ev_awake3, r1]
  | true =>
    rw [h1] at r1
    cases h2 : rightS w with
    | false =>
      rw [h2] at r2
      simp [i_nil, i_blk, i_skip, i_ret, i_exit, i_seq, i_block, i_cond, i_region', i_ops_nil, i_ops, i_drawn', i_drw_nil, i_drw, u_nil, u_code, u_ops, u_drw, u_lp, u_again, u_exit, u_ret, u_panic, c_bool, o_some, o_val, o_panic, d_some, d_val, d_panic, w_none, w_fast, wantG, q_nil, q_zero, q_succ, t_zero, t_succ, g_zero, g_succ, s_zero, s_succ, s_some, s_none, v_tmp, v_const, v_func, f_quiet, ↓brB_true, ↓brB_false, ↓brB_dec, ↓brB_not, ↓brB_and, ↓brB_or, ↓brB_beq, ↓brB_bne, gc_none, gc_pure, wrap_i64, p_move, p_assign, p_pick, p_alloc, p_box, p_build, p_buildSlice, p_load, p_store, p_nilCheck, p_binOp, p_unOp, p_convert, p_makeSlice, p_makeInterface, p_makeFunc, p_slice, p_fieldAddr, p_field, p_indexAddr, p_index, p_extract, p_callv, p_callb, p_panic, quiet_val, new_val, e_assign, e_call, e_load, e_store, e_alloc, e_box, e_move, e_pick, e_build, e_buildSlice, e_nilCheck, e_binOp, e_unOp, e_convert, e_makeSlice, e_makeInterface, e_makeFunc, e_slice, e_fieldAddr, e_field, e_indexAddr, e_index, e_extract, e_panic, callD, fpRead, adopt, adoptL, ofValue, ofScalar, binOpV, unOpV, intBin, strBin, eqRes, veq, veqF, eqDepth, val?, finish, resL, r_tmp, r_cell, normL, normTop, tipIs, refsL, refs, ownRefs, single, frz, frzL, ren, renL, renOwn, callOp, doCall, backR, writeBack, builtinV, loadV, storeV, cellsAt, takeV, D.isAgg, overlay, vcells, cellOk, fieldAddrV, indexAddrV, fieldV, partV, indexV, buildV, fillV, buildSliceV, litElems, appendV, appElems, elemOk, convertV, convV, winStr, makeSliceV, sliceV, natOf, Tryd.f3, Tryd.ti3, Tryd.ti9, Tryd.ti23, ev_awake3, r1, r2]
    | true =>
      rw [h2] at r2
      have k1 := ev_Key v iv
      have k2 := ev_Key w iw
      rw [keyT_right h1] at k1
      rw [keyT_right h2] at k2
      simp only at k1 k2
      have sg := ev_sign (keyS v) (keyS w)
      rw [sign_order h1 h2 iv iw] at sg
      have ro := ev_rorderR v.kind v.n v.s w.kind w.n w.s
      rw [Val.eta, Val.eta] at ro
      by_cases hvw : v = w
      · subst hvw
        simp [i_nil, i_blk, i_skip, i_ret, i_exit, i_seq, i_block, i_cond, i_region', i_ops_nil, i_ops, i_drawn', i_drw_nil, i_drw, u_nil, u_code, u_ops, u_drw, u_lp, u_again, u_exit, u_ret, u_panic, c_bool, o_some, o_val, o_panic, d_some, d_val, d_panic, w_none, w_fast, wantG, q_nil, q_zero, q_succ, t_zero, t_succ, g_zero, g_succ, s_zero, s_succ, s_some, s_none, v_tmp, v_const, v_func, f_quiet, ↓brB_true, ↓brB_false, ↓brB_dec, ↓brB_not, ↓brB_and, ↓brB_or, ↓brB_beq, ↓brB_bne, gc_none, gc_pure, wrap_i64, p_move, p_assign, p_pick, p_alloc, p_box, p_build, p_buildSlice, p_load, p_store, p_nilCheck, p_binOp, p_unOp, p_convert, p_makeSlice, p_makeInterface, p_makeFunc, p_slice, p_fieldAddr, p_field, p_indexAddr, p_index, p_extract, p_callv, p_callb, p_panic, quiet_val, new_val, e_assign, e_call, e_load, e_store, e_alloc, e_box, e_move, e_pick, e_build, e_buildSlice, e_nilCheck, e_binOp, e_unOp, e_convert, e_makeSlice, e_makeInterface, e_makeFunc, e_slice, e_fieldAddr, e_field, e_indexAddr, e_index, e_extract, e_panic, callD, fpRead, adopt, adoptL, ofValue, ofScalar, binOpV, unOpV, intBin, strBin, eqRes, veq, veqF, eqDepth, val?, finish, resL, r_tmp, r_cell, normL, normTop, tipIs, refsL, refs, ownRefs, single, frz, frzL, ren, renL, renOwn, callOp, doCall, backR, writeBack, builtinV, loadV, storeV, cellsAt, takeV, D.isAgg, overlay, vcells, cellOk, fieldAddrV, indexAddrV, fieldV, partV, indexV, buildV, fillV, buildSliceV, litElems, appendV, appElems, elemOk, convertV, convV, winStr, makeSliceV, sliceV, natOf, Tryd.f3, Tryd.ti3, Tryd.ti9, Tryd.ti23, ev_awake3, r1, k1, sg, ro]
      · by_cases hl : (keyS w).length < (keyS v).length
        · have hl' : ((keyS w).length : Int) < (keyS v).length := by omega
          obtain ⟨k, n, s⟩ := v
          obtain ⟨k', n', s'⟩ := w
          simp only at r1 r2 k1 k2 ro
          rcases val_ne hvw with q | ⟨rfl, q⟩ | ⟨rfl, rfl, q⟩ <;> simp [i_nil, i_blk, i_skip, i_ret, i_exit, i_seq, i_block, i_cond, i_region', i_ops_nil, i_ops, i_drawn', i_drw_nil, i_drw, u_nil, u_code, u_ops, u_drw, u_lp, u_again, u_exit, u_ret, u_panic, c_bool, o_some, o_val, o_panic, d_some, d_val, d_panic, w_none, w_fast, wantG, q_nil, q_zero, q_succ, t_zero, t_succ, g_zero, g_succ, s_zero, s_succ, s_some, s_none, v_tmp, v_const, v_func, f_quiet, ↓brB_true, ↓brB_false, ↓brB_dec, ↓brB_not, ↓brB_and, ↓brB_or, ↓brB_beq, ↓brB_bne, gc_none, gc_pure, wrap_i64, p_move, p_assign, p_pick, p_alloc, p_box, p_build, p_buildSlice, p_load, p_store, p_nilCheck, p_binOp, p_unOp, p_convert, p_makeSlice, p_makeInterface, p_makeFunc, p_slice, p_fieldAddr, p_field, p_indexAddr, p_index, p_extract, p_callv, p_callb, p_panic, quiet_val, new_val, e_assign, e_call, e_load, e_store, e_alloc, e_box, e_move, e_pick, e_build, e_buildSlice, e_nilCheck, e_binOp, e_unOp, e_convert, e_makeSlice, e_makeInterface, e_makeFunc, e_slice, e_fieldAddr, e_field, e_indexAddr, e_index, e_extract, e_panic, callD, fpRead, adopt, adoptL, ofValue, ofScalar, binOpV, unOpV, intBin, strBin, eqRes, veq, veqF, eqDepth, val?, finish, resL, r_tmp, r_cell, normL, normTop, tipIs, refsL, refs, ownRefs, single, frz, frzL, ren, renL, renOwn, callOp, doCall, backR, writeBack, builtinV, loadV, storeV, cellsAt, takeV, D.isAgg, overlay, vcells, cellOk, fieldAddrV, indexAddrV, fieldV, partV, indexV, buildV, fillV, buildSliceV, litElems, appendV, appElems, elemOk, convertV, convV, winStr, makeSliceV, sliceV, natOf, Tryd.f3, Tryd.ti3, Tryd.ti9, Tryd.ti23, ev_awake3, r1, r2, k1, k2, sg, ro, hl, hl', q]
        · have hl' : ¬ ((keyS w).length : Int) < (keyS v).length := by omega
          have hle : (keyS v).length ≤ (keyS w).length := by omega
          have hne : ¬ (keyS w).take (keyS v).length = keyS v := fun e => by
            have : keyS v ++ (keyS w).drop (keyS v).length = keyS w ++ [] := by
              rw [List.append_nil]
              conv => lhs; lhs; rw [← e]
              exact List.take_append_drop _ _
            exact hvw (key_inj h1 h2 iv iw this).1
          obtain ⟨k, n, s⟩ := v
          obtain ⟨k', n', s'⟩ := w
          simp only at r1 r2 k1 k2 ro
          rcases val_ne hvw with q | ⟨rfl, q⟩ | ⟨rfl, rfl, q⟩ <;> simp [i_nil, i_blk, i_skip, i_ret, i_exit, i_seq, i_block, i_cond, i_region', i_ops_nil, i_ops, i_drawn', i_drw_nil, i_drw, u_nil, u_code, u_ops, u_drw, u_lp, u_again, u_exit, u_ret, u_panic, c_bool, o_some, o_val, o_panic, d_some, d_val, d_panic, w_none, w_fast, wantG, q_nil, q_zero, q_succ, t_zero, t_succ, g_zero, g_succ, s_zero, s_succ, s_some, s_none, v_tmp, v_const, v_func, f_quiet, ↓brB_true, ↓brB_false, ↓brB_dec, ↓brB_not, ↓brB_and, ↓brB_or, ↓brB_beq, ↓brB_bne, gc_none, gc_pure, wrap_i64, p_move, p_assign, p_pick, p_alloc, p_box, p_build, p_buildSlice, p_load, p_store, p_nilCheck, p_binOp, p_unOp, p_convert, p_makeSlice, p_makeInterface, p_makeFunc, p_slice, p_fieldAddr, p_field, p_indexAddr, p_index, p_extract, p_callv, p_callb, p_panic, quiet_val, new_val, e_assign, e_call, e_load, e_store, e_alloc, e_box, e_move, e_pick, e_build, e_buildSlice, e_nilCheck, e_binOp, e_unOp, e_convert, e_makeSlice, e_makeInterface, e_makeFunc, e_slice, e_fieldAddr, e_field, e_indexAddr, e_index, e_extract, e_panic, callD, fpRead, adopt, adoptL, ofValue, ofScalar, binOpV, unOpV, intBin, strBin, eqRes, veq, veqF, eqDepth, val?, finish, resL, r_tmp, r_cell, normL, normTop, tipIs, refsL, refs, ownRefs, single, frz, frzL, ren, renL, renOwn, callOp, doCall, backR, writeBack, builtinV, loadV, storeV, cellsAt, takeV, D.isAgg, overlay, vcells, cellOk, fieldAddrV, indexAddrV, fieldV, partV, indexV, buildV, fillV, buildSliceV, litElems, appendV, appElems, elemOk, convertV, convV, winStr, makeSliceV, sliceV, natOf, Tryd.f3, Tryd.ti3, Tryd.ti9, Tryd.ti23, ev_awake3, r1, r2, k1, k2, sg, ro, hl, hl', hle, hne, q]
set_option maxHeartbeats 4000000 in
theorem ev_nexts (s t : List UInt8) : EV 4 [.str s, .str t] [] = some (.ret (.bool true), []) := by
  rw [EV_mki rfl Tryd.func4 rfl (by kernel_rfl)]
  by_cases h1 : 1000 < s.length
  · have h1' : (1000 : Int) < s.length := by omega
    simp [i_nil, i_blk, i_skip, i_ret, i_exit, i_seq, i_block, i_cond, i_region', i_ops_nil, i_ops, i_drawn', i_drw_nil, i_drw, u_nil, u_code, u_ops, u_drw, u_lp, u_again, u_exit, u_ret, u_panic, c_bool, o_some, o_val, o_panic, d_some, d_val, d_panic, w_none, w_fast, wantG, q_nil, q_zero, q_succ, t_zero, t_succ, g_zero, g_succ, s_zero, s_succ, s_some, s_none, v_tmp, v_const, v_func, f_quiet, ↓brB_true, ↓brB_false, ↓brB_dec, ↓brB_not, ↓brB_and, ↓brB_or, ↓brB_beq, ↓brB_bne, gc_none, gc_pure, wrap_i64, p_move, p_assign, p_pick, p_alloc, p_box, p_build, p_buildSlice, p_load, p_store, p_nilCheck, p_binOp, p_unOp, p_convert, p_makeSlice, p_makeInterface, p_makeFunc, p_slice, p_fieldAddr, p_field, p_indexAddr, p_index, p_extract, p_callv, p_callb, p_panic, quiet_val, new_val, e_assign, e_call, e_load, e_store, e_alloc, e_box, e_move, e_pick, e_build, e_buildSlice, e_nilCheck, e_binOp, e_unOp, e_convert, e_makeSlice, e_makeInterface, e_makeFunc, e_slice, e_fieldAddr, e_field, e_indexAddr, e_index, e_extract, e_panic, callD, fpRead, adopt, adoptL, ofValue, ofScalar, binOpV, unOpV, intBin, strBin, eqRes, veq, veqF, eqDepth, val?, finish, resL, r_tmp, r_cell, normL, normTop, tipIs, refsL, refs, ownRefs, single, frz, frzL, ren, renL, renOwn, callOp, doCall, backR, writeBack, builtinV, loadV, storeV, cellsAt, takeV, D.isAgg, overlay, vcells, cellOk, fieldAddrV, indexAddrV, fieldV, partV, indexV, buildV, fillV, buildSliceV, litElems, appendV, appElems, elemOk, convertV, convV, winStr, makeSliceV, sliceV, natOf, Tryd.f4, Tryd.ti3, Tryd.ti4, Tryd.ti9, ev_awake3, h1, h1']
  · have h1' : ¬ (1000 : Int) < s.length := by omega
    by_cases h2 : 1000 < t.length
    · have h2' : (1000 : Int) < t.length := by omega
      simp [i_nil, i_blk, i_skip, i_ret, i_exit, i_seq, i_block, i_cond, i_region', i_ops_nil, i_ops, i_drawn', i_drw_nil, i_drw, u_nil, u_code, u_ops, u_drw, u_lp, u_again, u_exit, u_ret, u_panic, c_bool, o_some, o_val, o_panic, d_some, d_val, d_panic, w_none, w_fast, wantG, q_nil, q_zero, q_succ, t_zero, t_succ, g_zero, g_succ, s_zero, s_succ, s_some, s_none, v_tmp, v_const, v_func, f_quiet, ↓brB_true, ↓brB_false, ↓brB_dec, ↓brB_not, ↓brB_and, ↓brB_or, ↓brB_beq, ↓brB_bne, gc_none, gc_pure, wrap_i64, p_move, p_assign, p_pick, p_alloc, p_box, p_build, p_buildSlice, p_load, p_store, p_nilCheck, p_binOp, p_unOp, p_convert, p_makeSlice, p_makeInterface, p_makeFunc, p_slice, p_fieldAddr, p_field, p_indexAddr, p_index, p_extract, p_callv, p_callb, p_panic, quiet_val, new_val, e_assign, e_call, e_load, e_store, e_alloc, e_box, e_move, e_pick, e_build, e_buildSlice, e_nilCheck, e_binOp, e_unOp, e_convert, e_makeSlice, e_makeInterface, e_makeFunc, e_slice, e_fieldAddr, e_field, e_indexAddr, e_index, e_extract, e_panic, callD, fpRead, adopt, adoptL, ofValue, ofScalar, binOpV, unOpV, intBin, strBin, eqRes, veq, veqF, eqDepth, val?, finish, resL, r_tmp, r_cell, normL, normTop, tipIs, refsL, refs, ownRefs, single, frz, frzL, ren, renL, renOwn, callOp, doCall, backR, writeBack, builtinV, loadV, storeV, cellsAt, takeV, D.isAgg, overlay, vcells, cellOk, fieldAddrV, indexAddrV, fieldV, partV, indexV, buildV, fillV, buildSliceV, litElems, appendV, appElems, elemOk, convertV, convV, winStr, makeSliceV, sliceV, natOf, Tryd.f4, Tryd.ti3, Tryd.ti4, Tryd.ti9, ev_awake3, h1, h1', h2, h2']
    · have h2' : ¬ (1000 : Int) < t.length := by omega
      have n1 := ev_next s (by omega)
      have n2 := ev_rnext s (by omega)
      have hnil := nextS_nil s
      have hS : nextS s = (nextF s).getD [] := by unfold nextS; rw [nextR_eq, List.reverse_reverse]
      have hb := begins_iff s t
      by_cases hp : s <+: t
      · have hl : s.length ≤ t.length := hp.length_le
        have hl' : (s.length : Int) ≤ t.length := by omega
        have ht : t.take s.length = s := (List.prefix_iff_eq_take.1 hp).symm
        obtain ⟨hle, hnx⟩ := hb.1 hp
        cases hn : nextF s with
        | none =>
          rw [hn] at hS
          simp only [Option.getD_none] at hS
          rw [hS] at n1 n2
          simp [i_nil, i_blk, i_skip, i_ret, i_exit, i_seq, i_block, i_cond, i_region', i_ops_nil, i_ops, i_drawn', i_drw_nil, i_drw, u_nil, u_code, u_ops, u_drw, u_lp, u_again, u_exit, u_ret, u_panic, c_bool, o_some, o_val, o_panic, d_some, d_val, d_panic, w_none, w_fast, wantG, q_nil, q_zero, q_succ, t_zero, t_succ, g_zero, g_succ, s_zero, s_succ, s_some, s_none, v_tmp, v_const, v_func, f_quiet, ↓brB_true, ↓brB_false, ↓brB_dec, ↓brB_not, ↓brB_and, ↓brB_or, ↓brB_beq, ↓brB_bne, gc_none, gc_pure, wrap_i64, p_move, p_assign, p_pick, p_alloc, p_box, p_build, p_buildSlice, p_load, p_store, p_nilCheck, p_binOp, p_unOp, p_convert, p_makeSlice, p_makeInterface, p_makeFunc, p_slice, p_fieldAddr, p_field, p_indexAddr, p_index, p_extract, p_callv, p_callb, p_panic, quiet_val, new_val, e_assign, e_call, e_load, e_store, e_alloc, e_box, e_move, e_pick, e_build, e_buildSlice, e_nilCheck, e_binOp, e_unOp, e_convert, e_makeSlice, e_makeInterface, e_makeFunc, e_slice, e_fieldAddr, e_field, e_indexAddr, e_index, e_extract, e_panic, callD, fpRead, adopt, adoptL, ofValue, ofScalar, binOpV, unOpV, intBin, strBin, eqRes, veq, veqF, eqDepth, val?, finish, resL, r_tmp, r_cell, normL, normTop, tipIs, refsL, refs, ownRefs, single, frz, frzL, ren, renL, renOwn, callOp, doCall, backR, writeBack, builtinV, loadV, storeV, cellsAt, takeV, D.isAgg, overlay, vcells, cellOk, fieldAddrV, indexAddrV, fieldV, partV, indexV, buildV, fillV, buildSliceV, litElems, appendV, appElems, elemOk, convertV, convV, winStr, makeSliceV, sliceV, natOf, Tryd.f4, Tryd.ti3, Tryd.ti4, Tryd.ti9, ev_awake3, h1, h1', h2, h2', n1, n2, hl, hl', ht, hle]
        | some n =>
          rw [hn] at hS hnx
          simp only [Option.getD_some] at hS hnx
          rw [hS] at n1 n2
          have hne := nextF_ne s n hn
          simp [i_nil, i_blk, i_skip, i_ret, i_exit, i_seq, i_block, i_cond, i_region', i_ops_nil, i_ops, i_drawn', i_drw_nil, i_drw, u_nil, u_code, u_ops, u_drw, u_lp, u_again, u_exit, u_ret, u_panic, c_bool, o_some, o_val, o_panic, d_some, d_val, d_panic, w_none, w_fast, wantG, q_nil, q_zero, q_succ, t_zero, t_succ, g_zero, g_succ, s_zero, s_succ, s_some, s_none, v_tmp, v_const, v_func, f_quiet, ↓brB_true, ↓brB_false, ↓brB_dec, ↓brB_not, ↓brB_and, ↓brB_or, ↓brB_beq, ↓brB_bne, gc_none, gc_pure, wrap_i64, p_move, p_assign, p_pick, p_alloc, p_box, p_build, p_buildSlice, p_load, p_store, p_nilCheck, p_binOp, p_unOp, p_convert, p_makeSlice, p_makeInterface, p_makeFunc, p_slice, p_fieldAddr, p_field, p_indexAddr, p_index, p_extract, p_callv, p_callb, p_panic, quiet_val, new_val, e_assign, e_call, e_load, e_store, e_alloc, e_box, e_move, e_pick, e_build, e_buildSlice, e_nilCheck, e_binOp, e_unOp, e_convert, e_makeSlice, e_makeInterface, e_makeFunc, e_slice, e_fieldAddr, e_field, e_indexAddr, e_index, e_extract, e_panic, callD, fpRead, adopt, adoptL, ofValue, ofScalar, binOpV, unOpV, intBin, strBin, eqRes, veq, veqF, eqDepth, val?, finish, resL, r_tmp, r_cell, normL, normTop, tipIs, refsL, refs, ownRefs, single, frz, frzL, ren, renL, renOwn, callOp, doCall, backR, writeBack, builtinV, loadV, storeV, cellsAt, takeV, D.isAgg, overlay, vcells, cellOk, fieldAddrV, indexAddrV, fieldV, partV, indexV, buildV, fillV, buildSliceV, litElems, appendV, appElems, elemOk, convertV, convV, winStr, makeSliceV, sliceV, natOf, Tryd.f4, Tryd.ti3, Tryd.ti4, Tryd.ti9, ev_awake3, h1, h1', h2, h2', n1, n2, hl, hl', ht, hle, hne, hnx]
      · have ht : s.length ≤ t.length → ¬ t.take s.length = s := fun _ e => hp (List.prefix_iff_eq_take.2 e.symm)
        have hor : Op.bytesLess t s = true ∨ (Op.bytesLess t s = false ∧ ∃ n, nextF s = some n ∧ Op.bytesLess t n = false) := by
          cases h : Op.bytesLess t s with
          | true => exact .inl rfl
          | false =>
            right
            refine ⟨rfl, ?_⟩
            cases hn : nextF s with
            | none => rw [hn] at hb; exact absurd (hb.2 ⟨h, trivial⟩) hp
            | some n =>
              refine ⟨n, rfl, ?_⟩
              cases hq : Op.bytesLess t n with
              | false => rfl
              | true => rw [hn] at hb; exact absurd (hb.2 ⟨h, hq⟩) hp
        by_cases hl : s.length ≤ t.length
        · have hl' : (s.length : Int) ≤ t.length := by omega
          have ht := ht hl
          rcases hor with h | ⟨h, n, hn, hq⟩
          · generalize nextS s = n at *
            simp [i_nil, i_blk, i_skip, i_ret, i_exit, i_seq, i_block, i_cond, i_region', i_ops_nil, i_ops, i_drawn', i_drw_nil, i_drw, u_nil, u_code, u_ops, u_drw, u_lp, u_again, u_exit, u_ret, u_panic, c_bool, o_some, o_val, o_panic, d_some, d_val, d_panic, w_none, w_fast, wantG, q_nil, q_zero, q_succ, t_zero, t_succ, g_zero, g_succ, s_zero, s_succ, s_some, s_none, v_tmp, v_const, v_func, f_quiet, ↓brB_true, ↓brB_false, ↓brB_dec, ↓brB_not, ↓brB_and, ↓brB_or, ↓brB_beq, ↓brB_bne, gc_none, gc_pure, wrap_i64, p_move, p_assign, p_pick, p_alloc, p_box, p_build, p_buildSlice, p_load, p_store, p_nilCheck, p_binOp, p_unOp, p_convert, p_makeSlice, p_makeInterface, p_makeFunc, p_slice, p_fieldAddr, p_field, p_indexAddr, p_index, p_extract, p_callv, p_callb, p_panic, quiet_val, new_val, e_assign, e_call, e_load, e_store, e_alloc, e_box, e_move, e_pick, e_build, e_buildSlice, e_nilCheck, e_binOp, e_unOp, e_convert, e_makeSlice, e_makeInterface, e_makeFunc, e_slice, e_fieldAddr, e_field, e_indexAddr, e_index, e_extract, e_panic, callD, fpRead, adopt, adoptL, ofValue, ofScalar, binOpV, unOpV, intBin, strBin, eqRes, veq, veqF, eqDepth, val?, finish, resL, r_tmp, r_cell, normL, normTop, tipIs, refsL, refs, ownRefs, single, frz, frzL, ren, renL, renOwn, callOp, doCall, backR, writeBack, builtinV, loadV, storeV, cellsAt, takeV, D.isAgg, overlay, vcells, cellOk, fieldAddrV, indexAddrV, fieldV, partV, indexV, buildV, fillV, buildSliceV, litElems, appendV, appElems, elemOk, convertV, convV, winStr, makeSliceV, sliceV, natOf, Tryd.f4, Tryd.ti3, Tryd.ti4, Tryd.ti9, ev_awake3, h1, h1', h2, h2', n1, n2, hl, hl', ht, h]
          · rw [hn] at hS
            simp only [Option.getD_some] at hS
            rw [hS] at n1 n2
            have hne := nextF_ne s n hn
            simp [i_nil, i_blk, i_skip, i_ret, i_exit, i_seq, i_block, i_cond, i_region', i_ops_nil, i_ops, i_drawn', i_drw_nil, i_drw, u_nil, u_code, u_ops, u_drw, u_lp, u_again, u_exit, u_ret, u_panic, c_bool, o_some, o_val, o_panic, d_some, d_val, d_panic, w_none, w_fast, wantG, q_nil, q_zero, q_succ, t_zero, t_succ, g_zero, g_succ, s_zero, s_succ, s_some, s_none, v_tmp, v_const, v_func, f_quiet, ↓brB_true, ↓brB_false, ↓brB_dec, ↓brB_not, ↓brB_and, ↓brB_or, ↓brB_beq, ↓brB_bne, gc_none, gc_pure, wrap_i64, p_move, p_assign, p_pick, p_alloc, p_box, p_build, p_buildSlice, p_load, p_store, p_nilCheck, p_binOp, p_unOp, p_convert, p_makeSlice, p_makeInterface, p_makeFunc, p_slice, p_fieldAddr, p_field, p_indexAddr, p_index, p_extract, p_callv, p_callb, p_panic, quiet_val, new_val, e_assign, e_call, e_load, e_store, e_alloc, e_box, e_move, e_pick, e_build, e_buildSlice, e_nilCheck, e_binOp, e_unOp, e_convert, e_makeSlice, e_makeInterface, e_makeFunc, e_slice, e_fieldAddr, e_field, e_indexAddr, e_index, e_extract, e_panic, callD, fpRead, adopt, adoptL, ofValue, ofScalar, binOpV, unOpV, intBin, strBin, eqRes, veq, veqF, eqDepth, val?, finish, resL, r_tmp, r_cell, normL, normTop, tipIs, refsL, refs, ownRefs, single, frz, frzL, ren, renL, renOwn, callOp, doCall, backR, writeBack, builtinV, loadV, storeV, cellsAt, takeV, D.isAgg, overlay, vcells, cellOk, fieldAddrV, indexAddrV, fieldV, partV, indexV, buildV, fillV, buildSliceV, litElems, appendV, appElems, elemOk, convertV, convV, winStr, makeSliceV, sliceV, natOf, Tryd.f4, Tryd.ti3, Tryd.ti4, Tryd.ti9, ev_awake3, h1, h1', h2, h2', n1, n2, hl, hl', ht, h, hne, hq]
        · have hl' : ¬ (s.length : Int) ≤ t.length := by omega
          rcases hor with h | ⟨h, n, hn, hq⟩
          · generalize nextS s = n at *
            simp [i_nil, i_blk, i_skip, i_ret, i_exit, i_seq, i_block, i_cond, i_region', i_ops_nil, i_ops, i_drawn', i_drw_nil, i_drw, u_nil, u_code, u_ops, u_drw, u_lp, u_again, u_exit, u_ret, u_panic, c_bool, o_some, o_val, o_panic, d_some, d_val, d_panic, w_none, w_fast, wantG, q_nil, q_zero, q_succ, t_zero, t_succ, g_zero, g_succ, s_zero, s_succ, s_some, s_none, v_tmp, v_const, v_func, f_quiet, ↓brB_true, ↓brB_false, ↓brB_dec, ↓brB_not, ↓brB_and, ↓brB_or, ↓brB_beq, ↓brB_bne, gc_none, gc_pure, wrap_i64, p_move, p_assign, p_pick, p_alloc, p_box, p_build, p_buildSlice, p_load, p_store, p_nilCheck, p_binOp, p_unOp, p_convert, p_makeSlice, p_makeInterface, p_makeFunc, p_slice, p_fieldAddr, p_field, p_indexAddr, p_index, p_extract, p_callv, p_callb, p_panic, quiet_val, new_val, e_assign, e_call, e_load, e_store, e_alloc, e_box, e_move, e_pick, e_build, e_buildSlice, e_nilCheck, e_binOp, e_unOp, e_convert, e_makeSlice, e_makeInterface, e_makeFunc, e_slice, e_fieldAddr, e_field, e_indexAddr, e_index, e_extract, e_panic, callD, fpRead, adopt, adoptL, ofValue, ofScalar, binOpV, unOpV, intBin, strBin, eqRes, veq, veqF, eqDepth, val?, finish, resL, r_tmp, r_cell, normL, normTop, tipIs, refsL, refs, ownRefs, single, frz, frzL, ren, renL, renOwn, callOp, doCall, backR, writeBack, builtinV, loadV, storeV, cellsAt, takeV, D.isAgg, overlay, vcells, cellOk, fieldAddrV, indexAddrV, fieldV, partV, indexV, buildV, fillV, buildSliceV, litElems, appendV, appElems, elemOk, convertV, convV, winStr, makeSliceV, sliceV, natOf, Tryd.f4, Tryd.ti3, Tryd.ti4, Tryd.ti9, ev_awake3, h1, h1', h2, h2', n1, n2, hl, hl', h]
          · rw [hn] at hS
            simp only [Option.getD_some] at hS
            rw [hS] at n1 n2
            have hne := nextF_ne s n hn
            simp [i_nil, i_blk, i_skip, i_ret, i_exit, i_seq, i_block, i_cond, i_region', i_ops_nil, i_ops, i_drawn', i_drw_nil, i_drw, u_nil, u_code, u_ops, u_drw, u_lp, u_again, u_exit, u_ret, u_panic, c_bool, o_some, o_val, o_panic, d_some, d_val, d_panic, w_none, w_fast, wantG, q_nil, q_zero, q_succ, t_zero, t_succ, g_zero, g_succ, s_zero, s_succ, s_some, s_none, v_tmp, v_const, v_func, f_quiet, ↓brB_true, ↓brB_false, ↓brB_dec, ↓brB_not, ↓brB_and, ↓brB_or, ↓brB_beq, ↓brB_bne, gc_none, gc_pure, wrap_i64, p_move, p_assign, p_pick, p_alloc, p_box, p_build, p_buildSlice, p_load, p_store, p_nilCheck, p_binOp, p_unOp, p_convert, p_makeSlice, p_makeInterface, p_makeFunc, p_slice, p_fieldAddr, p_field, p_indexAddr, p_index, p_extract, p_callv, p_callb, p_panic, quiet_val, new_val, e_assign, e_call, e_load, e_store, e_alloc, e_box, e_move, e_pick, e_build, e_buildSlice, e_nilCheck, e_binOp, e_unOp, e_convert, e_makeSlice, e_makeInterface, e_makeFunc, e_slice, e_fieldAddr, e_field, e_indexAddr, e_index, e_extract, e_panic, callD, fpRead, adopt, adoptL, ofValue, ofScalar, binOpV, unOpV, intBin, strBin, eqRes, veq, veqF, eqDepth, val?, finish, resL, r_tmp, r_cell, normL, normTop, tipIs, refsL, refs, ownRefs, single, frz, frzL, ren, renL, renOwn, callOp, doCall, backR, writeBack, builtinV, loadV, storeV, cellsAt, takeV, D.isAgg, overlay, vcells, cellOk, fieldAddrV, indexAddrV, fieldV, partV, indexV, buildV, fillV, buildSliceV, litElems, appendV, appElems, elemOk, convertV, convV, winStr, makeSliceV, sliceV, natOf, Tryd.f4, Tryd.ti3, Tryd.ti4, Tryd.ti9, ev_awake3, h1, h1', h2, h2', n1, n2, hl, hl', h, hne, hq]
set_option maxRecDepth 100000 in
set_option maxHeartbeats 4000000 in
theorem ev_ranges (v w : Val) (id : Int) (iv : inI v.n) (iw : inI w.n) (ii : inI id) : EV 5 [.agg [.int .i64 v.kind, .int .i64 v.n, .str v.s], .agg [.int .i64 w.kind, .int .i64 w.n, .str w.s], .int .i64 id] [] = some (.ret (.bool true), []) := by
  have r1 := ev_rright v.kind v.n v.s
  have r2 := ev_rright w.kind w.n w.s
  rw [Val.eta] at r1 r2
  rw [EV_mki rfl Tryd.func5 rfl (by kernel_rfl)]
  cases h1 : rightS v with
  | false =>
    rw [h1] at r1
    simp [i_nil, i_blk, i_skip, i_ret, i_exit, i_seq, i_block, i_cond, i_region', i_ops_nil, i_ops, i_drawn', i_drw_nil, i_drw, u_nil, u_code, u_ops, u_drw, u_lp, u_again, u_exit, u_ret, u_panic, c_bool, o_some, o_val, o_panic, d_some, d_val, d_panic, w_none, w_fast, wantG, q_nil, q_zero, q_succ, t_zero, t_succ, g_zero, g_succ, s_zero, s_succ, s_some, s_none, v_tmp, v_const, v_func, f_quiet, ↓brB_true, ↓brB_false, ↓brB_dec, ↓brB_not, ↓brB_and, ↓brB_or, ↓brB_beq, ↓brB_bne, gc_none, gc_pure, wrap_i64, p_move, p_assign, p_pick, p_alloc, p_box, p_build, p_buildSlice, p_load, p_store, p_nilCheck, p_binOp, p_unOp, p_convert, p_makeSlice, p_makeInterface, p_makeFunc, p_slice, p_fieldAddr, p_field, p_indexAddr, p_index, p_extract, p_callv, p_callb, p_panic, quiet_val, new_val, e_assign, e_call, e_load, e_store, e_alloc, e_box, e_move, e_pick, e_build, e_buildSlice, e_nilCheck, e_binOp, e_unOp, e_convert, e_makeSlice, e_makeInterface, e_makeFunc, e_slice, e_fieldAddr, e_field, e_indexAddr, e_index, e_extract, e_panic, callD, fpRead, adopt, adoptL, ofValue, ofScalar, binOpV, unOpV, intBin, strBin, eqRes, veq, veqF, eqDepth, val?, finish, resL, r_tmp, r_cell, normL, normTop, tipIs, refsL, refs, ownRefs, single, frz, frzL, ren, renL, renOwn, callOp, doCall, backR, writeBack, builtinV, loadV, storeV, cellsAt, takeV, D.isAgg, overlay, vcells, cellOk, fieldAddrV, indexAddrV, fieldV, partV, indexV, buildV, fillV, buildSliceV, litElems, appendV, appElems, elemOk, convertV, convV, winStr, makeSliceV, sliceV, natOf, Tryd.f5, Tryd.ti3, Tryd.ti4, Tryd.ti9, Tryd.ti23, Tryd.ti26, ev_awake3, r1]
  | true =>
    rw [h1] at r1
    cases h2 : rightS w with
    | false =>
      rw [h2] at r2
      simp [i_nil, i_blk, i_skip, i_ret, i_exit, i_seq, i_block, i_cond, i_region', i_ops_nil, i_ops, i_drawn', i_drw_nil, i_drw, u_nil, u_code, u_ops, u_drw, u_lp, u_again, u_exit, u_ret, u_panic, c_bool, o_some, o_val, o_panic, d_some, d_val, d_panic, w_none, w_fast, wantG, q_nil, q_zero, q_succ, t_zero, t_succ, g_zero, g_succ, s_zero, s_succ, s_some, s_none, v_tmp, v_const, v_func, f_quiet, ↓brB_true, ↓brB_false, ↓brB_dec, ↓brB_not, ↓brB_and, ↓brB_or, ↓brB_beq, ↓brB_bne, gc_none, gc_pure, wrap_i64, p_move, p_assign, p_pick, p_alloc, p_box, p_build, p_buildSlice, p_load, p_store, p_nilCheck, p_binOp, p_unOp, p_convert, p_makeSlice, p_makeInterface, p_makeFunc, p_slice, p_fieldAddr, p_field, p_indexAddr, p_index, p_extract, p_callv, p_callb, p_panic, quiet_val, new_val, e_assign, e_call, e_load, e_store, e_alloc, e_box, e_move, e_pick, e_build, e_buildSlice, e_nilCheck, e_binOp, e_unOp, e_convert, e_makeSlice, e_makeInterface, e_makeFunc, e_slice, e_fieldAddr, e_field, e_indexAddr, e_index, e_extract, e_panic, callD, fpRead, adopt, adoptL, ofValue, ofScalar, binOpV, unOpV, intBin, strBin, eqRes, veq, veqF, eqDepth, val?, finish, resL, r_tmp, r_cell, normL, normTop, tipIs, refsL, refs, ownRefs, single, frz, frzL, ren, renL, renOwn, callOp, doCall, backR, writeBack, builtinV, loadV, storeV, cellsAt, takeV, D.isAgg, overlay, vcells, cellOk, fieldAddrV, indexAddrV, fieldV, partV, indexV, buildV, fillV, buildSliceV, litElems, appendV, appElems, elemOk, convertV, convV, winStr, makeSliceV, sliceV, natOf, Tryd.f5, Tryd.ti3, Tryd.ti4, Tryd.ti9, Tryd.ti23, Tryd.ti26, ev_awake3, r1, r2]
    | true =>
      rw [h2] at r2
      by_cases h3 : id < 0
      · simp [i_nil, i_blk, i_skip, i_ret, i_exit, i_seq, i_block, i_cond, i_region', i_ops_nil, i_ops, i_drawn', i_drw_nil, i_drw, u_nil, u_code, u_ops, u_drw, u_lp, u_again, u_exit, u_ret, u_panic, c_bool, o_some, o_val, o_panic, d_some, d_val, d_panic, w_none, w_fast, wantG, q_nil, q_zero, q_succ, t_zero, t_succ, g_zero, g_succ, s_zero, s_succ, s_some, s_none, v_tmp, v_const, v_func, f_quiet, ↓brB_true, ↓brB_false, ↓brB_dec, ↓brB_not, ↓brB_and, ↓brB_or, ↓brB_beq, ↓brB_bne, gc_none, gc_pure, wrap_i64, p_move, p_assign, p_pick, p_alloc, p_box, p_build, p_buildSlice, p_load, p_store, p_nilCheck, p_binOp, p_unOp, p_convert, p_makeSlice, p_makeInterface, p_makeFunc, p_slice, p_fieldAddr, p_field, p_indexAddr, p_index, p_extract, p_callv, p_callb, p_panic, quiet_val, new_val, e_assign, e_call, e_load, e_store, e_alloc, e_box, e_move, e_pick, e_build, e_buildSlice, e_nilCheck, e_binOp, e_unOp, e_convert, e_makeSlice, e_makeInterface, e_makeFunc, e_slice, e_fieldAddr, e_field, e_indexAddr, e_index, e_extract, e_panic, callD, fpRead, adopt, adoptL, ofValue, ofScalar, binOpV, unOpV, intBin, strBin, eqRes, veq, veqF, eqDepth, val?, finish, resL, r_tmp, r_cell, normL, normTop, tipIs, refsL, refs, ownRefs, single, frz, frzL, ren, renL, renOwn, callOp, doCall, backR, writeBack, builtinV, loadV, storeV, cellsAt, takeV, D.isAgg, overlay, vcells, cellOk, fieldAddrV, indexAddrV, fieldV, partV, indexV, buildV, fillV, buildSliceV, litElems, appendV, appElems, elemOk, convertV, convV, winStr, makeSliceV, sliceV, natOf, Tryd.f5, Tryd.ti3, Tryd.ti4, Tryd.ti9, Tryd.ti23, Tryd.ti26, ev_awake3, r1, r2, h3]
      by_cases h4 : 1099511627776 < id
      · simp [i_nil, i_blk, i_skip, i_ret, i_exit, i_seq, i_block, i_cond, i_region', i_ops_nil, i_ops, i_drawn', i_drw_nil, i_drw, u_nil, u_code, u_ops, u_drw, u_lp, u_again, u_exit, u_ret, u_panic, c_bool, o_some, o_val, o_panic, d_some, d_val, d_panic, w_none, w_fast, wantG, q_nil, q_zero, q_succ, t_zero, t_succ, g_zero, g_succ, s_zero, s_succ, s_some, s_none, v_tmp, v_const, v_func, f_quiet, ↓brB_true, ↓brB_false, ↓brB_dec, ↓brB_not, ↓brB_and, ↓brB_or, ↓brB_beq, ↓brB_bne, gc_none, gc_pure, wrap_i64, p_move, p_assign, p_pick, p_alloc, p_box, p_build, p_buildSlice, p_load, p_store, p_nilCheck, p_binOp, p_unOp, p_convert, p_makeSlice, p_makeInterface, p_makeFunc, p_slice, p_fieldAddr, p_field, p_indexAddr, p_index, p_extract, p_callv, p_callb, p_panic, quiet_val, new_val, e_assign, e_call, e_load, e_store, e_alloc, e_box, e_move, e_pick, e_build, e_buildSlice, e_nilCheck, e_binOp, e_unOp, e_convert, e_makeSlice, e_makeInterface, e_makeFunc, e_slice, e_fieldAddr, e_field, e_indexAddr, e_index, e_extract, e_panic, callD, fpRead, adopt, adoptL, ofValue, ofScalar, binOpV, unOpV, intBin, strBin, eqRes, veq, veqF, eqDepth, val?, finish, resL, r_tmp, r_cell, normL, normTop, tipIs, refsL, refs, ownRefs, single, frz, frzL, ren, renL, renOwn, callOp, doCall, backR, writeBack, builtinV, loadV, storeV, cellsAt, takeV, D.isAgg, overlay, vcells, cellOk, fieldAddrV, indexAddrV, fieldV, partV, indexV, buildV, fillV, buildSliceV, litElems, appendV, appElems, elemOk, convertV, convV, winStr, makeSliceV, sliceV, natOf, Tryd.f5, Tryd.ti3, Tryd.ti4, Tryd.ti9, Tryd.ti23, Tryd.ti26, ev_awake3, r1, r2, h3, h4]
      have k1 := ev_Key v iv
      have k2 := ev_Key w iw
      rw [keyT_right h1] at k1
      rw [keyT_right h2] at k2
      simp only at k1 k2
      have e1 := ev_id id ii
      have eid : idS id = (eightS id, 0) := by unfold idS; rw [if_neg (by omega)]
      rw [eid] at e1
      simp only at e1
      have hl1 := key_len h1
      have hl2 := key_len h2
      have n1 := ev_next (keyS v) (by omega)
      have hS : nextS (keyS v) = (nextF (keyS v)).getD [] := by unfold nextS; rw [nextR_eq, List.reverse_reverse]
      have h8 : (eightS id).length = 8 := rfl
      have hcat : (keyS w).length + 8 ≤ 4611686018427387904 := by omega
      have hb := begins_iff (keyS v) (keyS w ++ eightS id)
      have hpre : keyS v <+: (keyS w ++ eightS id) ↔ v = w := by
        constructor
        · rintro ⟨x, hx⟩; exact (key_inj h1 h2 iv iw hx).1
        · rintro rfl; exact List.prefix_append _ _
      have hsome : ∃ n, nextF (keyS v) = some n := by
        cases hn : nextF (keyS v) with
        | some n => exact ⟨n, rfl⟩
        | none =>
          exfalso
          have := key_first h1
          obtain ⟨b, r, hk, hb⟩ := this
          rw [hk, nextF] at hn
          split at hn
          · cases hn
          · split at hn
            · rename_i h; exact hb h
            · cases hn
      obtain ⟨n, hn⟩ := hsome
      rw [hn] at hS hb
      simp only [Option.getD_some] at hS hb
      rw [hS] at n1
      generalize eightS id = l8 at *
      by_cases hvw : v = w
      · have ⟨b1, b2⟩ := hb.1 (hpre.2 hvw)
        subst hvw
        simp [i_nil, i_blk, i_skip, i_ret, i_exit, i_seq, i_block, i_cond, i_region', i_ops_nil, i_ops, i_drawn', i_drw_nil, i_drw, u_nil, u_code, u_ops, u_drw, u_lp, u_again, u_exit, u_ret, u_panic, c_bool, o_some, o_val, o_panic, d_some, d_val, d_panic, w_none, w_fast, wantG, q_nil, q_zero, q_succ, t_zero, t_succ, g_zero, g_succ, s_zero, s_succ, s_some, s_none, v_tmp, v_const, v_func, f_quiet, ↓brB_true, ↓brB_false, ↓brB_dec, ↓brB_not, ↓brB_and, ↓brB_or, ↓brB_beq, ↓brB_bne, gc_none, gc_pure, wrap_i64, p_move, p_assign, p_pick, p_alloc, p_box, p_build, p_buildSlice, p_load, p_store, p_nilCheck, p_binOp, p_unOp, p_convert, p_makeSlice, p_makeInterface, p_makeFunc, p_slice, p_fieldAddr, p_field, p_indexAddr, p_index, p_extract, p_callv, p_callb, p_panic, quiet_val, new_val, e_assign, e_call, e_load, e_store, e_alloc, e_box, e_move, e_pick, e_build, e_buildSlice, e_nilCheck, e_binOp, e_unOp, e_convert, e_makeSlice, e_makeInterface, e_makeFunc, e_slice, e_fieldAddr, e_field, e_indexAddr, e_index, e_extract, e_panic, callD, fpRead, adopt, adoptL, ofValue, ofScalar, binOpV, unOpV, intBin, strBin, eqRes, veq, veqF, eqDepth, val?, finish, resL, r_tmp, r_cell, normL, normTop, tipIs, refsL, refs, ownRefs, single, frz, frzL, ren, renL, renOwn, callOp, doCall, backR, writeBack, builtinV, loadV, storeV, cellsAt, takeV, D.isAgg, overlay, vcells, cellOk, fieldAddrV, indexAddrV, fieldV, partV, indexV, buildV, fillV, buildSliceV, litElems, appendV, appElems, elemOk, convertV, convV, winStr, makeSliceV, sliceV, natOf, Tryd.f5, Tryd.ti3, Tryd.ti4, Tryd.ti9, Tryd.ti23, Tryd.ti26, ev_awake3, r1, h3, h4, k1, e1, n1, h8, hcat, b1, b2]
      · have hnb := fun q => hvw (hpre.1 (hb.2 q))
        obtain ⟨k, m, s⟩ := v
        obtain ⟨k', m', s'⟩ := w
        simp only at r1 r2 k1 k2
        cases b1 : Op.bytesLess (keyS ⟨k', m', s'⟩ ++ l8) (keyS ⟨k, m, s⟩) with
        | true =>
          rcases val_ne hvw with q | ⟨rfl, q⟩ | ⟨rfl, rfl, q⟩ <;> simp [i_nil, i_blk, i_skip, i_ret, i_exit, i_seq, i_block, i_cond, i_region', i_ops_nil, i_ops, i_drawn', i_drw_nil, i_drw, u_nil, u_code, u_ops, u_drw, u_lp, u_again, u_exit, u_ret, u_panic, c_bool, o_some, o_val, o_panic, d_some, d_val, d_panic, w_none, w_fast, wantG, q_nil, q_zero, q_succ, t_zero, t_succ, g_zero, g_succ, s_zero, s_succ, s_some, s_none, v_tmp, v_const, v_func, f_quiet, ↓brB_true, ↓brB_false, ↓brB_dec, ↓brB_not, ↓brB_and, ↓brB_or, ↓brB_beq, ↓brB_bne, gc_none, gc_pure, wrap_i64, p_move, p_assign, p_pick, p_alloc, p_box, p_build, p_buildSlice, p_load, p_store, p_nilCheck, p_binOp, p_unOp, p_convert, p_makeSlice, p_makeInterface, p_makeFunc, p_slice, p_fieldAddr, p_field, p_indexAddr, p_index, p_extract, p_callv, p_callb, p_panic, quiet_val, new_val, e_assign, e_call, e_load, e_store, e_alloc, e_box, e_move, e_pick, e_build, e_buildSlice, e_nilCheck, e_binOp, e_unOp, e_convert, e_makeSlice, e_makeInterface, e_makeFunc, e_slice, e_fieldAddr, e_field, e_indexAddr, e_index, e_extract, e_panic, callD, fpRead, adopt, adoptL, ofValue, ofScalar, binOpV, unOpV, intBin, strBin, eqRes, veq, veqF, eqDepth, val?, finish, resL, r_tmp, r_cell, normL, normTop, tipIs, refsL, refs, ownRefs, single, frz, frzL, ren, renL, renOwn, callOp, doCall, backR, writeBack, builtinV, loadV, storeV, cellsAt, takeV, D.isAgg, overlay, vcells, cellOk, fieldAddrV, indexAddrV, fieldV, partV, indexV, buildV, fillV, buildSliceV, litElems, appendV, appElems, elemOk, convertV, convV, winStr, makeSliceV, sliceV, natOf, Tryd.f5, Tryd.ti3, Tryd.ti4, Tryd.ti9, Tryd.ti23, Tryd.ti26, ev_awake3, r1, r2, h3, h4, k1, k2, e1, n1, h8, hcat, b1, q]
        | false =>
          cases b2 : Op.bytesLess (keyS ⟨k', m', s'⟩ ++ l8) n with
          | true => exact absurd ⟨b1, b2⟩ hnb
          | false =>
            rcases val_ne hvw with q | ⟨rfl, q⟩ | ⟨rfl, rfl, q⟩ <;> simp [i_nil, i_blk, i_skip, i_ret, i_exit, i_seq, i_block, i_cond, i_region', i_ops_nil, i_ops, i_drawn', i_drw_nil, i_drw, u_nil, u_code, u_ops, u_drw, u_lp, u_again, u_exit, u_ret, u_panic, c_bool, o_some, o_val, o_panic, d_some, d_val, d_panic, w_none, w_fast, wantG, q_nil, q_zero, q_succ, t_zero, t_succ, g_zero, g_succ, s_zero, s_succ, s_some, s_none, v_tmp, v_const, v_func, f_quiet, ↓brB_true, ↓brB_false, ↓brB_dec, ↓brB_not, ↓brB_and, ↓brB_or, ↓brB_beq, ↓brB_bne, gc_none, gc_pure, wrap_i64, p_move, p_assign, p_pick, p_alloc, p_box, p_build, p_buildSlice, p_load, p_store, p_nilCheck, p_binOp, p_unOp, p_convert, p_makeSlice, p_makeInterface, p_makeFunc, p_slice, p_fieldAddr, p_field, p_indexAddr, p_index, p_extract, p_callv, p_callb, p_panic, quiet_val, new_val, e_assign, e_call, e_load, e_store, e_alloc, e_box, e_move, e_pick, e_build, e_buildSlice, e_nilCheck, e_binOp, e_unOp, e_convert, e_makeSlice, e_makeInterface, e_makeFunc, e_slice, e_fieldAddr, e_field, e_indexAddr, e_index, e_extract, e_panic, callD, fpRead, adopt, adoptL, ofValue, ofScalar, binOpV, unOpV, intBin, strBin, eqRes, veq, veqF, eqDepth, val?, finish, resL, r_tmp, r_cell, normL, normTop, tipIs, refsL, refs, ownRefs, single, frz, frzL, ren, renL, renOwn, callOp, doCall, backR, writeBack, builtinV, loadV, storeV, cellsAt, takeV, D.isAgg, overlay, vcells, cellOk, fieldAddrV, indexAddrV, fieldV, partV, indexV, buildV, fillV, buildSliceV, litElems, appendV, appElems, elemOk, convertV, convV, winStr, makeSliceV, sliceV, natOf, Tryd.f5, Tryd.ti3, Tryd.ti4, Tryd.ti9, Tryd.ti23, Tryd.ti26, ev_awake3, r1, r2, h3, h4, k1, k2, e1, n1, h8, hcat, b1, b2, q]
end Go.Abs
