/- What lex.Tokens comes to. -/
import Derived.Test.YtenpkhklgjgdjaaDoorFnLexF
namespace Go.Abs
set_option linter.unusedSimpArgs false
set_option linter.unusedVariables false
open Go Go.Proofs

theorem lexR_toks (s : List UInt8) : ∀ (f j : Nat) (acc : List Tok), j ≤ s.length → s.length < f + j → match toksS f j (s.drop j) with
    | .ok l => ∃ q, lexR s f j acc = (acc ++ l, q, none)
    | .error e => ∃ a q, lexR s f j acc = (a, q, some e)
  | 0, j, acc, hj, hf => by omega
  | f + 1, j, acc, hj, hf => by
    have hle := takeWhile_len (p := isBlk) (s.drop j)
    rw [List.length_drop] at hle
    have hkl : j + blanks (s.drop j) ≤ s.length := by have : ((s.drop j).takeWhile isBlk).length = blanks (s.drop j) := rfl; omega
    have ht := next_tok s _ hkl
    have hn : nextTok j (s.drop j) = tokS (j + blanks (s.drop j)) (s.drop (j + blanks (s.drop j))) := by unfold nextTok; rw [unblank_drop]
    have hjk : j ≤ j + blanks (s.drop j) := by omega
    simp only [toksS, lexR, hn]
    generalize j + blanks (s.drop j) = k at *
    cases hr : tokS k (s.drop k) with
    | error e => exact ⟨_, _, rfl⟩
    | ok p =>
      obtain ⟨t, u⟩ := p
      rw [hr] at ht
      obtain ⟨_, ⟨n, hu, hnl, hn1⟩, hu0⟩ := ht
      have hul : u.length = s.length - k - n := by rw [hu, List.length_drop, List.length_drop]
      rw [List.length_drop] at hnl
      simp only
      by_cases hk0 : t.kind = 0
      · simp only [hk0, if_true]
        exact ⟨_, rfl⟩
      · simp only [hk0, if_false]
        have hn1 := hn1 hk0
        have hq : s.length - u.length = k + n := by omega
        have hq2 : j + ((s.drop j).length - u.length) = k + n := by rw [List.length_drop]; omega
        have hud : u = s.drop (k + n) := by rw [hu, List.drop_drop]
        rw [hq, hq2]
        have := lexR_toks s f (k + n) (acc ++ [t]) (by omega) (by omega)
        rw [← hud] at this
        cases hx : toksS f (k + n) u with
        | ok l =>
          rw [hx] at this
          obtain ⟨q, hq⟩ := this
          exact ⟨q, by rw [hq]; simp⟩
        | error e =>
          rw [hx] at this
          exact this

def toksO : Except Nat (List Tok) → Option (Out × St)
  | .ok l => some (.ret (.tup [.slice (.own 0) (l.map Tok.enc), .agg [.int .i64 0, .int .i64 0]]), [[.tip l.length]])
  | .error e => some (.ret (.tup [.slice (.own 0) [], .agg [.int .i64 1, .int .i64 e]]), [[.tip 0]])

set_option maxRecDepth 100000 in
theorem ev_tokens (s : List UInt8) (hs : s.length ≤ 1048576) : EV 7 [.str s] [] = toksO (toksS (s.length + 1) 0 s) := by
  have hc := ev_lexc s hs
  have hr := lexR_toks s (s.length + 1) 0 [] (by omega) (by omega)
  rw [List.drop_zero] at hr
  rw [EV_mki rfl Tryd.func7 rfl (by kernel_rfl)]
  cases hx : toksS (s.length + 1) 0 s with
  | ok l =>
    rw [hx] at hr
    obtain ⟨q, hq⟩ := hr
    rw [hq] at hc
    simp only [List.nil_append, lexO, lexSt, List.map_nil, List.length_nil, Int.ofNat_zero] at hc
    have hg : EV 12 [.func 13 [] [.box 0 0, .box 2 0]] [[.slice (.own 1) []], [.tip 0], [.box 3 0], [.str s, .int .i64 0]] =
      some (.ret (.agg [.int .i64 0, .int .i64 0]), [[.slice (.own 1) (l.map Tok.enc)], [.tip l.length], [.box 3 0], [.str s, .int .i64 q]]) := by
      rw [ev_grab]
      simp [primRun, i_nil, i_blk, i_skip, i_ret, i_exit, i_seq, i_block, i_cond, i_region', i_ops_nil, i_ops, i_drawn', d_in, a_nil, a_cons, alt1, h_nil, h_one, h_two, z_nil, z_cons, z_cells, zeqL, zeq, q_alloc, q_some, isAlO, nxtN, i_drh, d_hi, i_drw_nil, i_drw, u_nil, u_code, u_ops, u_drw, u_lp, u_again, u_exit, u_ret, u_panic, c_bool, o_some, o_val, o_panic, d_some, d_val, d_panic, w_none, w_fast, wantG, q_nil, q_zero, q_succ, t_zero, t_succ, g_zero, g_succ, s_zero, s_succ, s_some, s_none, v_tmp, v_const, v_func, f_quiet, ↓brB_true, ↓brB_false, ↓brB_dec, ↓brB_not, ↓brB_and, ↓brB_or, ↓brB_beq, ↓brB_bne, gc_none, gc_pure, wrap_i64, p_move, p_assign, p_pick, p_alloc, p_box, p_build, p_buildSlice, p_load, p_store, p_nilCheck, p_binOp, n_tmp, n_int, n_bool, n_str, n_ptr, n_fun, n_iface, nilCmp, p_unOp, p_convert, p_makeSlice, p_makeInterface, p_makeFunc, p_slice, p_fieldAddr, p_field, p_indexAddr, p_index, p_extract, p_callv, p_callb, p_panic, quiet_val, new_val, e_assign, e_call, e_load, e_store, e_alloc, e_box, e_move, e_pick, e_build, e_buildSlice, e_nilCheck, e_binOp, e_unOp, e_convert, e_makeSlice, e_makeInterface, e_makeFunc, e_slice, e_fieldAddr, e_field, e_indexAddr, e_index, e_extract, e_panic, callD, fpRead, adopt, adoptL, ofValue, ofScalar, binOpV, unOpV, intBin, strBin, eqRes, veq, veqF, eqDepth, val?, finish, resL, r_tmp, r_cell, normL, normTop, tipIs, refsL, refs, ownRefs, single, frz, frzL, ren, renL, renOwn, callOp, doCall, backR, writeBack, builtinV, loadV, storeV, cellsAt, takeV, D.isAgg, overlay, vcells, cellOk, fieldAddrV, indexAddrV, fieldV, partV, indexV, buildV, fillV, buildSliceV, litElems, appendV, appElems, elemOk, convertV, convV, winStr, makeSliceV, sliceV, natOf, reach, reachFuel, shut, nodup, List.idxOf, List.findIdx, List.findIdx.go, hc, catchRes, gc, List.range, List.range.loop, backR]
    have hxl : l.length = (l.map Tok.enc).length := by simp
    simp only [toksO]
    generalize l.map Tok.enc = xs at hg hxl ⊢
    simp [i_nil, i_blk, i_skip, i_ret, i_exit, i_seq, i_block, i_cond, i_region', i_ops_nil, i_ops, i_drawn', d_in, a_nil, a_cons, alt1, h_nil, h_one, h_two, z_nil, z_cons, z_cells, zeqL, zeq, q_alloc, q_some, isAlO, nxtN, i_drh, d_hi, i_drw_nil, i_drw, u_nil, u_code, u_ops, u_drw, u_lp, u_again, u_exit, u_ret, u_panic, c_bool, o_some, o_val, o_panic, d_some, d_val, d_panic, w_none, w_fast, wantG, q_nil, q_zero, q_succ, t_zero, t_succ, g_zero, g_succ, s_zero, s_succ, s_some, s_none, v_tmp, v_const, v_func, f_quiet, ↓brB_true, ↓brB_false, ↓brB_dec, ↓brB_not, ↓brB_and, ↓brB_or, ↓brB_beq, ↓brB_bne, gc_none, gc_pure, wrap_i64, p_move, p_assign, p_pick, p_alloc, p_box, p_build, p_buildSlice, p_load, p_store, p_nilCheck, p_binOp, n_tmp, n_int, n_bool, n_str, n_ptr, n_fun, n_iface, nilCmp, p_unOp, p_convert, p_makeSlice, p_makeInterface, p_makeFunc, p_slice, p_fieldAddr, p_field, p_indexAddr, p_index, p_extract, p_callv, p_callb, p_panic, quiet_val, new_val, e_assign, e_call, e_load, e_store, e_alloc, e_box, e_move, e_pick, e_build, e_buildSlice, e_nilCheck, e_binOp, e_unOp, e_convert, e_makeSlice, e_makeInterface, e_makeFunc, e_slice, e_fieldAddr, e_field, e_indexAddr, e_index, e_extract, e_panic, callD, fpRead, adopt, adoptL, ofValue, ofScalar, binOpV, unOpV, intBin, strBin, eqRes, veq, veqF, eqDepth, val?, finish, resL, r_tmp, r_cell, normL, normTop, tipIs, refsL, refs, ownRefs, single, frz, frzL, ren, renL, renOwn, callOp, doCall, backR, writeBack, builtinV, loadV, storeV, cellsAt, takeV, D.isAgg, overlay, vcells, cellOk, fieldAddrV, indexAddrV, fieldV, partV, indexV, buildV, fillV, buildSliceV, litElems, appendV, appElems, elemOk, convertV, convV, winStr, makeSliceV, sliceV, natOf, Tryd.f7, Tryd.ti3, Tryd.ti9, Tryd.ti23, Tryd.ti24, Tryd.ti26, Tryd.ti36, Tryd.ti39, Tryd.ti41, reach, reachFuel, shut, nodup, List.idxOf, List.findIdx, List.findIdx.go, backR, hg, hxl, gc, List.range, List.range.loop] <;> first | (change _ = true; decide +kernel) | (refine ⟨?_, ?_⟩ <;> (change _ = true; decide +kernel))
  | error e =>
    rw [hx] at hr
    obtain ⟨a, q, hq⟩ := hr
    rw [hq] at hc
    simp only [lexO, lexSt, List.map_nil, List.length_nil, faultV, Int.ofNat_zero] at hc
    have hg : EV 12 [.func 13 [] [.box 0 0, .box 2 0]] [[.slice (.own 1) []], [.tip 0], [.box 3 0], [.str s, .int .i64 0]] =
      some (.ret (.agg [.int .i64 1, .int .i64 e]), [[.slice (.own 1) (a.map Tok.enc)], [.tip a.length], [.box 3 0], [.str s, .int .i64 q]]) := by
      rw [ev_grab]
      simp [primRun, i_nil, i_blk, i_skip, i_ret, i_exit, i_seq, i_block, i_cond, i_region', i_ops_nil, i_ops, i_drawn', d_in, a_nil, a_cons, alt1, h_nil, h_one, h_two, z_nil, z_cons, z_cells, zeqL, zeq, q_alloc, q_some, isAlO, nxtN, i_drh, d_hi, i_drw_nil, i_drw, u_nil, u_code, u_ops, u_drw, u_lp, u_again, u_exit, u_ret, u_panic, c_bool, o_some, o_val, o_panic, d_some, d_val, d_panic, w_none, w_fast, wantG, q_nil, q_zero, q_succ, t_zero, t_succ, g_zero, g_succ, s_zero, s_succ, s_some, s_none, v_tmp, v_const, v_func, f_quiet, ↓brB_true, ↓brB_false, ↓brB_dec, ↓brB_not, ↓brB_and, ↓brB_or, ↓brB_beq, ↓brB_bne, gc_none, gc_pure, wrap_i64, p_move, p_assign, p_pick, p_alloc, p_box, p_build, p_buildSlice, p_load, p_store, p_nilCheck, p_binOp, n_tmp, n_int, n_bool, n_str, n_ptr, n_fun, n_iface, nilCmp, p_unOp, p_convert, p_makeSlice, p_makeInterface, p_makeFunc, p_slice, p_fieldAddr, p_field, p_indexAddr, p_index, p_extract, p_callv, p_callb, p_panic, quiet_val, new_val, e_assign, e_call, e_load, e_store, e_alloc, e_box, e_move, e_pick, e_build, e_buildSlice, e_nilCheck, e_binOp, e_unOp, e_convert, e_makeSlice, e_makeInterface, e_makeFunc, e_slice, e_fieldAddr, e_field, e_indexAddr, e_index, e_extract, e_panic, callD, fpRead, adopt, adoptL, ofValue, ofScalar, binOpV, unOpV, intBin, strBin, eqRes, veq, veqF, eqDepth, val?, finish, resL, r_tmp, r_cell, normL, normTop, tipIs, refsL, refs, ownRefs, single, frz, frzL, ren, renL, renOwn, callOp, doCall, backR, writeBack, builtinV, loadV, storeV, cellsAt, takeV, D.isAgg, overlay, vcells, cellOk, fieldAddrV, indexAddrV, fieldV, partV, indexV, buildV, fillV, buildSliceV, litElems, appendV, appElems, elemOk, convertV, convV, winStr, makeSliceV, sliceV, natOf, reach, reachFuel, shut, nodup, List.idxOf, List.findIdx, List.findIdx.go, hc, catchRes, gc, List.range, List.range.loop, backR]
    simp only [toksO]
    generalize a.map Tok.enc = xs at hg ⊢
    simp [i_nil, i_blk, i_skip, i_ret, i_exit, i_seq, i_block, i_cond, i_region', i_ops_nil, i_ops, i_drawn', d_in, a_nil, a_cons, alt1, h_nil, h_one, h_two, z_nil, z_cons, z_cells, zeqL, zeq, q_alloc, q_some, isAlO, nxtN, i_drh, d_hi, i_drw_nil, i_drw, u_nil, u_code, u_ops, u_drw, u_lp, u_again, u_exit, u_ret, u_panic, c_bool, o_some, o_val, o_panic, d_some, d_val, d_panic, w_none, w_fast, wantG, q_nil, q_zero, q_succ, t_zero, t_succ, g_zero, g_succ, s_zero, s_succ, s_some, s_none, v_tmp, v_const, v_func, f_quiet, ↓brB_true, ↓brB_false, ↓brB_dec, ↓brB_not, ↓brB_and, ↓brB_or, ↓brB_beq, ↓brB_bne, gc_none, gc_pure, wrap_i64, p_move, p_assign, p_pick, p_alloc, p_box, p_build, p_buildSlice, p_load, p_store, p_nilCheck, p_binOp, n_tmp, n_int, n_bool, n_str, n_ptr, n_fun, n_iface, nilCmp, p_unOp, p_convert, p_makeSlice, p_makeInterface, p_makeFunc, p_slice, p_fieldAddr, p_field, p_indexAddr, p_index, p_extract, p_callv, p_callb, p_panic, quiet_val, new_val, e_assign, e_call, e_load, e_store, e_alloc, e_box, e_move, e_pick, e_build, e_buildSlice, e_nilCheck, e_binOp, e_unOp, e_convert, e_makeSlice, e_makeInterface, e_makeFunc, e_slice, e_fieldAddr, e_field, e_indexAddr, e_index, e_extract, e_panic, callD, fpRead, adopt, adoptL, ofValue, ofScalar, binOpV, unOpV, intBin, strBin, eqRes, veq, veqF, eqDepth, val?, finish, resL, r_tmp, r_cell, normL, normTop, tipIs, refsL, refs, ownRefs, single, frz, frzL, ren, renL, renOwn, callOp, doCall, backR, writeBack, builtinV, loadV, storeV, cellsAt, takeV, D.isAgg, overlay, vcells, cellOk, fieldAddrV, indexAddrV, fieldV, partV, indexV, buildV, fillV, buildSliceV, litElems, appendV, appElems, elemOk, convertV, convV, winStr, makeSliceV, sliceV, natOf, Tryd.f7, Tryd.ti3, Tryd.ti9, Tryd.ti23, Tryd.ti24, Tryd.ti26, Tryd.ti36, Tryd.ti39, Tryd.ti41, reach, reachFuel, shut, nodup, List.idxOf, List.findIdx, List.findIdx.go, backR, hg, gc, List.range, List.range.loop] <;> first | (change _ = true; decide +kernel) | (refine ⟨?_, ?_⟩ <;> (change _ = true; decide +kernel))
end Go.Abs
