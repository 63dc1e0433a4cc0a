/- What Plain and Same come to; LexTokens. -/
import Derived.Test.YtenpkhklgjgdjaaDoorFnLexG
namespace Go.Abs
set_option linter.unusedSimpArgs false
set_option linter.unusedVariables false
open Go Go.Proofs

theorem ev_awake : EV 6 [] [] = some (.ret (.bool true), []) := ev_some.2 ⟨200, by kernel_rfl⟩

theorem ev_tplain (l : List Tok) (hl : l.length ≤ 1048577) : EV 10 [.slice .froz (l.map Tok.enc)] [] = some (.ret (.slice (.own 0) (l.map Tok.enc)), [[.tip l.length]]) := by
  rw [EV_mki rfl Tryd.func10 rfl (by kernel_rfl)]
  simp [i_nil, i_blk, i_skip, i_ret, i_exit, i_seq, i_block, i_cond, i_region', i_ops_nil, i_ops, i_drawn', d_in, a_nil, a_cons, alt1, h_nil, h_one, h_two, z_nil, z_cons, z_cells, zeqL, zeq, q_alloc, q_some, isAlO, nxtN, i_drh, d_hi, i_drw_nil, i_drw, u_nil, u_code, u_ops, u_drw, u_lp, u_again, u_exit, u_ret, u_panic, c_bool, o_some, o_val, o_panic, d_some, d_val, d_panic, w_none, w_fast, wantG, q_nil, q_zero, q_succ, t_zero, t_succ, g_zero, g_succ, s_zero, s_succ, s_some, s_none, v_tmp, v_const, v_func, f_quiet, ↓brB_true, ↓brB_false, ↓brB_dec, ↓brB_not, ↓brB_and, ↓brB_or, ↓brB_beq, ↓brB_bne, gc_none, gc_pure, wrap_i64, p_move, p_assign, p_pick, p_alloc, p_box, p_build, p_buildSlice, p_load, p_store, p_nilCheck, p_binOp, n_tmp, n_int, n_bool, n_str, n_ptr, n_fun, n_iface, nilCmp, p_unOp, p_convert, p_makeSlice, p_makeInterface, p_makeFunc, p_slice, p_fieldAddr, p_field, p_indexAddr, p_index, p_extract, p_callv, p_callb, p_panic, quiet_val, new_val, e_assign, e_call, e_load, e_store, e_alloc, e_box, e_move, e_pick, e_build, e_buildSlice, e_nilCheck, e_binOp, e_unOp, e_convert, e_makeSlice, e_makeInterface, e_makeFunc, e_slice, e_fieldAddr, e_field, e_indexAddr, e_index, e_extract, e_panic, callD, fpRead, adopt, adoptL, ofValue, ofScalar, binOpV, unOpV, intBin, strBin, eqRes, veq, veqF, eqDepth, val?, finish, resL, r_tmp, r_cell, normL, normTop, tipIs, refsL, refs, ownRefs, single, frz, frzL, ren, renL, renOwn, callOp, doCall, backR, writeBack, builtinV, loadV, storeV, cellsAt, takeV, D.isAgg, overlay, vcells, cellOk, fieldAddrV, indexAddrV, fieldV, partV, indexV, buildV, fillV, buildSliceV, litElems, appendV, appElems, elemOk, convertV, convV, winStr, makeSliceV, sliceV, natOf, Tryd.f10, Tryd.ti3, Tryd.ti9, Tryd.ti23, Tryd.ti29, Tryd.ti36, Tryd.ti45]
  rw [i_loop (ts := [9, 10, 11, 5, 12, 13, 14, 15, 16])]
  rotate_left
  · kernel_rfl
  refine i_at (fun i : {i : Nat // i ≤ l.length} => l.length - i.1) (fun i env => setV (setV env 8 (.int .i64 i.1)) 3 (.slice (.own 1) ((l.take i.1).map Tok.enc))) (fun i => [[.tip 0], [.tip i.1]]) (fun _ => some (.ret (.slice (.own 0) (l.map Tok.enc)), [[.tip l.length]])) ⟨0, by omega⟩ (by simp [s_zero, s_succ]) rfl rfl ?_
  intro ⟨i, hil⟩ ih
  dsimp only at hil ⊢
  by_cases hi : i < l.length
  · have ih := ih ⟨i + 1, by omega⟩ (by simp only; omega)
    have hwi : IntKind.i64.wrap ((i : Int) + 1) = (i : Int) + 1 := wrap_i64 (by omega)
    have hlen : ((l.take i).map Tok.enc).length = i := by simp; omega
    obtain ⟨t, hk⟩ : ∃ m, l[i] = m := ⟨_, rfl⟩
    have ht : l.take (i + 1) = l.take i ++ [t] := by rw [List.take_succ_eq_append_getElem hi, hk]
    have hf : ∀ x ∈ (l.take i).map Tok.enc, (vcells x).length = 4 := fun x hx => by obtain ⟨y, _, rfl⟩ := List.mem_map.1 hx; rfl
    simp only at ih
    rw [ht, List.map_append] at ih
    generalize (l.take i).map Tok.enc = xs at *
    simp only [s_zero, s_succ, Int.natCast_add, Int.natCast_one, Int.cast_ofNat_Int, List.map_cons, List.map_nil, Tok.enc_eq] at ih
    simp only [vcells] at hf
    have hbb : (i + 1) * 40 ≤ 70368744177664 := by omega
    have hbc : i + 1 ≤ 70368744177664 := by omega
    simp +contextual [i_nil, i_blk, i_skip, i_ret, i_exit, i_seq, i_block, i_cond, i_region', i_ops_nil, i_ops, i_drawn', d_in, a_nil, a_cons, alt1, h_nil, h_one, h_two, z_nil, z_cons, z_cells, zeqL, zeq, q_alloc, q_some, isAlO, nxtN, i_drh, d_hi, i_drw_nil, i_drw, u_nil, u_code, u_ops, u_drw, u_lp, u_again, u_exit, u_ret, u_panic, c_bool, o_some, o_val, o_panic, d_some, d_val, d_panic, w_none, w_fast, wantG, q_nil, q_zero, q_succ, t_zero, t_succ, g_zero, g_succ, s_zero, s_succ, s_some, s_none, v_tmp, v_const, v_func, f_quiet, ↓brB_true, ↓brB_false, ↓brB_dec, ↓brB_not, ↓brB_and, ↓brB_or, ↓brB_beq, ↓brB_bne, gc_none, gc_pure, wrap_i64, p_move, p_assign, p_pick, p_alloc, p_box, p_build, p_buildSlice, p_load, p_store, p_nilCheck, p_binOp, n_tmp, n_int, n_bool, n_str, n_ptr, n_fun, n_iface, nilCmp, p_unOp, p_convert, p_makeSlice, p_makeInterface, p_makeFunc, p_slice, p_fieldAddr, p_field, p_indexAddr, p_index, p_extract, p_callv, p_callb, p_panic, quiet_val, new_val, e_assign, e_call, e_load, e_store, e_alloc, e_box, e_move, e_pick, e_build, e_buildSlice, e_nilCheck, e_binOp, e_unOp, e_convert, e_makeSlice, e_makeInterface, e_makeFunc, e_slice, e_fieldAddr, e_field, e_indexAddr, e_index, e_extract, e_panic, callD, fpRead, adopt, adoptL, ofValue, ofScalar, binOpV, unOpV, intBin, strBin, eqRes, veq, veqF, eqDepth, val?, finish, resL, r_tmp, r_cell, normL, normTop, tipIs, refsL, refs, ownRefs, single, frz, frzL, ren, renL, renOwn, callOp, doCall, backR, writeBack, builtinV, loadV, storeV, cellsAt, takeV, D.isAgg, overlay, vcells, cellOk, fieldAddrV, indexAddrV, fieldV, partV, indexV, buildV, fillV, buildSliceV, litElems, appendV, appElems, elemOk, convertV, convV, winStr, makeSliceV, sliceV, natOf, i_again, roundEnd, dropT, cleanV, Tryd.f10, Tryd.ti3, Tryd.ti9, Tryd.ti23, Tryd.ti29, Tryd.ti36, Tryd.ti45, hi, hk, Tok.enc_eq, hwi, hlen, hbb, hbc, hf, ih]
  · have ht : l.take i = l := List.take_of_length_le (by omega)
    obtain rfl : i = l.length := by omega
    simp +contextual [i_nil, i_blk, i_skip, i_ret, i_exit, i_seq, i_block, i_cond, i_region', i_ops_nil, i_ops, i_drawn', d_in, a_nil, a_cons, alt1, h_nil, h_one, h_two, z_nil, z_cons, z_cells, zeqL, zeq, q_alloc, q_some, isAlO, nxtN, i_drh, d_hi, i_drw_nil, i_drw, u_nil, u_code, u_ops, u_drw, u_lp, u_again, u_exit, u_ret, u_panic, c_bool, o_some, o_val, o_panic, d_some, d_val, d_panic, w_none, w_fast, wantG, q_nil, q_zero, q_succ, t_zero, t_succ, g_zero, g_succ, s_zero, s_succ, s_some, s_none, v_tmp, v_const, v_func, f_quiet, ↓brB_true, ↓brB_false, ↓brB_dec, ↓brB_not, ↓brB_and, ↓brB_or, ↓brB_beq, ↓brB_bne, gc_none, gc_pure, wrap_i64, p_move, p_assign, p_pick, p_alloc, p_box, p_build, p_buildSlice, p_load, p_store, p_nilCheck, p_binOp, n_tmp, n_int, n_bool, n_str, n_ptr, n_fun, n_iface, nilCmp, p_unOp, p_convert, p_makeSlice, p_makeInterface, p_makeFunc, p_slice, p_fieldAddr, p_field, p_indexAddr, p_index, p_extract, p_callv, p_callb, p_panic, quiet_val, new_val, e_assign, e_call, e_load, e_store, e_alloc, e_box, e_move, e_pick, e_build, e_buildSlice, e_nilCheck, e_binOp, e_unOp, e_convert, e_makeSlice, e_makeInterface, e_makeFunc, e_slice, e_fieldAddr, e_field, e_indexAddr, e_index, e_extract, e_panic, callD, fpRead, adopt, adoptL, ofValue, ofScalar, binOpV, unOpV, intBin, strBin, eqRes, veq, veqF, eqDepth, val?, finish, resL, r_tmp, r_cell, normL, normTop, tipIs, refsL, refs, ownRefs, single, frz, frzL, ren, renL, renOwn, callOp, doCall, backR, writeBack, builtinV, loadV, storeV, cellsAt, takeV, D.isAgg, overlay, vcells, cellOk, fieldAddrV, indexAddrV, fieldV, partV, indexV, buildV, fillV, buildSliceV, litElems, appendV, appElems, elemOk, convertV, convV, winStr, makeSliceV, sliceV, natOf, i_again, roundEnd, dropT, cleanV, Tryd.f10, Tryd.ti3, Tryd.ti9, Tryd.ti23, Tryd.ti29, Tryd.ti36, Tryd.ti45, hi, ht]
    simp [i_nil, i_blk, i_skip, i_ret, i_exit, i_seq, i_block, i_cond, i_region', i_ops_nil, i_ops, i_drawn', d_in, a_nil, a_cons, alt1, h_nil, h_one, h_two, z_nil, z_cons, z_cells, zeqL, zeq, q_alloc, q_some, isAlO, nxtN, i_drh, d_hi, i_drw_nil, i_drw, u_nil, u_code, u_ops, u_drw, u_lp, u_again, u_exit, u_ret, u_panic, c_bool, o_some, o_val, o_panic, d_some, d_val, d_panic, w_none, w_fast, wantG, q_nil, q_zero, q_succ, t_zero, t_succ, g_zero, g_succ, s_zero, s_succ, s_some, s_none, v_tmp, v_const, v_func, f_quiet, ↓brB_true, ↓brB_false, ↓brB_dec, ↓brB_not, ↓brB_and, ↓brB_or, ↓brB_beq, ↓brB_bne, gc_none, gc_pure, wrap_i64, p_move, p_assign, p_pick, p_alloc, p_box, p_build, p_buildSlice, p_load, p_store, p_nilCheck, p_binOp, n_tmp, n_int, n_bool, n_str, n_ptr, n_fun, n_iface, nilCmp, p_unOp, p_convert, p_makeSlice, p_makeInterface, p_makeFunc, p_slice, p_fieldAddr, p_field, p_indexAddr, p_index, p_extract, p_callv, p_callb, p_panic, quiet_val, new_val, e_assign, e_call, e_load, e_store, e_alloc, e_box, e_move, e_pick, e_build, e_buildSlice, e_nilCheck, e_binOp, e_unOp, e_convert, e_makeSlice, e_makeInterface, e_makeFunc, e_slice, e_fieldAddr, e_field, e_indexAddr, e_index, e_extract, e_panic, callD, fpRead, adopt, adoptL, ofValue, ofScalar, binOpV, unOpV, intBin, strBin, eqRes, veq, veqF, eqDepth, val?, finish, resL, r_tmp, r_cell, normL, normTop, tipIs, refsL, refs, ownRefs, single, frz, frzL, ren, renL, renOwn, callOp, doCall, backR, writeBack, builtinV, loadV, storeV, cellsAt, takeV, D.isAgg, overlay, vcells, cellOk, fieldAddrV, indexAddrV, fieldV, partV, indexV, buildV, fillV, buildSliceV, litElems, appendV, appElems, elemOk, convertV, convV, winStr, makeSliceV, sliceV, natOf, gc, reach, reachFuel, shut, nodup, List.idxOf, List.findIdx, List.findIdx.go, List.range, List.range.loop]

theorem q_gen {P : Program} {cl : Oracle} {env : Env} {st : St} {op : Op} {m : Nat} : stepQ P cl env op st (some m) = match op with
    | .alloc t => (match zcells P t, st[m]? with
      | some z, some cs => if zeqL cs z then some (.val (.box m 0) st, ⟨some m, none⟩) else none
      | _, _ => none)
    | op => stepS P cl env op st := by cases op <;> rfl
theorem ev_tsame (l : List Tok) (hl : l.length ≤ 1048577) : EV 9 [.slice .froz (l.map Tok.enc), .slice .froz (l.map Tok.enc), .bool true] [] = some (.ret (.bool true), []) := by
  rw [EV_mki rfl Tryd.func9 rfl (by kernel_rfl)]
  simp [i_nil, i_blk, i_skip, i_ret, i_exit, i_seq, i_block, i_cond, i_region', i_ops_nil, i_ops, i_drawn', d_in, a_nil, a_cons, alt1, h_nil, h_one, h_two, z_nil, z_cons, z_cells, zeqL, zeq, q_alloc, q_some, isAlO, nxtN, i_drh, d_hi, i_drw_nil, i_drw, u_nil, u_code, u_ops, u_drw, u_lp, u_again, u_exit, u_ret, u_panic, c_bool, o_some, o_val, o_panic, d_some, d_val, d_panic, w_none, w_fast, wantG, q_nil, q_zero, q_succ, t_zero, t_succ, g_zero, g_succ, s_zero, s_succ, s_some, s_none, v_tmp, v_const, v_func, f_quiet, ↓brB_true, ↓brB_false, ↓brB_dec, ↓brB_not, ↓brB_and, ↓brB_or, ↓brB_beq, ↓brB_bne, gc_none, gc_pure, wrap_i64, p_move, p_assign, p_pick, p_alloc, p_box, p_build, p_buildSlice, p_load, p_store, p_nilCheck, p_binOp, n_tmp, n_int, n_bool, n_str, n_ptr, n_fun, n_iface, nilCmp, p_unOp, p_convert, p_makeSlice, p_makeInterface, p_makeFunc, p_slice, p_fieldAddr, p_field, p_indexAddr, p_index, p_extract, p_callv, p_callb, p_panic, quiet_val, new_val, e_assign, e_call, e_load, e_store, e_alloc, e_box, e_move, e_pick, e_build, e_buildSlice, e_nilCheck, e_binOp, e_unOp, e_convert, e_makeSlice, e_makeInterface, e_makeFunc, e_slice, e_fieldAddr, e_field, e_indexAddr, e_index, e_extract, e_panic, callD, fpRead, adopt, adoptL, ofValue, ofScalar, binOpV, unOpV, intBin, strBin, eqRes, veq, veqF, eqDepth, val?, finish, resL, r_tmp, r_cell, normL, normTop, tipIs, refsL, refs, ownRefs, single, frz, frzL, ren, renL, renOwn, callOp, doCall, backR, writeBack, builtinV, loadV, storeV, cellsAt, takeV, D.isAgg, overlay, vcells, cellOk, fieldAddrV, indexAddrV, fieldV, partV, indexV, buildV, fillV, buildSliceV, litElems, appendV, appElems, elemOk, convertV, convV, winStr, makeSliceV, sliceV, natOf, Tryd.f9, Tryd.ti3, Tryd.ti9, Tryd.ti29, Tryd.ti45]
  rw [i_loop (ts := [15, 16, 17, 18, 21, 22, 23, 24, 25, 26, 27, 28, 8, 9, 29, 30, 31, 32, 33, 34, 35, 19, 20])]
  rotate_left
  · kernel_rfl
  refine i_at (fun i : Nat => l.length - i) (fun i env => setV env 7 (.int .i64 i)) (fun _ => _) (fun _ => some (.ret (.bool true), [])) 0 (by simp [s_zero, s_succ]) rfl rfl ?_
  intro i ih
  by_cases hi : i < l.length
  · have ih := ih (i + 1) (by omega)
    have hwi : IntKind.i64.wrap ((i : Int) + 1) = (i : Int) + 1 := wrap_i64 (by omega)
    obtain ⟨t, hk⟩ : ∃ m, l[i] = m := ⟨_, rfl⟩
    have hkk : l[i]? = some t := by rw [List.getElem?_eq_getElem hi, hk]
    simp only [s_zero, s_succ, Int.natCast_add, Int.natCast_one, Int.cast_ofNat_Int] at ih
    simp [q_gen, i_nil, i_blk, i_skip, i_ret, i_exit, i_seq, i_block, i_cond, i_region', i_ops_nil, i_ops, i_drawn', d_in, a_nil, a_cons, alt1, h_nil, h_one, h_two, z_nil, z_cons, z_cells, zeqL, zeq, q_alloc, q_some, isAlO, nxtN, i_drh, d_hi, i_drw_nil, i_drw, u_nil, u_code, u_ops, u_drw, u_lp, u_again, u_exit, u_ret, u_panic, c_bool, o_some, o_val, o_panic, d_some, d_val, d_panic, w_none, w_fast, wantG, q_nil, q_zero, q_succ, t_zero, t_succ, g_zero, g_succ, s_zero, s_succ, s_some, s_none, v_tmp, v_const, v_func, f_quiet, ↓brB_true, ↓brB_false, ↓brB_dec, ↓brB_not, ↓brB_and, ↓brB_or, ↓brB_beq, ↓brB_bne, gc_none, gc_pure, wrap_i64, p_move, p_assign, p_pick, p_alloc, p_box, p_build, p_buildSlice, p_load, p_store, p_nilCheck, p_binOp, n_tmp, n_int, n_bool, n_str, n_ptr, n_fun, n_iface, nilCmp, p_unOp, p_convert, p_makeSlice, p_makeInterface, p_makeFunc, p_slice, p_fieldAddr, p_field, p_indexAddr, p_index, p_extract, p_callv, p_callb, p_panic, quiet_val, new_val, e_assign, e_call, e_load, e_store, e_alloc, e_box, e_move, e_pick, e_build, e_buildSlice, e_nilCheck, e_binOp, e_unOp, e_convert, e_makeSlice, e_makeInterface, e_makeFunc, e_slice, e_fieldAddr, e_field, e_indexAddr, e_index, e_extract, e_panic, callD, fpRead, adopt, adoptL, ofValue, ofScalar, binOpV, unOpV, intBin, strBin, eqRes, veq, veqF, eqDepth, val?, finish, resL, r_tmp, r_cell, normL, normTop, tipIs, refsL, refs, ownRefs, single, frz, frzL, ren, renL, renOwn, callOp, doCall, backR, writeBack, builtinV, loadV, storeV, cellsAt, takeV, D.isAgg, overlay, vcells, cellOk, fieldAddrV, indexAddrV, fieldV, partV, indexV, buildV, fillV, buildSliceV, litElems, appendV, appElems, elemOk, convertV, convV, winStr, makeSliceV, sliceV, natOf, i_again, roundEnd, dropT, cleanV, Tryd.f9, Tryd.ti3, Tryd.ti9, Tryd.ti29, Tryd.ti45, hi, hk, hkk, Tok.enc_eq, hwi, ih] <;> first | (change _ = true; decide +kernel) | (refine ⟨?_, ?_⟩ <;> (change _ = true; decide +kernel))
  · simp [i_nil, i_blk, i_skip, i_ret, i_exit, i_seq, i_block, i_cond, i_region', i_ops_nil, i_ops, i_drawn', d_in, a_nil, a_cons, alt1, h_nil, h_one, h_two, z_nil, z_cons, z_cells, zeqL, zeq, q_alloc, q_some, isAlO, nxtN, i_drh, d_hi, i_drw_nil, i_drw, u_nil, u_code, u_ops, u_drw, u_lp, u_again, u_exit, u_ret, u_panic, c_bool, o_some, o_val, o_panic, d_some, d_val, d_panic, w_none, w_fast, wantG, q_nil, q_zero, q_succ, t_zero, t_succ, g_zero, g_succ, s_zero, s_succ, s_some, s_none, v_tmp, v_const, v_func, f_quiet, ↓brB_true, ↓brB_false, ↓brB_dec, ↓brB_not, ↓brB_and, ↓brB_or, ↓brB_beq, ↓brB_bne, gc_none, gc_pure, wrap_i64, p_move, p_assign, p_pick, p_alloc, p_box, p_build, p_buildSlice, p_load, p_store, p_nilCheck, p_binOp, n_tmp, n_int, n_bool, n_str, n_ptr, n_fun, n_iface, nilCmp, p_unOp, p_convert, p_makeSlice, p_makeInterface, p_makeFunc, p_slice, p_fieldAddr, p_field, p_indexAddr, p_index, p_extract, p_callv, p_callb, p_panic, quiet_val, new_val, e_assign, e_call, e_load, e_store, e_alloc, e_box, e_move, e_pick, e_build, e_buildSlice, e_nilCheck, e_binOp, e_unOp, e_convert, e_makeSlice, e_makeInterface, e_makeFunc, e_slice, e_fieldAddr, e_field, e_indexAddr, e_index, e_extract, e_panic, callD, fpRead, adopt, adoptL, ofValue, ofScalar, binOpV, unOpV, intBin, strBin, eqRes, veq, veqF, eqDepth, val?, finish, resL, r_tmp, r_cell, normL, normTop, tipIs, refsL, refs, ownRefs, single, frz, frzL, ren, renL, renOwn, callOp, doCall, backR, writeBack, builtinV, loadV, storeV, cellsAt, takeV, D.isAgg, overlay, vcells, cellOk, fieldAddrV, indexAddrV, fieldV, partV, indexV, buildV, fillV, buildSliceV, litElems, appendV, appElems, elemOk, convertV, convV, winStr, makeSliceV, sliceV, natOf, i_again, roundEnd, dropT, cleanV, Tryd.f9, Tryd.ti3, Tryd.ti9, Tryd.ti29, Tryd.ti45, hi]
theorem toks_len (s : List UInt8) : ∀ (f j : Nat) (l : List Tok), j ≤ s.length → toksS f j (s.drop j) = .ok l → l.length ≤ s.length - j + 1
  | 0, j, l, hj, h => by cases h
  | f + 1, j, l, hj, h => by
    have hle := takeWhile_len (p := isBlk) (s.drop j)
    rw [List.length_drop] at hle
    have hkl : j + blanks (s.drop j) ≤ s.length := by have : ((s.drop j).takeWhile isBlk).length = blanks (s.drop j) := rfl; omega
    have ht := next_tok s _ hkl
    have hn : nextTok j (s.drop j) = tokS (j + blanks (s.drop j)) (s.drop (j + blanks (s.drop j))) := by unfold nextTok; rw [unblank_drop]
    have hjk : j ≤ j + blanks (s.drop j) := by omega
    simp only [toksS, hn] at h
    generalize j + blanks (s.drop j) = k at *
    cases hr : tokS k (s.drop k) with
    | error e => rw [hr] at h; cases h
    | ok p =>
      obtain ⟨t, u⟩ := p
      rw [hr] at ht h
      obtain ⟨_, ⟨n, hu, hnl, hn1⟩, hu0⟩ := ht
      have hul : u.length = s.length - k - n := by rw [hu, List.length_drop, List.length_drop]
      rw [List.length_drop] at hnl
      simp only at h
      by_cases hk0 : t.kind = 0
      · rw [if_pos hk0] at h
        simp only [Except.ok.injEq] at h
        subst h
        simp
      · rw [if_neg hk0] at h
        have hn1 := hn1 hk0
        have hq2 : j + ((s.drop j).length - u.length) = k + n := by rw [List.length_drop]; omega
        have hud : u = s.drop (k + n) := by rw [hu, List.drop_drop]
        rw [hq2] at h
        cases hx : toksS f (k + n) u with
        | error e => rw [hx] at h; cases h
        | ok m =>
          rw [hx] at h
          simp only [Except.ok.injEq] at h
          subst h
          rw [hud] at hx
          have := toks_len s f (k + n) m (by omega) hx
          simp only [List.length_cons]
          omega
end Go.Abs
