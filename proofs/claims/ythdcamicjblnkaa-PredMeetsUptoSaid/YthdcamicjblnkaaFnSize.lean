/- What Size comes to. -/
import Derived.Test.YthdcamicjblnkaaFnPlain
namespace Go.Abs
set_option linter.unusedSimpArgs false
set_option linter.unusedVariables false
open Go Go.Proofs

/- how many nodes -/
def sizeN : Nat → Int → Node → Int
  | 0, most, _ => most + 1
  | d + 1, most, n => n.kids.foldl (fun k n => if k ≤ most then k + sizeN d (most - k) n else k) 1
theorem sizeN_le : ∀ (d : Nat) (most : Int) (n : Node), 0 ≤ most → 1 ≤ sizeN d most n ∧ sizeN d most n ≤ most + 1
  | 0, most, _, h => by simp only [sizeN]; omega
  | d + 1, most, n, h => by
    have : ∀ (l : List Node) (k : Int), 1 ≤ k ∧ k ≤ most + 1 → 1 ≤ l.foldl (fun k n => if k ≤ most then k + sizeN d (most - k) n else k) k ∧ l.foldl (fun k n => if k ≤ most then k + sizeN d (most - k) n else k) k ≤ most + 1 := by
      intro l
      induction l with
      | nil => intro k hk; exact hk
      | cons m l ih =>
        intro k hk
        refine ih _ ?_
        show 1 ≤ (if k ≤ most then k + sizeN d (most - k) m else k) ∧ (if k ≤ most then k + sizeN d (most - k) m else k) ≤ most + 1
        split
        · have := sizeN_le d (most - k) m (by omega); omega
        · exact hk
    exact this _ 1 (by omega)
theorem ev_count : ∀ (d : Nat), d ≤ 1000 → ∀ (most : Int), 0 ≤ most → most ≤ 1000000 → ∀ (n : Node), n.ok → EV 30 [n.enc, .int .i64 most, .int .i64 d] [] = some (.ret (.int .i64 (sizeN d most n)), [])
  | 0, _, most, h0, h1, .mk op v var col kids, ho => by
    have hw : IntKind.i64.wrap (most + 1) = most + 1 := wrap_i64 (by omega)
    rw [enc_mk, EV_mki rfl Try.func30 rfl (by kernel_rfl)]
    simp +contextual [i_nil, i_blk, i_skip, i_ret, i_exit, i_seq, i_block, i_cond, i_region', i_ops_nil, i_ops, i_drawn', d_in, a_nil, a_cons, alt1, h_nil, h_one, h_two, z_nil, z_cons, z_cells, zeqL, zeq, q_alloc, q_some, isAlO, nxtN, i_drh, d_hi, i_drw_nil, i_drw, u_nil, u_code, u_ops, u_drw, u_lp, u_again, u_exit, u_ret, u_panic, c_bool, o_some, o_val, o_panic, d_some, d_val, d_panic, w_none, w_fast, wantG, q_nil, q_zero, q_succ, t_zero, t_succ, g_zero, g_succ, s_zero, s_succ, s_some, s_none, v_tmp, v_const, v_func, f_quiet, ↓brB_true, ↓brB_false, ↓brB_dec, ↓brB_not, ↓brB_and, ↓brB_or, ↓brB_beq, ↓brB_bne, gc_none, gc_pure, wrap_i64, p_move, p_assign, p_pick, p_alloc, p_box, p_build, p_buildSlice, p_load, p_store, p_nilCheck, p_binOp, n_tmp, n_int, n_bool, n_str, n_ptr, n_fun, n_iface, nilCmp, p_unOp, p_convert, p_makeSlice, p_makeInterface, p_makeFunc, p_slice, p_fieldAddr, p_field, p_indexAddr, p_index, p_extract, p_callv, p_callb, p_panic, quiet_val, new_val, e_assign, e_call, e_load, e_store, e_alloc, e_box, e_move, e_pick, e_build, e_buildSlice, e_nilCheck, e_binOp, e_unOp, e_convert, e_makeSlice, e_makeInterface, e_makeFunc, e_slice, e_fieldAddr, e_field, e_indexAddr, e_index, e_extract, e_panic, callD, fpRead, adopt, adoptL, ofValue, ofScalar, binOpV, unOpV, intBin, strBin, eqRes, veq, veqF, eqDepth, val?, finish, resL, r_tmp, r_cell, normL, normTop, tipIs, refsL, refs, ownRefs, single, frz, frzL, ren, renL, renOwn, callOp, doCall, backR, writeBack, builtinV, loadV, storeV, cellsAt, takeV, D.isAgg, overlay, vcells, cellOk, fieldAddrV, indexAddrV, fieldV, partV, indexV, buildV, fillV, buildSliceV, litElems, appendV, appElems, elemOk, convertV, convV, winStr, makeSliceV, sliceV, natOf, Try.f30, Try.ti3, Try.ti9, Try.ti32, Try.ti37, Try.ti83, sizeN, hw]
  | d + 1, hd, most, h0, h1, .mk op v var col kids, ho => by
    obtain ⟨_, _, _, _, hlen, hoks⟩ := ho
    rw [oks_iff] at hoks
    have hz : ¬ ((d : Int) + 1 = 0) := by omega
    have hw : IntKind.i64.wrap (d : Int) = (d : Int) := wrap_i64 (by omega)
    rw [enc_mk, EV_mki rfl Try.func30 rfl (by kernel_rfl)]
    simp +contextual [i_nil, i_blk, i_skip, i_ret, i_exit, i_seq, i_block, i_cond, i_region', i_ops_nil, i_ops, i_drawn', d_in, a_nil, a_cons, alt1, h_nil, h_one, h_two, z_nil, z_cons, z_cells, zeqL, zeq, q_alloc, q_some, isAlO, nxtN, i_drh, d_hi, i_drw_nil, i_drw, u_nil, u_code, u_ops, u_drw, u_lp, u_again, u_exit, u_ret, u_panic, c_bool, o_some, o_val, o_panic, d_some, d_val, d_panic, w_none, w_fast, wantG, q_nil, q_zero, q_succ, t_zero, t_succ, g_zero, g_succ, s_zero, s_succ, s_some, s_none, v_tmp, v_const, v_func, f_quiet, ↓brB_true, ↓brB_false, ↓brB_dec, ↓brB_not, ↓brB_and, ↓brB_or, ↓brB_beq, ↓brB_bne, gc_none, gc_pure, wrap_i64, p_move, p_assign, p_pick, p_alloc, p_box, p_build, p_buildSlice, p_load, p_store, p_nilCheck, p_binOp, n_tmp, n_int, n_bool, n_str, n_ptr, n_fun, n_iface, nilCmp, p_unOp, p_convert, p_makeSlice, p_makeInterface, p_makeFunc, p_slice, p_fieldAddr, p_field, p_indexAddr, p_index, p_extract, p_callv, p_callb, p_panic, quiet_val, new_val, e_assign, e_call, e_load, e_store, e_alloc, e_box, e_move, e_pick, e_build, e_buildSlice, e_nilCheck, e_binOp, e_unOp, e_convert, e_makeSlice, e_makeInterface, e_makeFunc, e_slice, e_fieldAddr, e_field, e_indexAddr, e_index, e_extract, e_panic, callD, fpRead, adopt, adoptL, ofValue, ofScalar, binOpV, unOpV, intBin, strBin, eqRes, veq, veqF, eqDepth, val?, finish, resL, r_tmp, r_cell, normL, normTop, tipIs, refsL, refs, ownRefs, single, frz, frzL, ren, renL, renOwn, callOp, doCall, backR, writeBack, builtinV, loadV, storeV, cellsAt, takeV, D.isAgg, overlay, vcells, cellOk, fieldAddrV, indexAddrV, fieldV, partV, indexV, buildV, fillV, buildSliceV, litElems, appendV, appElems, elemOk, convertV, convV, winStr, makeSliceV, sliceV, natOf, Try.f30, Try.ti3, Try.ti9, Try.ti32, Try.ti37, Try.ti83, hz]
    try simp only [brP, hz, dite_false]
    rw [i_loop (ts := [13, 14, 15, 16, 17, 18, 19, 20, 21, 22, 25, 26, 27, 28, 29, 30, 31, 32, 33, 34, 35, 36, 37, 23, 24])]
    rotate_left
    · kernel_rfl
    refine i_at (fun x : {p : Nat × Int // 1 ≤ p.2 ∧ p.2 ≤ most + 1} => kids.length - x.1.1) (fun x env => setV (setV env 8 (.int .i64 x.1.1)) 7 (.int .i64 x.1.2)) (fun _ => _) (fun x => some (.ret (.int .i64 ((kids.drop x.1.1).foldl (fun k n => if k ≤ most then k + sizeN d (most - k) n else k) x.1.2)), [])) ⟨(0, 1), by simp only; omega⟩ (by simp [s_zero, s_succ]) rfl (by simp [sizeN, Node.kids]) ?_
    intro ⟨(i, k), hk1, hk2⟩ ih
    simp only at hk1 hk2
    by_cases hi : i < kids.length
    · have hd : kids.drop i = kids[i] :: kids.drop (i + 1) := List.drop_eq_getElem_cons hi
      rw [hd, List.foldl_cons]
      obtain ⟨nd, hk⟩ : ∃ m, kids[i] = m := ⟨_, rfl⟩
      rw [hk]
      by_cases hkm : k ≤ most
      · have hsz := sizeN_le d (most - k) nd (by omega)
        have ih := ih ⟨(i + 1, k + sizeN d (most - k) nd), by simp only; omega⟩ (by simp only; omega)
        have hc := ev_count d (by omega) (most - k) (by omega) (by omega) nd (hk ▸ hoks _ (List.getElem_mem hi))
        have hwi : IntKind.i64.wrap ((i : Int) + 1) = (i : Int) + 1 := wrap_i64 (by omega)
        have hwk : IntKind.i64.wrap (most - k) = most - k := wrap_i64 (by omega)
        have hws : IntKind.i64.wrap (k + sizeN d (most - k) nd) = k + sizeN d (most - k) nd := wrap_i64 (by omega)
        obtain ⟨op', v', var', col', kids'⟩ := nd
        rw [enc_mk] at hc
        simp only [s_zero, s_succ, Int.natCast_add, Int.natCast_one, Int.cast_ofNat_Int] at ih
        simp +contextual [i_nil, i_blk, i_skip, i_ret, i_exit, i_seq, i_block, i_cond, i_region', i_ops_nil, i_ops, i_drawn', d_in, a_nil, a_cons, alt1, h_nil, h_one, h_two, z_nil, z_cons, z_cells, zeqL, zeq, q_alloc, q_some, isAlO, nxtN, i_drh, d_hi, i_drw_nil, i_drw, u_nil, u_code, u_ops, u_drw, u_lp, u_again, u_exit, u_ret, u_panic, c_bool, o_some, o_val, o_panic, d_some, d_val, d_panic, w_none, w_fast, wantG, q_nil, q_zero, q_succ, t_zero, t_succ, g_zero, g_succ, s_zero, s_succ, s_some, s_none, v_tmp, v_const, v_func, f_quiet, ↓brB_true, ↓brB_false, ↓brB_dec, ↓brB_not, ↓brB_and, ↓brB_or, ↓brB_beq, ↓brB_bne, gc_none, gc_pure, wrap_i64, p_move, p_assign, p_pick, p_alloc, p_box, p_build, p_buildSlice, p_load, p_store, p_nilCheck, p_binOp, n_tmp, n_int, n_bool, n_str, n_ptr, n_fun, n_iface, nilCmp, p_unOp, p_convert, p_makeSlice, p_makeInterface, p_makeFunc, p_slice, p_fieldAddr, p_field, p_indexAddr, p_index, p_extract, p_callv, p_callb, p_panic, quiet_val, new_val, e_assign, e_call, e_load, e_store, e_alloc, e_box, e_move, e_pick, e_build, e_buildSlice, e_nilCheck, e_binOp, e_unOp, e_convert, e_makeSlice, e_makeInterface, e_makeFunc, e_slice, e_fieldAddr, e_field, e_indexAddr, e_index, e_extract, e_panic, callD, fpRead, adopt, adoptL, ofValue, ofScalar, binOpV, unOpV, intBin, strBin, eqRes, veq, veqF, eqDepth, val?, finish, resL, r_tmp, r_cell, normL, normTop, tipIs, refsL, refs, ownRefs, single, frz, frzL, ren, renL, renOwn, callOp, doCall, backR, writeBack, builtinV, loadV, storeV, cellsAt, takeV, D.isAgg, overlay, vcells, cellOk, fieldAddrV, indexAddrV, fieldV, partV, indexV, buildV, fillV, buildSliceV, litElems, appendV, appElems, elemOk, convertV, convV, winStr, makeSliceV, sliceV, natOf, i_again, roundEnd, dropT, cleanV, Try.f30, Try.ti3, Try.ti9, Try.ti32, Try.ti37, Try.ti83, hw, hi, hk, enc_mk, hc, hwi, hwk, hws, hkm, ih]
      · have hnil : (kids.drop (i + 1)).foldl (fun k n => if k ≤ most then k + sizeN d (most - k) n else k) k = k := by
          generalize kids.drop (i + 1) = l
          induction l with
          | nil => rfl
          | cons a l ihl => rw [List.foldl_cons]; simp only [hkm, if_false]; exact ihl
        simp +contextual [i_nil, i_blk, i_skip, i_ret, i_exit, i_seq, i_block, i_cond, i_region', i_ops_nil, i_ops, i_drawn', d_in, a_nil, a_cons, alt1, h_nil, h_one, h_two, z_nil, z_cons, z_cells, zeqL, zeq, q_alloc, q_some, isAlO, nxtN, i_drh, d_hi, i_drw_nil, i_drw, u_nil, u_code, u_ops, u_drw, u_lp, u_again, u_exit, u_ret, u_panic, c_bool, o_some, o_val, o_panic, d_some, d_val, d_panic, w_none, w_fast, wantG, q_nil, q_zero, q_succ, t_zero, t_succ, g_zero, g_succ, s_zero, s_succ, s_some, s_none, v_tmp, v_const, v_func, f_quiet, ↓brB_true, ↓brB_false, ↓brB_dec, ↓brB_not, ↓brB_and, ↓brB_or, ↓brB_beq, ↓brB_bne, gc_none, gc_pure, wrap_i64, p_move, p_assign, p_pick, p_alloc, p_box, p_build, p_buildSlice, p_load, p_store, p_nilCheck, p_binOp, n_tmp, n_int, n_bool, n_str, n_ptr, n_fun, n_iface, nilCmp, p_unOp, p_convert, p_makeSlice, p_makeInterface, p_makeFunc, p_slice, p_fieldAddr, p_field, p_indexAddr, p_index, p_extract, p_callv, p_callb, p_panic, quiet_val, new_val, e_assign, e_call, e_load, e_store, e_alloc, e_box, e_move, e_pick, e_build, e_buildSlice, e_nilCheck, e_binOp, e_unOp, e_convert, e_makeSlice, e_makeInterface, e_makeFunc, e_slice, e_fieldAddr, e_field, e_indexAddr, e_index, e_extract, e_panic, callD, fpRead, adopt, adoptL, ofValue, ofScalar, binOpV, unOpV, intBin, strBin, eqRes, veq, veqF, eqDepth, val?, finish, resL, r_tmp, r_cell, normL, normTop, tipIs, refsL, refs, ownRefs, single, frz, frzL, ren, renL, renOwn, callOp, doCall, backR, writeBack, builtinV, loadV, storeV, cellsAt, takeV, D.isAgg, overlay, vcells, cellOk, fieldAddrV, indexAddrV, fieldV, partV, indexV, buildV, fillV, buildSliceV, litElems, appendV, appElems, elemOk, convertV, convV, winStr, makeSliceV, sliceV, natOf, i_again, roundEnd, dropT, cleanV, Try.f30, Try.ti3, Try.ti9, Try.ti32, Try.ti37, Try.ti83, hi, hkm, hnil]
    · have hd : kids.drop i = [] := List.drop_eq_nil_of_le (by omega)
      simp +contextual [i_nil, i_blk, i_skip, i_ret, i_exit, i_seq, i_block, i_cond, i_region', i_ops_nil, i_ops, i_drawn', d_in, a_nil, a_cons, alt1, h_nil, h_one, h_two, z_nil, z_cons, z_cells, zeqL, zeq, q_alloc, q_some, isAlO, nxtN, i_drh, d_hi, i_drw_nil, i_drw, u_nil, u_code, u_ops, u_drw, u_lp, u_again, u_exit, u_ret, u_panic, c_bool, o_some, o_val, o_panic, d_some, d_val, d_panic, w_none, w_fast, wantG, q_nil, q_zero, q_succ, t_zero, t_succ, g_zero, g_succ, s_zero, s_succ, s_some, s_none, v_tmp, v_const, v_func, f_quiet, ↓brB_true, ↓brB_false, ↓brB_dec, ↓brB_not, ↓brB_and, ↓brB_or, ↓brB_beq, ↓brB_bne, gc_none, gc_pure, wrap_i64, p_move, p_assign, p_pick, p_alloc, p_box, p_build, p_buildSlice, p_load, p_store, p_nilCheck, p_binOp, n_tmp, n_int, n_bool, n_str, n_ptr, n_fun, n_iface, nilCmp, p_unOp, p_convert, p_makeSlice, p_makeInterface, p_makeFunc, p_slice, p_fieldAddr, p_field, p_indexAddr, p_index, p_extract, p_callv, p_callb, p_panic, quiet_val, new_val, e_assign, e_call, e_load, e_store, e_alloc, e_box, e_move, e_pick, e_build, e_buildSlice, e_nilCheck, e_binOp, e_unOp, e_convert, e_makeSlice, e_makeInterface, e_makeFunc, e_slice, e_fieldAddr, e_field, e_indexAddr, e_index, e_extract, e_panic, callD, fpRead, adopt, adoptL, ofValue, ofScalar, binOpV, unOpV, intBin, strBin, eqRes, veq, veqF, eqDepth, val?, finish, resL, r_tmp, r_cell, normL, normTop, tipIs, refsL, refs, ownRefs, single, frz, frzL, ren, renL, renOwn, callOp, doCall, backR, writeBack, builtinV, loadV, storeV, cellsAt, takeV, D.isAgg, overlay, vcells, cellOk, fieldAddrV, indexAddrV, fieldV, partV, indexV, buildV, fillV, buildSliceV, litElems, appendV, appElems, elemOk, convertV, convV, winStr, makeSliceV, sliceV, natOf, i_again, roundEnd, dropT, cleanV, Try.f30, Try.ti3, Try.ti9, Try.ti32, Try.ti37, Try.ti83, hi, hd]
end Go.Abs
