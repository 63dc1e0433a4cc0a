/- A product goes over a sum. -/
import Derived.Test.YtjafjngbllmgbaaDoorFnVB
namespace Go.Abs
set_option linter.unusedSimpArgs false
set_option linter.unusedVariables false
open Go Go.Proofs

noncomputable def spS (op : List UInt8) (v w : Val) (e : Int) : Val × Int := if e = 0 then reckonS op v w else (⟨0, 0, []⟩, e)
set_option maxRecDepth 100000 in
set_option maxHeartbeats 4000000 in
theorem ev_op (op : List UInt8) (v w : Val) (e : Int) : EV 21 [.str op, .agg [.int .i64 v.kind, .int .i64 v.n, .str v.s], .agg [.int .i64 w.kind, .int .i64 w.n, .str w.s], .int .i64 e] [] = some (.ret (.tup [.agg [.int .i64 (spS op v w e).1.kind, .int .i64 (spS op v w e).1.n, .str (spS op v w e).1.s], .int .i64 (spS op v w e).2]), []) := by
  have h := ev_reckon op v.kind v.n v.s w.kind w.n w.s
  rw [Val.eta, Val.eta] at h
  rw [EV_mki rfl Tryd.func21 rfl (by kernel_rfl)]
  by_cases he : e = 0
  · simp [i_nil, i_blk, i_skip, i_ret, i_exit, i_seq, i_block, i_cond, i_region', i_ops_nil, i_ops, i_drawn', i_drw_nil, i_drw, u_nil, u_code, u_ops, u_drw, u_lp, u_again, u_exit, u_ret, u_panic, c_bool, o_some, o_val, o_panic, d_some, d_val, d_panic, w_none, w_fast, wantG, q_nil, q_zero, q_succ, t_zero, t_succ, g_zero, g_succ, s_zero, s_succ, s_some, s_none, v_tmp, v_const, v_func, f_quiet, ↓brB_true, ↓brB_false, ↓brB_dec, ↓brB_not, ↓brB_and, ↓brB_or, ↓brB_beq, ↓brB_bne, gc_none, gc_pure, wrap_i64, p_move, p_assign, p_pick, p_alloc, p_box, p_build, p_buildSlice, p_load, p_store, p_nilCheck, p_binOp, p_unOp, p_convert, p_makeInterface, p_makeFunc, p_slice, p_fieldAddr, p_field, p_indexAddr, p_index, p_extract, p_callv, p_callb, p_panic, quiet_val, new_val, e_assign, e_call, e_load, e_store, e_alloc, e_box, e_move, e_pick, e_build, e_buildSlice, e_nilCheck, e_binOp, e_unOp, e_convert, e_makeInterface, e_makeFunc, e_slice, e_fieldAddr, e_field, e_indexAddr, e_index, e_extract, e_panic, callD, fpRead, adopt, adoptL, ofValue, ofScalar, binOpV, unOpV, intBin, strBin, eqRes, veq, veqF, eqDepth, val?, finish, resL, r_tmp, r_cell, normL, normTop, tipIs, refsL, refs, ownRefs, single, frz, frzL, ren, renL, renOwn, callOp, doCall, backR, writeBack, builtinV, loadV, storeV, cellsAt, takeV, D.isAgg, overlay, vcells, cellOk, fieldAddrV, indexAddrV, fieldV, partV, indexV, buildV, fillV, buildSliceV, litElems, appendV, appElems, elemOk, convertV, sliceV, natOf, Tryd.f21, Tryd.ti3, Tryd.ti9, Tryd.ti23, Tryd.ti30, he, h, spS]
  · simp [i_nil, i_blk, i_skip, i_ret, i_exit, i_seq, i_block, i_cond, i_region', i_ops_nil, i_ops, i_drawn', i_drw_nil, i_drw, u_nil, u_code, u_ops, u_drw, u_lp, u_again, u_exit, u_ret, u_panic, c_bool, o_some, o_val, o_panic, d_some, d_val, d_panic, w_none, w_fast, wantG, q_nil, q_zero, q_succ, t_zero, t_succ, g_zero, g_succ, s_zero, s_succ, s_some, s_none, v_tmp, v_const, v_func, f_quiet, ↓brB_true, ↓brB_false, ↓brB_dec, ↓brB_not, ↓brB_and, ↓brB_or, ↓brB_beq, ↓brB_bne, gc_none, gc_pure, wrap_i64, p_move, p_assign, p_pick, p_alloc, p_box, p_build, p_buildSlice, p_load, p_store, p_nilCheck, p_binOp, p_unOp, p_convert, p_makeInterface, p_makeFunc, p_slice, p_fieldAddr, p_field, p_indexAddr, p_index, p_extract, p_callv, p_callb, p_panic, quiet_val, new_val, e_assign, e_call, e_load, e_store, e_alloc, e_box, e_move, e_pick, e_build, e_buildSlice, e_nilCheck, e_binOp, e_unOp, e_convert, e_makeInterface, e_makeFunc, e_slice, e_fieldAddr, e_field, e_indexAddr, e_index, e_extract, e_panic, callD, fpRead, adopt, adoptL, ofValue, ofScalar, binOpV, unOpV, intBin, strBin, eqRes, veq, veqF, eqDepth, val?, finish, resL, r_tmp, r_cell, normL, normTop, tipIs, refsL, refs, ownRefs, single, frz, frzL, ren, renL, renOwn, callOp, doCall, backR, writeBack, builtinV, loadV, storeV, cellsAt, takeV, D.isAgg, overlay, vcells, cellOk, fieldAddrV, indexAddrV, fieldV, partV, indexV, buildV, fillV, buildSliceV, litElems, appendV, appElems, elemOk, convertV, sliceV, natOf, Tryd.f21, Tryd.ti3, Tryd.ti9, Tryd.ti23, Tryd.ti30, he, spS]
set_option maxRecDepth 100000 in
set_option maxHeartbeats 4000000 in
theorem vspread_all (a b c : Int) (s p x y q : Val) (e1 e2 f g1 g2 : Int) (hpq : e2 = 0 → g2 = 0 → p = q)
    (h1 : EV 21 [.str [43], .agg [.int .i64 2, .int .i64 b, .str []], .agg [.int .i64 2, .int .i64 c, .str []], .int .i64 0] [] = some (.ret (.tup [.agg [.int .i64 s.kind, .int .i64 s.n, .str s.s], .int .i64 e1]), [])) (h2 : EV 21 [.str [42], .agg [.int .i64 2, .int .i64 a, .str []], .agg [.int .i64 s.kind, .int .i64 s.n, .str s.s], .int .i64 e1] [] = some (.ret (.tup [.agg [.int .i64 p.kind, .int .i64 p.n, .str p.s], .int .i64 e2]), []))
    (h3 : EV 21 [.str [42], .agg [.int .i64 2, .int .i64 a, .str []], .agg [.int .i64 2, .int .i64 b, .str []], .int .i64 0] [] = some (.ret (.tup [.agg [.int .i64 x.kind, .int .i64 x.n, .str x.s], .int .i64 f]), [])) (h4 : EV 21 [.str [42], .agg [.int .i64 2, .int .i64 a, .str []], .agg [.int .i64 2, .int .i64 c, .str []], .int .i64 f] [] = some (.ret (.tup [.agg [.int .i64 y.kind, .int .i64 y.n, .str y.s], .int .i64 g1]), [])) (h5 : EV 21 [.str [43], .agg [.int .i64 x.kind, .int .i64 x.n, .str x.s], .agg [.int .i64 y.kind, .int .i64 y.n, .str y.s], .int .i64 g1] [] = some (.ret (.tup [.agg [.int .i64 q.kind, .int .i64 q.n, .str q.s], .int .i64 g2]), []))
    (z1 : EV 18 [.str [43], .agg [.int .i64 2, .int .i64 a, .str []], .agg [.int .i64 2, .int .i64 0, .str []]] [] = some (.ret (.tup [.agg [.int .i64 2, .int .i64 a, .str []], .int .i64 0]), []))
    (z2 : EV 18 [.str [42], .agg [.int .i64 2, .int .i64 a, .str []], .agg [.int .i64 2, .int .i64 1, .str []]] [] = some (.ret (.tup [.agg [.int .i64 2, .int .i64 a, .str []], .int .i64 0]), []))
    (z3 : EV 18 [.str [45], .agg [.int .i64 2, .int .i64 a, .str []], .agg [.int .i64 2, .int .i64 a, .str []]] [] = some (.ret (.tup [.agg [.int .i64 2, .int .i64 0, .str []], .int .i64 0]), [])) :
    EV 7 [.int .i64 a, .int .i64 b, .int .i64 c] [] = some (.ret (.bool true), []) := by
  rw [EV_mki rfl Tryd.func7 rfl (by kernel_rfl)]
  by_cases he : e2 = 0
  · by_cases hg : g2 = 0
    · obtain rfl := hpq he hg
      simp [i_nil, i_blk, i_skip, i_ret, i_exit, i_seq, i_block, i_cond, i_region', i_ops_nil, i_ops, i_drawn', i_drw_nil, i_drw, u_nil, u_code, u_ops, u_drw, u_lp, u_again, u_exit, u_ret, u_panic, c_bool, o_some, o_val, o_panic, d_some, d_val, d_panic, w_none, w_fast, wantG, q_nil, q_zero, q_succ, t_zero, t_succ, g_zero, g_succ, s_zero, s_succ, s_some, s_none, v_tmp, v_const, v_func, f_quiet, ↓brB_true, ↓brB_false, ↓brB_dec, ↓brB_not, ↓brB_and, ↓brB_or, ↓brB_beq, ↓brB_bne, gc_none, gc_pure, wrap_i64, p_move, p_assign, p_pick, p_alloc, p_box, p_build, p_buildSlice, p_load, p_store, p_nilCheck, p_binOp, p_unOp, p_convert, p_makeInterface, p_makeFunc, p_slice, p_fieldAddr, p_field, p_indexAddr, p_index, p_extract, p_callv, p_callb, p_panic, quiet_val, new_val, e_assign, e_call, e_load, e_store, e_alloc, e_box, e_move, e_pick, e_build, e_buildSlice, e_nilCheck, e_binOp, e_unOp, e_convert, e_makeInterface, e_makeFunc, e_slice, e_fieldAddr, e_field, e_indexAddr, e_index, e_extract, e_panic, callD, fpRead, adopt, adoptL, ofValue, ofScalar, binOpV, unOpV, intBin, strBin, eqRes, veq, veqF, eqDepth, val?, finish, resL, r_tmp, r_cell, normL, normTop, tipIs, refsL, refs, ownRefs, single, frz, frzL, ren, renL, renOwn, callOp, doCall, backR, writeBack, builtinV, loadV, storeV, cellsAt, takeV, D.isAgg, overlay, vcells, cellOk, fieldAddrV, indexAddrV, fieldV, partV, indexV, buildV, fillV, buildSliceV, litElems, appendV, appElems, elemOk, convertV, sliceV, natOf, Tryd.f7, Tryd.ti3, Tryd.ti9, Tryd.ti23, Tryd.ti30, ev_vawake, ev_num, h1, h2, h3, h4, h5, z1, z2, z3, he, hg] <;> (change _ = true; decide +kernel)
    · simp [i_nil, i_blk, i_skip, i_ret, i_exit, i_seq, i_block, i_cond, i_region', i_ops_nil, i_ops, i_drawn', i_drw_nil, i_drw, u_nil, u_code, u_ops, u_drw, u_lp, u_again, u_exit, u_ret, u_panic, c_bool, o_some, o_val, o_panic, d_some, d_val, d_panic, w_none, w_fast, wantG, q_nil, q_zero, q_succ, t_zero, t_succ, g_zero, g_succ, s_zero, s_succ, s_some, s_none, v_tmp, v_const, v_func, f_quiet, ↓brB_true, ↓brB_false, ↓brB_dec, ↓brB_not, ↓brB_and, ↓brB_or, ↓brB_beq, ↓brB_bne, gc_none, gc_pure, wrap_i64, p_move, p_assign, p_pick, p_alloc, p_box, p_build, p_buildSlice, p_load, p_store, p_nilCheck, p_binOp, p_unOp, p_convert, p_makeInterface, p_makeFunc, p_slice, p_fieldAddr, p_field, p_indexAddr, p_index, p_extract, p_callv, p_callb, p_panic, quiet_val, new_val, e_assign, e_call, e_load, e_store, e_alloc, e_box, e_move, e_pick, e_build, e_buildSlice, e_nilCheck, e_binOp, e_unOp, e_convert, e_makeInterface, e_makeFunc, e_slice, e_fieldAddr, e_field, e_indexAddr, e_index, e_extract, e_panic, callD, fpRead, adopt, adoptL, ofValue, ofScalar, binOpV, unOpV, intBin, strBin, eqRes, veq, veqF, eqDepth, val?, finish, resL, r_tmp, r_cell, normL, normTop, tipIs, refsL, refs, ownRefs, single, frz, frzL, ren, renL, renOwn, callOp, doCall, backR, writeBack, builtinV, loadV, storeV, cellsAt, takeV, D.isAgg, overlay, vcells, cellOk, fieldAddrV, indexAddrV, fieldV, partV, indexV, buildV, fillV, buildSliceV, litElems, appendV, appElems, elemOk, convertV, sliceV, natOf, Tryd.f7, Tryd.ti3, Tryd.ti9, Tryd.ti23, Tryd.ti30, ev_vawake, ev_num, h1, h2, h3, h4, h5, z1, z2, z3, he, hg] <;> (change _ = true; decide +kernel)
  · simp [i_nil, i_blk, i_skip, i_ret, i_exit, i_seq, i_block, i_cond, i_region', i_ops_nil, i_ops, i_drawn', i_drw_nil, i_drw, u_nil, u_code, u_ops, u_drw, u_lp, u_again, u_exit, u_ret, u_panic, c_bool, o_some, o_val, o_panic, d_some, d_val, d_panic, w_none, w_fast, wantG, q_nil, q_zero, q_succ, t_zero, t_succ, g_zero, g_succ, s_zero, s_succ, s_some, s_none, v_tmp, v_const, v_func, f_quiet, ↓brB_true, ↓brB_false, ↓brB_dec, ↓brB_not, ↓brB_and, ↓brB_or, ↓brB_beq, ↓brB_bne, gc_none, gc_pure, wrap_i64, p_move, p_assign, p_pick, p_alloc, p_box, p_build, p_buildSlice, p_load, p_store, p_nilCheck, p_binOp, p_unOp, p_convert, p_makeInterface, p_makeFunc, p_slice, p_fieldAddr, p_field, p_indexAddr, p_index, p_extract, p_callv, p_callb, p_panic, quiet_val, new_val, e_assign, e_call, e_load, e_store, e_alloc, e_box, e_move, e_pick, e_build, e_buildSlice, e_nilCheck, e_binOp, e_unOp, e_convert, e_makeInterface, e_makeFunc, e_slice, e_fieldAddr, e_field, e_indexAddr, e_index, e_extract, e_panic, callD, fpRead, adopt, adoptL, ofValue, ofScalar, binOpV, unOpV, intBin, strBin, eqRes, veq, veqF, eqDepth, val?, finish, resL, r_tmp, r_cell, normL, normTop, tipIs, refsL, refs, ownRefs, single, frz, frzL, ren, renL, renOwn, callOp, doCall, backR, writeBack, builtinV, loadV, storeV, cellsAt, takeV, D.isAgg, overlay, vcells, cellOk, fieldAddrV, indexAddrV, fieldV, partV, indexV, buildV, fillV, buildSliceV, litElems, appendV, appElems, elemOk, convertV, sliceV, natOf, Tryd.f7, Tryd.ti3, Tryd.ti9, Tryd.ti23, Tryd.ti30, ev_vawake, ev_num, h1, h2, h3, h4, h5, z1, z2, z3, he] <;> (change _ = true; decide +kernel)

theorem spread_eq (a b c : Int) (ha : inI a) (hb : inI b) (hc : inI c) :
    (spS [42] ⟨2, a, []⟩ (spS [43] ⟨2, b, []⟩ ⟨2, c, []⟩ 0).1 (spS [43] ⟨2, b, []⟩ ⟨2, c, []⟩ 0).2).2 = 0 →
    (spS [43] (spS [42] ⟨2, a, []⟩ ⟨2, b, []⟩ 0).1 (spS [42] ⟨2, a, []⟩ ⟨2, c, []⟩ (spS [42] ⟨2, a, []⟩ ⟨2, b, []⟩ 0).2).1 (spS [42] ⟨2, a, []⟩ ⟨2, c, []⟩ (spS [42] ⟨2, a, []⟩ ⟨2, b, []⟩ 0).2).2).2 = 0 →
    (spS [42] ⟨2, a, []⟩ (spS [43] ⟨2, b, []⟩ ⟨2, c, []⟩ 0).1 (spS [43] ⟨2, b, []⟩ ⟨2, c, []⟩ 0).2).1 =
    (spS [43] (spS [42] ⟨2, a, []⟩ ⟨2, b, []⟩ 0).1 (spS [42] ⟨2, a, []⟩ ⟨2, c, []⟩ (spS [42] ⟨2, a, []⟩ ⟨2, b, []⟩ 0).2).1 (spS [42] ⟨2, a, []⟩ ⟨2, c, []⟩ (spS [42] ⟨2, a, []⟩ ⟨2, b, []⟩ 0).2).2).1 := by
  have n43 : ∀ x y : Int, opN [43] x y = x + y := fun _ _ => rfl
  have n42 : ∀ x y : Int, opN [42] x y = x * y := fun _ _ => rfl
  have r43 := fun x y (hx : inI x) (hy : inI y) => reckon_num [43] (by simp) x y hx hy
  have r42 := fun x y (hx : inI x) (hy : inI y) => reckon_num [42] (by simp) x y hx hy
  simp only [n43, n42] at r43 r42
  have o0 : ∀ op v w, spS op v w 0 = reckonS op v w := fun _ _ _ => rfl
  have o7 : ∀ op v w, spS op v w 7 = (⟨0, 0, []⟩, 7) := fun _ _ _ => rfl
  simp only [o0]
  rw [r43 b c hb hc, r42 a b ha hb]
  by_cases hs : inI (b + c)
  · simp only [if_pos hs, o0]
    rw [r42 a (b + c) ha hs]
    by_cases hp : inI (a * (b + c))
    · rw [if_pos hp]
      by_cases hx : inI (a * b)
      · simp only [if_pos hx, o0]
        rw [r42 a c ha hc]
        by_cases hy : inI (a * c)
        · simp only [if_pos hy, o0]
          rw [r43 (a * b) (a * c) hx hy]
          by_cases hq : inI (a * b + a * c)
          · rw [if_pos hq]; intro _ _; rw [Int.mul_add]
          · rw [if_neg hq]; intro _ h; cases h
        · simp only [if_neg hy, o7]; intro _ h; cases h
      · simp only [if_neg hx, o7]; intro _ h; cases h
    · rw [if_neg hp]; intro h; cases h
  · simp only [if_neg hs, o7]; intro h; cases h

theorem ev_vspread (a b c : Int) (ha : inI a) (hb : inI b) (hc : inI c) : EV 7 [.int .i64 a, .int .i64 b, .int .i64 c] [] = some (.ret (.bool true), []) := by
  have i0 : inI 0 := by simp [inI]
  have i1 : inI 1 := by simp [inI]
  have z1 := ev_reckon [43] 2 a [] 2 0 []
  rw [reckon_num [43] (by simp) a 0 ha i0, show opN [43] a 0 = a by simp [opN], if_pos ha] at z1
  have z2 := ev_reckon [42] 2 a [] 2 1 []
  rw [reckon_num [42] (by simp) a 1 ha i1, show opN [42] a 1 = a by simp [opN], if_pos ha] at z2
  have z3 := ev_reckon [45] 2 a [] 2 a []
  rw [reckon_num [45] (by simp) a a ha ha, show opN [45] a a = 0 by simp [opN], if_pos i0] at z3
  exact vspread_all a b c _ _ _ _ _ _ _ _ _ _ (spread_eq a b c ha hb hc) (ev_op [43] ⟨2, b, []⟩ ⟨2, c, []⟩ 0) (ev_op [42] ⟨2, a, []⟩ _ _) (ev_op [42] ⟨2, a, []⟩ ⟨2, b, []⟩ 0) (ev_op [42] ⟨2, a, []⟩ ⟨2, c, []⟩ _) (ev_op [43] _ _ _) z1 z2 z3
end Go.Abs
