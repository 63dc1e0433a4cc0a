/- ExprLists comes back with true. -/
import Derived.Test.YtmjfninbnlhmoaaFnAll
import Derived.Test.YtmjfninbnlhmoaaFnToo
import Derived.Test.YtmjfninbnlhmoaaFnREv
namespace Go.Abs
set_option linter.unusedSimpArgs false
set_option linter.unusedVariables false
open Go Go.Proofs

theorem ev_awake : EV 6 [] [] = some (.ret (.bool true), []) := ev_some.2 ⟨30, by kernel_rfl⟩
theorem rowS_len (l : List (List Val)) : ∀ (ns : List Node) (vs : List Val), rowS l ns = .ok vs → vs.length = ns.length
  | [], vs, h => by simp only [rowS, Except.ok.injEq] at h; subst h; rfl
  | n :: ns, vs, h => by
    rw [rowS] at h
    split at h
    · cases h
    · cases hr : rowS l ns with
      | ok ws =>
        rw [hr] at h
        simp only [Except.ok.injEq] at h
        subst h
        simp [rowS_len l ns ws hr]
      | error c => rw [hr] at h; cases h

set_option maxRecDepth 100000 in
set_option maxHeartbeats 4000000 in
theorem ev_lists (ns : List Node) (hns : ns.length ≤ 1048576) (ho : ∀ m ∈ ns, m.ok) (rows : List (List Val)) (hq : rowsQ rows) : EV 4 [.slice .froz (ns.map Node.enc), .slice .froz (rowsE rows)] [] = some (.ret (.bool true), []) := by
  have hlong := ev_long ns ho rows
  have hp := ev_plains ns hns (fun m hm => ev_plain m (ho m hm))
  have ha := ev_all rows ns hns
  have hrow := ev_row rows ns hns
  have hev := fun m hm => (rev_all rows hq m (ho m hm)).1
  have hra := ev_rall rows ns hns hev
  have hrr := ev_rrow rows ns hns hev
  rw [EV_mki rfl Try.func4 rfl (by kernel_rfl)]
  cases hl : longS ns rows with
  | true =>
    rw [hl] at hlong
    simp [i_nil, i_blk, i_skip, i_ret, i_exit, i_seq, i_block, i_cond, i_region', i_ops_nil, i_ops, i_drawn', i_drw_nil, i_drw, u_nil, u_code, u_ops, u_drw, u_lp, u_again, u_exit, u_ret, u_panic, c_bool, o_some, o_val, o_panic, d_some, d_val, d_panic, w_none, w_fast, wantG, q_nil, q_zero, q_succ, t_zero, t_succ, g_zero, g_succ, s_zero, s_succ, s_some, s_none, v_tmp, v_const, v_func, f_quiet, ↓brB_true, ↓brB_false, ↓brB_dec, ↓brB_not, ↓brB_and, ↓brB_or, ↓brB_beq, ↓brB_bne, gc_none, gc_pure, wrap_i64, p_move, p_assign, p_pick, p_alloc, p_box, p_build, p_buildSlice, p_load, p_store, p_nilCheck, p_binOp, p_unOp, p_convert, p_makeInterface, p_makeFunc, p_slice, p_fieldAddr, p_field, p_indexAddr, p_index, p_extract, p_callv, p_callb, p_panic, quiet_val, new_val, e_assign, e_call, e_load, e_store, e_alloc, e_box, e_move, e_pick, e_build, e_buildSlice, e_nilCheck, e_binOp, e_unOp, e_convert, e_makeInterface, e_makeFunc, e_slice, e_fieldAddr, e_field, e_indexAddr, e_index, e_extract, e_panic, callD, fpRead, adopt, adoptL, ofValue, ofScalar, binOpV, unOpV, intBin, strBin, eqRes, veq, veqF, eqDepth, val?, finish, resL, r_tmp, r_cell, normL, normTop, tipIs, refsL, refs, ownRefs, single, frz, frzL, ren, renL, renOwn, callOp, doCall, backR, writeBack, builtinV, loadV, storeV, cellsAt, takeV, D.isAgg, overlay, vcells, cellOk, fieldAddrV, indexAddrV, fieldV, partV, indexV, buildV, fillV, buildSliceV, litElems, appendV, appElems, elemOk, convertV, sliceV, natOf, Try.f4, Try.ti3, Try.ti4, ev_awake, hlong]
  | false =>
    rw [hl] at hlong
    generalize (allS rows ns).1 = b at *
    generalize (allS rows ns).2 = c at *
    have hlen := rowS_len rows ns
    cases hr : rowS rows ns with
    | ok vs =>
      rw [hr] at hrow hrr
      simp only [outRow] at hrow hrr
      have hs := ev_same vs vs (by rw [hlen vs hr]; omega)
      cases b <;> simp [i_nil, i_blk, i_skip, i_ret, i_exit, i_seq, i_block, i_cond, i_region', i_ops_nil, i_ops, i_drawn', i_drw_nil, i_drw, u_nil, u_code, u_ops, u_drw, u_lp, u_again, u_exit, u_ret, u_panic, c_bool, o_some, o_val, o_panic, d_some, d_val, d_panic, w_none, w_fast, wantG, q_nil, q_zero, q_succ, t_zero, t_succ, g_zero, g_succ, s_zero, s_succ, s_some, s_none, v_tmp, v_const, v_func, f_quiet, ↓brB_true, ↓brB_false, ↓brB_dec, ↓brB_not, ↓brB_and, ↓brB_or, ↓brB_beq, ↓brB_bne, gc_none, gc_pure, wrap_i64, p_move, p_assign, p_pick, p_alloc, p_box, p_build, p_buildSlice, p_load, p_store, p_nilCheck, p_binOp, p_unOp, p_convert, p_makeInterface, p_makeFunc, p_slice, p_fieldAddr, p_field, p_indexAddr, p_index, p_extract, p_callv, p_callb, p_panic, quiet_val, new_val, e_assign, e_call, e_load, e_store, e_alloc, e_box, e_move, e_pick, e_build, e_buildSlice, e_nilCheck, e_binOp, e_unOp, e_convert, e_makeInterface, e_makeFunc, e_slice, e_fieldAddr, e_field, e_indexAddr, e_index, e_extract, e_panic, callD, fpRead, adopt, adoptL, ofValue, ofScalar, binOpV, unOpV, intBin, strBin, eqRes, veq, veqF, eqDepth, val?, finish, resL, r_tmp, r_cell, normL, normTop, tipIs, refsL, refs, ownRefs, single, frz, frzL, ren, renL, renOwn, callOp, doCall, backR, writeBack, builtinV, loadV, storeV, cellsAt, takeV, D.isAgg, overlay, vcells, cellOk, fieldAddrV, indexAddrV, fieldV, partV, indexV, buildV, fillV, buildSliceV, litElems, appendV, appElems, elemOk, convertV, sliceV, natOf, reach, reachFuel, shut, nodup, List.idxOf, List.findIdx, List.findIdx.go, backR, Try.f4, Try.ti3, Try.ti4, ev_awake, hlong, hp, ha, hrow, hra, hrr, hs]
    | error d =>
      rw [hr] at hrow hrr
      simp only [outRow] at hrow hrr
      have hs : EV 14 [.slice .froz [], .slice .froz []] [] = _ := ev_same [] [] (by simp)
      cases b <;> simp [i_nil, i_blk, i_skip, i_ret, i_exit, i_seq, i_block, i_cond, i_region', i_ops_nil, i_ops, i_drawn', i_drw_nil, i_drw, u_nil, u_code, u_ops, u_drw, u_lp, u_again, u_exit, u_ret, u_panic, c_bool, o_some, o_val, o_panic, d_some, d_val, d_panic, w_none, w_fast, wantG, q_nil, q_zero, q_succ, t_zero, t_succ, g_zero, g_succ, s_zero, s_succ, s_some, s_none, v_tmp, v_const, v_func, f_quiet, ↓brB_true, ↓brB_false, ↓brB_dec, ↓brB_not, ↓brB_and, ↓brB_or, ↓brB_beq, ↓brB_bne, gc_none, gc_pure, wrap_i64, p_move, p_assign, p_pick, p_alloc, p_box, p_build, p_buildSlice, p_load, p_store, p_nilCheck, p_binOp, p_unOp, p_convert, p_makeInterface, p_makeFunc, p_slice, p_fieldAddr, p_field, p_indexAddr, p_index, p_extract, p_callv, p_callb, p_panic, quiet_val, new_val, e_assign, e_call, e_load, e_store, e_alloc, e_box, e_move, e_pick, e_build, e_buildSlice, e_nilCheck, e_binOp, e_unOp, e_convert, e_makeInterface, e_makeFunc, e_slice, e_fieldAddr, e_field, e_indexAddr, e_index, e_extract, e_panic, callD, fpRead, adopt, adoptL, ofValue, ofScalar, binOpV, unOpV, intBin, strBin, eqRes, veq, veqF, eqDepth, val?, finish, resL, r_tmp, r_cell, normL, normTop, tipIs, refsL, refs, ownRefs, single, frz, frzL, ren, renL, renOwn, callOp, doCall, backR, writeBack, builtinV, loadV, storeV, cellsAt, takeV, D.isAgg, overlay, vcells, cellOk, fieldAddrV, indexAddrV, fieldV, partV, indexV, buildV, fillV, buildSliceV, litElems, appendV, appElems, elemOk, convertV, sliceV, natOf, reach, reachFuel, shut, nodup, List.idxOf, List.findIdx, List.findIdx.go, backR, Try.f4, Try.ti3, Try.ti4, ev_awake, hlong, hp, ha, hrow, hra, hrr, hs]
end Go.Abs
