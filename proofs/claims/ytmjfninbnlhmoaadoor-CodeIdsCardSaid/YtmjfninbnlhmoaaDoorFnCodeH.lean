/- Rows of values. -/
import Derived.Test.YtmjfninbnlhmoaaDoorFnCodeG
import Derived.Test.YtmjfninbnlhmoaaDoorFnRight
namespace Go.Abs
set_option linter.unusedSimpArgs false
set_option linter.unusedVariables false
open Go Go.Proofs

theorem key_len {v : Val} (h : rightS v = true) : (keyS v).length ≤ 51 := by
  have h1 := rightS_len h
  have h2 := escS_len v.s
  unfold keyS
  split
  · simp
  · split
    · simp [eightS]
    · split
      · simp; omega
      · simp
def rowOk (l : List Val) : Bool := decide (l.length ≤ 6) && l.all rightS
def rowT (l : List Val) : List UInt8 × Bool := if rowOk l then (l.flatMap keyS, true) else ([], false)
theorem flat_keys : ∀ {l : List Val}, l.all rightS = true → (l.flatMap keyS).length ≤ 51 * l.length
  | [], _ => by simp
  | v :: l, h => by
    simp only [List.all_cons, Bool.and_eq_true] at h
    have h1 := key_len h.1
    have h2 := flat_keys h.2
    rw [List.flatMap_cons, List.length_append, List.length_cons]
    omega
set_option maxHeartbeats 1000000 in
theorem ev_rrow (l : List Val) (hl : l.length ≤ 1048576) (hi : ∀ v ∈ l, inI v.n) : EV 27 [.slice .froz (l.map Val.enc)] [] = some (.ret (.tup [.str (rowT l).1, .bool (rowT l).2]), []) := by
  rw [EV_mki rfl Tryd.func27 rfl (by kernel_rfl)]
  simp [i_nil, i_blk, i_skip, i_ret, i_exit, i_seq, i_block, i_cond, i_region', i_ops_nil, i_ops, i_drawn', i_drw_nil, i_drw, u_nil, u_code, u_ops, u_drw, u_lp, u_again, u_exit, u_ret, u_panic, c_bool, o_some, o_val, o_panic, d_some, d_val, d_panic, w_none, w_fast, wantG, q_nil, q_zero, q_succ, t_zero, t_succ, g_zero, g_succ, s_zero, s_succ, s_some, s_none, v_tmp, v_const, v_func, f_quiet, ↓brB_true, ↓brB_false, ↓brB_dec, ↓brB_not, ↓brB_and, ↓brB_or, ↓brB_beq, ↓brB_bne, gc_none, gc_pure, wrap_i64, p_move, p_assign, p_pick, p_alloc, p_box, p_build, p_buildSlice, p_load, p_store, p_nilCheck, p_binOp, p_unOp, p_convert, p_makeSlice, p_makeInterface, p_makeFunc, p_slice, p_fieldAddr, p_field, p_indexAddr, p_index, p_extract, p_callv, p_callb, p_panic, quiet_val, new_val, e_assign, e_call, e_load, e_store, e_alloc, e_box, e_move, e_pick, e_build, e_buildSlice, e_nilCheck, e_binOp, e_unOp, e_convert, e_makeSlice, e_makeInterface, e_makeFunc, e_slice, e_fieldAddr, e_field, e_indexAddr, e_index, e_extract, e_panic, callD, fpRead, adopt, adoptL, ofValue, ofScalar, binOpV, unOpV, intBin, strBin, eqRes, veq, veqF, eqDepth, val?, finish, resL, r_tmp, r_cell, normL, normTop, tipIs, refsL, refs, ownRefs, single, frz, frzL, ren, renL, renOwn, callOp, doCall, backR, writeBack, builtinV, loadV, storeV, cellsAt, takeV, D.isAgg, overlay, vcells, cellOk, fieldAddrV, indexAddrV, fieldV, partV, indexV, buildV, fillV, buildSliceV, litElems, appendV, appElems, elemOk, convertV, convV, winStr, makeSliceV, sliceV, natOf, Tryd.f27, Tryd.ti3, Tryd.ti9, Tryd.ti23, Tryd.ti44]
  rw [i_loop (ts := [6, 7, 8, 9, 12, 13, 14, 15, 16, 17, 18, 19, 20, 21, 22, 23, 24, 25, 26, 27, 28, 10, 11])]
  rotate_left
  · kernel_rfl
  refine i_at (fun i : {i : Nat // i ≤ l.length ∧ i ≤ 6 ∧ (l.take i).all rightS = true} => l.length - i.1) (fun i env => setV (setV env 5 (.int .i64 i.1)) 4 (.str ((l.take i.1).flatMap keyS))) (fun _ => []) (fun _ => some (.ret (.tup [.str (rowT l).1, .bool (rowT l).2]), [])) ⟨0, by simp⟩ (by simp [s_zero, s_succ]) (by simp) rfl ?_
  intro ⟨i, hil, hi6, hall⟩ ih
  try simp only at hil hi6 hall
  by_cases hlt : i < l.length
  · have hlt' : (i : Int) < l.length := by omega
    have hgl : l[i]? = some l[i] := List.getElem?_eq_getElem hlt
    have hmem : l[i] ∈ l := List.getElem_mem hlt
    have hts := List.take_succ_eq_append_getElem hlt
    by_cases h5 : 5 < i
    · have h5' : (5 : Int) < i := by omega
      have e : rowT l = ([], false) := by
        have : rowOk l = false := by simp [rowOk]; omega
        simp [rowT, this]
      rw [e]
      simp [i_nil, i_blk, i_skip, i_ret, i_exit, i_seq, i_block, i_cond, i_region', i_ops_nil, i_ops, i_drawn', i_drw_nil, i_drw, u_nil, u_code, u_ops, u_drw, u_lp, u_again, u_exit, u_ret, u_panic, c_bool, o_some, o_val, o_panic, d_some, d_val, d_panic, w_none, w_fast, wantG, q_nil, q_zero, q_succ, t_zero, t_succ, g_zero, g_succ, s_zero, s_succ, s_some, s_none, v_tmp, v_const, v_func, f_quiet, ↓brB_true, ↓brB_false, ↓brB_dec, ↓brB_not, ↓brB_and, ↓brB_or, ↓brB_beq, ↓brB_bne, gc_none, gc_pure, wrap_i64, p_move, p_assign, p_pick, p_alloc, p_box, p_build, p_buildSlice, p_load, p_store, p_nilCheck, p_binOp, p_unOp, p_convert, p_makeSlice, p_makeInterface, p_makeFunc, p_slice, p_fieldAddr, p_field, p_indexAddr, p_index, p_extract, p_callv, p_callb, p_panic, quiet_val, new_val, e_assign, e_call, e_load, e_store, e_alloc, e_box, e_move, e_pick, e_build, e_buildSlice, e_nilCheck, e_binOp, e_unOp, e_convert, e_makeSlice, e_makeInterface, e_makeFunc, e_slice, e_fieldAddr, e_field, e_indexAddr, e_index, e_extract, e_panic, callD, fpRead, adopt, adoptL, ofValue, ofScalar, binOpV, unOpV, intBin, strBin, eqRes, veq, veqF, eqDepth, val?, finish, resL, r_tmp, r_cell, normL, normTop, tipIs, refsL, refs, ownRefs, single, frz, frzL, ren, renL, renOwn, callOp, doCall, backR, writeBack, builtinV, loadV, storeV, cellsAt, takeV, D.isAgg, overlay, vcells, cellOk, fieldAddrV, indexAddrV, fieldV, partV, indexV, buildV, fillV, buildSliceV, litElems, appendV, appElems, elemOk, convertV, convV, winStr, makeSliceV, sliceV, natOf, i_again, roundEnd, dropT, cleanV, Tryd.f27, Tryd.ti3, Tryd.ti9, Tryd.ti23, Tryd.ti44, hlt, hlt', h5, h5']
    · have h5' : ¬ (5 : Int) < i := by omega
      have hin := hi _ hmem
      obtain ⟨v, hv⟩ : ∃ v, l[i] = v := ⟨_, rfl⟩
      rw [hv] at hgl hin hmem hts
      have hr := ev_rright v.kind v.n v.s
      rw [Val.eta] at hr
      cases hq : rightS v with
      | false =>
        rw [hq] at hr
        have e : rowT l = ([], false) := by
          have : rowOk l = false := by
            simp only [rowOk, Bool.and_eq_false_iff, List.all_eq_false]
            exact .inr ⟨v, hmem, by simp [hq]⟩
          simp [rowT, this]
        rw [e]
        simp [i_nil, i_blk, i_skip, i_ret, i_exit, i_seq, i_block, i_cond, i_region', i_ops_nil, i_ops, i_drawn', i_drw_nil, i_drw, u_nil, u_code, u_ops, u_drw, u_lp, u_again, u_exit, u_ret, u_panic, c_bool, o_some, o_val, o_panic, d_some, d_val, d_panic, w_none, w_fast, wantG, q_nil, q_zero, q_succ, t_zero, t_succ, g_zero, g_succ, s_zero, s_succ, s_some, s_none, v_tmp, v_const, v_func, f_quiet, ↓brB_true, ↓brB_false, ↓brB_dec, ↓brB_not, ↓brB_and, ↓brB_or, ↓brB_beq, ↓brB_bne, gc_none, gc_pure, wrap_i64, p_move, p_assign, p_pick, p_alloc, p_box, p_build, p_buildSlice, p_load, p_store, p_nilCheck, p_binOp, p_unOp, p_convert, p_makeSlice, p_makeInterface, p_makeFunc, p_slice, p_fieldAddr, p_field, p_indexAddr, p_index, p_extract, p_callv, p_callb, p_panic, quiet_val, new_val, e_assign, e_call, e_load, e_store, e_alloc, e_box, e_move, e_pick, e_build, e_buildSlice, e_nilCheck, e_binOp, e_unOp, e_convert, e_makeSlice, e_makeInterface, e_makeFunc, e_slice, e_fieldAddr, e_field, e_indexAddr, e_index, e_extract, e_panic, callD, fpRead, adopt, adoptL, ofValue, ofScalar, binOpV, unOpV, intBin, strBin, eqRes, veq, veqF, eqDepth, val?, finish, resL, r_tmp, r_cell, normL, normTop, tipIs, refsL, refs, ownRefs, single, frz, frzL, ren, renL, renOwn, callOp, doCall, backR, writeBack, builtinV, loadV, storeV, cellsAt, takeV, D.isAgg, overlay, vcells, cellOk, fieldAddrV, indexAddrV, fieldV, partV, indexV, buildV, fillV, buildSliceV, litElems, appendV, appElems, elemOk, convertV, convV, winStr, makeSliceV, sliceV, natOf, i_again, roundEnd, dropT, cleanV, Tryd.f27, Tryd.ti3, Tryd.ti9, Tryd.ti23, Tryd.ti44, hlt, hlt', h5, h5', hgl, hv, Val.enc_eq, hr]
      | true =>
        rw [hq] at hr
        have hk := ev_rkey v hin (by have := rightS_len hq; omega)
        have hkl := key_len hq
        have hfl := flat_keys hall
        rw [List.length_take, Nat.min_eq_left hil] at hfl
        have hb : ((l.take i).flatMap keyS).length + (keyS v).length ≤ 4611686018427387904 := by omega
        have ih := ih ⟨i + 1, by omega, by omega, by rw [hts, List.all_append, hall]; simp [hq]⟩ (by simp only; omega)
        have hwi : IntKind.i64.wrap ((i : Int) + 1) = (i : Int) + 1 := wrap_i64 (by omega)
        simp only [hts, List.flatMap_append, List.flatMap_cons, List.flatMap_nil, List.append_nil, s_zero, s_succ, Int.natCast_add, Int.natCast_one, Int.cast_ofNat_Int] at ih
        generalize (l.take i).flatMap keyS = acc at *
        generalize keyS v = kv at *
        simp [i_nil, i_blk, i_skip, i_ret, i_exit, i_seq, i_block, i_cond, i_region', i_ops_nil, i_ops, i_drawn', i_drw_nil, i_drw, u_nil, u_code, u_ops, u_drw, u_lp, u_again, u_exit, u_ret, u_panic, c_bool, o_some, o_val, o_panic, d_some, d_val, d_panic, w_none, w_fast, wantG, q_nil, q_zero, q_succ, t_zero, t_succ, g_zero, g_succ, s_zero, s_succ, s_some, s_none, v_tmp, v_const, v_func, f_quiet, ↓brB_true, ↓brB_false, ↓brB_dec, ↓brB_not, ↓brB_and, ↓brB_or, ↓brB_beq, ↓brB_bne, gc_none, gc_pure, wrap_i64, p_move, p_assign, p_pick, p_alloc, p_box, p_build, p_buildSlice, p_load, p_store, p_nilCheck, p_binOp, p_unOp, p_convert, p_makeSlice, p_makeInterface, p_makeFunc, p_slice, p_fieldAddr, p_field, p_indexAddr, p_index, p_extract, p_callv, p_callb, p_panic, quiet_val, new_val, e_assign, e_call, e_load, e_store, e_alloc, e_box, e_move, e_pick, e_build, e_buildSlice, e_nilCheck, e_binOp, e_unOp, e_convert, e_makeSlice, e_makeInterface, e_makeFunc, e_slice, e_fieldAddr, e_field, e_indexAddr, e_index, e_extract, e_panic, callD, fpRead, adopt, adoptL, ofValue, ofScalar, binOpV, unOpV, intBin, strBin, eqRes, veq, veqF, eqDepth, val?, finish, resL, r_tmp, r_cell, normL, normTop, tipIs, refsL, refs, ownRefs, single, frz, frzL, ren, renL, renOwn, callOp, doCall, backR, writeBack, builtinV, loadV, storeV, cellsAt, takeV, D.isAgg, overlay, vcells, cellOk, fieldAddrV, indexAddrV, fieldV, partV, indexV, buildV, fillV, buildSliceV, litElems, appendV, appElems, elemOk, convertV, convV, winStr, makeSliceV, sliceV, natOf, i_again, roundEnd, dropT, cleanV, Tryd.f27, Tryd.ti3, Tryd.ti9, Tryd.ti23, Tryd.ti44, hlt, hlt', h5, h5', hgl, hv, Val.enc_eq, hr, hk, hb, hwi, ih]
  · have hlt' : ¬ (i : Int) < l.length := by omega
    have ht : l.take i = l := List.take_of_length_le (by omega)
    have hall : l.all rightS = true := by rw [← ht]; exact hall
    have e : rowT l = (l.flatMap keyS, true) := by
      have : rowOk l = true := by simp only [rowOk, hall, Bool.and_true, decide_eq_true_eq]; omega
      simp [rowT, this]
    rw [e]
    simp [i_nil, i_blk, i_skip, i_ret, i_exit, i_seq, i_block, i_cond, i_region', i_ops_nil, i_ops, i_drawn', i_drw_nil, i_drw, u_nil, u_code, u_ops, u_drw, u_lp, u_again, u_exit, u_ret, u_panic, c_bool, o_some, o_val, o_panic, d_some, d_val, d_panic, w_none, w_fast, wantG, q_nil, q_zero, q_succ, t_zero, t_succ, g_zero, g_succ, s_zero, s_succ, s_some, s_none, v_tmp, v_const, v_func, f_quiet, ↓brB_true, ↓brB_false, ↓brB_dec, ↓brB_not, ↓brB_and, ↓brB_or, ↓brB_beq, ↓brB_bne, gc_none, gc_pure, wrap_i64, p_move, p_assign, p_pick, p_alloc, p_box, p_build, p_buildSlice, p_load, p_store, p_nilCheck, p_binOp, p_unOp, p_convert, p_makeSlice, p_makeInterface, p_makeFunc, p_slice, p_fieldAddr, p_field, p_indexAddr, p_index, p_extract, p_callv, p_callb, p_panic, quiet_val, new_val, e_assign, e_call, e_load, e_store, e_alloc, e_box, e_move, e_pick, e_build, e_buildSlice, e_nilCheck, e_binOp, e_unOp, e_convert, e_makeSlice, e_makeInterface, e_makeFunc, e_slice, e_fieldAddr, e_field, e_indexAddr, e_index, e_extract, e_panic, callD, fpRead, adopt, adoptL, ofValue, ofScalar, binOpV, unOpV, intBin, strBin, eqRes, veq, veqF, eqDepth, val?, finish, resL, r_tmp, r_cell, normL, normTop, tipIs, refsL, refs, ownRefs, single, frz, frzL, ren, renL, renOwn, callOp, doCall, backR, writeBack, builtinV, loadV, storeV, cellsAt, takeV, D.isAgg, overlay, vcells, cellOk, fieldAddrV, indexAddrV, fieldV, partV, indexV, buildV, fillV, buildSliceV, litElems, appendV, appElems, elemOk, convertV, convV, winStr, makeSliceV, sliceV, natOf, i_again, roundEnd, dropT, cleanV, Tryd.f27, Tryd.ti3, Tryd.ti9, Tryd.ti23, Tryd.ti44, hlt, hlt', ht]

/- the program's rows -/
def keysT : List (List UInt8) → List Val → List (List UInt8) × Bool
  | acc, [] => (acc, true)
  | acc, v :: r => if rightS v then keysT (acc ++ [keyS v]) r else (acc, false)
def keysO (l : List Val) (x : List (List UInt8) × Bool) : Option (Out × St) :=
  if x.2 then some (.ret (.tup []), [[.slice .froz (l.map Val.enc)], [.slice (.own 2) (x.1.map .str)], [.tip x.1.length]])
  else some (.panic (.iface 61 (.agg [.int .i64 15, .int .i64 0])), [[.slice .froz (l.map Val.enc)], [.slice (.own 2) (x.1.map .str)], [.tip x.1.length]])
set_option maxHeartbeats 1000000 in
theorem ev_rowc (l : List Val) (hl : l.length ≤ 6) (hi : ∀ v ∈ l, inI v.n) : EV 38 [.box 0 0, .box 1 0] [[.slice .froz (l.map Val.enc)], [.slice (.own 2) []], [.tip 0]] = keysO l (keysT [] l) := by
  rw [EV_mki rfl Tryd.func38 rfl (by kernel_rfl)]
  simp [i_nil, i_blk, i_skip, i_ret, i_exit, i_seq, i_block, i_cond, i_region', i_ops_nil, i_ops, i_drawn', i_drw_nil, i_drw, u_nil, u_code, u_ops, u_drw, u_lp, u_again, u_exit, u_ret, u_panic, c_bool, o_some, o_val, o_panic, d_some, d_val, d_panic, w_none, w_fast, wantG, q_nil, q_zero, q_succ, t_zero, t_succ, g_zero, g_succ, s_zero, s_succ, s_some, s_none, v_tmp, v_const, v_func, f_quiet, ↓brB_true, ↓brB_false, ↓brB_dec, ↓brB_not, ↓brB_and, ↓brB_or, ↓brB_beq, ↓brB_bne, gc_none, gc_pure, wrap_i64, p_move, p_assign, p_pick, p_alloc, p_box, p_build, p_buildSlice, p_load, p_store, p_nilCheck, p_binOp, p_unOp, p_convert, p_makeSlice, p_makeInterface, p_makeFunc, p_slice, p_fieldAddr, p_field, p_indexAddr, p_index, p_extract, p_callv, p_callb, p_panic, quiet_val, new_val, e_assign, e_call, e_load, e_store, e_alloc, e_box, e_move, e_pick, e_build, e_buildSlice, e_nilCheck, e_binOp, e_unOp, e_convert, e_makeSlice, e_makeInterface, e_makeFunc, e_slice, e_fieldAddr, e_field, e_indexAddr, e_index, e_extract, e_panic, callD, fpRead, adopt, adoptL, ofValue, ofScalar, binOpV, unOpV, intBin, strBin, eqRes, veq, veqF, eqDepth, val?, finish, resL, r_tmp, r_cell, normL, normTop, tipIs, refsL, refs, ownRefs, single, frz, frzL, ren, renL, renOwn, callOp, doCall, backR, writeBack, builtinV, loadV, storeV, cellsAt, takeV, D.isAgg, overlay, vcells, cellOk, fieldAddrV, indexAddrV, fieldV, partV, indexV, buildV, fillV, buildSliceV, litElems, appendV, appElems, elemOk, convertV, convV, winStr, makeSliceV, sliceV, natOf, Tryd.f38, Tryd.ti3, Tryd.ti9, Tryd.ti23, Tryd.ti44, Tryd.ti68]
  rw [i_loop (ts := [7, 8, 9, 3, 10, 11, 12, 13, 14, 15])]
  rotate_left
  · kernel_rfl
  refine i_at (fun x : {x : Nat × List (List UInt8) // x.1 ≤ l.length ∧ x.2.length = x.1} => l.length - x.1.1) (fun x env => setV env 6 (.int .i64 x.1.1)) (fun x => [[.slice .froz (l.map Val.enc)], [.slice (.own 2) (x.1.2.map .str)], [.tip x.1.2.length]]) (fun x => keysO l (keysT x.1.2 (l.drop x.1.1))) ⟨(0, []), by simp⟩ (by simp [s_zero, s_succ]) (by simp) (by simp) ?_
  intro ⟨(i, acc), hil, hacc⟩ ih
  try simp only at hil hacc
  by_cases hlt : i < l.length
  · have hgl : l[i]? = some l[i] := List.getElem?_eq_getElem hlt
    have hmem : l[i] ∈ l := List.getElem_mem hlt
    have hd : l.drop i = l[i] :: l.drop (i + 1) := List.drop_eq_getElem_cons hlt
    have hin := hi _ hmem
    have hwi : IntKind.i64.wrap ((i : Int) + 1) = (i : Int) + 1 := wrap_i64 (by omega)
    obtain ⟨v, hv⟩ : ∃ v, l[i] = v := ⟨_, rfl⟩
    rw [hv] at hgl hin hd
    have hk := ev_key v hin
    rw [hd, keysT]
    cases hq : rightS v with
    | false =>
      rw [hq] at hk
      simp [i_nil, i_blk, i_skip, i_ret, i_exit, i_seq, i_block, i_cond, i_region', i_ops_nil, i_ops, i_drawn', i_drw_nil, i_drw, u_nil, u_code, u_ops, u_drw, u_lp, u_again, u_exit, u_ret, u_panic, c_bool, o_some, o_val, o_panic, d_some, d_val, d_panic, w_none, w_fast, wantG, q_nil, q_zero, q_succ, t_zero, t_succ, g_zero, g_succ, s_zero, s_succ, s_some, s_none, v_tmp, v_const, v_func, f_quiet, ↓brB_true, ↓brB_false, ↓brB_dec, ↓brB_not, ↓brB_and, ↓brB_or, ↓brB_beq, ↓brB_bne, gc_none, gc_pure, wrap_i64, p_move, p_assign, p_pick, p_alloc, p_box, p_build, p_buildSlice, p_load, p_store, p_nilCheck, p_binOp, p_unOp, p_convert, p_makeSlice, p_makeInterface, p_makeFunc, p_slice, p_fieldAddr, p_field, p_indexAddr, p_index, p_extract, p_callv, p_callb, p_panic, quiet_val, new_val, e_assign, e_call, e_load, e_store, e_alloc, e_box, e_move, e_pick, e_build, e_buildSlice, e_nilCheck, e_binOp, e_unOp, e_convert, e_makeSlice, e_makeInterface, e_makeFunc, e_slice, e_fieldAddr, e_field, e_indexAddr, e_index, e_extract, e_panic, callD, fpRead, adopt, adoptL, ofValue, ofScalar, binOpV, unOpV, intBin, strBin, eqRes, veq, veqF, eqDepth, val?, finish, resL, r_tmp, r_cell, normL, normTop, tipIs, refsL, refs, ownRefs, single, frz, frzL, ren, renL, renOwn, callOp, doCall, backR, writeBack, builtinV, loadV, storeV, cellsAt, takeV, D.isAgg, overlay, vcells, cellOk, fieldAddrV, indexAddrV, fieldV, partV, indexV, buildV, fillV, buildSliceV, litElems, appendV, appElems, elemOk, convertV, convV, winStr, makeSliceV, sliceV, natOf, i_again, roundEnd, dropT, cleanV, Tryd.f38, Tryd.ti3, Tryd.ti9, Tryd.ti23, Tryd.ti44, Tryd.ti68, hlt, hgl, hv, Val.enc_eq, hk, keysO, reach, reachFuel, shut, nodup, List.idxOf, List.findIdx, List.findIdx.go, gc, List.range, List.range.loop] <;> (change _ = true; decide +kernel)
    | true =>
      rw [hq] at hk
      have ih := ih ⟨(i + 1, acc ++ [keyS v]), by omega, by simp [hacc]⟩ (by simp only; omega)
      have hb : acc.length + 1 ≤ 70368744177664 := by omega
      have hb2 : (acc.length + 1) * 16 ≤ 70368744177664 := by omega
      simp only [s_zero, s_succ, Int.natCast_add, Int.natCast_one, Int.cast_ofNat_Int, List.map_append, List.map_cons, List.map_nil, List.length_append, List.length_singleton] at ih
      simp [i_nil, i_blk, i_skip, i_ret, i_exit, i_seq, i_block, i_cond, i_region', i_ops_nil, i_ops, i_drawn', i_drw_nil, i_drw, u_nil, u_code, u_ops, u_drw, u_lp, u_again, u_exit, u_ret, u_panic, c_bool, o_some, o_val, o_panic, d_some, d_val, d_panic, w_none, w_fast, wantG, q_nil, q_zero, q_succ, t_zero, t_succ, g_zero, g_succ, s_zero, s_succ, s_some, s_none, v_tmp, v_const, v_func, f_quiet, ↓brB_true, ↓brB_false, ↓brB_dec, ↓brB_not, ↓brB_and, ↓brB_or, ↓brB_beq, ↓brB_bne, gc_none, gc_pure, wrap_i64, p_move, p_assign, p_pick, p_alloc, p_box, p_build, p_buildSlice, p_load, p_store, p_nilCheck, p_binOp, p_unOp, p_convert, p_makeSlice, p_makeInterface, p_makeFunc, p_slice, p_fieldAddr, p_field, p_indexAddr, p_index, p_extract, p_callv, p_callb, p_panic, quiet_val, new_val, e_assign, e_call, e_load, e_store, e_alloc, e_box, e_move, e_pick, e_build, e_buildSlice, e_nilCheck, e_binOp, e_unOp, e_convert, e_makeSlice, e_makeInterface, e_makeFunc, e_slice, e_fieldAddr, e_field, e_indexAddr, e_index, e_extract, e_panic, callD, fpRead, adopt, adoptL, ofValue, ofScalar, binOpV, unOpV, intBin, strBin, eqRes, veq, veqF, eqDepth, val?, finish, resL, r_tmp, r_cell, normL, normTop, tipIs, refsL, refs, ownRefs, single, frz, frzL, ren, renL, renOwn, callOp, doCall, backR, writeBack, builtinV, loadV, storeV, cellsAt, takeV, D.isAgg, overlay, vcells, cellOk, fieldAddrV, indexAddrV, fieldV, partV, indexV, buildV, fillV, buildSliceV, litElems, appendV, appElems, elemOk, convertV, convV, winStr, makeSliceV, sliceV, natOf, i_again, roundEnd, dropT, cleanV, Tryd.f38, Tryd.ti3, Tryd.ti9, Tryd.ti23, Tryd.ti44, Tryd.ti68, hlt, hgl, hv, Val.enc_eq, hk, hwi, hb, hb2, ih, reach, reachFuel, shut, nodup, List.idxOf, List.findIdx, List.findIdx.go, appFp]
      intro hf
      exfalso
      revert hf
      rw [imp_false, Bool.not_eq_false]
      decide +kernel
  · have hd : l.drop i = [] := List.drop_eq_nil_of_le (by omega)
    rw [hd]
    simp [i_nil, i_blk, i_skip, i_ret, i_exit, i_seq, i_block, i_cond, i_region', i_ops_nil, i_ops, i_drawn', i_drw_nil, i_drw, u_nil, u_code, u_ops, u_drw, u_lp, u_again, u_exit, u_ret, u_panic, c_bool, o_some, o_val, o_panic, d_some, d_val, d_panic, w_none, w_fast, wantG, q_nil, q_zero, q_succ, t_zero, t_succ, g_zero, g_succ, s_zero, s_succ, s_some, s_none, v_tmp, v_const, v_func, f_quiet, ↓brB_true, ↓brB_false, ↓brB_dec, ↓brB_not, ↓brB_and, ↓brB_or, ↓brB_beq, ↓brB_bne, gc_none, gc_pure, wrap_i64, p_move, p_assign, p_pick, p_alloc, p_box, p_build, p_buildSlice, p_load, p_store, p_nilCheck, p_binOp, p_unOp, p_convert, p_makeSlice, p_makeInterface, p_makeFunc, p_slice, p_fieldAddr, p_field, p_indexAddr, p_index, p_extract, p_callv, p_callb, p_panic, quiet_val, new_val, e_assign, e_call, e_load, e_store, e_alloc, e_box, e_move, e_pick, e_build, e_buildSlice, e_nilCheck, e_binOp, e_unOp, e_convert, e_makeSlice, e_makeInterface, e_makeFunc, e_slice, e_fieldAddr, e_field, e_indexAddr, e_index, e_extract, e_panic, callD, fpRead, adopt, adoptL, ofValue, ofScalar, binOpV, unOpV, intBin, strBin, eqRes, veq, veqF, eqDepth, val?, finish, resL, r_tmp, r_cell, normL, normTop, tipIs, refsL, refs, ownRefs, single, frz, frzL, ren, renL, renOwn, callOp, doCall, backR, writeBack, builtinV, loadV, storeV, cellsAt, takeV, D.isAgg, overlay, vcells, cellOk, fieldAddrV, indexAddrV, fieldV, partV, indexV, buildV, fillV, buildSliceV, litElems, appendV, appElems, elemOk, convertV, convV, winStr, makeSliceV, sliceV, natOf, i_again, roundEnd, dropT, cleanV, Tryd.f38, Tryd.ti3, Tryd.ti9, Tryd.ti23, Tryd.ti44, Tryd.ti68, hlt, keysT, keysO, reach, reachFuel, shut, nodup, List.idxOf, List.findIdx, List.findIdx.go, gc, List.range, List.range.loop]

theorem keysT_app : ∀ (acc : List (List UInt8)) (l : List Val), keysT acc l = (acc ++ (keysT [] l).1, (keysT [] l).2)
  | acc, [] => by simp [keysT]
  | acc, v :: r => by
    cases hq : rightS v with
    | false => simp [keysT, hq]
    | true =>
      rw [keysT, keysT, hq]
      simp only [if_true]
      rw [keysT_app (acc ++ [keyS v]) r, keysT_app ([] ++ [keyS v]) r]
      simp
theorem keysT_all : ∀ l : List Val, (keysT [] l).2 = l.all rightS ∧ (l.all rightS = true → (keysT [] l).1 = l.map keyS)
  | [] => by simp [keysT]
  | v :: r => by
    have ⟨h1, h2⟩ := keysT_all r
    cases hq : rightS v with
    | false => simp [keysT, hq]
    | true =>
      rw [keysT, hq]
      simp only [if_true]
      rw [keysT_app]
      refine ⟨by simp [hq, h1], fun h => ?_⟩
      simp only [List.all_cons, hq, Bool.true_and] at h
      simp [h2 h]
def rowC (l : List Val) : List UInt8 × Int := if rowOk l then (l.flatMap keyS, 0) else ([], 15)
theorem join_empty (ks : List (List UInt8)) : Lib.join ks [] = ks.flatten := by
  unfold Lib.join
  induction ks with
  | nil => rfl
  | cons k ks ih => cases ks <;> simp_all [List.intercalate]
theorem ev_join (ks : List (List UInt8)) (h : ks.length ≤ 140737488355328) (h' : ks.flatten.length ≤ 140737488355328) : EV 39 [.slice .froz (ks.map V.str), .str []] [] = some (.ret (.str ks.flatten), []) := by
  unfold EV
  rw [ev_eq]
  have hne : ¬ 39 = 44 := by decide
  simp only [pr0, hne, if_false, if_true, primRun, joinP, strsOf_map, join_empty, if_pos (And.intro h h')]
set_option maxHeartbeats 1000000 in
theorem ev_Row (l : List Val) (hi : ∀ v ∈ l, inI v.n) : EV 26 [.slice .froz (l.map Val.enc)] [] = some (.ret (.tup [.str (rowC l).1, .int .i64 (rowC l).2]), []) := by
  rw [EV_mki rfl Tryd.func26 rfl (by kernel_rfl)]
  by_cases hl : 6 < l.length
  · have hl' : (6 : Int) < l.length := by omega
    have e : rowC l = ([], 15) := by
      have : rowOk l = false := by simp [rowOk]; omega
      simp [rowC, this]
    rw [e]
    simp [i_nil, i_blk, i_skip, i_ret, i_exit, i_seq, i_block, i_cond, i_region', i_ops_nil, i_ops, i_drawn', i_drw_nil, i_drw, u_nil, u_code, u_ops, u_drw, u_lp, u_again, u_exit, u_ret, u_panic, c_bool, o_some, o_val, o_panic, d_some, d_val, d_panic, w_none, w_fast, wantG, q_nil, q_zero, q_succ, t_zero, t_succ, g_zero, g_succ, s_zero, s_succ, s_some, s_none, v_tmp, v_const, v_func, f_quiet, ↓brB_true, ↓brB_false, ↓brB_dec, ↓brB_not, ↓brB_and, ↓brB_or, ↓brB_beq, ↓brB_bne, gc_none, gc_pure, wrap_i64, p_move, p_assign, p_pick, p_alloc, p_box, p_build, p_buildSlice, p_load, p_store, p_nilCheck, p_binOp, p_unOp, p_convert, p_makeSlice, p_makeInterface, p_makeFunc, p_slice, p_fieldAddr, p_field, p_indexAddr, p_index, p_extract, p_callv, p_callb, p_panic, quiet_val, new_val, e_assign, e_call, e_load, e_store, e_alloc, e_box, e_move, e_pick, e_build, e_buildSlice, e_nilCheck, e_binOp, e_unOp, e_convert, e_makeSlice, e_makeInterface, e_makeFunc, e_slice, e_fieldAddr, e_field, e_indexAddr, e_index, e_extract, e_panic, callD, fpRead, adopt, adoptL, ofValue, ofScalar, binOpV, unOpV, intBin, strBin, eqRes, veq, veqF, eqDepth, val?, finish, resL, r_tmp, r_cell, normL, normTop, tipIs, refsL, refs, ownRefs, single, frz, frzL, ren, renL, renOwn, callOp, doCall, backR, writeBack, builtinV, loadV, storeV, cellsAt, takeV, D.isAgg, overlay, vcells, cellOk, fieldAddrV, indexAddrV, fieldV, partV, indexV, buildV, fillV, buildSliceV, litElems, appendV, appElems, elemOk, convertV, convV, winStr, makeSliceV, sliceV, natOf, Tryd.f26, Tryd.ti3, Tryd.ti9, Tryd.ti23, Tryd.ti26, Tryd.ti44, Tryd.ti61, Tryd.ti68, hl, hl']
  · have hl' : ¬ (6 : Int) < l.length := by omega
    have hc := ev_rowc l (by omega) hi
    have ⟨k1, k2⟩ := keysT_all l
    cases ha : l.all rightS with
    | true =>
      have hk := k2 ha
      have hfl := flat_keys ha
      rw [ha] at k1
      have e : rowC l = (l.flatMap keyS, 0) := by
        have : rowOk l = true := by simp only [rowOk, ha, Bool.and_true, decide_eq_true_eq]; omega
        simp [rowC, this]
      have hj := ev_join (l.map keyS) (by simp; omega) (by rw [← List.flatMap_def]; omega)
      rw [← List.flatMap_def] at hj
      rw [keysO, k1, hk] at hc
      simp only [if_true] at hc
      rw [e]
      have hg : EV 31 [.func 38 [] [.box 0 0, .box 1 0]] [[.slice .froz (l.map Val.enc)], [.slice (.own 2) []], [.tip 0]] =
        some (.ret (.agg [.int .i64 0, .int .i64 0]), [[.slice .froz (l.map Val.enc)], [.slice (.own 2) ((l.map keyS).map .str)], [.tip (l.map keyS).length]]) := by
        rw [ev_grab]
        simp only [List.length_map] at hc ⊢
        generalize (l.map keyS).map V.str = ks at *
        simp [primRun, i_nil, i_blk, i_skip, i_ret, i_exit, i_seq, i_block, i_cond, i_region', i_ops_nil, i_ops, i_drawn', i_drw_nil, i_drw, u_nil, u_code, u_ops, u_drw, u_lp, u_again, u_exit, u_ret, u_panic, c_bool, o_some, o_val, o_panic, d_some, d_val, d_panic, w_none, w_fast, wantG, q_nil, q_zero, q_succ, t_zero, t_succ, g_zero, g_succ, s_zero, s_succ, s_some, s_none, v_tmp, v_const, v_func, f_quiet, ↓brB_true, ↓brB_false, ↓brB_dec, ↓brB_not, ↓brB_and, ↓brB_or, ↓brB_beq, ↓brB_bne, gc_none, gc_pure, wrap_i64, p_move, p_assign, p_pick, p_alloc, p_box, p_build, p_buildSlice, p_load, p_store, p_nilCheck, p_binOp, p_unOp, p_convert, p_makeSlice, p_makeInterface, p_makeFunc, p_slice, p_fieldAddr, p_field, p_indexAddr, p_index, p_extract, p_callv, p_callb, p_panic, quiet_val, new_val, e_assign, e_call, e_load, e_store, e_alloc, e_box, e_move, e_pick, e_build, e_buildSlice, e_nilCheck, e_binOp, e_unOp, e_convert, e_makeSlice, e_makeInterface, e_makeFunc, e_slice, e_fieldAddr, e_field, e_indexAddr, e_index, e_extract, e_panic, callD, fpRead, adopt, adoptL, ofValue, ofScalar, binOpV, unOpV, intBin, strBin, eqRes, veq, veqF, eqDepth, val?, finish, resL, r_tmp, r_cell, normL, normTop, tipIs, refsL, refs, ownRefs, single, frz, frzL, ren, renL, renOwn, callOp, doCall, backR, writeBack, builtinV, loadV, storeV, cellsAt, takeV, D.isAgg, overlay, vcells, cellOk, fieldAddrV, indexAddrV, fieldV, partV, indexV, buildV, fillV, buildSliceV, litElems, appendV, appElems, elemOk, convertV, convV, winStr, makeSliceV, sliceV, natOf, reach, reachFuel, shut, nodup, List.idxOf, List.findIdx, List.findIdx.go, hc, catchRes, gc, List.range, List.range.loop, backR]
      simp only [List.length_map] at hg
      generalize (l.map keyS).map V.str = ks at *
      simp [i_nil, i_blk, i_skip, i_ret, i_exit, i_seq, i_block, i_cond, i_region', i_ops_nil, i_ops, i_drawn', i_drw_nil, i_drw, u_nil, u_code, u_ops, u_drw, u_lp, u_again, u_exit, u_ret, u_panic, c_bool, o_some, o_val, o_panic, d_some, d_val, d_panic, w_none, w_fast, wantG, q_nil, q_zero, q_succ, t_zero, t_succ, g_zero, g_succ, s_zero, s_succ, s_some, s_none, v_tmp, v_const, v_func, f_quiet, ↓brB_true, ↓brB_false, ↓brB_dec, ↓brB_not, ↓brB_and, ↓brB_or, ↓brB_beq, ↓brB_bne, gc_none, gc_pure, wrap_i64, p_move, p_assign, p_pick, p_alloc, p_box, p_build, p_buildSlice, p_load, p_store, p_nilCheck, p_binOp, p_unOp, p_convert, p_makeSlice, p_makeInterface, p_makeFunc, p_slice, p_fieldAddr, p_field, p_indexAddr, p_index, p_extract, p_callv, p_callb, p_panic, quiet_val, new_val, e_assign, e_call, e_load, e_store, e_alloc, e_box, e_move, e_pick, e_build, e_buildSlice, e_nilCheck, e_binOp, e_unOp, e_convert, e_makeSlice, e_makeInterface, e_makeFunc, e_slice, e_fieldAddr, e_field, e_indexAddr, e_index, e_extract, e_panic, callD, fpRead, adopt, adoptL, ofValue, ofScalar, binOpV, unOpV, intBin, strBin, eqRes, veq, veqF, eqDepth, val?, finish, resL, r_tmp, r_cell, normL, normTop, tipIs, refsL, refs, ownRefs, single, frz, frzL, ren, renL, renOwn, callOp, doCall, backR, writeBack, builtinV, loadV, storeV, cellsAt, takeV, D.isAgg, overlay, vcells, cellOk, fieldAddrV, indexAddrV, fieldV, partV, indexV, buildV, fillV, buildSliceV, litElems, appendV, appElems, elemOk, convertV, convV, winStr, makeSliceV, sliceV, natOf, Tryd.f26, Tryd.ti3, Tryd.ti9, Tryd.ti23, Tryd.ti26, Tryd.ti44, Tryd.ti61, Tryd.ti68, hl, hl', hg, hj, reach, reachFuel, shut, nodup, List.idxOf, List.findIdx, List.findIdx.go, backR, gc, List.range, List.range.loop]
    | false =>
      rw [ha] at k1
      have e : rowC l = ([], 15) := by
        have : rowOk l = false := by simp [rowOk, ha]
        simp [rowC, this]
      rw [keysO, k1] at hc
      simp only [if_false, Bool.false_eq_true] at hc
      rw [e]
      generalize (keysT [] l).1 = ks at *
      have hg : EV 31 [.func 38 [] [.box 0 0, .box 1 0]] [[.slice .froz (l.map Val.enc)], [.slice (.own 2) []], [.tip 0]] =
        some (.ret (.agg [.int .i64 15, .int .i64 0]), [[.slice .froz (l.map Val.enc)], [.slice (.own 2) (ks.map .str)], [.tip ks.length]]) := by
        rw [ev_grab]
        simp [primRun, i_nil, i_blk, i_skip, i_ret, i_exit, i_seq, i_block, i_cond, i_region', i_ops_nil, i_ops, i_drawn', i_drw_nil, i_drw, u_nil, u_code, u_ops, u_drw, u_lp, u_again, u_exit, u_ret, u_panic, c_bool, o_some, o_val, o_panic, d_some, d_val, d_panic, w_none, w_fast, wantG, q_nil, q_zero, q_succ, t_zero, t_succ, g_zero, g_succ, s_zero, s_succ, s_some, s_none, v_tmp, v_const, v_func, f_quiet, ↓brB_true, ↓brB_false, ↓brB_dec, ↓brB_not, ↓brB_and, ↓brB_or, ↓brB_beq, ↓brB_bne, gc_none, gc_pure, wrap_i64, p_move, p_assign, p_pick, p_alloc, p_box, p_build, p_buildSlice, p_load, p_store, p_nilCheck, p_binOp, p_unOp, p_convert, p_makeSlice, p_makeInterface, p_makeFunc, p_slice, p_fieldAddr, p_field, p_indexAddr, p_index, p_extract, p_callv, p_callb, p_panic, quiet_val, new_val, e_assign, e_call, e_load, e_store, e_alloc, e_box, e_move, e_pick, e_build, e_buildSlice, e_nilCheck, e_binOp, e_unOp, e_convert, e_makeSlice, e_makeInterface, e_makeFunc, e_slice, e_fieldAddr, e_field, e_indexAddr, e_index, e_extract, e_panic, callD, fpRead, adopt, adoptL, ofValue, ofScalar, binOpV, unOpV, intBin, strBin, eqRes, veq, veqF, eqDepth, val?, finish, resL, r_tmp, r_cell, normL, normTop, tipIs, refsL, refs, ownRefs, single, frz, frzL, ren, renL, renOwn, callOp, doCall, backR, writeBack, builtinV, loadV, storeV, cellsAt, takeV, D.isAgg, overlay, vcells, cellOk, fieldAddrV, indexAddrV, fieldV, partV, indexV, buildV, fillV, buildSliceV, litElems, appendV, appElems, elemOk, convertV, convV, winStr, makeSliceV, sliceV, natOf, reach, reachFuel, shut, nodup, List.idxOf, List.findIdx, List.findIdx.go, hc, catchRes, gc, List.range, List.range.loop, backR]
      simp [i_nil, i_blk, i_skip, i_ret, i_exit, i_seq, i_block, i_cond, i_region', i_ops_nil, i_ops, i_drawn', i_drw_nil, i_drw, u_nil, u_code, u_ops, u_drw, u_lp, u_again, u_exit, u_ret, u_panic, c_bool, o_some, o_val, o_panic, d_some, d_val, d_panic, w_none, w_fast, wantG, q_nil, q_zero, q_succ, t_zero, t_succ, g_zero, g_succ, s_zero, s_succ, s_some, s_none, v_tmp, v_const, v_func, f_quiet, ↓brB_true, ↓brB_false, ↓brB_dec, ↓brB_not, ↓brB_and, ↓brB_or, ↓brB_beq, ↓brB_bne, gc_none, gc_pure, wrap_i64, p_move, p_assign, p_pick, p_alloc, p_box, p_build, p_buildSlice, p_load, p_store, p_nilCheck, p_binOp, p_unOp, p_convert, p_makeSlice, p_makeInterface, p_makeFunc, p_slice, p_fieldAddr, p_field, p_indexAddr, p_index, p_extract, p_callv, p_callb, p_panic, quiet_val, new_val, e_assign, e_call, e_load, e_store, e_alloc, e_box, e_move, e_pick, e_build, e_buildSlice, e_nilCheck, e_binOp, e_unOp, e_convert, e_makeSlice, e_makeInterface, e_makeFunc, e_slice, e_fieldAddr, e_field, e_indexAddr, e_index, e_extract, e_panic, callD, fpRead, adopt, adoptL, ofValue, ofScalar, binOpV, unOpV, intBin, strBin, eqRes, veq, veqF, eqDepth, val?, finish, resL, r_tmp, r_cell, normL, normTop, tipIs, refsL, refs, ownRefs, single, frz, frzL, ren, renL, renOwn, callOp, doCall, backR, writeBack, builtinV, loadV, storeV, cellsAt, takeV, D.isAgg, overlay, vcells, cellOk, fieldAddrV, indexAddrV, fieldV, partV, indexV, buildV, fillV, buildSliceV, litElems, appendV, appElems, elemOk, convertV, convV, winStr, makeSliceV, sliceV, natOf, Tryd.f26, Tryd.ti3, Tryd.ti9, Tryd.ti23, Tryd.ti26, Tryd.ti44, Tryd.ti61, Tryd.ti68, hl, hl', hg, reach, reachFuel, shut, nodup, List.idxOf, List.findIdx, List.findIdx.go, backR, gc, List.range, List.range.loop]
end Go.Abs
