/- Keys. -/
import Derived.Test.YtmjfninbnlhmoaaDoorFnCodeA
import Derived.Test.YtmjfninbnlhmoaaDoorFnStop
import Derived.Test.YtmjfninbnlhmoaaDoorFnOneByte
namespace Go.Abs
set_option linter.unusedSimpArgs false
set_option linter.unusedVariables false
open Go Go.Proofs

/- a text's bytes, noughts told apart from the end -/
def escS (s : List UInt8) : List UInt8 := s.flatMap fun b => if b = 0 then [0, 255] else [b]
theorem escS_succ (s : List UInt8) {i : Nat} (h : i < s.length) : escS (s.take (i + 1)) = escS (s.take i) ++ (if s[i] = 0 then [0, 255] else [s[i]]) := by
  unfold escS
  rw [List.take_succ_eq_append_getElem h, List.flatMap_append]
  simp
theorem escS_len : ∀ s : List UInt8, (escS s).length ≤ 2 * s.length
  | [] => by simp [escS]
  | b :: s => by
    have := escS_len s
    have e : escS (b :: s) = (if b = 0 then [0, 255] else [b]) ++ escS s := rfl
    rw [e, List.length_append, List.length_cons]
    by_cases h : b = 0
    · rw [if_pos h, List.length_cons, List.length_singleton]; omega
    · rw [if_neg h, List.length_singleton]; omega
def byV (b : UInt8) : V := .int .u8 b.toNat
theorem byV_eq (b : UInt8) : byV b = .int .u8 b.toNat := rfl
theorem bytesOf_map : ∀ l : List UInt8, bytesOf (l.map byV) = some l
  | [] => rfl
  | b :: l => by simp [byV, bytesOf, bytesOf_map l]
theorem bytesOf_app : ∀ (xs ys : List V), bytesOf (xs ++ ys) = match bytesOf xs, bytesOf ys with
    | some a, some b => some (a ++ b)
    | _, _ => none
  | [], ys => by cases h : bytesOf ys <;> simp [bytesOf, h]
  | x :: xs, ys => by
    have ih := bytesOf_app xs ys
    cases x with
    | int k n =>
      cases k with
      | u8 => simp only [List.cons_append, bytesOf, ih]; cases bytesOf xs <;> cases bytesOf ys <;> rfl
      | _ => simp [bytesOf]
    | _ => simp [bytesOf]

def keyS (v : Val) : List UInt8 :=
  if v.kind = 1 then [1, UInt8.ofNat (v.n % 256).toNat]
  else if v.kind = 2 then 2 :: eightS ((v.n + 9223372036854775808) % 18446744073709551616)
  else if v.kind = 3 then 3 :: (escS v.s ++ [0, 1])
  else [0]
set_option maxHeartbeats 1000000 in
theorem ev_rkey (v : Val) (h : inI v.n) (hs : v.s.length ≤ 1048576) : EV 24 [.agg [.int .i64 v.kind, .int .i64 v.n, .str v.s]] [] = some (.ret (.str (keyS v)), []) := by
  rw [EV_mki rfl Tryd.func24 rfl (by kernel_rfl)]
  by_cases h1 : v.kind = 1
  · simp [i_nil, i_blk, i_skip, i_ret, i_exit, i_seq, i_block, i_cond, i_region', i_ops_nil, i_ops, i_drawn', i_drw_nil, i_drw, u_nil, u_code, u_ops, u_drw, u_lp, u_again, u_exit, u_ret, u_panic, c_bool, o_some, o_val, o_panic, d_some, d_val, d_panic, w_none, w_fast, wantG, q_nil, q_zero, q_succ, t_zero, t_succ, g_zero, g_succ, s_zero, s_succ, s_some, s_none, v_tmp, v_const, v_func, f_quiet, ↓brB_true, ↓brB_false, ↓brB_dec, ↓brB_not, ↓brB_and, ↓brB_or, ↓brB_beq, ↓brB_bne, gc_none, gc_pure, wrap_i64, p_move, p_assign, p_pick, p_alloc, p_box, p_build, p_buildSlice, p_load, p_store, p_nilCheck, p_binOp, p_unOp, p_convert, p_makeSlice, p_makeInterface, p_makeFunc, p_slice, p_fieldAddr, p_field, p_indexAddr, p_index, p_extract, p_callv, p_callb, p_panic, quiet_val, new_val, e_assign, e_call, e_load, e_store, e_alloc, e_box, e_move, e_pick, e_build, e_buildSlice, e_nilCheck, e_binOp, e_unOp, e_convert, e_makeSlice, e_makeInterface, e_makeFunc, e_slice, e_fieldAddr, e_field, e_indexAddr, e_index, e_extract, e_panic, callD, fpRead, adopt, adoptL, ofValue, ofScalar, binOpV, unOpV, intBin, strBin, eqRes, veq, veqF, eqDepth, val?, finish, resL, r_tmp, r_cell, normL, normTop, tipIs, refsL, refs, ownRefs, single, frz, frzL, ren, renL, renOwn, callOp, doCall, backR, writeBack, builtinV, loadV, storeV, cellsAt, takeV, D.isAgg, overlay, vcells, cellOk, fieldAddrV, indexAddrV, fieldV, partV, indexV, buildV, fillV, buildSliceV, litElems, appendV, appElems, elemOk, convertV, convV, winStr, makeSliceV, sliceV, natOf, Tryd.f24, Tryd.ti3, Tryd.ti5, Tryd.ti9, Tryd.ti23, Tryd.ti40, Tryd.ti63, keyS, h1, bytesOf, wrapU8]
  by_cases h2 : v.kind = 2
  · have hw : IntKind.u64.wrap (IntKind.u64.wrap v.n + 9223372036854775808) = (v.n + 9223372036854775808) % 18446744073709551616 := by
      rw [wrapU64, wrapU64]; omega
    have he := ev_Eight ((v.n + 9223372036854775808) % 18446744073709551616) ⟨by omega, by omega⟩
    simp [i_nil, i_blk, i_skip, i_ret, i_exit, i_seq, i_block, i_cond, i_region', i_ops_nil, i_ops, i_drawn', i_drw_nil, i_drw, u_nil, u_code, u_ops, u_drw, u_lp, u_again, u_exit, u_ret, u_panic, c_bool, o_some, o_val, o_panic, d_some, d_val, d_panic, w_none, w_fast, wantG, q_nil, q_zero, q_succ, t_zero, t_succ, g_zero, g_succ, s_zero, s_succ, s_some, s_none, v_tmp, v_const, v_func, f_quiet, ↓brB_true, ↓brB_false, ↓brB_dec, ↓brB_not, ↓brB_and, ↓brB_or, ↓brB_beq, ↓brB_bne, gc_none, gc_pure, wrap_i64, p_move, p_assign, p_pick, p_alloc, p_box, p_build, p_buildSlice, p_load, p_store, p_nilCheck, p_binOp, p_unOp, p_convert, p_makeSlice, p_makeInterface, p_makeFunc, p_slice, p_fieldAddr, p_field, p_indexAddr, p_index, p_extract, p_callv, p_callb, p_panic, quiet_val, new_val, e_assign, e_call, e_load, e_store, e_alloc, e_box, e_move, e_pick, e_build, e_buildSlice, e_nilCheck, e_binOp, e_unOp, e_convert, e_makeSlice, e_makeInterface, e_makeFunc, e_slice, e_fieldAddr, e_field, e_indexAddr, e_index, e_extract, e_panic, callD, fpRead, adopt, adoptL, ofValue, ofScalar, binOpV, unOpV, intBin, strBin, eqRes, veq, veqF, eqDepth, val?, finish, resL, r_tmp, r_cell, normL, normTop, tipIs, refsL, refs, ownRefs, single, frz, frzL, ren, renL, renOwn, callOp, doCall, backR, writeBack, builtinV, loadV, storeV, cellsAt, takeV, D.isAgg, overlay, vcells, cellOk, fieldAddrV, indexAddrV, fieldV, partV, indexV, buildV, fillV, buildSliceV, litElems, appendV, appElems, elemOk, convertV, convV, winStr, makeSliceV, sliceV, natOf, Tryd.f24, Tryd.ti3, Tryd.ti5, Tryd.ti9, Tryd.ti23, Tryd.ti40, Tryd.ti63, keyS, h1, h2, bytesOf, hw, he, eightS]
  by_cases h3 : v.kind = 3
  · simp [i_nil, i_blk, i_skip, i_ret, i_exit, i_seq, i_block, i_cond, i_region', i_ops_nil, i_ops, i_drawn', i_drw_nil, i_drw, u_nil, u_code, u_ops, u_drw, u_lp, u_again, u_exit, u_ret, u_panic, c_bool, o_some, o_val, o_panic, d_some, d_val, d_panic, w_none, w_fast, wantG, q_nil, q_zero, q_succ, t_zero, t_succ, g_zero, g_succ, s_zero, s_succ, s_some, s_none, v_tmp, v_const, v_func, f_quiet, ↓brB_true, ↓brB_false, ↓brB_dec, ↓brB_not, ↓brB_and, ↓brB_or, ↓brB_beq, ↓brB_bne, gc_none, gc_pure, wrap_i64, p_move, p_assign, p_pick, p_alloc, p_box, p_build, p_buildSlice, p_load, p_store, p_nilCheck, p_binOp, p_unOp, p_convert, p_makeSlice, p_makeInterface, p_makeFunc, p_slice, p_fieldAddr, p_field, p_indexAddr, p_index, p_extract, p_callv, p_callb, p_panic, quiet_val, new_val, e_assign, e_call, e_load, e_store, e_alloc, e_box, e_move, e_pick, e_build, e_buildSlice, e_nilCheck, e_binOp, e_unOp, e_convert, e_makeSlice, e_makeInterface, e_makeFunc, e_slice, e_fieldAddr, e_field, e_indexAddr, e_index, e_extract, e_panic, callD, fpRead, adopt, adoptL, ofValue, ofScalar, binOpV, unOpV, intBin, strBin, eqRes, veq, veqF, eqDepth, val?, finish, resL, r_tmp, r_cell, normL, normTop, tipIs, refsL, refs, ownRefs, single, frz, frzL, ren, renL, renOwn, callOp, doCall, backR, writeBack, builtinV, loadV, storeV, cellsAt, takeV, D.isAgg, overlay, vcells, cellOk, fieldAddrV, indexAddrV, fieldV, partV, indexV, buildV, fillV, buildSliceV, litElems, appendV, appElems, elemOk, convertV, convV, winStr, makeSliceV, sliceV, natOf, Tryd.f24, Tryd.ti3, Tryd.ti5, Tryd.ti9, Tryd.ti23, Tryd.ti40, Tryd.ti63, keyS, h1, h2, h3, bytesOf]
    rw [i_loop (ts := [28, 29, 30, 31, 32, 35, 36, 37, 38, 39, 40, 41, 42, 43, 44, 45, 46, 47, 48, 49, 33, 34])]
    rotate_left
    · kernel_rfl
    refine i_at (fun i : {i : Nat // i ≤ v.s.length} => v.s.length - i.1) (fun i env => setV (setV env 4 (.int .i64 i.1)) 3 (.slice (.own 1) (.int .u8 3 :: (escS (v.s.take i.1)).map byV))) (fun i => [[V.int IntKind.i64 3, V.int IntKind.i64 v.n, V.str v.s], [V.tip ((escS (v.s.take i.1)).length + 1)]]) (fun i => some (.ret (.str (3 :: (escS v.s ++ [0, 1]))), [])) ⟨0, by omega⟩ (by simp [s_zero, s_succ, escS]) (by simp [escS]) rfl ?_
    intro ⟨i, hil⟩ ih
    try simp only at hil
    by_cases hi : i < v.s.length
    · have ih := ih ⟨i + 1, by omega⟩ (by simp only; omega)
      have hwi : IntKind.i64.wrap ((i : Int) + 1) = (i : Int) + 1 := wrap_i64 (by omega)
      obtain ⟨b, hb⟩ : ∃ b, v.s[i] = b := ⟨_, rfl⟩
      have hb' : v.s[i]? = some b := by rw [List.getElem?_eq_getElem hi, hb]
      have hlen := escS_len (v.s.take i)
      rw [List.length_take, Nat.min_eq_left hil] at hlen
      simp only [escS_succ v.s hi, hb, s_zero, s_succ, Int.natCast_add, Int.natCast_one, Int.cast_ofNat_Int] at ih
      generalize escS (v.s.take i) = acc at *
      have hbound : acc.length ≤ 70368744177662 := by omega
      have hbound2 : acc.length ≤ 70368744177661 := by omega
      have hi' : (i : Int) < v.s.length := by omega
      by_cases h0 : b = 0
      · subst h0
        simp [byV_eq] at ih
        simp [i_nil, i_blk, i_skip, i_ret, i_exit, i_seq, i_block, i_cond, i_region', i_ops_nil, i_ops, i_drawn', i_drw_nil, i_drw, u_nil, u_code, u_ops, u_drw, u_lp, u_again, u_exit, u_ret, u_panic, c_bool, o_some, o_val, o_panic, d_some, d_val, d_panic, w_none, w_fast, wantG, q_nil, q_zero, q_succ, t_zero, t_succ, g_zero, g_succ, s_zero, s_succ, s_some, s_none, v_tmp, v_const, v_func, f_quiet, ↓brB_true, ↓brB_false, ↓brB_dec, ↓brB_not, ↓brB_and, ↓brB_or, ↓brB_beq, ↓brB_bne, gc_none, gc_pure, wrap_i64, p_move, p_assign, p_pick, p_alloc, p_box, p_build, p_buildSlice, p_load, p_store, p_nilCheck, p_binOp, p_unOp, p_convert, p_makeSlice, p_makeInterface, p_makeFunc, p_slice, p_fieldAddr, p_field, p_indexAddr, p_index, p_extract, p_callv, p_callb, p_panic, quiet_val, new_val, e_assign, e_call, e_load, e_store, e_alloc, e_box, e_move, e_pick, e_build, e_buildSlice, e_nilCheck, e_binOp, e_unOp, e_convert, e_makeSlice, e_makeInterface, e_makeFunc, e_slice, e_fieldAddr, e_field, e_indexAddr, e_index, e_extract, e_panic, callD, fpRead, adopt, adoptL, ofValue, ofScalar, binOpV, unOpV, intBin, strBin, eqRes, veq, veqF, eqDepth, val?, finish, resL, r_tmp, r_cell, normL, normTop, tipIs, refsL, refs, ownRefs, single, frz, frzL, ren, renL, renOwn, callOp, doCall, backR, writeBack, builtinV, loadV, storeV, cellsAt, takeV, D.isAgg, overlay, vcells, cellOk, fieldAddrV, indexAddrV, fieldV, partV, indexV, buildV, fillV, buildSliceV, litElems, appendV, appElems, elemOk, convertV, convV, winStr, makeSliceV, sliceV, natOf, i_again, roundEnd, dropT, cleanV, Tryd.f24, Tryd.ti3, Tryd.ti5, Tryd.ti9, Tryd.ti23, Tryd.ti40, Tryd.ti63, hi, hi', hb, hb', byV_eq, hbound, hbound2, hwi, ih]
      · have h0' : ¬ (b.toNat : Int) = 0 := fun q => h0 ((u8_eq b 0 (by decide)).1 q)
        have h0n : ¬ b.toNat = 0 := by omega
        simp [h0, byV_eq] at ih
        simp [i_nil, i_blk, i_skip, i_ret, i_exit, i_seq, i_block, i_cond, i_region', i_ops_nil, i_ops, i_drawn', i_drw_nil, i_drw, u_nil, u_code, u_ops, u_drw, u_lp, u_again, u_exit, u_ret, u_panic, c_bool, o_some, o_val, o_panic, d_some, d_val, d_panic, w_none, w_fast, wantG, q_nil, q_zero, q_succ, t_zero, t_succ, g_zero, g_succ, s_zero, s_succ, s_some, s_none, v_tmp, v_const, v_func, f_quiet, ↓brB_true, ↓brB_false, ↓brB_dec, ↓brB_not, ↓brB_and, ↓brB_or, ↓brB_beq, ↓brB_bne, gc_none, gc_pure, wrap_i64, p_move, p_assign, p_pick, p_alloc, p_box, p_build, p_buildSlice, p_load, p_store, p_nilCheck, p_binOp, p_unOp, p_convert, p_makeSlice, p_makeInterface, p_makeFunc, p_slice, p_fieldAddr, p_field, p_indexAddr, p_index, p_extract, p_callv, p_callb, p_panic, quiet_val, new_val, e_assign, e_call, e_load, e_store, e_alloc, e_box, e_move, e_pick, e_build, e_buildSlice, e_nilCheck, e_binOp, e_unOp, e_convert, e_makeSlice, e_makeInterface, e_makeFunc, e_slice, e_fieldAddr, e_field, e_indexAddr, e_index, e_extract, e_panic, callD, fpRead, adopt, adoptL, ofValue, ofScalar, binOpV, unOpV, intBin, strBin, eqRes, veq, veqF, eqDepth, val?, finish, resL, r_tmp, r_cell, normL, normTop, tipIs, refsL, refs, ownRefs, single, frz, frzL, ren, renL, renOwn, callOp, doCall, backR, writeBack, builtinV, loadV, storeV, cellsAt, takeV, D.isAgg, overlay, vcells, cellOk, fieldAddrV, indexAddrV, fieldV, partV, indexV, buildV, fillV, buildSliceV, litElems, appendV, appElems, elemOk, convertV, convV, winStr, makeSliceV, sliceV, natOf, i_again, roundEnd, dropT, cleanV, Tryd.f24, Tryd.ti3, Tryd.ti5, Tryd.ti9, Tryd.ti23, Tryd.ti40, Tryd.ti63, hi, hi', hb, hb', h0', h0n, byV_eq, hbound, hwi, ih]
    · have ht : v.s.take i = v.s := List.take_of_length_le (by omega)
      have hlen := escS_len v.s
      rw [ht]
      generalize escS v.s = acc at *
      have hbound : acc.length ≤ 70368744177661 := by omega
      simp [i_nil, i_blk, i_skip, i_ret, i_exit, i_seq, i_block, i_cond, i_region', i_ops_nil, i_ops, i_drawn', i_drw_nil, i_drw, u_nil, u_code, u_ops, u_drw, u_lp, u_again, u_exit, u_ret, u_panic, c_bool, o_some, o_val, o_panic, d_some, d_val, d_panic, w_none, w_fast, wantG, q_nil, q_zero, q_succ, t_zero, t_succ, g_zero, g_succ, s_zero, s_succ, s_some, s_none, v_tmp, v_const, v_func, f_quiet, ↓brB_true, ↓brB_false, ↓brB_dec, ↓brB_not, ↓brB_and, ↓brB_or, ↓brB_beq, ↓brB_bne, gc_none, gc_pure, wrap_i64, p_move, p_assign, p_pick, p_alloc, p_box, p_build, p_buildSlice, p_load, p_store, p_nilCheck, p_binOp, p_unOp, p_convert, p_makeSlice, p_makeInterface, p_makeFunc, p_slice, p_fieldAddr, p_field, p_indexAddr, p_index, p_extract, p_callv, p_callb, p_panic, quiet_val, new_val, e_assign, e_call, e_load, e_store, e_alloc, e_box, e_move, e_pick, e_build, e_buildSlice, e_nilCheck, e_binOp, e_unOp, e_convert, e_makeSlice, e_makeInterface, e_makeFunc, e_slice, e_fieldAddr, e_field, e_indexAddr, e_index, e_extract, e_panic, callD, fpRead, adopt, adoptL, ofValue, ofScalar, binOpV, unOpV, intBin, strBin, eqRes, veq, veqF, eqDepth, val?, finish, resL, r_tmp, r_cell, normL, normTop, tipIs, refsL, refs, ownRefs, single, frz, frzL, ren, renL, renOwn, callOp, doCall, backR, writeBack, builtinV, loadV, storeV, cellsAt, takeV, D.isAgg, overlay, vcells, cellOk, fieldAddrV, indexAddrV, fieldV, partV, indexV, buildV, fillV, buildSliceV, litElems, appendV, appElems, elemOk, convertV, convV, winStr, makeSliceV, sliceV, natOf, i_again, roundEnd, dropT, cleanV, Tryd.f24, Tryd.ti3, Tryd.ti5, Tryd.ti9, Tryd.ti23, Tryd.ti40, Tryd.ti63, hi, byV_eq, hbound, bytesOf, bytesOf_app, bytesOf_map]
  simp [i_nil, i_blk, i_skip, i_ret, i_exit, i_seq, i_block, i_cond, i_region', i_ops_nil, i_ops, i_drawn', i_drw_nil, i_drw, u_nil, u_code, u_ops, u_drw, u_lp, u_again, u_exit, u_ret, u_panic, c_bool, o_some, o_val, o_panic, d_some, d_val, d_panic, w_none, w_fast, wantG, q_nil, q_zero, q_succ, t_zero, t_succ, g_zero, g_succ, s_zero, s_succ, s_some, s_none, v_tmp, v_const, v_func, f_quiet, ↓brB_true, ↓brB_false, ↓brB_dec, ↓brB_not, ↓brB_and, ↓brB_or, ↓brB_beq, ↓brB_bne, gc_none, gc_pure, wrap_i64, p_move, p_assign, p_pick, p_alloc, p_box, p_build, p_buildSlice, p_load, p_store, p_nilCheck, p_binOp, p_unOp, p_convert, p_makeSlice, p_makeInterface, p_makeFunc, p_slice, p_fieldAddr, p_field, p_indexAddr, p_index, p_extract, p_callv, p_callb, p_panic, quiet_val, new_val, e_assign, e_call, e_load, e_store, e_alloc, e_box, e_move, e_pick, e_build, e_buildSlice, e_nilCheck, e_binOp, e_unOp, e_convert, e_makeSlice, e_makeInterface, e_makeFunc, e_slice, e_fieldAddr, e_field, e_indexAddr, e_index, e_extract, e_panic, callD, fpRead, adopt, adoptL, ofValue, ofScalar, binOpV, unOpV, intBin, strBin, eqRes, veq, veqF, eqDepth, val?, finish, resL, r_tmp, r_cell, normL, normTop, tipIs, refsL, refs, ownRefs, single, frz, frzL, ren, renL, renOwn, callOp, doCall, backR, writeBack, builtinV, loadV, storeV, cellsAt, takeV, D.isAgg, overlay, vcells, cellOk, fieldAddrV, indexAddrV, fieldV, partV, indexV, buildV, fillV, buildSliceV, litElems, appendV, appElems, elemOk, convertV, convV, winStr, makeSliceV, sliceV, natOf, Tryd.f24, Tryd.ti3, Tryd.ti5, Tryd.ti9, Tryd.ti23, Tryd.ti40, Tryd.ti63, keyS, h1, h2, h3, bytesOf]
end Go.Abs
