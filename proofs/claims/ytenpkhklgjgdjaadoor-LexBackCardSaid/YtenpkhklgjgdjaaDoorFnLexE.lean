/- What the next token comes to. -/
import Derived.Test.YtenpkhklgjgdjaaDoorFnLexD
namespace Go.Abs
set_option linter.unusedSimpArgs false
set_option linter.unusedVariables false
open Go Go.Proofs

def symL : List (List UInt8) := [[60, 62], [60, 61], [62, 61], [60], [62], [61], [43], [45], [42], [40], [41], [44], [46], [59]]
theorem pfx_c2 (c d x y : UInt8) (t : List UInt8) : pfx (c :: d :: t) [x, y] = decide (c = x ∧ d = y) := by simp [pfx]
theorem pfx_c1 (c x : UInt8) (t : List UInt8) : pfx (c :: t) [x] = decide (c = x) := by simp [pfx]
theorem pfx_n2 (c x y : UInt8) : pfx [c] [x, y] = false := by simp [pfx]
theorem sym_find (c : UInt8) (t : List UInt8) : symL.find? (pfx (c :: t) ·) = if symS (c :: t) = 0 then none else some ((c :: t).take (symS (c :: t))) := by
  have one : ∀ t : List UInt8, [[60], [62], [61], [43], [45], [42], [40], [41], [44], [46], [59]].find? (pfx (c :: t) ·) = if [60, 62, 61, 43, 45, 42, 40, 41, 44, 46, 59].contains c then some [c] else none := by
    intro t
    simp only [List.find?, pfx_c1]
    by_cases h1 : c = 60
    · subst h1; rfl
    by_cases h2 : c = 62
    · subst h2; rfl
    by_cases h3 : c = 61
    · subst h3; rfl
    by_cases h4 : c = 43
    · subst h4; rfl
    by_cases h5 : c = 45
    · subst h5; rfl
    by_cases h6 : c = 42
    · subst h6; rfl
    by_cases h7 : c = 40
    · subst h7; rfl
    by_cases h8 : c = 41
    · subst h8; rfl
    by_cases h9 : c = 44
    · subst h9; rfl
    by_cases h10 : c = 46
    · subst h10; rfl
    by_cases h11 : c = 59
    · subst h11; rfl
    simp [h1, h2, h3, h4, h5, h6, h7, h8, h9, h10, h11]
  cases t with
  | nil =>
    have : symL.find? (pfx [c] ·) = [[60], [62], [61], [43], [45], [42], [40], [41], [44], [46], [59]].find? (pfx [c] ·) := by
      simp only [symL, List.find?_cons, pfx_n2]
    rw [this, one]
    simp only [symS]
    split <;> simp
  | cons d r =>
    have h3 : symL = [[60, 62], [60, 61], [62, 61]] ++ [[60], [62], [61], [43], [45], [42], [40], [41], [44], [46], [59]] := rfl
    rw [h3, List.find?_append, one]
    simp only [symS, List.find?_cons, List.find?_nil, pfx_c2]
    by_cases h1 : c = 60 ∧ d = 62
    · obtain ⟨rfl, rfl⟩ := h1; simp
    by_cases h2 : c = 60 ∧ d = 61
    · obtain ⟨rfl, rfl⟩ := h2; simp
    by_cases h4 : c = 62 ∧ d = 61
    · obtain ⟨rfl, rfl⟩ := h4; simp
    simp only [h1, h2, h4, decide_false, or_self, if_false, Option.none_or]
    split <;> simp

def symO (k : Nat) (s : List UInt8) : Option (List UInt8) → Option (Out × St)
  | none => tokO k s k none
  | some y => tokO k s ((k : Int) + y.length) (some ⟨5, 0, k, y⟩)
def nextO (s : List UInt8) (k : Nat) : Option (Out × St) :=
  match s.drop k with
  | [] => tokO k s k (some ⟨0, 0, k, []⟩)
  | c :: t => if isRun c then tokO k s ((k : Int) + ((c :: t).takeWhile isRun).length) (runS k ((c :: t).takeWhile isRun))
    else if c = 39 then textO k s (quoteS [] t) else symO k s (symL.find? (pfx (c :: t) ·))

set_option maxRecDepth 100000 in
set_option maxHeartbeats 4000000 in
theorem ev_next (s : List UInt8) (hs : s.length ≤ 1048576) (j : Nat) (hj : j ≤ s.length) : EV 14 [.box 0 0] [[.str s, .int .i64 j]] = nextO s (j + blanks (s.drop j)) := by
  have hw := ev_while 25 isBlk ev_blank s (by omega) j hj
  have hle := takeWhile_len (p := isBlk) (s.drop j)
  rw [List.length_drop] at hle
  have hb : ((s.drop j).takeWhile isBlk).length = blanks (s.drop j) := rfl
  rw [hb] at hw hle
  obtain ⟨k, hk⟩ : ∃ k, j + blanks (s.drop j) = k := ⟨_, rfl⟩
  have hk' : (j : Int) + blanks (s.drop j) = k := by omega
  rw [hk'] at hw
  rw [hk]
  have hks : k ≤ s.length := by omega
  generalize (s.drop j).takeWhile isBlk = bl at hw
  clear hb hk hk' hle
  rw [EV_mki rfl Tryd.func14 rfl (by kernel_rfl)]
  by_cases he : k = s.length
  · subst he
    have hd : s.drop s.length = [] := List.drop_length
    simp [nextO, hd, i_nil, i_blk, i_skip, i_ret, i_exit, i_seq, i_block, i_cond, i_region', i_ops_nil, i_ops, i_drawn', d_in, a_nil, a_cons, alt1, h_nil, h_one, h_two, z_nil, z_cons, z_cells, zeqL, zeq, q_alloc, q_some, isAlO, nxtN, i_drh, d_hi, i_drw_nil, i_drw, u_nil, u_code, u_ops, u_drw, u_lp, u_again, u_exit, u_ret, u_panic, c_bool, o_some, o_val, o_panic, d_some, d_val, d_panic, w_none, w_fast, wantG, q_nil, q_zero, q_succ, t_zero, t_succ, g_zero, g_succ, s_zero, s_succ, s_some, s_none, v_tmp, v_const, v_func, f_quiet, ↓brB_true, ↓brB_false, ↓brB_dec, ↓brB_not, ↓brB_and, ↓brB_or, ↓brB_beq, ↓brB_bne, gc_none, gc_pure, wrap_i64, p_move, p_assign, p_pick, p_alloc, p_box, p_build, p_buildSlice, p_load, p_store, p_nilCheck, p_binOp, n_tmp, n_int, n_bool, n_str, n_ptr, n_fun, n_iface, nilCmp, p_unOp, p_convert, p_makeSlice, p_makeInterface, p_makeFunc, p_slice, p_fieldAddr, p_field, p_indexAddr, p_index, p_extract, p_callv, p_callb, p_panic, quiet_val, new_val, e_assign, e_call, e_load, e_store, e_alloc, e_box, e_move, e_pick, e_build, e_buildSlice, e_nilCheck, e_binOp, e_unOp, e_convert, e_makeSlice, e_makeInterface, e_makeFunc, e_slice, e_fieldAddr, e_field, e_indexAddr, e_index, e_extract, e_panic, callD, fpRead, adopt, adoptL, ofValue, ofScalar, binOpV, unOpV, intBin, strBin, eqRes, veq, veqF, eqDepth, val?, finish, resL, r_tmp, r_cell, normL, normTop, tipIs, refsL, refs, ownRefs, single, frz, frzL, ren, renL, renOwn, callOp, doCall, backR, writeBack, builtinV, loadV, storeV, cellsAt, takeV, D.isAgg, overlay, vcells, cellOk, fieldAddrV, indexAddrV, fieldV, partV, indexV, buildV, fillV, buildSliceV, litElems, appendV, appElems, elemOk, convertV, convV, winStr, makeSliceV, sliceV, natOf, Tryd.f14, Tryd.ti3, Tryd.ti5, Tryd.ti9, Tryd.ti36, Tryd.ti41, Tryd.ti51, hw, tokO, Tok.enc_eq, gc, reach, reachFuel, shut, nodup, List.idxOf, List.findIdx, List.findIdx.go, List.range, List.range.loop, backR]
  · have hlt : k < s.length := by omega
    have he' : ¬ (k : Int) = s.length := by omega
    have hd : s.drop k = s[k] :: s.drop (k + 1) := List.drop_eq_getElem_cons hlt
    obtain ⟨c, hc⟩ : ∃ m, s[k] = m := ⟨_, rfl⟩
    have hcc : s[k]? = some c := by rw [List.getElem?_eq_getElem hlt, hc]
    rw [hc] at hd
    have hr := ev_run s hs k hks
    have ht := ev_text s hs k hlt
    have hin := ev_inrun c
    unfold nextO
    rw [hd] at hr ⊢
    simp only
    by_cases c1 : isRun c = true
    · rw [c1] at hin
      rw [if_pos c1]
      generalize runS k ((c :: s.drop (k + 1)).takeWhile isRun) = o at *
      generalize (k : Int) + ((c :: s.drop (k + 1)).takeWhile isRun).length = q at *
      cases o <;> simp only [tokO, Tok.enc_eq] at hr ⊢ <;> simp [i_nil, i_blk, i_skip, i_ret, i_exit, i_seq, i_block, i_cond, i_region', i_ops_nil, i_ops, i_drawn', d_in, a_nil, a_cons, alt1, h_nil, h_one, h_two, z_nil, z_cons, z_cells, zeqL, zeq, q_alloc, q_some, isAlO, nxtN, i_drh, d_hi, i_drw_nil, i_drw, u_nil, u_code, u_ops, u_drw, u_lp, u_again, u_exit, u_ret, u_panic, c_bool, o_some, o_val, o_panic, d_some, d_val, d_panic, w_none, w_fast, wantG, q_nil, q_zero, q_succ, t_zero, t_succ, g_zero, g_succ, s_zero, s_succ, s_some, s_none, v_tmp, v_const, v_func, f_quiet, ↓brB_true, ↓brB_false, ↓brB_dec, ↓brB_not, ↓brB_and, ↓brB_or, ↓brB_beq, ↓brB_bne, gc_none, gc_pure, wrap_i64, p_move, p_assign, p_pick, p_alloc, p_box, p_build, p_buildSlice, p_load, p_store, p_nilCheck, p_binOp, n_tmp, n_int, n_bool, n_str, n_ptr, n_fun, n_iface, nilCmp, p_unOp, p_convert, p_makeSlice, p_makeInterface, p_makeFunc, p_slice, p_fieldAddr, p_field, p_indexAddr, p_index, p_extract, p_callv, p_callb, p_panic, quiet_val, new_val, e_assign, e_call, e_load, e_store, e_alloc, e_box, e_move, e_pick, e_build, e_buildSlice, e_nilCheck, e_binOp, e_unOp, e_convert, e_makeSlice, e_makeInterface, e_makeFunc, e_slice, e_fieldAddr, e_field, e_indexAddr, e_index, e_extract, e_panic, callD, fpRead, adopt, adoptL, ofValue, ofScalar, binOpV, unOpV, intBin, strBin, eqRes, veq, veqF, eqDepth, val?, finish, resL, r_tmp, r_cell, normL, normTop, tipIs, refsL, refs, ownRefs, single, frz, frzL, ren, renL, renOwn, callOp, doCall, backR, writeBack, builtinV, loadV, storeV, cellsAt, takeV, D.isAgg, overlay, vcells, cellOk, fieldAddrV, indexAddrV, fieldV, partV, indexV, buildV, fillV, buildSliceV, litElems, appendV, appElems, elemOk, convertV, convV, winStr, makeSliceV, sliceV, natOf, Tryd.f14, Tryd.ti3, Tryd.ti5, Tryd.ti9, Tryd.ti36, Tryd.ti41, Tryd.ti51, hw, hr, hin, he, he', hlt, hc, hcc, gc, reach, reachFuel, shut, nodup, List.idxOf, List.findIdx, List.findIdx.go, List.range, List.range.loop, backR]
    · rw [Bool.not_eq_true] at c1
      rw [c1] at hin
      rw [if_neg (by simp [c1])]
      by_cases c2 : c = 39
      · rw [if_pos c2]
        subst c2
        have hin : EV 26 [.int .u8 39] [] = some (.ret (.bool false), []) := hin
        cases hq : quoteS [] (s.drop (k + 1)) with
        | none =>
          rw [hq] at ht
          simp only [textO, tokO, Tok.enc_eq] at ht ⊢
          simp [i_nil, i_blk, i_skip, i_ret, i_exit, i_seq, i_block, i_cond, i_region', i_ops_nil, i_ops, i_drawn', d_in, a_nil, a_cons, alt1, h_nil, h_one, h_two, z_nil, z_cons, z_cells, zeqL, zeq, q_alloc, q_some, isAlO, nxtN, i_drh, d_hi, i_drw_nil, i_drw, u_nil, u_code, u_ops, u_drw, u_lp, u_again, u_exit, u_ret, u_panic, c_bool, o_some, o_val, o_panic, d_some, d_val, d_panic, w_none, w_fast, wantG, q_nil, q_zero, q_succ, t_zero, t_succ, g_zero, g_succ, s_zero, s_succ, s_some, s_none, v_tmp, v_const, v_func, f_quiet, ↓brB_true, ↓brB_false, ↓brB_dec, ↓brB_not, ↓brB_and, ↓brB_or, ↓brB_beq, ↓brB_bne, gc_none, gc_pure, wrap_i64, p_move, p_assign, p_pick, p_alloc, p_box, p_build, p_buildSlice, p_load, p_store, p_nilCheck, p_binOp, n_tmp, n_int, n_bool, n_str, n_ptr, n_fun, n_iface, nilCmp, p_unOp, p_convert, p_makeSlice, p_makeInterface, p_makeFunc, p_slice, p_fieldAddr, p_field, p_indexAddr, p_index, p_extract, p_callv, p_callb, p_panic, quiet_val, new_val, e_assign, e_call, e_load, e_store, e_alloc, e_box, e_move, e_pick, e_build, e_buildSlice, e_nilCheck, e_binOp, e_unOp, e_convert, e_makeSlice, e_makeInterface, e_makeFunc, e_slice, e_fieldAddr, e_field, e_indexAddr, e_index, e_extract, e_panic, callD, fpRead, adopt, adoptL, ofValue, ofScalar, binOpV, unOpV, intBin, strBin, eqRes, veq, veqF, eqDepth, val?, finish, resL, r_tmp, r_cell, normL, normTop, tipIs, refsL, refs, ownRefs, single, frz, frzL, ren, renL, renOwn, callOp, doCall, backR, writeBack, builtinV, loadV, storeV, cellsAt, takeV, D.isAgg, overlay, vcells, cellOk, fieldAddrV, indexAddrV, fieldV, partV, indexV, buildV, fillV, buildSliceV, litElems, appendV, appElems, elemOk, convertV, convV, winStr, makeSliceV, sliceV, natOf, Tryd.f14, Tryd.ti3, Tryd.ti5, Tryd.ti9, Tryd.ti36, Tryd.ti41, Tryd.ti51, hw, ht, hin, he, he', hlt, hc, hcc, gc, reach, reachFuel, shut, nodup, List.idxOf, List.findIdx, List.findIdx.go, List.range, List.range.loop, backR]
        | some p =>
          obtain ⟨a, u⟩ := p
          rw [hq] at ht
          simp only [textO] at ht ⊢
          by_cases h24 : a.length ≤ 24
          · simp only [h24, if_true, tokO, Tok.enc_eq] at ht ⊢
            simp [i_nil, i_blk, i_skip, i_ret, i_exit, i_seq, i_block, i_cond, i_region', i_ops_nil, i_ops, i_drawn', d_in, a_nil, a_cons, alt1, h_nil, h_one, h_two, z_nil, z_cons, z_cells, zeqL, zeq, q_alloc, q_some, isAlO, nxtN, i_drh, d_hi, i_drw_nil, i_drw, u_nil, u_code, u_ops, u_drw, u_lp, u_again, u_exit, u_ret, u_panic, c_bool, o_some, o_val, o_panic, d_some, d_val, d_panic, w_none, w_fast, wantG, q_nil, q_zero, q_succ, t_zero, t_succ, g_zero, g_succ, s_zero, s_succ, s_some, s_none, v_tmp, v_const, v_func, f_quiet, ↓brB_true, ↓brB_false, ↓brB_dec, ↓brB_not, ↓brB_and, ↓brB_or, ↓brB_beq, ↓brB_bne, gc_none, gc_pure, wrap_i64, p_move, p_assign, p_pick, p_alloc, p_box, p_build, p_buildSlice, p_load, p_store, p_nilCheck, p_binOp, n_tmp, n_int, n_bool, n_str, n_ptr, n_fun, n_iface, nilCmp, p_unOp, p_convert, p_makeSlice, p_makeInterface, p_makeFunc, p_slice, p_fieldAddr, p_field, p_indexAddr, p_index, p_extract, p_callv, p_callb, p_panic, quiet_val, new_val, e_assign, e_call, e_load, e_store, e_alloc, e_box, e_move, e_pick, e_build, e_buildSlice, e_nilCheck, e_binOp, e_unOp, e_convert, e_makeSlice, e_makeInterface, e_makeFunc, e_slice, e_fieldAddr, e_field, e_indexAddr, e_index, e_extract, e_panic, callD, fpRead, adopt, adoptL, ofValue, ofScalar, binOpV, unOpV, intBin, strBin, eqRes, veq, veqF, eqDepth, val?, finish, resL, r_tmp, r_cell, normL, normTop, tipIs, refsL, refs, ownRefs, single, frz, frzL, ren, renL, renOwn, callOp, doCall, backR, writeBack, builtinV, loadV, storeV, cellsAt, takeV, D.isAgg, overlay, vcells, cellOk, fieldAddrV, indexAddrV, fieldV, partV, indexV, buildV, fillV, buildSliceV, litElems, appendV, appElems, elemOk, convertV, convV, winStr, makeSliceV, sliceV, natOf, Tryd.f14, Tryd.ti3, Tryd.ti5, Tryd.ti9, Tryd.ti36, Tryd.ti41, Tryd.ti51, hw, ht, hin, he, he', hlt, hc, hcc, gc, reach, reachFuel, shut, nodup, List.idxOf, List.findIdx, List.findIdx.go, List.range, List.range.loop, backR]
          · simp only [h24, if_false, tokO, Tok.enc_eq] at ht ⊢
            simp [i_nil, i_blk, i_skip, i_ret, i_exit, i_seq, i_block, i_cond, i_region', i_ops_nil, i_ops, i_drawn', d_in, a_nil, a_cons, alt1, h_nil, h_one, h_two, z_nil, z_cons, z_cells, zeqL, zeq, q_alloc, q_some, isAlO, nxtN, i_drh, d_hi, i_drw_nil, i_drw, u_nil, u_code, u_ops, u_drw, u_lp, u_again, u_exit, u_ret, u_panic, c_bool, o_some, o_val, o_panic, d_some, d_val, d_panic, w_none, w_fast, wantG, q_nil, q_zero, q_succ, t_zero, t_succ, g_zero, g_succ, s_zero, s_succ, s_some, s_none, v_tmp, v_const, v_func, f_quiet, ↓brB_true, ↓brB_false, ↓brB_dec, ↓brB_not, ↓brB_and, ↓brB_or, ↓brB_beq, ↓brB_bne, gc_none, gc_pure, wrap_i64, p_move, p_assign, p_pick, p_alloc, p_box, p_build, p_buildSlice, p_load, p_store, p_nilCheck, p_binOp, n_tmp, n_int, n_bool, n_str, n_ptr, n_fun, n_iface, nilCmp, p_unOp, p_convert, p_makeSlice, p_makeInterface, p_makeFunc, p_slice, p_fieldAddr, p_field, p_indexAddr, p_index, p_extract, p_callv, p_callb, p_panic, quiet_val, new_val, e_assign, e_call, e_load, e_store, e_alloc, e_box, e_move, e_pick, e_build, e_buildSlice, e_nilCheck, e_binOp, e_unOp, e_convert, e_makeSlice, e_makeInterface, e_makeFunc, e_slice, e_fieldAddr, e_field, e_indexAddr, e_index, e_extract, e_panic, callD, fpRead, adopt, adoptL, ofValue, ofScalar, binOpV, unOpV, intBin, strBin, eqRes, veq, veqF, eqDepth, val?, finish, resL, r_tmp, r_cell, normL, normTop, tipIs, refsL, refs, ownRefs, single, frz, frzL, ren, renL, renOwn, callOp, doCall, backR, writeBack, builtinV, loadV, storeV, cellsAt, takeV, D.isAgg, overlay, vcells, cellOk, fieldAddrV, indexAddrV, fieldV, partV, indexV, buildV, fillV, buildSliceV, litElems, appendV, appElems, elemOk, convertV, convV, winStr, makeSliceV, sliceV, natOf, Tryd.f14, Tryd.ti3, Tryd.ti5, Tryd.ti9, Tryd.ti36, Tryd.ti41, Tryd.ti51, hw, ht, hin, he, he', hlt, hc, hcc, gc, reach, reachFuel, shut, nodup, List.idxOf, List.findIdx, List.findIdx.go, List.range, List.range.loop, backR]
      · rw [if_neg c2]
        have h39' : ¬ (c.toNat : Int) = 39 := fun e => c2 (UInt8.toNat_inj.1 (by have : (39 : UInt8).toNat = 39 := rfl; omega))
        simp [i_nil, i_blk, i_skip, i_ret, i_exit, i_seq, i_block, i_cond, i_region', i_ops_nil, i_ops, i_drawn', d_in, a_nil, a_cons, alt1, h_nil, h_one, h_two, z_nil, z_cons, z_cells, zeqL, zeq, q_alloc, q_some, isAlO, nxtN, i_drh, d_hi, i_drw_nil, i_drw, u_nil, u_code, u_ops, u_drw, u_lp, u_again, u_exit, u_ret, u_panic, c_bool, o_some, o_val, o_panic, d_some, d_val, d_panic, w_none, w_fast, wantG, q_nil, q_zero, q_succ, t_zero, t_succ, g_zero, g_succ, s_zero, s_succ, s_some, s_none, v_tmp, v_const, v_func, f_quiet, ↓brB_true, ↓brB_false, ↓brB_dec, ↓brB_not, ↓brB_and, ↓brB_or, ↓brB_beq, ↓brB_bne, gc_none, gc_pure, wrap_i64, p_move, p_assign, p_pick, p_alloc, p_box, p_build, p_buildSlice, p_load, p_store, p_nilCheck, p_binOp, n_tmp, n_int, n_bool, n_str, n_ptr, n_fun, n_iface, nilCmp, p_unOp, p_convert, p_makeSlice, p_makeInterface, p_makeFunc, p_slice, p_fieldAddr, p_field, p_indexAddr, p_index, p_extract, p_callv, p_callb, p_panic, quiet_val, new_val, e_assign, e_call, e_load, e_store, e_alloc, e_box, e_move, e_pick, e_build, e_buildSlice, e_nilCheck, e_binOp, e_unOp, e_convert, e_makeSlice, e_makeInterface, e_makeFunc, e_slice, e_fieldAddr, e_field, e_indexAddr, e_index, e_extract, e_panic, callD, fpRead, adopt, adoptL, ofValue, ofScalar, binOpV, unOpV, intBin, strBin, eqRes, veq, veqF, eqDepth, val?, finish, resL, r_tmp, r_cell, normL, normTop, tipIs, refsL, refs, ownRefs, single, frz, frzL, ren, renL, renOwn, callOp, doCall, backR, writeBack, builtinV, loadV, storeV, cellsAt, takeV, D.isAgg, overlay, vcells, cellOk, fieldAddrV, indexAddrV, fieldV, partV, indexV, buildV, fillV, buildSliceV, litElems, appendV, appElems, elemOk, convertV, convV, winStr, makeSliceV, sliceV, natOf, Tryd.f14, Tryd.ti3, Tryd.ti5, Tryd.ti9, Tryd.ti36, Tryd.ti41, Tryd.ti51, hw, hin, he, he', hlt, hc, hcc, h39', gc, reach, reachFuel, shut, nodup, List.idxOf, List.findIdx, List.findIdx.go, List.range, List.range.loop, backR]
        rw [show ([V.str [60, 62], V.str [60, 61], V.str [62, 61], V.str [60], V.str [62], V.str [61], V.str [43], V.str [45], V.str [42], V.str [40], V.str [41], V.str [44], V.str [46], V.str [59]] : List V) = symL.map V.str from rfl, ← hd]
        have hsl : symL.length = 14 := rfl
        have hsz : ∀ y ∈ symL, y.length ≤ 2 := by decide
        generalize symL = L at hsl hsz ⊢
        rw [i_loop (ts := [47, 48, 49, 5, 50, 51, 52, 53, 54, 55, 56, 57, 58, 59, 60, 61, 62, 63, 64, 65, 66, 67, 68, 69, 70])]
        rotate_left
        · kernel_rfl
        refine i_at (fun i : Nat => L.length - i) (fun i env => setV env 46 (.int .i64 i)) (fun _ => _) (fun i => symO k s ((L.drop i).find? (pfx (s.drop k) ·))) 0 (by simp [s_zero, s_succ]) rfl (by simp) ?_
        intro i ih
        by_cases hi : i < L.length
        · have ih := ih (i + 1) (by omega)
          have hi14 : (i : Int) < 14 := by omega
          have hwi : IntKind.i64.wrap ((i : Int) + 1) = (i : Int) + 1 := wrap_i64 (by omega)
          have hL : L.drop i = L[i] :: L.drop (i + 1) := List.drop_eq_getElem_cons hi
          obtain ⟨y, hy⟩ : ∃ m, L[i] = m := ⟨_, rfl⟩
          have hyy : L[i]? = some y := by rw [List.getElem?_eq_getElem hi, hy]
          have hyl := hsz y (hy ▸ List.getElem_mem hi)
          have hp := ev_prefix (s.drop k) y
          have hwy : IntKind.i64.wrap ((k : Int) + y.length) = (k : Int) + y.length := wrap_i64 (by omega)
          rw [hL, hy, List.find?_cons]
          simp only [s_zero, s_succ, Int.natCast_add, Int.natCast_one, Int.cast_ofNat_Int] at ih
          generalize pfx (s.drop k) y = b at *
          cases b with
          | true => simp [i_nil, i_blk, i_skip, i_ret, i_exit, i_seq, i_block, i_cond, i_region', i_ops_nil, i_ops, i_drawn', d_in, a_nil, a_cons, alt1, h_nil, h_one, h_two, z_nil, z_cons, z_cells, zeqL, zeq, q_alloc, q_some, isAlO, nxtN, i_drh, d_hi, i_drw_nil, i_drw, u_nil, u_code, u_ops, u_drw, u_lp, u_again, u_exit, u_ret, u_panic, c_bool, o_some, o_val, o_panic, d_some, d_val, d_panic, w_none, w_fast, wantG, q_nil, q_zero, q_succ, t_zero, t_succ, g_zero, g_succ, s_zero, s_succ, s_some, s_none, v_tmp, v_const, v_func, f_quiet, ↓brB_true, ↓brB_false, ↓brB_dec, ↓brB_not, ↓brB_and, ↓brB_or, ↓brB_beq, ↓brB_bne, gc_none, gc_pure, wrap_i64, p_move, p_assign, p_pick, p_alloc, p_box, p_build, p_buildSlice, p_load, p_store, p_nilCheck, p_binOp, n_tmp, n_int, n_bool, n_str, n_ptr, n_fun, n_iface, nilCmp, p_unOp, p_convert, p_makeSlice, p_makeInterface, p_makeFunc, p_slice, p_fieldAddr, p_field, p_indexAddr, p_index, p_extract, p_callv, p_callb, p_panic, quiet_val, new_val, e_assign, e_call, e_load, e_store, e_alloc, e_box, e_move, e_pick, e_build, e_buildSlice, e_nilCheck, e_binOp, e_unOp, e_convert, e_makeSlice, e_makeInterface, e_makeFunc, e_slice, e_fieldAddr, e_field, e_indexAddr, e_index, e_extract, e_panic, callD, fpRead, adopt, adoptL, ofValue, ofScalar, binOpV, unOpV, intBin, strBin, eqRes, veq, veqF, eqDepth, val?, finish, resL, r_tmp, r_cell, normL, normTop, tipIs, refsL, refs, ownRefs, single, frz, frzL, ren, renL, renOwn, callOp, doCall, backR, writeBack, builtinV, loadV, storeV, cellsAt, takeV, D.isAgg, overlay, vcells, cellOk, fieldAddrV, indexAddrV, fieldV, partV, indexV, buildV, fillV, buildSliceV, litElems, appendV, appElems, elemOk, convertV, convV, winStr, makeSliceV, sliceV, natOf, i_again, roundEnd, dropT, cleanV, Tryd.f14, Tryd.ti3, Tryd.ti5, Tryd.ti9, Tryd.ti36, Tryd.ti41, Tryd.ti51, hi, hi14, hy, hyy, hp, hks, hwy, symO, tokO, Tok.enc_eq, gc, reach, reachFuel, shut, nodup, List.idxOf, List.findIdx, List.findIdx.go, List.range, List.range.loop, backR]
          | false => simp [i_nil, i_blk, i_skip, i_ret, i_exit, i_seq, i_block, i_cond, i_region', i_ops_nil, i_ops, i_drawn', d_in, a_nil, a_cons, alt1, h_nil, h_one, h_two, z_nil, z_cons, z_cells, zeqL, zeq, q_alloc, q_some, isAlO, nxtN, i_drh, d_hi, i_drw_nil, i_drw, u_nil, u_code, u_ops, u_drw, u_lp, u_again, u_exit, u_ret, u_panic, c_bool, o_some, o_val, o_panic, d_some, d_val, d_panic, w_none, w_fast, wantG, q_nil, q_zero, q_succ, t_zero, t_succ, g_zero, g_succ, s_zero, s_succ, s_some, s_none, v_tmp, v_const, v_func, f_quiet, ↓brB_true, ↓brB_false, ↓brB_dec, ↓brB_not, ↓brB_and, ↓brB_or, ↓brB_beq, ↓brB_bne, gc_none, gc_pure, wrap_i64, p_move, p_assign, p_pick, p_alloc, p_box, p_build, p_buildSlice, p_load, p_store, p_nilCheck, p_binOp, n_tmp, n_int, n_bool, n_str, n_ptr, n_fun, n_iface, nilCmp, p_unOp, p_convert, p_makeSlice, p_makeInterface, p_makeFunc, p_slice, p_fieldAddr, p_field, p_indexAddr, p_index, p_extract, p_callv, p_callb, p_panic, quiet_val, new_val, e_assign, e_call, e_load, e_store, e_alloc, e_box, e_move, e_pick, e_build, e_buildSlice, e_nilCheck, e_binOp, e_unOp, e_convert, e_makeSlice, e_makeInterface, e_makeFunc, e_slice, e_fieldAddr, e_field, e_indexAddr, e_index, e_extract, e_panic, callD, fpRead, adopt, adoptL, ofValue, ofScalar, binOpV, unOpV, intBin, strBin, eqRes, veq, veqF, eqDepth, val?, finish, resL, r_tmp, r_cell, normL, normTop, tipIs, refsL, refs, ownRefs, single, frz, frzL, ren, renL, renOwn, callOp, doCall, backR, writeBack, builtinV, loadV, storeV, cellsAt, takeV, D.isAgg, overlay, vcells, cellOk, fieldAddrV, indexAddrV, fieldV, partV, indexV, buildV, fillV, buildSliceV, litElems, appendV, appElems, elemOk, convertV, convV, winStr, makeSliceV, sliceV, natOf, i_again, roundEnd, dropT, cleanV, Tryd.f14, Tryd.ti3, Tryd.ti5, Tryd.ti9, Tryd.ti36, Tryd.ti41, Tryd.ti51, hi, hi14, hy, hyy, hp, hks, hwi, ih]
        · have hi14 : ¬ (i : Int) < 14 := by omega
          have hL : L.drop i = [] := List.drop_eq_nil_of_le (by omega)
          rw [hL]
          simp [i_nil, i_blk, i_skip, i_ret, i_exit, i_seq, i_block, i_cond, i_region', i_ops_nil, i_ops, i_drawn', d_in, a_nil, a_cons, alt1, h_nil, h_one, h_two, z_nil, z_cons, z_cells, zeqL, zeq, q_alloc, q_some, isAlO, nxtN, i_drh, d_hi, i_drw_nil, i_drw, u_nil, u_code, u_ops, u_drw, u_lp, u_again, u_exit, u_ret, u_panic, c_bool, o_some, o_val, o_panic, d_some, d_val, d_panic, w_none, w_fast, wantG, q_nil, q_zero, q_succ, t_zero, t_succ, g_zero, g_succ, s_zero, s_succ, s_some, s_none, v_tmp, v_const, v_func, f_quiet, ↓brB_true, ↓brB_false, ↓brB_dec, ↓brB_not, ↓brB_and, ↓brB_or, ↓brB_beq, ↓brB_bne, gc_none, gc_pure, wrap_i64, p_move, p_assign, p_pick, p_alloc, p_box, p_build, p_buildSlice, p_load, p_store, p_nilCheck, p_binOp, n_tmp, n_int, n_bool, n_str, n_ptr, n_fun, n_iface, nilCmp, p_unOp, p_convert, p_makeSlice, p_makeInterface, p_makeFunc, p_slice, p_fieldAddr, p_field, p_indexAddr, p_index, p_extract, p_callv, p_callb, p_panic, quiet_val, new_val, e_assign, e_call, e_load, e_store, e_alloc, e_box, e_move, e_pick, e_build, e_buildSlice, e_nilCheck, e_binOp, e_unOp, e_convert, e_makeSlice, e_makeInterface, e_makeFunc, e_slice, e_fieldAddr, e_field, e_indexAddr, e_index, e_extract, e_panic, callD, fpRead, adopt, adoptL, ofValue, ofScalar, binOpV, unOpV, intBin, strBin, eqRes, veq, veqF, eqDepth, val?, finish, resL, r_tmp, r_cell, normL, normTop, tipIs, refsL, refs, ownRefs, single, frz, frzL, ren, renL, renOwn, callOp, doCall, backR, writeBack, builtinV, loadV, storeV, cellsAt, takeV, D.isAgg, overlay, vcells, cellOk, fieldAddrV, indexAddrV, fieldV, partV, indexV, buildV, fillV, buildSliceV, litElems, appendV, appElems, elemOk, convertV, convV, winStr, makeSliceV, sliceV, natOf, i_again, roundEnd, dropT, cleanV, Tryd.f14, Tryd.ti3, Tryd.ti5, Tryd.ti9, Tryd.ti36, Tryd.ti41, Tryd.ti51, hi, hi14, ev_stop, symO, tokO, gc, reach, reachFuel, shut, nodup, List.idxOf, List.findIdx, List.findIdx.go, List.range, List.range.loop, backR]
end Go.Abs
