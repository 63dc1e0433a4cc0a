/- ExprShort comes back with true for all nodes and rows. -/
import Derived.Test.YtmjfninbnlhmoaaFnShort
namespace Go.Abs
set_option linter.unusedSimpArgs false
set_option linter.unusedVariables false
open Go Go.Proofs

set_option maxRecDepth 100000 in
set_option maxHeartbeats 4000000 in
theorem short_long (op op' s s' : List UInt8) (k n var col k' n' var' col' : Int) (ks ks' rs : List V) (hlong : EV 7 [.slice .froz [.agg [.str op, .int .i64 k, .int .i64 n, .str s, .int .i64 var, .int .i64 col, .slice .froz ks], .agg [.str op', .int .i64 k', .int .i64 n', .str s', .int .i64 var', .int .i64 col', .slice .froz ks']], .slice .froz rs] [] = some (.ret (.bool true), [])) :
    EV 3 [.agg [.str op, .int .i64 k, .int .i64 n, .str s, .int .i64 var, .int .i64 col, .slice .froz ks], .agg [.str op', .int .i64 k', .int .i64 n', .str s', .int .i64 var', .int .i64 col', .slice .froz ks'], .slice .froz rs] [] = some (.ret (.bool true), []) := by
  rw [EV_mki rfl Try.func3 rfl (by kernel_rfl)]
  simp [i_nil, i_blk, i_skip, i_ret, i_exit, i_seq, i_block, i_cond, i_region', i_ops_nil, i_ops, i_drawn', i_drw_nil, i_drw, u_nil, u_code, u_ops, u_drw, u_lp, u_again, u_exit, u_ret, u_panic, c_bool, o_some, o_val, o_panic, d_some, d_val, d_panic, w_none, w_fast, wantG, q_nil, q_zero, q_succ, t_zero, t_succ, g_zero, g_succ, s_zero, s_succ, s_some, s_none, v_tmp, v_const, v_func, f_quiet, ↓brB_true, ↓brB_false, ↓brB_dec, ↓brB_not, ↓brB_and, ↓brB_or, ↓brB_beq, ↓brB_bne, gc_none, gc_pure, wrap_i64, p_move, p_assign, p_pick, p_alloc, p_box, p_build, p_buildSlice, p_load, p_store, p_nilCheck, p_binOp, p_unOp, p_convert, p_makeInterface, p_makeFunc, p_slice, p_fieldAddr, p_field, p_indexAddr, p_index, p_extract, p_callv, p_callb, p_panic, quiet_val, new_val, e_assign, e_call, e_load, e_store, e_alloc, e_box, e_move, e_pick, e_build, e_buildSlice, e_nilCheck, e_binOp, e_unOp, e_convert, e_makeInterface, e_makeFunc, e_slice, e_fieldAddr, e_field, e_indexAddr, e_index, e_extract, e_panic, callD, fpRead, adopt, adoptL, ofValue, ofScalar, binOpV, unOpV, intBin, strBin, eqRes, veq, veqF, eqDepth, val?, finish, resL, r_tmp, r_cell, normL, normTop, tipIs, refsL, refs, ownRefs, single, frz, frzL, ren, renL, renOwn, callOp, doCall, backR, writeBack, builtinV, loadV, storeV, cellsAt, takeV, D.isAgg, overlay, vcells, cellOk, fieldAddrV, indexAddrV, fieldV, partV, indexV, buildV, fillV, buildSliceV, litElems, appendV, appElems, elemOk, convertV, sliceV, natOf, Try.f3, Try.ti3, Try.ti9, Try.ti23, Try.ti24, Try.ti26, Try.ti30, Try.ti33, ev_awake, hlong]

theorem ev_short (a b : Node) (ha : a.ok) (hb : b.ok) (rows : List (List Val)) : EV 3 [a.enc, b.enc, .slice .froz (rowsE rows)] [] = some (.ret (.bool true), []) := by
  have hlong := ev_long [a, b] (by simp [ha, hb]) rows
  have h0 := short_both (op := [97, 110, 100]) (jS := andS) rows 0 (.inl rfl) ⟨0, 0, []⟩ a b (fun x y => by simp [evalB, manyS])
  have h1 := short_both (op := [111, 114]) (jS := orS) rows 1 (.inr rfl) ⟨0, 0, []⟩ a b (fun x y => by simp [evalB, manyS])
  have e0 := ev_Eval rows [97, 110, 100] 0 0 [] 0 0 [a, b]
  have e1 := ev_Eval rows [111, 114] 0 0 [] 0 0 [a, b]
  obtain ⟨op, v, var, col, kids⟩ := a
  have e := ev_Eval rows op v.kind v.n v.s var col kids
  rw [Val.eta] at e
  generalize evalS rows (.mk [97, 110, 100] ⟨0, 0, []⟩ 0 0 [.mk op v var col kids, b]) = r0 at *
  generalize evalS rows (.mk [111, 114] ⟨0, 0, []⟩ 0 0 [.mk op v var col kids, b]) = r1 at *
  generalize evalS rows (.mk op v var col kids) = r at *
  obtain ⟨op', v', var', col', kids'⟩ := b
  simp only [List.map_cons, List.map_nil, enc_mk] at hlong e0 e1
  simp only [enc_mk]
  generalize longS _ rows = lg at *
  generalize codeS r0 = c0 at *
  generalize codeS r1 = c1 at *
  generalize codeS r = c at *
  generalize valS r0 = v0 at *
  generalize valS r1 = v1 at *
  generalize valS r = vr at *
  cases lg with
  | true => exact short_long _ _ _ _ _ _ _ _ _ _ _ _ _ _ _ hlong
  | false =>
    obtain ⟨k, n, s⟩ := vr
    obtain ⟨k0, n0, s0⟩ := v0
    obtain ⟨k1, n1, s1⟩ := v1
    simp only at e e0 e1 h0 h1
    by_cases hc : c = 0
    · subst hc
      by_cases hk : k = 1
      · subst hk
        by_cases hs : s = []
        · subst hs
          by_cases hn : n = 0
          · subst hn
            obtain ⟨rfl, rfl, rfl, rfl⟩ := h0.2 rfl rfl rfl rfl
            exact short_and (hlong := hlong) (e := e) (e0 := e0) (e1 := e1) (x := 0) (y := 0) (x0 := 0) (y0 := 0) (c0 := 0) (z := []) (z0 := [])
          · by_cases hn1 : n = 1
            · subst hn1
              obtain ⟨rfl, rfl, rfl, rfl⟩ := h1.2 rfl rfl rfl rfl
              exact short_or (hlong := hlong) (e := e) (e0 := e0) (e1 := e1) (x := 0) (y := 0) (x1 := 0) (y1 := 0) (c1 := 0) (z := []) (z1 := [])
            · exact short_num (hlong := hlong) (e := e) (e0 := e0) (e1 := e1) (hy := hn) (hy' := hn1) (x := 0) (z := [])
        · exact short_text (hlong := hlong) (e := e) (e0 := e0) (e1 := e1) (hz := hs) (x := 0)
      · exact short_kind (hlong := hlong) (e := e) (e0 := e0) (e1 := e1) (hx := hk)
    · obtain ⟨rfl, rfl, rfl, rfl⟩ := h0.1 hc
      obtain ⟨rfl, rfl, rfl, rfl⟩ := h1.1 hc
      exact short_fault (hlong := hlong) (e := e) (e0 := e0) (e1 := e1) (hc := hc) (x0 := 0) (y0 := 0) (c0 := 0) (x1 := 0) (y1 := 0) (c1 := 0) (z0 := []) (z1 := [])
end Go.Abs
