/- Bytes as a row. -/
import Derived.Test.YtmjfninbnlhmoaaDoorFnCodeH
namespace Go.Abs
set_option linter.unusedSimpArgs false
set_option linter.unusedVariables false
open Go Go.Proofs

theorem textS_less : ∀ (acc s a r : List UInt8), textS acc s = .ok (a, r) → r.length < s.length
  | acc, [], a, r, h => by simp [textS] at h
  | acc, [c], a, r, h => by simp [textS] at h
  | acc, c :: d :: s, a, r, h => by
    rw [textS] at h
    split at h
    · split at h
      · simp only [Except.ok.injEq, Prod.mk.injEq] at h; rw [← h.2]; simp; omega
      · split at h
        · have := textS_less _ _ _ _ h; simp; omega
        · cases h
    · have := textS_less _ _ _ _ h; simp at this ⊢; omega
theorem textS_suf : ∀ (acc s a r : List UInt8), textS acc s = .ok (a, r) → r <:+ s
  | acc, [], a, r, h => by simp [textS] at h
  | acc, [c], a, r, h => by simp [textS] at h
  | acc, c :: d :: s, a, r, h => by
    rw [textS] at h
    split at h
    · split at h
      · simp only [Except.ok.injEq, Prod.mk.injEq] at h; rw [← h.2]; exact ⟨[c, d], rfl⟩
      · split at h
        · exact (textS_suf _ _ _ _ h).trans ⟨[c, d], rfl⟩
        · cases h
    · exact (textS_suf _ _ _ _ h).trans ⟨[c], rfl⟩
theorem valueR_rest {v' v : Val} {r' r : List UInt8} (h : valueR v' r' = .ok (v, r)) : v = v' ∧ r' = r ∧ rightS v = true := by
  unfold valueR at h
  split at h
  · rename_i hq; simp only [Except.ok.injEq, Prod.mk.injEq] at h; exact ⟨h.1.symm, h.2, h.1 ▸ hq⟩
  · cases h
theorem valueS_suf {s : List UInt8} {v : Val} {r : List UInt8} (h : valueS s = .ok (v, r)) : r.length < s.length ∧ r <:+ s ∧ rightS v = true := by
  match s, h with
  | [], h => simp [valueS] at h
  | k :: s, h =>
    simp only [valueS] at h
    split at h
    · match s, h with
      | [], h => simp at h
      | b :: s, h => obtain ⟨_, rfl, hq⟩ := valueR_rest h; exact ⟨by simp; omega, ⟨[k, b], rfl⟩, hq⟩
    · split at h
      · split at h
        · cases h
        · obtain ⟨_, rfl, hq⟩ := valueR_rest h; exact ⟨by simp; omega, ⟨k :: s.take 8, by simp⟩, hq⟩
      · split at h
        · split at h
          · rename_i a r' ht
            obtain ⟨_, rfl, hq⟩ := valueR_rest h
            have h2 := textS_less _ _ _ _ ht
            exact ⟨by simp; omega, (textS_suf _ _ _ _ ht).trans ⟨[k], rfl⟩, hq⟩
          · cases h
        · obtain ⟨_, rfl, hq⟩ := valueR_rest h; exact ⟨by simp, ⟨[k], rfl⟩, hq⟩

/- all values, one behind the other -/
def parseS : Nat → List Val → List UInt8 → Except (List Val × List UInt8) (List Val)
  | 0, acc, s => .error (acc, s)
  | f + 1, acc, s => if s = [] then .ok acc else match valueS s with
    | .ok (v, r) => parseS f (acc ++ [v]) r
    | .error r => .error (acc, r)
def unrowO (l : List Val) : Option (Out × St) := some (.ret (.tup [.slice (.own 0) (l.map Val.enc), .bool true]), [[.tip l.length]])
def unrowN : Option (Out × St) := some (.ret (.tup [.slice (.own 0) [], .bool false]), [[.tip 0]])
def unrowP (x : Except (List Val × List UInt8) (List Val)) : Option (Out × St) :=
  match x with
  | .ok l => if l.length ≤ 6 then unrowO l else unrowN
  | .error _ => unrowN
theorem parseS_len : ∀ (f : Nat) (acc : List Val) (s : List UInt8) (l : List Val), parseS f acc s = .ok l → acc.length ≤ l.length
  | 0, acc, s, l, h => by simp [parseS] at h
  | f + 1, acc, s, l, h => by
    rw [parseS] at h
    split at h
    · simp only [Except.ok.injEq] at h; subst h; omega
    · split at h
      · have := parseS_len f _ _ l h; simp at this; omega
      · cases h
set_option maxHeartbeats 2000000 in
theorem ev_runrow (s : List UInt8) (hs : s.length ≤ 1048576) : EV 30 [.str s] [] = unrowP (parseS (s.length + 1) [] s) := by
  rw [EV_mki rfl Tryd.func30 rfl (by kernel_rfl)]
  simp [i_nil, i_blk, i_skip, i_ret, i_exit, i_seq, i_block, i_cond, i_region', i_ops_nil, i_ops, i_drawn', i_drw_nil, i_drw, u_nil, u_code, u_ops, u_drw, u_lp, u_again, u_exit, u_ret, u_panic, c_bool, o_some, o_val, o_panic, d_some, d_val, d_panic, w_none, w_fast, wantG, q_nil, q_zero, q_succ, t_zero, t_succ, g_zero, g_succ, s_zero, s_succ, s_some, s_none, v_tmp, v_const, v_func, f_quiet, ↓brB_true, ↓brB_false, ↓brB_dec, ↓brB_not, ↓brB_and, ↓brB_or, ↓brB_beq, ↓brB_bne, gc_none, gc_pure, wrap_i64, p_move, p_assign, p_pick, p_alloc, p_box, p_build, p_buildSlice, p_load, p_store, p_nilCheck, p_binOp, p_unOp, p_convert, p_makeSlice, p_makeInterface, p_makeFunc, p_slice, p_fieldAddr, p_field, p_indexAddr, p_index, p_extract, p_callv, p_callb, p_panic, quiet_val, new_val, e_assign, e_call, e_load, e_store, e_alloc, e_box, e_move, e_pick, e_build, e_buildSlice, e_nilCheck, e_binOp, e_unOp, e_convert, e_makeSlice, e_makeInterface, e_makeFunc, e_slice, e_fieldAddr, e_field, e_indexAddr, e_index, e_extract, e_panic, callD, fpRead, adopt, adoptL, ofValue, ofScalar, binOpV, unOpV, intBin, strBin, eqRes, veq, veqF, eqDepth, val?, finish, resL, r_tmp, r_cell, normL, normTop, tipIs, refsL, refs, ownRefs, single, frz, frzL, ren, renL, renOwn, callOp, doCall, backR, writeBack, builtinV, loadV, storeV, cellsAt, takeV, D.isAgg, overlay, vcells, cellOk, fieldAddrV, indexAddrV, fieldV, partV, indexV, buildV, fillV, buildSliceV, litElems, appendV, appElems, elemOk, convertV, convV, winStr, makeSliceV, sliceV, natOf, Tryd.f30, Tryd.ti3, Tryd.ti9, Tryd.ti23, Tryd.ti44]
  rw [i_loop (ts := [8, 9, 10, 12, 13, 11, 14, 15, 5, 6, 16, 17, 18, 19, 20, 21, 22, 23, 24, 25, 26, 27, 28, 29])]
  rotate_left
  · kernel_rfl
  refine i_at (fun x : {x : Nat × List Val × List UInt8 // x.2.2.length < x.1 ∧ x.2.1.length ≤ 6 ∧ x.2.2.length ≤ s.length} => x.1.2.2.length) (fun x env => setV (setV env 4 (.slice (.own 1) (x.1.2.1.map Val.enc))) 0 (.str x.1.2.2)) (fun x => [[.tip 0], [.tip x.1.2.1.length]]) (fun x => unrowP (parseS x.1.1 x.1.2.1 x.1.2.2)) ⟨(s.length + 1, [], s), by simp⟩ (by simp [s_zero, s_succ]) (by simp) rfl ?_
  intro ⟨(f, acc, r), hf, hacc, hr⟩ ih
  try simp only at hf hacc hr
  obtain ⟨f, rfl⟩ : ∃ g, f = g + 1 := ⟨f - 1, by omega⟩
  by_cases h0 : r = []
  · subst h0
    simp [i_nil, i_blk, i_skip, i_ret, i_exit, i_seq, i_block, i_cond, i_region', i_ops_nil, i_ops, i_drawn', i_drw_nil, i_drw, u_nil, u_code, u_ops, u_drw, u_lp, u_again, u_exit, u_ret, u_panic, c_bool, o_some, o_val, o_panic, d_some, d_val, d_panic, w_none, w_fast, wantG, q_nil, q_zero, q_succ, t_zero, t_succ, g_zero, g_succ, s_zero, s_succ, s_some, s_none, v_tmp, v_const, v_func, f_quiet, ↓brB_true, ↓brB_false, ↓brB_dec, ↓brB_not, ↓brB_and, ↓brB_or, ↓brB_beq, ↓brB_bne, gc_none, gc_pure, wrap_i64, p_move, p_assign, p_pick, p_alloc, p_box, p_build, p_buildSlice, p_load, p_store, p_nilCheck, p_binOp, p_unOp, p_convert, p_makeSlice, p_makeInterface, p_makeFunc, p_slice, p_fieldAddr, p_field, p_indexAddr, p_index, p_extract, p_callv, p_callb, p_panic, quiet_val, new_val, e_assign, e_call, e_load, e_store, e_alloc, e_box, e_move, e_pick, e_build, e_buildSlice, e_nilCheck, e_binOp, e_unOp, e_convert, e_makeSlice, e_makeInterface, e_makeFunc, e_slice, e_fieldAddr, e_field, e_indexAddr, e_index, e_extract, e_panic, callD, fpRead, adopt, adoptL, ofValue, ofScalar, binOpV, unOpV, intBin, strBin, eqRes, veq, veqF, eqDepth, val?, finish, resL, r_tmp, r_cell, normL, normTop, tipIs, refsL, refs, ownRefs, single, frz, frzL, ren, renL, renOwn, callOp, doCall, backR, writeBack, builtinV, loadV, storeV, cellsAt, takeV, D.isAgg, overlay, vcells, cellOk, fieldAddrV, indexAddrV, fieldV, partV, indexV, buildV, fillV, buildSliceV, litElems, appendV, appElems, elemOk, convertV, convV, winStr, makeSliceV, sliceV, natOf, i_again, roundEnd, dropT, cleanV, Tryd.f30, Tryd.ti3, Tryd.ti9, Tryd.ti23, Tryd.ti44, parseS, unrowP, hacc, unrowO, reach, reachFuel, shut, nodup, List.idxOf, List.findIdx, List.findIdx.go, gc, List.range, List.range.loop]
  · have hpos : 0 < r.length := List.length_pos_iff.2 h0
    have hpos' : (0 : Int) < r.length := by omega
    have hrd := ev_rread r (by omega)
    cases hv : valueS r with
    | error r' =>
      have e : rreadS r = (⟨0, 0, []⟩, 0) := by simp [rreadS, hv]
      rw [e] at hrd
      simp only [rreadO] at hrd
      simp [i_nil, i_blk, i_skip, i_ret, i_exit, i_seq, i_block, i_cond, i_region', i_ops_nil, i_ops, i_drawn', i_drw_nil, i_drw, u_nil, u_code, u_ops, u_drw, u_lp, u_again, u_exit, u_ret, u_panic, c_bool, o_some, o_val, o_panic, d_some, d_val, d_panic, w_none, w_fast, wantG, q_nil, q_zero, q_succ, t_zero, t_succ, g_zero, g_succ, s_zero, s_succ, s_some, s_none, v_tmp, v_const, v_func, f_quiet, ↓brB_true, ↓brB_false, ↓brB_dec, ↓brB_not, ↓brB_and, ↓brB_or, ↓brB_beq, ↓brB_bne, gc_none, gc_pure, wrap_i64, p_move, p_assign, p_pick, p_alloc, p_box, p_build, p_buildSlice, p_load, p_store, p_nilCheck, p_binOp, p_unOp, p_convert, p_makeSlice, p_makeInterface, p_makeFunc, p_slice, p_fieldAddr, p_field, p_indexAddr, p_index, p_extract, p_callv, p_callb, p_panic, quiet_val, new_val, e_assign, e_call, e_load, e_store, e_alloc, e_box, e_move, e_pick, e_build, e_buildSlice, e_nilCheck, e_binOp, e_unOp, e_convert, e_makeSlice, e_makeInterface, e_makeFunc, e_slice, e_fieldAddr, e_field, e_indexAddr, e_index, e_extract, e_panic, callD, fpRead, adopt, adoptL, ofValue, ofScalar, binOpV, unOpV, intBin, strBin, eqRes, veq, veqF, eqDepth, val?, finish, resL, r_tmp, r_cell, normL, normTop, tipIs, refsL, refs, ownRefs, single, frz, frzL, ren, renL, renOwn, callOp, doCall, backR, writeBack, builtinV, loadV, storeV, cellsAt, takeV, D.isAgg, overlay, vcells, cellOk, fieldAddrV, indexAddrV, fieldV, partV, indexV, buildV, fillV, buildSliceV, litElems, appendV, appElems, elemOk, convertV, convV, winStr, makeSliceV, sliceV, natOf, i_again, roundEnd, dropT, cleanV, Tryd.f30, Tryd.ti3, Tryd.ti9, Tryd.ti23, Tryd.ti44, parseS, hv, h0, hpos, hpos', hrd, unrowP, unrowN, reach, reachFuel, shut, nodup, List.idxOf, List.findIdx, List.findIdx.go, gc, List.range, List.range.loop]
    | ok p =>
      obtain ⟨v, r'⟩ := p
      obtain ⟨hless, hsuf0, _⟩ := valueS_suf hv
      have e : rreadS r = (v, r.length - r'.length) := by simp [rreadS, hv]
      rw [e] at hrd
      simp only [rreadO] at hrd
      have hn0 : ¬ ((r.length - r'.length : Nat) : Int) = 0 := by omega
      have hn0n : ¬ r.length - r'.length = 0 := by omega
      have hle : r.length - r'.length ≤ r.length := by omega
      by_cases h5 : 5 < acc.length
      · have h5' : (5 : Int) < acc.length := by omega
        have hfin : unrowP (parseS (f + 1) acc r) = unrowN := by
          rw [parseS, if_neg h0, hv]
          simp only
          unfold unrowP
          cases hp : parseS f (acc ++ [v]) r' with
          | error _ => rfl
          | ok l =>
            have := parseS_len _ _ _ _ hp
            simp only [List.length_append, List.length_singleton] at this
            simp only
            rw [if_neg (by omega)]
        rw [hfin]
        simp [i_nil, i_blk, i_skip, i_ret, i_exit, i_seq, i_block, i_cond, i_region', i_ops_nil, i_ops, i_drawn', i_drw_nil, i_drw, u_nil, u_code, u_ops, u_drw, u_lp, u_again, u_exit, u_ret, u_panic, c_bool, o_some, o_val, o_panic, d_some, d_val, d_panic, w_none, w_fast, wantG, q_nil, q_zero, q_succ, t_zero, t_succ, g_zero, g_succ, s_zero, s_succ, s_some, s_none, v_tmp, v_const, v_func, f_quiet, ↓brB_true, ↓brB_false, ↓brB_dec, ↓brB_not, ↓brB_and, ↓brB_or, ↓brB_beq, ↓brB_bne, gc_none, gc_pure, wrap_i64, p_move, p_assign, p_pick, p_alloc, p_box, p_build, p_buildSlice, p_load, p_store, p_nilCheck, p_binOp, p_unOp, p_convert, p_makeSlice, p_makeInterface, p_makeFunc, p_slice, p_fieldAddr, p_field, p_indexAddr, p_index, p_extract, p_callv, p_callb, p_panic, quiet_val, new_val, e_assign, e_call, e_load, e_store, e_alloc, e_box, e_move, e_pick, e_build, e_buildSlice, e_nilCheck, e_binOp, e_unOp, e_convert, e_makeSlice, e_makeInterface, e_makeFunc, e_slice, e_fieldAddr, e_field, e_indexAddr, e_index, e_extract, e_panic, callD, fpRead, adopt, adoptL, ofValue, ofScalar, binOpV, unOpV, intBin, strBin, eqRes, veq, veqF, eqDepth, val?, finish, resL, r_tmp, r_cell, normL, normTop, tipIs, refsL, refs, ownRefs, single, frz, frzL, ren, renL, renOwn, callOp, doCall, backR, writeBack, builtinV, loadV, storeV, cellsAt, takeV, D.isAgg, overlay, vcells, cellOk, fieldAddrV, indexAddrV, fieldV, partV, indexV, buildV, fillV, buildSliceV, litElems, appendV, appElems, elemOk, convertV, convV, winStr, makeSliceV, sliceV, natOf, i_again, roundEnd, dropT, cleanV, Tryd.f30, Tryd.ti3, Tryd.ti9, Tryd.ti23, Tryd.ti44, h0, hpos, hpos', hrd, hn0, hn0n, hle, h5, h5', unrowN, reach, reachFuel, shut, nodup, List.idxOf, List.findIdx, List.findIdx.go, gc, List.range, List.range.loop]
      · have h5' : ¬ (5 : Int) < acc.length := by omega
        have hsuf : r.drop (r.length - r'.length) = r' := (List.suffix_iff_eq_drop.1 hsuf0).symm
        have ih := ih ⟨(f, acc ++ [v], r'), by simp only; omega, by simp; omega, by simp only; omega⟩ (by simp only; omega)
        have hb : acc.length + 1 ≤ 70368744177664 := by omega
        have hb2 : (acc.length + 1) * 32 ≤ 70368744177664 := by omega
        simp only [s_zero, s_succ, List.map_append, List.map_cons, List.map_nil, List.length_append, List.length_singleton, Val.enc_eq] at ih
        simp [i_nil, i_blk, i_skip, i_ret, i_exit, i_seq, i_block, i_cond, i_region', i_ops_nil, i_ops, i_drawn', i_drw_nil, i_drw, u_nil, u_code, u_ops, u_drw, u_lp, u_again, u_exit, u_ret, u_panic, c_bool, o_some, o_val, o_panic, d_some, d_val, d_panic, w_none, w_fast, wantG, q_nil, q_zero, q_succ, t_zero, t_succ, g_zero, g_succ, s_zero, s_succ, s_some, s_none, v_tmp, v_const, v_func, f_quiet, ↓brB_true, ↓brB_false, ↓brB_dec, ↓brB_not, ↓brB_and, ↓brB_or, ↓brB_beq, ↓brB_bne, gc_none, gc_pure, wrap_i64, p_move, p_assign, p_pick, p_alloc, p_box, p_build, p_buildSlice, p_load, p_store, p_nilCheck, p_binOp, p_unOp, p_convert, p_makeSlice, p_makeInterface, p_makeFunc, p_slice, p_fieldAddr, p_field, p_indexAddr, p_index, p_extract, p_callv, p_callb, p_panic, quiet_val, new_val, e_assign, e_call, e_load, e_store, e_alloc, e_box, e_move, e_pick, e_build, e_buildSlice, e_nilCheck, e_binOp, e_unOp, e_convert, e_makeSlice, e_makeInterface, e_makeFunc, e_slice, e_fieldAddr, e_field, e_indexAddr, e_index, e_extract, e_panic, callD, fpRead, adopt, adoptL, ofValue, ofScalar, binOpV, unOpV, intBin, strBin, eqRes, veq, veqF, eqDepth, val?, finish, resL, r_tmp, r_cell, normL, normTop, tipIs, refsL, refs, ownRefs, single, frz, frzL, ren, renL, renOwn, callOp, doCall, backR, writeBack, builtinV, loadV, storeV, cellsAt, takeV, D.isAgg, overlay, vcells, cellOk, fieldAddrV, indexAddrV, fieldV, partV, indexV, buildV, fillV, buildSliceV, litElems, appendV, appElems, elemOk, convertV, convV, winStr, makeSliceV, sliceV, natOf, i_again, roundEnd, dropT, cleanV, Tryd.f30, Tryd.ti3, Tryd.ti9, Tryd.ti23, Tryd.ti44, parseS, hv, h0, hpos, hpos', hrd, hn0, hn0n, hle, h5, h5', hsuf, hb, hb2, ih, Val.enc_eq]
end Go.Abs
