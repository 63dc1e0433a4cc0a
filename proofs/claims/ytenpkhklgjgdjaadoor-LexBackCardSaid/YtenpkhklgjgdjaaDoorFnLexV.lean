/- LexBack comes back with true. -/
import Derived.Test.YtenpkhklgjgdjaaDoorFnLexK
import Derived.Test.YtenpkhklgjgdjaaDoorFnLexU
import Derived.Test.YtenpkhklgjgdjaaDoorFnStr
namespace Go.Abs
set_option linter.unusedSimpArgs false
set_option linter.unusedVariables false
open Go Go.Proofs

/- how small tokens are -/
theorem inI0 : inI 0 := by unfold inI; omega
theorem quote_small : ∀ (acc t a u : List UInt8), quoteS acc t = some (a, u) → u.length ≤ t.length
  | acc, [], a, u, h => by simp [quoteS] at h
  | acc, [c], a, u, h => by
    simp only [quoteS] at h
    split at h
    · cases h; simp
    · cases h
  | acc, c :: d :: r, a, u, h => by
    simp only [quoteS] at h
    split at h
    · split at h
      · have := quote_small _ _ _ _ h; simp; omega
      · cases h; simp
    · have := quote_small _ _ _ _ h; simp at this ⊢; omega
theorem run_small {p : Int} {w : List UInt8} {t : Tok} (h : runS p w = some t) : inI t.n ∧ t.s.length ≤ w.length ∧ (t.kind = 3 → t.s = []) ∧ t.kind ≠ 4 := by
  unfold runS at h
  split at h
  · cases h; exact ⟨inI0, by simp, by simp, by simp⟩
  · split at h
    · cases h; exact ⟨inI0, by simp, by simp, by simp⟩
    · split at h
      · rename_i hc
        cases h
        exact ⟨by unfold inI; simp only; omega, by simp, by simp, by simp⟩
      · cases h
theorem tok_small {p : Nat} {r : List UInt8} {t : Tok} {u : List UInt8} (h : tokS p r = .ok (t, u)) : u.length ≤ r.length ∧ inI t.n ∧ (t.s.length ≤ r.length ∧ t.kind ≠ 4 ∨ t.s.length ≤ 24) := by
  cases r with
  | nil =>
    simp only [tokS, Except.ok.injEq, Prod.mk.injEq] at h
    rw [← h.1, ← h.2]
    exact ⟨by simp, inI0, .inr (by simp)⟩
  | cons c r =>
    simp only [tokS] at h
    split at h
    · split at h
      · rename_i k hk
        simp only [Except.ok.injEq, Prod.mk.injEq] at h
        obtain ⟨h1, h2, h3, h4⟩ := run_small hk
        have hl := takeWhile_len (p := isRun) (c :: r)
        rw [← h.1, ← h.2]
        exact ⟨by rw [dropWhile_drop, List.length_drop]; omega, h1, .inl ⟨by omega, h4⟩⟩
      · cases h
    · split at h
      · split at h
        · split at h
          · rename_i a u' hq hl
            simp only [Except.ok.injEq, Prod.mk.injEq] at h
            have := quote_small _ _ _ _ hq
            rw [← h.1, ← h.2]
            exact ⟨by simp; omega, inI0, .inr hl⟩
          · cases h
        · cases h
      · split at h
        · cases h
        · simp only [Except.ok.injEq, Prod.mk.injEq] at h
          rw [← h.1, ← h.2]
          exact ⟨by rw [List.length_drop]; omega, inI0, .inl ⟨by rw [List.length_take]; omega, by simp⟩⟩
theorem next_small {p : Nat} {r : List UInt8} {t : Tok} {u : List UInt8} (h : nextTok p r = .ok (t, u)) : u.length ≤ r.length ∧ inI t.n ∧ (t.s.length ≤ r.length ∧ t.kind ≠ 4 ∨ t.s.length ≤ 24) := by
  unfold nextTok at h
  have hd : (unblank r).length ≤ r.length := by unfold unblank; rw [dropWhile_drop, List.length_drop]; omega
  obtain ⟨h1, h2, h3⟩ := tok_small h
  refine ⟨by omega, h2, ?_⟩
  rcases h3 with ⟨h3, h4⟩ | h3
  · exact .inl ⟨by omega, h4⟩
  · exact .inr h3
theorem toks_small : ∀ (f p : Nat) (r : List UInt8) (l : List Tok), toksS f p r = .ok l → ∀ t ∈ l, inI t.n ∧ (t.s.length ≤ r.length ∧ t.kind ≠ 4 ∨ t.s.length ≤ 24)
  | 0, p, r, l, h, t, ht => by cases h
  | f + 1, p, r, l, h, t, ht => by
    simp only [toksS] at h
    cases hn : nextTok p r with
    | error e => rw [hn] at h; cases h
    | ok q =>
      obtain ⟨k, u⟩ := q
      rw [hn] at h
      obtain ⟨h1, h2, h3⟩ := next_small hn
      simp only at h
      split at h
      · simp only [Except.ok.injEq] at h
        subst h
        simp only [List.mem_singleton] at ht
        subst ht
        exact ⟨h2, h3⟩
      · cases hx : toksS f (p + (r.length - u.length)) u with
        | error e => rw [hx] at h; cases h
        | ok m =>
          rw [hx] at h
          simp only [Except.ok.injEq] at h
          subst h
          rcases List.mem_cons.1 ht with rfl | ht
          · exact ⟨h2, h3⟩
          · obtain ⟨i1, i2⟩ := toks_small f _ u m hx t ht
            refine ⟨i1, ?_⟩
            rcases i2 with ⟨i2, i3⟩ | i2
            · exact .inl ⟨by omega, i3⟩
            · exact .inr i2
theorem text_small {s : List UInt8} {l : List Tok} (hs : s.length ≤ 1000) (h : toksS (s.length + 1) 0 s = .ok l) (hl : l.length ≤ s.length + 1) : (∀ t ∈ l, tinyTok t) ∧ ([10, 32] ++ textS l ++ [9]).length ≤ 1048576 := by
  have hsm := toks_small _ _ _ _ h
  refine ⟨fun t ht => ⟨(hsm t ht).1, ?_⟩, ?_⟩
  · rcases (hsm t ht).2 with h2 | h2 <;> omega
  · obtain ⟨m, e, rfl, he, _, _, _⟩ := toks_ok _ _ _ _ h
    have hte : texts (m ++ [e]) = texts m := by
      unfold texts
      rw [List.filter_append]
      simp [he]
    have ht : textS (m ++ [e]) = Lib.join (texts m) [32] := by rw [← hte]; rfl
    have hb : ∀ x ∈ texts m, x.length ≤ 1000 := fun x hx => by
      obtain ⟨t, htm, rfl⟩ := List.mem_map.1 hx
      have htl := hsm t (by have := (List.mem_filter.1 htm).1; simp [this])
      have h1 := itoa_len t.n htl.1
      have h2 := quoteE_len t.s
      unfold showTok
      split
      · omega
      · split
        · rename_i h4
          rcases htl.2 with ⟨_, h5⟩ | h5
          · exact absurd h4 h5
          · simp; omega
        · rcases htl.2 with ⟨h5, _⟩ | h5 <;> omega
    have hj := join_len (texts m) [32] 1000 hb
    have hml := texts_len m
    have hm : m.length ≤ 1000 := by rw [List.length_append] at hl; simp at hl; omega
    have h3 : (texts m).length * (1000 + 1) ≤ 1000 * 1001 := Nat.mul_le_mul (by omega) (by omega)
    simp only [List.length_singleton] at hj
    rw [ht]
    simp only [List.length_append, List.length_cons, List.length_nil]
    omega

theorem alikes_get : ∀ {l m : List Tok}, Alikes l m → ∀ (i : Nat) (h : i < l.length) (h' : i < m.length), Alike l[i] m[i]
  | a :: l, b :: m, h, 0, _, _ => h.1
  | a :: l, b :: m, h, i + 1, h1, h2 => by simpa using alikes_get h.2 i (by simpa using h1) (by simpa using h2)
set_option maxHeartbeats 1000000 in
theorem ev_tsame_alike (l m : List Tok) (h : Alikes l m) (hl : l.length ≤ 1048577) : EV 9 [.slice .froz (l.map Tok.enc), .slice .froz (m.map Tok.enc), .bool false] [] = some (.ret (.bool true), []) := by
  have hlm := alikes_len h
  rw [EV_mki rfl Tryd.func9 rfl (by kernel_rfl)]
  simp [i_nil, i_blk, i_skip, i_ret, i_exit, i_seq, i_block, i_cond, i_region', i_ops_nil, i_ops, i_drawn', d_in, a_nil, a_cons, alt1, h_nil, h_one, h_two, z_nil, z_cons, z_cells, zeqL, zeq, q_alloc, q_some, isAlO, nxtN, i_drh, d_hi, i_drw_nil, i_drw, u_nil, u_code, u_ops, u_drw, u_lp, u_again, u_exit, u_ret, u_panic, c_bool, o_some, o_val, o_panic, d_some, d_val, d_panic, w_none, w_fast, wantG, q_nil, q_zero, q_succ, t_zero, t_succ, g_zero, g_succ, s_zero, s_succ, s_some, s_none, v_tmp, v_const, v_func, f_quiet, ↓brB_true, ↓brB_false, ↓brB_dec, ↓brB_not, ↓brB_and, ↓brB_or, ↓brB_beq, ↓brB_bne, gc_none, gc_pure, wrap_i64, p_move, p_assign, p_pick, p_alloc, p_box, p_build, p_buildSlice, p_load, p_store, p_nilCheck, p_binOp, n_tmp, n_int, n_bool, n_str, n_ptr, n_fun, n_iface, nilCmp, p_unOp, p_convert, p_makeSlice, p_makeInterface, p_makeFunc, p_slice, p_fieldAddr, p_field, p_indexAddr, p_index, p_extract, p_callv, p_callb, p_panic, quiet_val, new_val, e_assign, e_call, e_load, e_store, e_alloc, e_box, e_move, e_pick, e_build, e_buildSlice, e_nilCheck, e_binOp, e_unOp, e_convert, e_makeSlice, e_makeInterface, e_makeFunc, e_slice, e_fieldAddr, e_field, e_indexAddr, e_index, e_extract, e_panic, callD, fpRead, adopt, adoptL, ofValue, ofScalar, binOpV, unOpV, intBin, strBin, eqRes, veq, veqF, eqDepth, val?, finish, resL, r_tmp, r_cell, normL, normTop, tipIs, refsL, refs, ownRefs, single, frz, frzL, ren, renL, renOwn, callOp, doCall, backR, writeBack, builtinV, loadV, storeV, cellsAt, takeV, D.isAgg, overlay, vcells, cellOk, fieldAddrV, indexAddrV, fieldV, partV, indexV, buildV, fillV, buildSliceV, litElems, appendV, appElems, elemOk, convertV, convV, winStr, makeSliceV, sliceV, natOf, Tryd.f9, Tryd.ti3, Tryd.ti9, Tryd.ti29, Tryd.ti45, hlm]
  rw [i_loop (ts := [15, 16, 17, 18, 21, 22, 23, 24, 25, 26, 27, 28, 8, 9, 29, 30, 31, 32, 33, 34, 35, 19, 20])]
  rotate_left
  · kernel_rfl
  refine i_at (fun i : Nat => m.length - i) (fun i env => setV env 7 (.int .i64 i)) (fun _ => _) (fun _ => some (.ret (.bool true), [])) 0 (by simp [s_zero, s_succ]) rfl rfl ?_
  intro i ih
  by_cases hi : i < m.length
  · have ih := ih (i + 1) (by omega)
    have hi' : i < l.length := by omega
    have hwi : IntKind.i64.wrap ((i : Int) + 1) = (i : Int) + 1 := wrap_i64 (by omega)
    obtain ⟨a1, a2, a3⟩ := alikes_get h i hi' hi
    obtain ⟨t, hk⟩ : ∃ x, l[i] = x := ⟨_, rfl⟩
    obtain ⟨u, hu⟩ : ∃ x, m[i] = x := ⟨_, rfl⟩
    have hkk : l[i]? = some t := by rw [List.getElem?_eq_getElem hi', hk]
    have huu : m[i]? = some u := by rw [List.getElem?_eq_getElem hi, hu]
    rw [hk, hu] at a1 a2 a3
    simp only [s_zero, s_succ, Int.natCast_add, Int.natCast_one, Int.cast_ofNat_Int] at ih
    simp [q_gen, i_nil, i_blk, i_skip, i_ret, i_exit, i_seq, i_block, i_cond, i_region', i_ops_nil, i_ops, i_drawn', d_in, a_nil, a_cons, alt1, h_nil, h_one, h_two, z_nil, z_cons, z_cells, zeqL, zeq, q_alloc, q_some, isAlO, nxtN, i_drh, d_hi, i_drw_nil, i_drw, u_nil, u_code, u_ops, u_drw, u_lp, u_again, u_exit, u_ret, u_panic, c_bool, o_some, o_val, o_panic, d_some, d_val, d_panic, w_none, w_fast, wantG, q_nil, q_zero, q_succ, t_zero, t_succ, g_zero, g_succ, s_zero, s_succ, s_some, s_none, v_tmp, v_const, v_func, f_quiet, ↓brB_true, ↓brB_false, ↓brB_dec, ↓brB_not, ↓brB_and, ↓brB_or, ↓brB_beq, ↓brB_bne, gc_none, gc_pure, wrap_i64, p_move, p_assign, p_pick, p_alloc, p_box, p_build, p_buildSlice, p_load, p_store, p_nilCheck, p_binOp, n_tmp, n_int, n_bool, n_str, n_ptr, n_fun, n_iface, nilCmp, p_unOp, p_convert, p_makeSlice, p_makeInterface, p_makeFunc, p_slice, p_fieldAddr, p_field, p_indexAddr, p_index, p_extract, p_callv, p_callb, p_panic, quiet_val, new_val, e_assign, e_call, e_load, e_store, e_alloc, e_box, e_move, e_pick, e_build, e_buildSlice, e_nilCheck, e_binOp, e_unOp, e_convert, e_makeSlice, e_makeInterface, e_makeFunc, e_slice, e_fieldAddr, e_field, e_indexAddr, e_index, e_extract, e_panic, callD, fpRead, adopt, adoptL, ofValue, ofScalar, binOpV, unOpV, intBin, strBin, eqRes, veq, veqF, eqDepth, val?, finish, resL, r_tmp, r_cell, normL, normTop, tipIs, refsL, refs, ownRefs, single, frz, frzL, ren, renL, renOwn, callOp, doCall, backR, writeBack, builtinV, loadV, storeV, cellsAt, takeV, D.isAgg, overlay, vcells, cellOk, fieldAddrV, indexAddrV, fieldV, partV, indexV, buildV, fillV, buildSliceV, litElems, appendV, appElems, elemOk, convertV, convV, winStr, makeSliceV, sliceV, natOf, i_again, roundEnd, dropT, cleanV, Tryd.f9, Tryd.ti3, Tryd.ti9, Tryd.ti29, Tryd.ti45, hi, hi', hlm, hk, hkk, hu, huu, Tok.enc_eq, hwi, ih, a1, a2, a3] <;> first | (change _ = true; decide +kernel) | (refine ⟨?_, ?_⟩ <;> (change _ = true; decide +kernel))
  · have hi' : ¬ i < l.length := by omega
    simp [i_nil, i_blk, i_skip, i_ret, i_exit, i_seq, i_block, i_cond, i_region', i_ops_nil, i_ops, i_drawn', d_in, a_nil, a_cons, alt1, h_nil, h_one, h_two, z_nil, z_cons, z_cells, zeqL, zeq, q_alloc, q_some, isAlO, nxtN, i_drh, d_hi, i_drw_nil, i_drw, u_nil, u_code, u_ops, u_drw, u_lp, u_again, u_exit, u_ret, u_panic, c_bool, o_some, o_val, o_panic, d_some, d_val, d_panic, w_none, w_fast, wantG, q_nil, q_zero, q_succ, t_zero, t_succ, g_zero, g_succ, s_zero, s_succ, s_some, s_none, v_tmp, v_const, v_func, f_quiet, ↓brB_true, ↓brB_false, ↓brB_dec, ↓brB_not, ↓brB_and, ↓brB_or, ↓brB_beq, ↓brB_bne, gc_none, gc_pure, wrap_i64, p_move, p_assign, p_pick, p_alloc, p_box, p_build, p_buildSlice, p_load, p_store, p_nilCheck, p_binOp, n_tmp, n_int, n_bool, n_str, n_ptr, n_fun, n_iface, nilCmp, p_unOp, p_convert, p_makeSlice, p_makeInterface, p_makeFunc, p_slice, p_fieldAddr, p_field, p_indexAddr, p_index, p_extract, p_callv, p_callb, p_panic, quiet_val, new_val, e_assign, e_call, e_load, e_store, e_alloc, e_box, e_move, e_pick, e_build, e_buildSlice, e_nilCheck, e_binOp, e_unOp, e_convert, e_makeSlice, e_makeInterface, e_makeFunc, e_slice, e_fieldAddr, e_field, e_indexAddr, e_index, e_extract, e_panic, callD, fpRead, adopt, adoptL, ofValue, ofScalar, binOpV, unOpV, intBin, strBin, eqRes, veq, veqF, eqDepth, val?, finish, resL, r_tmp, r_cell, normL, normTop, tipIs, refsL, refs, ownRefs, single, frz, frzL, ren, renL, renOwn, callOp, doCall, backR, writeBack, builtinV, loadV, storeV, cellsAt, takeV, D.isAgg, overlay, vcells, cellOk, fieldAddrV, indexAddrV, fieldV, partV, indexV, buildV, fillV, buildSliceV, litElems, appendV, appElems, elemOk, convertV, convV, winStr, makeSliceV, sliceV, natOf, i_again, roundEnd, dropT, cleanV, Tryd.f9, Tryd.ti3, Tryd.ti9, Tryd.ti29, Tryd.ti45, hi, hi', hlm]

set_option maxRecDepth 100000 in
set_option maxHeartbeats 4000000 in
theorem ev_lexback (s : List UInt8) : EV 5 [.str s] [] = some (.ret (.bool true), []) := by
  rw [EV_mki rfl Tryd.func5 rfl (by kernel_rfl)]
  by_cases h : 1000 < s.length
  · have h' : (1000 : Int) < s.length := by omega
    simp [i_nil, i_blk, i_skip, i_ret, i_exit, i_seq, i_block, i_cond, i_region', i_ops_nil, i_ops, i_drawn', d_in, a_nil, a_cons, alt1, h_nil, h_one, h_two, z_nil, z_cons, z_cells, zeqL, zeq, q_alloc, q_some, isAlO, nxtN, i_drh, d_hi, i_drw_nil, i_drw, u_nil, u_code, u_ops, u_drw, u_lp, u_again, u_exit, u_ret, u_panic, c_bool, o_some, o_val, o_panic, d_some, d_val, d_panic, w_none, w_fast, wantG, q_nil, q_zero, q_succ, t_zero, t_succ, g_zero, g_succ, s_zero, s_succ, s_some, s_none, v_tmp, v_const, v_func, f_quiet, ↓brB_true, ↓brB_false, ↓brB_dec, ↓brB_not, ↓brB_and, ↓brB_or, ↓brB_beq, ↓brB_bne, gc_none, gc_pure, wrap_i64, p_move, p_assign, p_pick, p_alloc, p_box, p_build, p_buildSlice, p_load, p_store, p_nilCheck, p_binOp, n_tmp, n_int, n_bool, n_str, n_ptr, n_fun, n_iface, nilCmp, p_unOp, p_convert, p_makeSlice, p_makeInterface, p_makeFunc, p_slice, p_fieldAddr, p_field, p_indexAddr, p_index, p_extract, p_callv, p_callb, p_panic, quiet_val, new_val, e_assign, e_call, e_load, e_store, e_alloc, e_box, e_move, e_pick, e_build, e_buildSlice, e_nilCheck, e_binOp, e_unOp, e_convert, e_makeSlice, e_makeInterface, e_makeFunc, e_slice, e_fieldAddr, e_field, e_indexAddr, e_index, e_extract, e_panic, callD, fpRead, adopt, adoptL, ofValue, ofScalar, binOpV, unOpV, intBin, strBin, eqRes, veq, veqF, eqDepth, val?, finish, resL, r_tmp, r_cell, normL, normTop, tipIs, refsL, refs, ownRefs, single, frz, frzL, ren, renL, renOwn, callOp, doCall, backR, writeBack, builtinV, loadV, storeV, cellsAt, takeV, D.isAgg, overlay, vcells, cellOk, fieldAddrV, indexAddrV, fieldV, partV, indexV, buildV, fillV, buildSliceV, litElems, appendV, appElems, elemOk, convertV, convV, winStr, makeSliceV, sliceV, natOf, Tryd.f5, Tryd.ti3, Tryd.ti9, Tryd.ti23, Tryd.ti24, Tryd.ti26, Tryd.ti36, ev_awake, h, h']
  · have h' : ¬ (1000 : Int) < s.length := by omega
    have ht := ev_tokens s (by omega)
    cases hx : toksS (s.length + 1) 0 s with
    | ok l =>
      have hll := toks_len s (s.length + 1) 0 l (by omega) (by rw [List.drop_zero]; exact hx)
      obtain ⟨hti, htl⟩ := text_small (by omega) hx (by omega)
      obtain ⟨m, h1, h2, h3⟩ := lex_back hx
      have hml := alikes_len h2
      have hmt : ∀ t ∈ m, tinyTok t := fun t ht => by
        obtain ⟨i1, i2⟩ := toks_small _ _ _ _ h1 t ht
        refine ⟨i1, ?_⟩
        rcases i2 with ⟨i2, _⟩ | i2 <;> omega
      have htm := ev_tokens ([10, 32] ++ textS l ++ [9]) htl
      rw [hx] at ht
      rw [h1] at htm
      simp only [toksO] at ht htm
      have hte := ev_text' l (by omega) hti
      have hte2 := ev_text' m (by omega) hmt
      rw [h3] at hte2
      have hp := ev_tplain l (by omega)
      have hp2 := ev_tplain m (by omega)
      have hs := ev_tsame_alike l m h2 (by omega)
      have hb1 : 2 + (textS l).length ≤ 4611686018427387904 := by simp at htl; omega
      have hb2 : (textS l).length + 1 + 1 + 1 ≤ 4611686018427387904 := by simp at htl; omega
      simp only [List.cons_append, List.nil_append, List.append_assoc] at htm
      simp [i_nil, i_blk, i_skip, i_ret, i_exit, i_seq, i_block, i_cond, i_region', i_ops_nil, i_ops, i_drawn', d_in, a_nil, a_cons, alt1, h_nil, h_one, h_two, z_nil, z_cons, z_cells, zeqL, zeq, q_alloc, q_some, isAlO, nxtN, i_drh, d_hi, i_drw_nil, i_drw, u_nil, u_code, u_ops, u_drw, u_lp, u_again, u_exit, u_ret, u_panic, c_bool, o_some, o_val, o_panic, d_some, d_val, d_panic, w_none, w_fast, wantG, q_nil, q_zero, q_succ, t_zero, t_succ, g_zero, g_succ, s_zero, s_succ, s_some, s_none, v_tmp, v_const, v_func, f_quiet, ↓brB_true, ↓brB_false, ↓brB_dec, ↓brB_not, ↓brB_and, ↓brB_or, ↓brB_beq, ↓brB_bne, gc_none, gc_pure, wrap_i64, p_move, p_assign, p_pick, p_alloc, p_box, p_build, p_buildSlice, p_load, p_store, p_nilCheck, p_binOp, n_tmp, n_int, n_bool, n_str, n_ptr, n_fun, n_iface, nilCmp, p_unOp, p_convert, p_makeSlice, p_makeInterface, p_makeFunc, p_slice, p_fieldAddr, p_field, p_indexAddr, p_index, p_extract, p_callv, p_callb, p_panic, quiet_val, new_val, e_assign, e_call, e_load, e_store, e_alloc, e_box, e_move, e_pick, e_build, e_buildSlice, e_nilCheck, e_binOp, e_unOp, e_convert, e_makeSlice, e_makeInterface, e_makeFunc, e_slice, e_fieldAddr, e_field, e_indexAddr, e_index, e_extract, e_panic, callD, fpRead, adopt, adoptL, ofValue, ofScalar, binOpV, unOpV, intBin, strBin, eqRes, veq, veqF, eqDepth, val?, finish, resL, r_tmp, r_cell, normL, normTop, tipIs, refsL, refs, ownRefs, single, frz, frzL, ren, renL, renOwn, callOp, doCall, backR, writeBack, builtinV, loadV, storeV, cellsAt, takeV, D.isAgg, overlay, vcells, cellOk, fieldAddrV, indexAddrV, fieldV, partV, indexV, buildV, fillV, buildSliceV, litElems, appendV, appElems, elemOk, convertV, convV, winStr, makeSliceV, sliceV, natOf, reach, reachFuel, shut, nodup, List.idxOf, List.findIdx, List.findIdx.go, backR, Tryd.f5, Tryd.ti3, Tryd.ti9, Tryd.ti23, Tryd.ti24, Tryd.ti26, Tryd.ti36, ev_awake, h, h', ht, htm, hte, hte2, hp, hp2, hs, hb1, hb2]
    | error e =>
      rw [hx] at ht
      simp only [toksO] at ht
      simp [i_nil, i_blk, i_skip, i_ret, i_exit, i_seq, i_block, i_cond, i_region', i_ops_nil, i_ops, i_drawn', d_in, a_nil, a_cons, alt1, h_nil, h_one, h_two, z_nil, z_cons, z_cells, zeqL, zeq, q_alloc, q_some, isAlO, nxtN, i_drh, d_hi, i_drw_nil, i_drw, u_nil, u_code, u_ops, u_drw, u_lp, u_again, u_exit, u_ret, u_panic, c_bool, o_some, o_val, o_panic, d_some, d_val, d_panic, w_none, w_fast, wantG, q_nil, q_zero, q_succ, t_zero, t_succ, g_zero, g_succ, s_zero, s_succ, s_some, s_none, v_tmp, v_const, v_func, f_quiet, ↓brB_true, ↓brB_false, ↓brB_dec, ↓brB_not, ↓brB_and, ↓brB_or, ↓brB_beq, ↓brB_bne, gc_none, gc_pure, wrap_i64, p_move, p_assign, p_pick, p_alloc, p_box, p_build, p_buildSlice, p_load, p_store, p_nilCheck, p_binOp, n_tmp, n_int, n_bool, n_str, n_ptr, n_fun, n_iface, nilCmp, p_unOp, p_convert, p_makeSlice, p_makeInterface, p_makeFunc, p_slice, p_fieldAddr, p_field, p_indexAddr, p_index, p_extract, p_callv, p_callb, p_panic, quiet_val, new_val, e_assign, e_call, e_load, e_store, e_alloc, e_box, e_move, e_pick, e_build, e_buildSlice, e_nilCheck, e_binOp, e_unOp, e_convert, e_makeSlice, e_makeInterface, e_makeFunc, e_slice, e_fieldAddr, e_field, e_indexAddr, e_index, e_extract, e_panic, callD, fpRead, adopt, adoptL, ofValue, ofScalar, binOpV, unOpV, intBin, strBin, eqRes, veq, veqF, eqDepth, val?, finish, resL, r_tmp, r_cell, normL, normTop, tipIs, refsL, refs, ownRefs, single, frz, frzL, ren, renL, renOwn, callOp, doCall, backR, writeBack, builtinV, loadV, storeV, cellsAt, takeV, D.isAgg, overlay, vcells, cellOk, fieldAddrV, indexAddrV, fieldV, partV, indexV, buildV, fillV, buildSliceV, litElems, appendV, appElems, elemOk, convertV, convV, winStr, makeSliceV, sliceV, natOf, reach, reachFuel, shut, nodup, List.idxOf, List.findIdx, List.findIdx.go, backR, Tryd.f5, Tryd.ti3, Tryd.ti9, Tryd.ti23, Tryd.ti24, Tryd.ti26, Tryd.ti36, ev_awake, h, h', ht]
end Go.Abs
