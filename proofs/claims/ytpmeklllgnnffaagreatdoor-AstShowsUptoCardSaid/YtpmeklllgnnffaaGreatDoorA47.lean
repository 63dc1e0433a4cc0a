/- A statement, copied; how deep a statement is. -/
import Derived.Test.YtpmeklllgnnffaaGreatDoorA46

namespace Go.Abs
set_option linter.unusedSimpArgs false
set_option linter.unusedVariables false
open Go Go.Proofs
attribute [local simp] i_nil i_blk i_skip i_ret i_exit i_seq i_block i_cond i_region' i_ops_nil i_ops i_drawn' d_in a_nil a_cons alt1 h_nil h_one h_two z_nil z_cons z_cells zeqL zeq q_alloc q_some isAlO nxtN i_drh d_hi i_drw_nil i_drw u_nil u_code u_ops u_drw u_lp u_again u_exit u_ret u_panic c_bool o_some o_val o_panic d_some d_val d_panic w_none w_fast wantG q_nil q_zero q_succ t_zero t_succ g_zero g_succ s_zero s_succ s_some s_none v_tmp v_const v_func f_quiet gc_none gc_pure wrap_i64 p_move p_assign p_pick p_alloc p_box p_build p_buildSlice p_load p_store p_nilCheck p_binOp n_tmp n_int n_bool n_str n_ptr n_fun n_iface nilCmp p_unOp p_convert p_makeSlice p_makeInterface p_makeFunc p_slice p_fieldAddr p_field p_indexAddr p_index p_extract p_callv p_callb p_panic quiet_val new_val e_assign e_call e_load e_store e_alloc e_box e_move e_pick e_build e_buildSlice e_nilCheck e_binOp e_unOp e_convert e_makeSlice e_makeInterface e_makeFunc e_slice e_fieldAddr e_field e_indexAddr e_index e_extract e_panic callD fpRead adopt adoptL ofValue ofScalar binOpV unOpV intBin strBin eqRes veq veqF eqDepth val? finish resL r_tmp r_cell normL normTop tipIs refsL refs ownRefs single frz frzL ren renL renOwn callOp doCall backR writeBack builtinV loadV storeV cellsAt takeV D.isAgg overlay vcells cellOk fieldAddrV indexAddrV fieldV partV indexV buildV fillV buildSliceV litElems appendV appElems elemOk convertV convV winStr makeSliceV sliceV natOf
attribute [local simp ↓] brB_true brB_false brB_dec brB_not brB_and brB_or brB_beq brB_bne
attribute [local irreducible] fpsQ panQ

mutual
theorem ev_plainstm : ∀ e : Stm, e.ok → EV 14 [e.enc] [] = some (.ret e.enc, [])
  | .mk b acts, h => ev_plainstm_of b acts h.1 h.2.1 (ev_plainstm_all acts h.2.2)
theorem ev_plainstm_all : ∀ l : List Stm, Stm.oks l → ∀ m ∈ l, EV 14 [m.enc] [] = some (.ret m.enc, [])
  | [], _, m, hm => by cases hm
  | e :: l, h, m, hm => by
    rcases List.mem_cons.1 hm with hm | hm
    · rw [hm]; exact ev_plainstm e h.1
    · exact ev_plainstm_all l h.2 m hm
end

def deepS : Nat → Stm → Bool
  | 0, _ => true
  | n + 1, s => decide (500 < s.b.name.length) || decide (500 < s.b.table.length) || decide (500 < s.b.col.length) || (s.b.values.any (deepE 60) || (s.b.items.any (deepE 60) || (s.b.wher.any (deepE 60) || (s.b.sets.any (fun x => deepE 60 x.e) || s.acts.any (deepS n)))))

set_option maxRecDepth 100000 in
set_option maxHeartbeats 2000000 in
theorem ev_deeps_of (n : Nat) (b : StB) (acts : List Stm) (h : b.ok) (hn : n < 1000) (hl : acts.length ≤ 1048576) (ihk : ∀ a ∈ acts, EV 36 [a.enc, .int .i64 n] [] = some (.ret (.bool (deepS n a)), [])) :
    EV 36 [(Stm.mk b acts).enc, .int .i64 (n + 1 : Nat)] [] = some (.ret (.bool (deepS (n + 1) (.mk b acts))), []) := by
  have hn0 : ¬ ((n : Int) + 1 = 0) := by omega
  have hw : IntKind.i64.wrap (n : Int) = n := wrap_i64 (by omega)
  rw [EV_mki rfl Tryz.func36 rfl (by kernel_rfl), senc_mk]
  have hs := h.sets
  have hx1 := h.values
  have hx2 := h.items
  have hx3 := h.wher
  have b1 := h.name
  have b2 := h.table
  have b3 := h.col
  simp only [deepS, Stm.b, Stm.acts]
  obtain ⟨kind, name, table, col, cols, values, items, wher, sets, src, prio, event, deferred, rolls⟩ := b
  dsimp only at hs hx1 hx2 hx3 b1 b2 b3 ⊢
  by_cases h1 : 500 < name.length
  · have h1' : (500 : Int) < name.length := by omega
    simp [Tryz.f36, Tryz.ti3, Tryz.ti4, Tryz.ti9, Tryz.ti22, Tryz.ti23, Tryz.ti24, Tryz.ti25, Tryz.ti26, Tryz.ti28, Tryz.ti44, Tryz.ti46, Tryz.ti80, Tryz.ti84, Tryz.ti94, Tryz.ti129, hn0, h1, h1'] <;> first | (change _ = true; decide +kernel) | (refine ⟨?_, ?_⟩ <;> (change _ = true; decide +kernel))
  have h1' : ¬ (500 : Int) < name.length := by omega
  by_cases h2 : 500 < table.length
  · have h2' : (500 : Int) < table.length := by omega
    simp [Tryz.f36, Tryz.ti3, Tryz.ti4, Tryz.ti9, Tryz.ti22, Tryz.ti23, Tryz.ti24, Tryz.ti25, Tryz.ti26, Tryz.ti28, Tryz.ti44, Tryz.ti46, Tryz.ti80, Tryz.ti84, Tryz.ti94, Tryz.ti129, hn0, h1, h1', h2, h2'] <;> first | (change _ = true; decide +kernel) | (refine ⟨?_, ?_⟩ <;> (change _ = true; decide +kernel))
  have h2' : ¬ (500 : Int) < table.length := by omega
  by_cases h3 : 500 < col.length
  · have h3' : (500 : Int) < col.length := by omega
    simp [Tryz.f36, Tryz.ti3, Tryz.ti4, Tryz.ti9, Tryz.ti22, Tryz.ti23, Tryz.ti24, Tryz.ti25, Tryz.ti26, Tryz.ti28, Tryz.ti44, Tryz.ti46, Tryz.ti80, Tryz.ti84, Tryz.ti94, Tryz.ti129, hn0, h1, h1', h2, h2', h3, h3'] <;> first | (change _ = true; decide +kernel) | (refine ⟨?_, ?_⟩ <;> (change _ = true; decide +kernel))
  have h3' : ¬ (500 : Int) < col.length := by omega
  simp only [h1, h2, h3, decide_false, Bool.false_or]
  simp [Tryz.f36, Tryz.ti3, Tryz.ti4, Tryz.ti9, Tryz.ti22, Tryz.ti23, Tryz.ti24, Tryz.ti25, Tryz.ti26, Tryz.ti28, Tryz.ti44, Tryz.ti46, Tryz.ti80, Tryz.ti84, Tryz.ti94, Tryz.ti129, hn0, h1', h2', h3']
  rw [i_loop (ts := [42, 43, 44, 6, 45, 46, 47, 48, 49, 50, 8, 51, 52, 53, 47, 54])]
  rotate_left
  · kernel_rfl
  refine i_at (fun o : {o : Nat // o ≤ 3} => 3 - o.1) (fun o env => setV env 41 (.int .i64 o.1)) (fun o => _) (fun o => some (.ret (.bool (if o.1 = 0 then (values.any (deepE 60) || (items.any (deepE 60) || (wher.any (deepE 60) || (sets.any (fun x => deepE 60 x.e) || acts.any (deepS n))))) else if o.1 = 1 then (items.any (deepE 60) || (wher.any (deepE 60) || (sets.any (fun x => deepE 60 x.e) || acts.any (deepS n)))) else if o.1 = 2 then (wher.any (deepE 60) || (sets.any (fun x => deepE 60 x.e) || acts.any (deepS n))) else (sets.any (fun x => deepE 60 x.e) || acts.any (deepS n)))), [])) ⟨0, by omega⟩ (by simp [s_zero, s_succ]) rfl (by simp) ?_
  intro ⟨o, hol⟩ iho
  dsimp only at hol ⊢
  obtain rfl | rfl | rfl | rfl : o = 0 ∨ o = 1 ∨ o = 2 ∨ o = 3 := by omega
  · have iho := iho ⟨1, by omega⟩ (by simp)
    simp [s_zero, s_succ] at iho
    simp [i_again, roundEnd, dropT, cleanV, Tryz.f36, Tryz.ti3, Tryz.ti4, Tryz.ti9, Tryz.ti22, Tryz.ti23, Tryz.ti24, Tryz.ti25, Tryz.ti26, Tryz.ti28, Tryz.ti44, Tryz.ti46, Tryz.ti80, Tryz.ti84, Tryz.ti94, Tryz.ti129]
    rw [i_loop (ts := [48, 49, 50, 8, 51, 52, 53])]
    rotate_left
    · kernel_rfl
    refine i_at (fun i : {i : Nat // i ≤ values.length} => values.length - i.1) (fun i env => setV env 47 (.int .i64 i.1)) (fun i => _) (fun i => some (.ret (.bool ((values.drop i.1).any (deepE 60) || (items.any (deepE 60) || (wher.any (deepE 60) || (sets.any (fun x => deepE 60 x.e) || acts.any (deepS n)))))), [])) ⟨0, by omega⟩ (by simp [s_zero, s_succ]) rfl (by simp) ?_
    intro ⟨i, hil⟩ ih
    dsimp only at hil ⊢
    by_cases hi : i < values.length
    · have ih := ih ⟨i + 1, by omega⟩ (by simp only; omega)
      have hwi : IntKind.i64.wrap ((i : Int) + 1) = (i : Int) + 1 := wrap_i64 (by omega)
      have hc := ev_deepx 60 values[i] (hx1.2 _ (List.getElem_mem hi)) (by omega)
      obtain ⟨t, hk⟩ : ∃ m, values[i] = m := ⟨_, rfl⟩
      rw [List.drop_eq_getElem_cons hi, List.any_cons, hk]
      rw [hk] at hc
      try simp only [Int.cast_ofNat_Int] at hc
      obtain ⟨op, v, var, co, kids⟩ := t
      rw [xenc_mk] at hc
      simp only [s_zero, s_succ, Int.natCast_add, Int.natCast_one, Int.cast_ofNat_Int] at ih
      cases hd : deepE 60 (.mk op v var co kids) <;> rw [hd] at hc <;> simp [i_again, roundEnd, dropT, cleanV, Tryz.f36, Tryz.ti3, Tryz.ti4, Tryz.ti9, Tryz.ti22, Tryz.ti23, Tryz.ti24, Tryz.ti25, Tryz.ti26, Tryz.ti28, Tryz.ti44, Tryz.ti46, Tryz.ti80, Tryz.ti84, Tryz.ti94, Tryz.ti129, hi, hk, xenc_mk, hwi, hw, ih, hc, Bool.or_assoc]
    rw [List.drop_of_length_le (by omega)]
    obtain rfl : i = values.length := by omega
    clear ih
    simp [i_again, roundEnd, dropT, cleanV, Tryz.f36, Tryz.ti3, Tryz.ti4, Tryz.ti9, Tryz.ti22, Tryz.ti23, Tryz.ti24, Tryz.ti25, Tryz.ti26, Tryz.ti28, Tryz.ti44, Tryz.ti46, Tryz.ti80, Tryz.ti84, Tryz.ti94, Tryz.ti129, iho]
  · have iho := iho ⟨2, by omega⟩ (by simp)
    simp [s_zero, s_succ] at iho
    simp [i_again, roundEnd, dropT, cleanV, Tryz.f36, Tryz.ti3, Tryz.ti4, Tryz.ti9, Tryz.ti22, Tryz.ti23, Tryz.ti24, Tryz.ti25, Tryz.ti26, Tryz.ti28, Tryz.ti44, Tryz.ti46, Tryz.ti80, Tryz.ti84, Tryz.ti94, Tryz.ti129]
    rw [i_loop (ts := [48, 49, 50, 8, 51, 52, 53])]
    rotate_left
    · kernel_rfl
    refine i_at (fun i : {i : Nat // i ≤ items.length} => items.length - i.1) (fun i env => setV env 47 (.int .i64 i.1)) (fun i => _) (fun i => some (.ret (.bool ((items.drop i.1).any (deepE 60) || (wher.any (deepE 60) || (sets.any (fun x => deepE 60 x.e) || acts.any (deepS n))))), [])) ⟨0, by omega⟩ (by simp [s_zero, s_succ]) rfl (by simp) ?_
    intro ⟨i, hil⟩ ih
    dsimp only at hil ⊢
    by_cases hi : i < items.length
    · have ih := ih ⟨i + 1, by omega⟩ (by simp only; omega)
      have hwi : IntKind.i64.wrap ((i : Int) + 1) = (i : Int) + 1 := wrap_i64 (by omega)
      have hc := ev_deepx 60 items[i] (hx2.2 _ (List.getElem_mem hi)) (by omega)
      obtain ⟨t, hk⟩ : ∃ m, items[i] = m := ⟨_, rfl⟩
      rw [List.drop_eq_getElem_cons hi, List.any_cons, hk]
      rw [hk] at hc
      try simp only [Int.cast_ofNat_Int] at hc
      obtain ⟨op, v, var, co, kids⟩ := t
      rw [xenc_mk] at hc
      simp only [s_zero, s_succ, Int.natCast_add, Int.natCast_one, Int.cast_ofNat_Int] at ih
      cases hd : deepE 60 (.mk op v var co kids) <;> rw [hd] at hc <;> simp [i_again, roundEnd, dropT, cleanV, Tryz.f36, Tryz.ti3, Tryz.ti4, Tryz.ti9, Tryz.ti22, Tryz.ti23, Tryz.ti24, Tryz.ti25, Tryz.ti26, Tryz.ti28, Tryz.ti44, Tryz.ti46, Tryz.ti80, Tryz.ti84, Tryz.ti94, Tryz.ti129, hi, hk, xenc_mk, hwi, hw, ih, hc, Bool.or_assoc]
    rw [List.drop_of_length_le (by omega)]
    obtain rfl : i = items.length := by omega
    clear ih
    simp [i_again, roundEnd, dropT, cleanV, Tryz.f36, Tryz.ti3, Tryz.ti4, Tryz.ti9, Tryz.ti22, Tryz.ti23, Tryz.ti24, Tryz.ti25, Tryz.ti26, Tryz.ti28, Tryz.ti44, Tryz.ti46, Tryz.ti80, Tryz.ti84, Tryz.ti94, Tryz.ti129, iho]
  · have iho := iho ⟨3, by omega⟩ (by simp)
    simp [s_zero, s_succ] at iho
    simp [i_again, roundEnd, dropT, cleanV, Tryz.f36, Tryz.ti3, Tryz.ti4, Tryz.ti9, Tryz.ti22, Tryz.ti23, Tryz.ti24, Tryz.ti25, Tryz.ti26, Tryz.ti28, Tryz.ti44, Tryz.ti46, Tryz.ti80, Tryz.ti84, Tryz.ti94, Tryz.ti129]
    rw [i_loop (ts := [48, 49, 50, 8, 51, 52, 53])]
    rotate_left
    · kernel_rfl
    refine i_at (fun i : {i : Nat // i ≤ wher.length} => wher.length - i.1) (fun i env => setV env 47 (.int .i64 i.1)) (fun i => _) (fun i => some (.ret (.bool ((wher.drop i.1).any (deepE 60) || (sets.any (fun x => deepE 60 x.e) || acts.any (deepS n)))), [])) ⟨0, by omega⟩ (by simp [s_zero, s_succ]) rfl (by simp) ?_
    intro ⟨i, hil⟩ ih
    dsimp only at hil ⊢
    by_cases hi : i < wher.length
    · have ih := ih ⟨i + 1, by omega⟩ (by simp only; omega)
      have hwi : IntKind.i64.wrap ((i : Int) + 1) = (i : Int) + 1 := wrap_i64 (by omega)
      have hc := ev_deepx 60 wher[i] (hx3.2 _ (List.getElem_mem hi)) (by omega)
      obtain ⟨t, hk⟩ : ∃ m, wher[i] = m := ⟨_, rfl⟩
      rw [List.drop_eq_getElem_cons hi, List.any_cons, hk]
      rw [hk] at hc
      try simp only [Int.cast_ofNat_Int] at hc
      obtain ⟨op, v, var, co, kids⟩ := t
      rw [xenc_mk] at hc
      simp only [s_zero, s_succ, Int.natCast_add, Int.natCast_one, Int.cast_ofNat_Int] at ih
      cases hd : deepE 60 (.mk op v var co kids) <;> rw [hd] at hc <;> simp [i_again, roundEnd, dropT, cleanV, Tryz.f36, Tryz.ti3, Tryz.ti4, Tryz.ti9, Tryz.ti22, Tryz.ti23, Tryz.ti24, Tryz.ti25, Tryz.ti26, Tryz.ti28, Tryz.ti44, Tryz.ti46, Tryz.ti80, Tryz.ti84, Tryz.ti94, Tryz.ti129, hi, hk, xenc_mk, hwi, hw, ih, hc, Bool.or_assoc]
    rw [List.drop_of_length_le (by omega)]
    obtain rfl : i = wher.length := by omega
    clear ih
    simp [i_again, roundEnd, dropT, cleanV, Tryz.f36, Tryz.ti3, Tryz.ti4, Tryz.ti9, Tryz.ti22, Tryz.ti23, Tryz.ti24, Tryz.ti25, Tryz.ti26, Tryz.ti28, Tryz.ti44, Tryz.ti46, Tryz.ti80, Tryz.ti84, Tryz.ti94, Tryz.ti129, iho]
  · clear iho
    simp [i_again, roundEnd, dropT, cleanV, Tryz.f36, Tryz.ti3, Tryz.ti4, Tryz.ti9, Tryz.ti22, Tryz.ti23, Tryz.ti24, Tryz.ti25, Tryz.ti26, Tryz.ti28, Tryz.ti44, Tryz.ti46, Tryz.ti80, Tryz.ti84, Tryz.ti94, Tryz.ti129]
    rw [i_loop (ts := [59, 60, 61, 10, 62, 63, 64, 65])]
    rotate_left
    · kernel_rfl
    refine i_at (fun i : {i : Nat // i ≤ sets.length} => sets.length - i.1) (fun i env => setV env 58 (.int .i64 i.1)) (fun i => _) (fun i => some (.ret (.bool ((sets.drop i.1).any (fun x => deepE 60 x.e) || acts.any (deepS n))), [])) ⟨0, by omega⟩ (by simp [s_zero, s_succ]) rfl (by simp) ?_
    intro ⟨i, hil⟩ ih
    dsimp only at hil ⊢
    by_cases hi : i < sets.length
    · have ih := ih ⟨i + 1, by omega⟩ (by simp only; omega)
      have hwi : IntKind.i64.wrap ((i : Int) + 1) = (i : Int) + 1 := wrap_i64 (by omega)
      have hc := ev_deepx 60 sets[i].e (hs.2 _ (List.getElem_mem hi)).2 (by omega)
      obtain ⟨t, hk⟩ : ∃ m, sets[i] = m := ⟨_, rfl⟩
      rw [List.drop_eq_getElem_cons hi, List.any_cons, hk]
      rw [hk] at hc
      try simp only [Int.cast_ofNat_Int] at hc
      obtain ⟨tc, op, v, var, co, kids⟩ := t
      simp only [xenc_mk] at hc
      simp only [s_zero, s_succ, Int.natCast_add, Int.natCast_one, Int.cast_ofNat_Int] at ih
      cases hd : deepE 60 (.mk op v var co kids) <;> rw [hd] at hc <;> simp [i_again, roundEnd, dropT, cleanV, Tryz.f36, Tryz.ti3, Tryz.ti4, Tryz.ti9, Tryz.ti22, Tryz.ti23, Tryz.ti24, Tryz.ti25, Tryz.ti26, Tryz.ti28, Tryz.ti44, Tryz.ti46, Tryz.ti80, Tryz.ti84, Tryz.ti94, Tryz.ti129, hi, hk, SetE.enc, xenc_mk, hwi, hw, ih, hc, Bool.or_assoc]
    rw [List.drop_of_length_le (by omega)]
    obtain rfl : i = sets.length := by omega
    clear ih
    simp [i_again, roundEnd, dropT, cleanV, Tryz.f36, Tryz.ti3, Tryz.ti4, Tryz.ti9, Tryz.ti22, Tryz.ti23, Tryz.ti24, Tryz.ti25, Tryz.ti26, Tryz.ti28, Tryz.ti44, Tryz.ti46, Tryz.ti80, Tryz.ti84, Tryz.ti94, Tryz.ti129]
    rw [i_loop (ts := [70, 71, 72, 12, 73, 74, 75, 76, 77])]
    rotate_left
    · kernel_rfl
    refine i_at (fun i : {i : Nat // i ≤ acts.length} => acts.length - i.1) (fun i env => setV env 69 (.int .i64 i.1)) (fun i => _) (fun i => some (.ret (.bool ((acts.drop i.1).any (deepS n) || false)), [])) ⟨0, by omega⟩ (by simp [s_zero, s_succ]) rfl (by simp) ?_
    intro ⟨i, hil⟩ ih
    dsimp only at hil ⊢
    by_cases hi : i < acts.length
    · have ih := ih ⟨i + 1, by omega⟩ (by simp only; omega)
      have hwi : IntKind.i64.wrap ((i : Int) + 1) = (i : Int) + 1 := wrap_i64 (by omega)
      have hc := ihk acts[i] (List.getElem_mem hi)
      obtain ⟨t, hk⟩ : ∃ m, acts[i] = m := ⟨_, rfl⟩
      rw [List.drop_eq_getElem_cons hi, List.any_cons, hk]
      rw [hk] at hc
      try simp only [Int.cast_ofNat_Int] at hc
      obtain ⟨⟨ckind, cname, ctable, ccol, ccols, cvalues, citems, cwher, csets, csrc, cprio, cevent, cdeferred, crolls⟩, ta⟩ := t
      simp only [senc_mk] at hc
      simp only [s_zero, s_succ, Int.natCast_add, Int.natCast_one, Int.cast_ofNat_Int] at ih
      cases hd : deepS n (.mk ⟨ckind, cname, ctable, ccol, ccols, cvalues, citems, cwher, csets, csrc, cprio, cevent, cdeferred, crolls⟩ ta) <;> rw [hd] at hc <;> simp [-adopt, -adoptL, ad_full, ad_froz, ad_own, ad_int, ad_bool, ad_str, ad_box, ad_agg, isFull, noFull, ↓ad_stmt, i_again, roundEnd, dropT, cleanV, Tryz.f36, Tryz.ti3, Tryz.ti4, Tryz.ti9, Tryz.ti22, Tryz.ti23, Tryz.ti24, Tryz.ti25, Tryz.ti26, Tryz.ti28, Tryz.ti44, Tryz.ti46, Tryz.ti80, Tryz.ti84, Tryz.ti94, Tryz.ti129, hi, hk, senc_mk, hwi, hw, ih, hc, Bool.or_assoc]
    rw [List.drop_of_length_le (by omega)]
    obtain rfl : i = acts.length := by omega
    clear ih
    simp [i_again, roundEnd, dropT, cleanV, Tryz.f36, Tryz.ti3, Tryz.ti4, Tryz.ti9, Tryz.ti22, Tryz.ti23, Tryz.ti24, Tryz.ti25, Tryz.ti26, Tryz.ti28, Tryz.ti44, Tryz.ti46, Tryz.ti80, Tryz.ti84, Tryz.ti94, Tryz.ti129]
theorem ev_deeps : ∀ (n : Nat) (e : Stm), e.ok → n < 1000 → EV 36 [e.enc, .int .i64 n] [] = some (.ret (.bool (deepS n e)), [])
  | 0, .mk b acts, h, hn => by
    rw [EV_mki rfl Tryz.func36 rfl (by kernel_rfl), senc_mk]
    simp [Tryz.f36, Tryz.ti3, Tryz.ti4, Tryz.ti9, Tryz.ti22, Tryz.ti23, Tryz.ti24, Tryz.ti25, Tryz.ti26, Tryz.ti28, Tryz.ti44, Tryz.ti46, Tryz.ti80, Tryz.ti84, Tryz.ti94, Tryz.ti129, deepS] <;> first | (change _ = true; decide +kernel) | (refine ⟨?_, ?_⟩ <;> (change _ = true; decide +kernel))
  | n + 1, .mk b acts, h, hn => ev_deeps_of n b acts h.1 (by omega) h.2.1 (fun m hm => ev_deeps n m ((soks_iff acts).1 h.2.2 m hm) (by omega))
end Go.Abs

