/- Whether a statement has no fields that its kind doesn't have. -/
import Derived.Test.YtpmeklllgnnffaaGreatDoorU29
set_option linter.unusedSimpArgs false
set_option linter.unusedVariables false

namespace Go.Abs
set_option linter.unusedSimpArgs false
set_option linter.unusedVariables false
open Go Go.Proofs
attribute [local simp] i_nil i_blk i_skip i_ret i_exit i_seq i_block i_cond i_region' i_ops_nil i_ops i_drawn' k_none k_0 k_1 k_2 k_3 k_4 k_5 d_in a_nil a_cons alt1 h_nil h_one h_two z_nil z_cons z_cells zeqL zeq q_alloc q_some nxtN i_drh d_hi i_drw_nil i_drw u_nil u_code u_ops u_drw u_lp u_again u_exit u_ret u_panic c_bool o_some o_val o_panic d_some d_val d_panic w_none w_fast wantG q_nil q_zero q_succ t_zero t_succ g_zero g_succ s_zero s_succ s_some s_none v_tmp v_const v_func f_quiet gc_none gc_pure wrap_i64 p_move p_assign p_pick p_alloc p_box p_build p_buildSlice p_load p_store p_nilCheck p_binOp n_tmp n_int n_bool n_str n_ptr n_fun n_iface nilCmp p_unOp p_convert p_makeSlice p_makeInterface p_makeFunc p_slice p_fieldAddr p_field p_indexAddr p_index p_extract p_callv p_callb p_panic quiet_val new_val e_assign e_call e_load e_store e_alloc e_box e_move e_pick e_build e_buildSlice e_nilCheck e_binOp e_unOp e_convert e_makeSlice e_makeInterface e_makeFunc e_slice e_fieldAddr e_field e_indexAddr e_index e_extract e_panic callD fpRead adoptZ fulls adopt adoptL ofValue ofScalar binOpV unOpV intBin strBin eqRes veq veqF eqDepth val? finish resL r_tmp r_cell normL normTop tipIs refsL refs ownRefs single frz frzL ren renL renOwn callOp doCall backR writeBack builtinV loadV storeV storeW iceT cellsAt takeV D.isAgg overlay vcells cellOk fieldAddrV indexAddrV fieldV partV indexV buildV fillV buildSliceV litElems appendV appElems elemOk convertV convV winStr makeSliceV sliceV natOf
attribute [local simp ↓] brB_true brB_false brB_dec brB_not brB_and brB_or brB_beq brB_bne

def bareOf (x s : StB) (xa sa : List Stm) : Bool :=
  (decide (x.name = s.name) && (decide (x.table = s.table) && (decide (x.col = s.col) && (decide (x.prio = s.prio) && (decide (x.event = s.event) && (decide (x.deferred = s.deferred) && (decide (x.rolls = s.rolls)))))))) && ((decide (x.cols.length = s.cols.length) && (decide (x.values.length = s.values.length) && (decide (x.items.length = s.items.length) && (decide (x.wher.length = s.wher.length) && (decide (x.sets.length = s.sets.length) && (decide (x.src.length = s.src.length) && decide (xa.length = sa.length))))))))
def bareS (s : Stm) : Bool := bareOf (blankS s).b s.b (blankS s).acts s.acts
set_option maxRecDepth 100000 in
set_option maxHeartbeats 8000000 in
theorem ev_bare : ∀ s : Stm, EV 39 [s.enc] [] = some (.ret (.bool (bareS s)), []) := by
  intro s
  have hb := ev_blank s
  unfold bareS
  generalize blankS s = x at hb ⊢
  obtain ⟨b, acts⟩ := s
  obtain ⟨xb, xa⟩ := x
  simp only [Stm.b, Stm.acts]
  rw [senc_mk, senc_mk] at hb
  rw [EV_mki rfl Tryz.func39 rfl (by kernel_rfl) rfl, senc_mk]
  obtain ⟨kind, name, table, col, cols, values, items, wher, sets, src, prio, event, deferred, rolls⟩ := b
  obtain ⟨xkind, xname, xtable, xcol, xcols, xvalues, xitems, xwher, xsets, xsrc, xprio, xevent, xdeferred, xrolls⟩ := xb
  simp only [bareOf]
  dsimp only at hb
  by_cases h0 : xname = name
  rotate_left
  · simp [Tryz.f39, Tryz.ti3, Tryz.ti4, Tryz.ti9, Tryz.ti22, Tryz.ti23, Tryz.ti24, Tryz.ti25, Tryz.ti26, Tryz.ti28, Tryz.ti44, Tryz.ti46, Tryz.ti80, Tryz.ti84, Tryz.ti94, hb, h0] <;> first | (refine panQ_of ?_; decide +kernel) | (change _ = true; decide +kernel) | kernel_rfl | (refine ⟨?_, ?_⟩ <;> first | (change _ = true; decide +kernel) | kernel_rfl)
  by_cases h1 : xtable = table
  rotate_left
  · simp [Tryz.f39, Tryz.ti3, Tryz.ti4, Tryz.ti9, Tryz.ti22, Tryz.ti23, Tryz.ti24, Tryz.ti25, Tryz.ti26, Tryz.ti28, Tryz.ti44, Tryz.ti46, Tryz.ti80, Tryz.ti84, Tryz.ti94, hb, h0, h1] <;> first | (refine panQ_of ?_; decide +kernel) | (change _ = true; decide +kernel) | kernel_rfl | (refine ⟨?_, ?_⟩ <;> first | (change _ = true; decide +kernel) | kernel_rfl)
  by_cases h2 : xcol = col
  rotate_left
  · simp [Tryz.f39, Tryz.ti3, Tryz.ti4, Tryz.ti9, Tryz.ti22, Tryz.ti23, Tryz.ti24, Tryz.ti25, Tryz.ti26, Tryz.ti28, Tryz.ti44, Tryz.ti46, Tryz.ti80, Tryz.ti84, Tryz.ti94, hb, h0, h1, h2] <;> first | (refine panQ_of ?_; decide +kernel) | (change _ = true; decide +kernel) | kernel_rfl | (refine ⟨?_, ?_⟩ <;> first | (change _ = true; decide +kernel) | kernel_rfl)
  by_cases h3 : xprio = prio
  rotate_left
  · simp [Tryz.f39, Tryz.ti3, Tryz.ti4, Tryz.ti9, Tryz.ti22, Tryz.ti23, Tryz.ti24, Tryz.ti25, Tryz.ti26, Tryz.ti28, Tryz.ti44, Tryz.ti46, Tryz.ti80, Tryz.ti84, Tryz.ti94, hb, h0, h1, h2, h3] <;> first | (refine panQ_of ?_; decide +kernel) | (change _ = true; decide +kernel) | kernel_rfl | (refine ⟨?_, ?_⟩ <;> first | (change _ = true; decide +kernel) | kernel_rfl)
  by_cases h4 : xevent = event
  rotate_left
  · simp [Tryz.f39, Tryz.ti3, Tryz.ti4, Tryz.ti9, Tryz.ti22, Tryz.ti23, Tryz.ti24, Tryz.ti25, Tryz.ti26, Tryz.ti28, Tryz.ti44, Tryz.ti46, Tryz.ti80, Tryz.ti84, Tryz.ti94, hb, h0, h1, h2, h3, h4] <;> first | (refine panQ_of ?_; decide +kernel) | (change _ = true; decide +kernel) | kernel_rfl | (refine ⟨?_, ?_⟩ <;> first | (change _ = true; decide +kernel) | kernel_rfl)
  by_cases h5 : xdeferred = deferred
  rotate_left
  · simp [Tryz.f39, Tryz.ti3, Tryz.ti4, Tryz.ti9, Tryz.ti22, Tryz.ti23, Tryz.ti24, Tryz.ti25, Tryz.ti26, Tryz.ti28, Tryz.ti44, Tryz.ti46, Tryz.ti80, Tryz.ti84, Tryz.ti94, hb, h0, h1, h2, h3, h4, h5] <;> first | (refine panQ_of ?_; decide +kernel) | (change _ = true; decide +kernel) | kernel_rfl | (refine ⟨?_, ?_⟩ <;> first | (change _ = true; decide +kernel) | kernel_rfl)
  by_cases h6 : xrolls = rolls
  rotate_left
  · simp [Tryz.f39, Tryz.ti3, Tryz.ti4, Tryz.ti9, Tryz.ti22, Tryz.ti23, Tryz.ti24, Tryz.ti25, Tryz.ti26, Tryz.ti28, Tryz.ti44, Tryz.ti46, Tryz.ti80, Tryz.ti84, Tryz.ti94, hb, h0, h1, h2, h3, h4, h5, h6] <;> first | (refine panQ_of ?_; decide +kernel) | (change _ = true; decide +kernel) | kernel_rfl | (refine ⟨?_, ?_⟩ <;> first | (change _ = true; decide +kernel) | kernel_rfl)
  by_cases h7 : (xcols.length : Int) = cols.length
  rotate_left
  · have n7 : ¬ xcols.length = cols.length := by omega
    simp [Tryz.f39, Tryz.ti3, Tryz.ti4, Tryz.ti9, Tryz.ti22, Tryz.ti23, Tryz.ti24, Tryz.ti25, Tryz.ti26, Tryz.ti28, Tryz.ti44, Tryz.ti46, Tryz.ti80, Tryz.ti84, Tryz.ti94, hb, h0, h1, h2, h3, h4, h5, h6, h7, n7] <;> first | (refine panQ_of ?_; decide +kernel) | (change _ = true; decide +kernel) | kernel_rfl | (refine ⟨?_, ?_⟩ <;> first | (change _ = true; decide +kernel) | kernel_rfl)
  have n7 : xcols.length = cols.length := by omega
  by_cases h8 : (xvalues.length : Int) = values.length
  rotate_left
  · have n8 : ¬ xvalues.length = values.length := by omega
    simp [Tryz.f39, Tryz.ti3, Tryz.ti4, Tryz.ti9, Tryz.ti22, Tryz.ti23, Tryz.ti24, Tryz.ti25, Tryz.ti26, Tryz.ti28, Tryz.ti44, Tryz.ti46, Tryz.ti80, Tryz.ti84, Tryz.ti94, hb, h0, h1, h2, h3, h4, h5, h6, h7, n7, h8, n8] <;> first | (refine panQ_of ?_; decide +kernel) | (change _ = true; decide +kernel) | kernel_rfl | (refine ⟨?_, ?_⟩ <;> first | (change _ = true; decide +kernel) | kernel_rfl)
  have n8 : xvalues.length = values.length := by omega
  by_cases h9 : (xitems.length : Int) = items.length
  rotate_left
  · have n9 : ¬ xitems.length = items.length := by omega
    simp [Tryz.f39, Tryz.ti3, Tryz.ti4, Tryz.ti9, Tryz.ti22, Tryz.ti23, Tryz.ti24, Tryz.ti25, Tryz.ti26, Tryz.ti28, Tryz.ti44, Tryz.ti46, Tryz.ti80, Tryz.ti84, Tryz.ti94, hb, h0, h1, h2, h3, h4, h5, h6, h7, n7, h8, n8, h9, n9] <;> first | (refine panQ_of ?_; decide +kernel) | (change _ = true; decide +kernel) | kernel_rfl | (refine ⟨?_, ?_⟩ <;> first | (change _ = true; decide +kernel) | kernel_rfl)
  have n9 : xitems.length = items.length := by omega
  by_cases h10 : (xwher.length : Int) = wher.length
  rotate_left
  · have n10 : ¬ xwher.length = wher.length := by omega
    simp [Tryz.f39, Tryz.ti3, Tryz.ti4, Tryz.ti9, Tryz.ti22, Tryz.ti23, Tryz.ti24, Tryz.ti25, Tryz.ti26, Tryz.ti28, Tryz.ti44, Tryz.ti46, Tryz.ti80, Tryz.ti84, Tryz.ti94, hb, h0, h1, h2, h3, h4, h5, h6, h7, n7, h8, n8, h9, n9, h10, n10] <;> first | (refine panQ_of ?_; decide +kernel) | (change _ = true; decide +kernel) | kernel_rfl | (refine ⟨?_, ?_⟩ <;> first | (change _ = true; decide +kernel) | kernel_rfl)
  have n10 : xwher.length = wher.length := by omega
  by_cases h11 : (xsets.length : Int) = sets.length
  rotate_left
  · have n11 : ¬ xsets.length = sets.length := by omega
    simp [Tryz.f39, Tryz.ti3, Tryz.ti4, Tryz.ti9, Tryz.ti22, Tryz.ti23, Tryz.ti24, Tryz.ti25, Tryz.ti26, Tryz.ti28, Tryz.ti44, Tryz.ti46, Tryz.ti80, Tryz.ti84, Tryz.ti94, hb, h0, h1, h2, h3, h4, h5, h6, h7, n7, h8, n8, h9, n9, h10, n10, h11, n11] <;> first | (refine panQ_of ?_; decide +kernel) | (change _ = true; decide +kernel) | kernel_rfl | (refine ⟨?_, ?_⟩ <;> first | (change _ = true; decide +kernel) | kernel_rfl)
  have n11 : xsets.length = sets.length := by omega
  by_cases h12 : (xsrc.length : Int) = src.length
  rotate_left
  · have n12 : ¬ xsrc.length = src.length := by omega
    simp [Tryz.f39, Tryz.ti3, Tryz.ti4, Tryz.ti9, Tryz.ti22, Tryz.ti23, Tryz.ti24, Tryz.ti25, Tryz.ti26, Tryz.ti28, Tryz.ti44, Tryz.ti46, Tryz.ti80, Tryz.ti84, Tryz.ti94, hb, h0, h1, h2, h3, h4, h5, h6, h7, n7, h8, n8, h9, n9, h10, n10, h11, n11, h12, n12] <;> first | (refine panQ_of ?_; decide +kernel) | (change _ = true; decide +kernel) | kernel_rfl | (refine ⟨?_, ?_⟩ <;> first | (change _ = true; decide +kernel) | kernel_rfl)
  have n12 : xsrc.length = src.length := by omega
  by_cases h13 : (xa.length : Int) = acts.length
  rotate_left
  · have n13 : ¬ xa.length = acts.length := by omega
    simp [Tryz.f39, Tryz.ti3, Tryz.ti4, Tryz.ti9, Tryz.ti22, Tryz.ti23, Tryz.ti24, Tryz.ti25, Tryz.ti26, Tryz.ti28, Tryz.ti44, Tryz.ti46, Tryz.ti80, Tryz.ti84, Tryz.ti94, hb, h0, h1, h2, h3, h4, h5, h6, h7, n7, h8, n8, h9, n9, h10, n10, h11, n11, h12, n12, h13, n13] <;> first | (refine panQ_of ?_; decide +kernel) | (change _ = true; decide +kernel) | kernel_rfl | (refine ⟨?_, ?_⟩ <;> first | (change _ = true; decide +kernel) | kernel_rfl)
  have n13 : xa.length = acts.length := by omega
  simp [Tryz.f39, Tryz.ti3, Tryz.ti4, Tryz.ti9, Tryz.ti22, Tryz.ti23, Tryz.ti24, Tryz.ti25, Tryz.ti26, Tryz.ti28, Tryz.ti44, Tryz.ti46, Tryz.ti80, Tryz.ti84, Tryz.ti94, hb, h0, h1, h2, h3, h4, h5, h6, h7, n7, h8, n8, h9, n9, h10, n10, h11, n11, h12, n12, h13, n13] <;> first | (refine panQ_of ?_; decide +kernel) | (change _ = true; decide +kernel) | kernel_rfl | (refine ⟨?_, ?_⟩ <;> first | (change _ = true; decide +kernel) | kernel_rfl)
end Go.Abs

