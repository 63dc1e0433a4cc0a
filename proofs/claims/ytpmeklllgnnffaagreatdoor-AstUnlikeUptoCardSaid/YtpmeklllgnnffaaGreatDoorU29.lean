/- A statement without the fields that its kind doesn't have. -/
import Derived.Test.YtpmeklllgnnffaaGreatDoorU27
set_option linter.unusedSimpArgs false
set_option linter.unusedVariables false

namespace Go.Abs
set_option linter.unusedSimpArgs false
set_option linter.unusedVariables false
open Go Go.Proofs
attribute [local simp] i_nil i_blk i_skip i_ret i_exit i_seq i_block i_cond i_region' i_ops_nil i_ops i_drawn' k_none k_0 k_1 k_2 k_3 k_4 k_5 d_in a_nil a_cons alt1 h_nil h_one h_two z_nil z_cons z_cells zeqL zeq q_alloc q_some nxtN i_drh d_hi i_drw_nil i_drw u_nil u_code u_ops u_drw u_lp u_again u_exit u_ret u_panic c_bool o_some o_val o_panic d_some d_val d_panic w_none w_fast wantG q_nil q_zero q_succ t_zero t_succ g_zero g_succ s_zero s_succ s_some s_none v_tmp v_const v_func f_quiet gc_none gc_pure wrap_i64 p_move p_assign p_pick p_alloc p_box p_build p_buildSlice p_load p_store p_nilCheck p_binOp n_tmp n_int n_bool n_str n_ptr n_fun n_iface nilCmp p_unOp p_convert p_makeSlice p_makeInterface p_makeFunc p_slice p_fieldAddr p_field p_indexAddr p_index p_extract p_callv p_callb p_panic quiet_val new_val e_assign e_call e_load e_store e_alloc e_box e_move e_pick e_build e_buildSlice e_nilCheck e_binOp e_unOp e_convert e_makeSlice e_makeInterface e_makeFunc e_slice e_fieldAddr e_field e_indexAddr e_index e_extract e_panic callD fpRead adoptZ fulls adopt adoptL ofValue ofScalar binOpV unOpV intBin strBin eqRes veq veqF eqDepth val? finish resL r_tmp r_cell normL normTop tipIs refsL refs ownRefs single frz frzL ren renL renOwn callOp doCall backR writeBack builtinV loadV storeV storeW iceT cellsAt takeV D.isAgg overlay vcells cellOk fieldAddrV indexAddrV fieldV partV indexV buildV fillV buildSliceV litElems appendV appElems elemOk convertV convV winStr makeSliceV sliceV natOf
attribute [local simp ↓] brB_true brB_false brB_dec brB_not brB_and brB_or brB_beq brB_bne

def nameK (k : Int) : Prop := k = 4 ∨ k = 5 ∨ k = 9 ∨ k = 10 ∨ k = 11
instance (k : Int) : Decidable (nameK k) := by unfold nameK; infer_instance
def blankS : Stm → Stm
  | .mk b acts =>
    if nameK b.kind then .mk ⟨b.kind, b.name, [], [], [], [], [], [], [], [], 0, 0, false, false⟩ []
    else if b.kind = 6 then .mk ⟨b.kind, b.name, [], [], b.cols, [], [], [], [], [], 0, 0, false, false⟩ []
    else if b.kind = 7 then .mk ⟨b.kind, b.name, b.table, b.col, [], [], [], [], [], [], 0, 0, false, false⟩ []
    else if b.kind = 8 then .mk ⟨b.kind, b.name, b.table, [], [], [], [], b.wher, [], b.src, b.prio, b.event, b.deferred, b.rolls⟩ acts
    else if b.kind = 12 then .mk ⟨b.kind, [], b.table, [], [], b.values, b.items, b.wher, [], b.src, 0, 0, false, false⟩ []
    else if b.kind = 13 then .mk ⟨b.kind, [], b.table, [], [], [], [], b.wher, b.sets, [], 0, 0, false, false⟩ []
    else if b.kind = 14 then .mk ⟨b.kind, [], b.table, [], [], [], [], b.wher, [], [], 0, 0, false, false⟩ []
    else if b.kind = 15 then .mk ⟨b.kind, [], [], [], [], [], b.items, b.wher, [], b.src, 0, 0, false, false⟩ []
    else .mk ⟨b.kind, [], [], [], [], [], [], [], [], [], 0, 0, false, false⟩ []

set_option maxRecDepth 100000 in
set_option maxHeartbeats 4000000 in
theorem ev_blank_name (b : StB) (acts : List Stm) (h : nameK b.kind) : EV 82 [(Stm.mk b acts).enc] [] = some (.ret (blankS (.mk b acts)).enc, []) := by
  simp only [blankS, if_pos h]
  rw [EV_mki rfl Tryz.func82 rfl (by kernel_rfl) rfl, senc_mk, senc_mk]
  obtain ⟨kind, name, table, col, cols, values, items, wher, sets, src, prio, event, deferred, rolls⟩ := b
  dsimp only at h ⊢
  rcases h with rfl | rfl | rfl | rfl | rfl <;> simp [Tryz.f82, Tryz.ti3, Tryz.ti4, Tryz.ti9, Tryz.ti22, Tryz.ti23, Tryz.ti24, Tryz.ti25, Tryz.ti26, Tryz.ti28, Tryz.ti44, Tryz.ti46, Tryz.ti80, Tryz.ti84, Tryz.ti94] <;> first | (refine panQ_of ?_; decide +kernel) | (change _ = true; decide +kernel) | kernel_rfl | (refine ⟨?_, ?_⟩ <;> first | (change _ = true; decide +kernel) | kernel_rfl)
set_option maxRecDepth 100000 in
set_option maxHeartbeats 4000000 in
theorem ev_blank_table (b : StB) (acts : List Stm) (h : b.kind = 6) : EV 82 [(Stm.mk b acts).enc] [] = some (.ret (blankS (.mk b acts)).enc, []) := by
  have hn : ¬ nameK b.kind := by unfold nameK; omega
  simp only [blankS, if_neg hn, if_pos h]
  rw [EV_mki rfl Tryz.func82 rfl (by kernel_rfl) rfl, senc_mk, senc_mk]
  obtain ⟨kind, name, table, col, cols, values, items, wher, sets, src, prio, event, deferred, rolls⟩ := b
  dsimp only at h ⊢
  subst h
  simp [Tryz.f82, Tryz.ti3, Tryz.ti4, Tryz.ti9, Tryz.ti22, Tryz.ti23, Tryz.ti24, Tryz.ti25, Tryz.ti26, Tryz.ti28, Tryz.ti44, Tryz.ti46, Tryz.ti80, Tryz.ti84, Tryz.ti94] <;> first | (refine panQ_of ?_; decide +kernel) | (change _ = true; decide +kernel) | kernel_rfl | (refine ⟨?_, ?_⟩ <;> first | (change _ = true; decide +kernel) | kernel_rfl)
set_option maxRecDepth 100000 in
set_option maxHeartbeats 4000000 in
theorem ev_blank_index (b : StB) (acts : List Stm) (h : b.kind = 7) : EV 82 [(Stm.mk b acts).enc] [] = some (.ret (blankS (.mk b acts)).enc, []) := by
  have hn : ¬ nameK b.kind := by unfold nameK; omega
  simp only [blankS, if_neg hn, if_neg (show ¬ b.kind = 6 by omega), if_pos h]
  rw [EV_mki rfl Tryz.func82 rfl (by kernel_rfl) rfl, senc_mk, senc_mk]
  obtain ⟨kind, name, table, col, cols, values, items, wher, sets, src, prio, event, deferred, rolls⟩ := b
  dsimp only at h ⊢
  subst h
  simp [Tryz.f82, Tryz.ti3, Tryz.ti4, Tryz.ti9, Tryz.ti22, Tryz.ti23, Tryz.ti24, Tryz.ti25, Tryz.ti26, Tryz.ti28, Tryz.ti44, Tryz.ti46, Tryz.ti80, Tryz.ti84, Tryz.ti94] <;> first | (refine panQ_of ?_; decide +kernel) | (change _ = true; decide +kernel) | kernel_rfl | (refine ⟨?_, ?_⟩ <;> first | (change _ = true; decide +kernel) | kernel_rfl)
set_option maxRecDepth 100000 in
set_option maxHeartbeats 4000000 in
theorem ev_blank_rule (b : StB) (acts : List Stm) (h : b.kind = 8) : EV 82 [(Stm.mk b acts).enc] [] = some (.ret (blankS (.mk b acts)).enc, []) := by
  have hn : ¬ nameK b.kind := by unfold nameK; omega
  simp only [blankS, if_neg hn, if_neg (show ¬ b.kind = 6 by omega), if_neg (show ¬ b.kind = 7 by omega), if_pos h]
  rw [EV_mki rfl Tryz.func82 rfl (by kernel_rfl) rfl, senc_mk, senc_mk]
  obtain ⟨kind, name, table, col, cols, values, items, wher, sets, src, prio, event, deferred, rolls⟩ := b
  dsimp only at h ⊢
  subst h
  simp [Tryz.f82, Tryz.ti3, Tryz.ti4, Tryz.ti9, Tryz.ti22, Tryz.ti23, Tryz.ti24, Tryz.ti25, Tryz.ti26, Tryz.ti28, Tryz.ti44, Tryz.ti46, Tryz.ti80, Tryz.ti84, Tryz.ti94] <;> first | (refine panQ_of ?_; decide +kernel) | (change _ = true; decide +kernel) | kernel_rfl | (refine ⟨?_, ?_⟩ <;> first | (change _ = true; decide +kernel) | kernel_rfl)
set_option maxRecDepth 100000 in
set_option maxHeartbeats 4000000 in
theorem ev_blank_insert (b : StB) (acts : List Stm) (h : b.kind = 12) : EV 82 [(Stm.mk b acts).enc] [] = some (.ret (blankS (.mk b acts)).enc, []) := by
  have hn : ¬ nameK b.kind := by unfold nameK; omega
  simp only [blankS, if_neg hn, if_neg (show ¬ b.kind = 6 by omega), if_neg (show ¬ b.kind = 7 by omega), if_neg (show ¬ b.kind = 8 by omega), if_pos h]
  rw [EV_mki rfl Tryz.func82 rfl (by kernel_rfl) rfl, senc_mk, senc_mk]
  obtain ⟨kind, name, table, col, cols, values, items, wher, sets, src, prio, event, deferred, rolls⟩ := b
  dsimp only at h ⊢
  subst h
  simp [Tryz.f82, Tryz.ti3, Tryz.ti4, Tryz.ti9, Tryz.ti22, Tryz.ti23, Tryz.ti24, Tryz.ti25, Tryz.ti26, Tryz.ti28, Tryz.ti44, Tryz.ti46, Tryz.ti80, Tryz.ti84, Tryz.ti94] <;> first | (refine panQ_of ?_; decide +kernel) | (change _ = true; decide +kernel) | kernel_rfl | (refine ⟨?_, ?_⟩ <;> first | (change _ = true; decide +kernel) | kernel_rfl)
set_option maxRecDepth 100000 in
set_option maxHeartbeats 4000000 in
theorem ev_blank_update (b : StB) (acts : List Stm) (h : b.kind = 13) : EV 82 [(Stm.mk b acts).enc] [] = some (.ret (blankS (.mk b acts)).enc, []) := by
  have hn : ¬ nameK b.kind := by unfold nameK; omega
  simp only [blankS, if_neg hn, if_neg (show ¬ b.kind = 6 by omega), if_neg (show ¬ b.kind = 7 by omega), if_neg (show ¬ b.kind = 8 by omega), if_neg (show ¬ b.kind = 12 by omega), if_pos h]
  rw [EV_mki rfl Tryz.func82 rfl (by kernel_rfl) rfl, senc_mk, senc_mk]
  obtain ⟨kind, name, table, col, cols, values, items, wher, sets, src, prio, event, deferred, rolls⟩ := b
  dsimp only at h ⊢
  subst h
  simp [Tryz.f82, Tryz.ti3, Tryz.ti4, Tryz.ti9, Tryz.ti22, Tryz.ti23, Tryz.ti24, Tryz.ti25, Tryz.ti26, Tryz.ti28, Tryz.ti44, Tryz.ti46, Tryz.ti80, Tryz.ti84, Tryz.ti94] <;> first | (refine panQ_of ?_; decide +kernel) | (change _ = true; decide +kernel) | kernel_rfl | (refine ⟨?_, ?_⟩ <;> first | (change _ = true; decide +kernel) | kernel_rfl)
set_option maxRecDepth 100000 in
set_option maxHeartbeats 4000000 in
theorem ev_blank_delete (b : StB) (acts : List Stm) (h : b.kind = 14) : EV 82 [(Stm.mk b acts).enc] [] = some (.ret (blankS (.mk b acts)).enc, []) := by
  have hn : ¬ nameK b.kind := by unfold nameK; omega
  simp only [blankS, if_neg hn, if_neg (show ¬ b.kind = 6 by omega), if_neg (show ¬ b.kind = 7 by omega), if_neg (show ¬ b.kind = 8 by omega), if_neg (show ¬ b.kind = 12 by omega), if_neg (show ¬ b.kind = 13 by omega), if_pos h]
  rw [EV_mki rfl Tryz.func82 rfl (by kernel_rfl) rfl, senc_mk, senc_mk]
  obtain ⟨kind, name, table, col, cols, values, items, wher, sets, src, prio, event, deferred, rolls⟩ := b
  dsimp only at h ⊢
  subst h
  simp [Tryz.f82, Tryz.ti3, Tryz.ti4, Tryz.ti9, Tryz.ti22, Tryz.ti23, Tryz.ti24, Tryz.ti25, Tryz.ti26, Tryz.ti28, Tryz.ti44, Tryz.ti46, Tryz.ti80, Tryz.ti84, Tryz.ti94] <;> first | (refine panQ_of ?_; decide +kernel) | (change _ = true; decide +kernel) | kernel_rfl | (refine ⟨?_, ?_⟩ <;> first | (change _ = true; decide +kernel) | kernel_rfl)
set_option maxRecDepth 100000 in
set_option maxHeartbeats 4000000 in
theorem ev_blank_select (b : StB) (acts : List Stm) (h : b.kind = 15) : EV 82 [(Stm.mk b acts).enc] [] = some (.ret (blankS (.mk b acts)).enc, []) := by
  have hn : ¬ nameK b.kind := by unfold nameK; omega
  simp only [blankS, if_neg hn, if_neg (show ¬ b.kind = 6 by omega), if_neg (show ¬ b.kind = 7 by omega), if_neg (show ¬ b.kind = 8 by omega), if_neg (show ¬ b.kind = 12 by omega), if_neg (show ¬ b.kind = 13 by omega), if_neg (show ¬ b.kind = 14 by omega), if_pos h]
  rw [EV_mki rfl Tryz.func82 rfl (by kernel_rfl) rfl, senc_mk, senc_mk]
  obtain ⟨kind, name, table, col, cols, values, items, wher, sets, src, prio, event, deferred, rolls⟩ := b
  dsimp only at h ⊢
  subst h
  simp [Tryz.f82, Tryz.ti3, Tryz.ti4, Tryz.ti9, Tryz.ti22, Tryz.ti23, Tryz.ti24, Tryz.ti25, Tryz.ti26, Tryz.ti28, Tryz.ti44, Tryz.ti46, Tryz.ti80, Tryz.ti84, Tryz.ti94] <;> first | (refine panQ_of ?_; decide +kernel) | (change _ = true; decide +kernel) | kernel_rfl | (refine ⟨?_, ?_⟩ <;> first | (change _ = true; decide +kernel) | kernel_rfl)
set_option maxRecDepth 100000 in
set_option maxHeartbeats 4000000 in
theorem ev_blank_other (b : StB) (acts : List Stm) (hn : ¬ nameK b.kind) (h6 : ¬ b.kind = 6) (h7 : ¬ b.kind = 7) (h8 : ¬ b.kind = 8) (h12 : ¬ b.kind = 12) (h13 : ¬ b.kind = 13) (h14 : ¬ b.kind = 14) (h15 : ¬ b.kind = 15) : EV 82 [(Stm.mk b acts).enc] [] = some (.ret (blankS (.mk b acts)).enc, []) := by
  simp only [blankS, if_neg hn, if_neg h6, if_neg h7, if_neg h8, if_neg h12, if_neg h13, if_neg h14, if_neg h15]
  rw [EV_mki rfl Tryz.func82 rfl (by kernel_rfl) rfl, senc_mk, senc_mk]
  obtain ⟨kind, name, table, col, cols, values, items, wher, sets, src, prio, event, deferred, rolls⟩ := b
  dsimp only at *
  unfold nameK at hn
  simp only [not_or] at hn
  obtain ⟨n4, n5, n9, n10, n11⟩ := hn
  simp [Tryz.f82, Tryz.ti3, Tryz.ti4, Tryz.ti9, Tryz.ti22, Tryz.ti23, Tryz.ti24, Tryz.ti25, Tryz.ti26, Tryz.ti28, Tryz.ti44, Tryz.ti46, Tryz.ti80, Tryz.ti84, Tryz.ti94, n4, n5, n9, n10, n11, h6, h7, h8, h12, h13, h14, h15] <;> first | (refine panQ_of ?_; decide +kernel) | (change _ = true; decide +kernel) | kernel_rfl | (refine ⟨?_, ?_⟩ <;> first | (change _ = true; decide +kernel) | kernel_rfl)
theorem ev_blank : ∀ s : Stm, EV 82 [s.enc] [] = some (.ret (blankS s).enc, [])
  | .mk b acts => by
    by_cases hn : nameK b.kind
    · exact ev_blank_name b acts hn
    by_cases h6 : b.kind = 6
    · exact ev_blank_table b acts h6
    by_cases h7 : b.kind = 7
    · exact ev_blank_index b acts h7
    by_cases h8 : b.kind = 8
    · exact ev_blank_rule b acts h8
    by_cases h12 : b.kind = 12
    · exact ev_blank_insert b acts h12
    by_cases h13 : b.kind = 13
    · exact ev_blank_update b acts h13
    by_cases h14 : b.kind = 14
    · exact ev_blank_delete b acts h14
    by_cases h15 : b.kind = 15
    · exact ev_blank_select b acts h15
    exact ev_blank_other b acts hn h6 h7 h8 h12 h13 h14 h15
end Go.Abs

