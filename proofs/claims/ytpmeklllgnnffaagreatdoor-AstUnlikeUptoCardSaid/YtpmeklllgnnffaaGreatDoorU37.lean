/- Which statements are right, by the reference: kind 12. -/
import Derived.Test.YtpmeklllgnnffaaGreatDoorU32
set_option linter.unusedSimpArgs false
set_option linter.unusedVariables false

namespace Go.Abs
set_option linter.unusedSimpArgs false
set_option linter.unusedVariables false
open Go Go.Proofs
attribute [local simp] i_nil i_blk i_skip i_ret i_exit i_seq i_block i_cond i_region' i_ops_nil i_ops i_drawn' k_none k_0 k_1 k_2 k_3 k_4 k_5 d_in a_nil a_cons alt1 h_nil h_one h_two z_nil z_cons z_cells zeqL zeq q_alloc q_some nxtN i_drh d_hi i_drw_nil i_drw u_nil u_code u_ops u_drw u_lp u_again u_exit u_ret u_panic c_bool o_some o_val o_panic d_some d_val d_panic w_none w_fast wantG q_nil q_zero q_succ t_zero t_succ g_zero g_succ s_zero s_succ s_some s_none v_tmp v_const v_func f_quiet gc_none gc_pure wrap_i64 p_move p_assign p_pick p_alloc p_box p_build p_buildSlice p_load p_store p_nilCheck p_binOp n_tmp n_int n_bool n_str n_ptr n_fun n_iface nilCmp p_unOp p_convert p_makeSlice p_makeInterface p_makeFunc p_slice p_fieldAddr p_field p_indexAddr p_index p_extract p_callv p_callb p_panic quiet_val new_val e_assign e_call e_load e_store e_alloc e_box e_move e_pick e_build e_buildSlice e_nilCheck e_binOp e_unOp e_convert e_makeSlice e_makeInterface e_makeFunc e_slice e_fieldAddr e_field e_indexAddr e_index e_extract e_panic callD fpRead adoptZ fulls adopt adoptL ofValue ofScalar binOpV unOpV intBin strBin eqRes veq veqF eqDepth val? finish resL r_tmp r_cell normL normTop tipIs refsL refs ownRefs single frz frzL ren renL renOwn callOp doCall backR writeBack builtinV loadV storeV storeW iceT cellsAt takeV D.isAgg overlay vcells cellOk fieldAddrV indexAddrV fieldV partV indexV buildV fillV buildSliceV litElems appendV appElems elemOk convertV convV winStr makeSliceV sliceV natOf
attribute [local simp ↓] brB_true brB_false brB_dec brB_not brB_and brB_or brB_beq brB_bne
attribute [local irreducible] fpsQ panQ

def rr12 : StB → List Stm → Bool
  | ⟨kind, name, table, col, cols, values, items, wher, sets, src, prio, event, deferred, rolls⟩, acts => decide (name = []) && (!decide (table = []) && (decide (col = []) && (nameS table && (decide (cols = []) && (decide (prio = 0) && (decide (event = 0) && (!deferred && (!rolls && (decide (acts = []) && (decide (sets = []) && ((if values = [] then rightsE items 0 40 && (srcsS src 1 && rightsE wher 0 1) else rightsE values 1 6 && (decide (items = []) && (decide (src = []) && decide (wher = [])))))))))))))))
theorem rr12_eq (b : StB) (acts : List Stm) (hk : b.kind = 12) : rightStm (.mk b acts) = rr12 b acts := by
  obtain ⟨kind, name, table, col, cols, values, items, wher, sets, src, prio, event, deferred, rolls⟩ := b
  dsimp only at hk
  subst hk
  have n1 := @name_ne name
  have n2 := @name_ne table
  have n3 := @name_ne col
  have n4 := @cols_ne cols
  rw [Bool.eq_iff_iff]
  have q1 : (0 < values.length) ↔ ¬ values = [] := List.length_pos_iff
  have q2 := sum0 items src wher
  by_cases hv : values = [] <;>
  simp [q1, q2, hv, rightStm, bareS, bareOf, blankS, nameK, rightK, rr12, Stm.b, Stm.acts, rightRuleS, rightFrom_eq, rightFrom_eq0, rightSetsS, len0, len0', eq_comm (a := (0 : Int)), eq_comm (a := ([] : List UInt8))]
  all_goals first | done | grind | (constructor <;> intro hh <;> simp_all)
set_option maxRecDepth 100000 in
set_option maxHeartbeats 16000000 in
theorem ev_rr12 (b : StB) (acts : List Stm) (h : b.ok) (hk : b.kind = 12) : EV 16 [(Stm.mk b acts).enc] [] = some (.ret (.bool (rr12 b acts)), []) := by
  have n1 := ev_rname b.name (by have := h.name; omega)
  have n2 := ev_rname b.table (by have := h.table; omega)
  have n3 := ev_rname b.col (by have := h.col; omega)
  have hcols := ev_rcols b.cols h.cols.1 h.cols.2
  have hvals := ev_rexprs b.values h.values.1 h.values.2 1 6
  have hitems := ev_rexprs b.items h.items.1 h.items.2 0 40
  have hwher := ev_rexprs b.wher h.wher.1 h.wher.2 0 1
  have hsrc0 := ev_rsources b.src h.src.1 h.src.2 0
  have hsrc1 := ev_rsources b.src h.src.1 h.src.2 1
  have hsets := h.sets
  rw [EV_mki rfl Tryz.func16 rfl (by kernel_rfl) rfl, senc_mk]
  obtain ⟨kind, name, table, col, cols, values, items, wher, sets, src, prio, event, deferred, rolls⟩ := b
  dsimp only at hk n1 n2 n3 hcols hvals hitems hwher hsrc0 hsrc1 hsets
  subst hk
  simp only [rr12]
  by_cases e_name : name = []
  rotate_left
  · simp [Tryz.f16, Tryz.ti3, Tryz.ti4, Tryz.ti9, Tryz.ti22, Tryz.ti31, Tryz.ti32, Tryz.ti33, Tryz.ti34, Tryz.ti36, Tryz.ti44, Tryz.ti50, Tryz.ti82, Tryz.ti85, Tryz.ti94, n1, n2, n3, hcols, e_name]
  subst e_name
  by_cases e_table : table = []
  · subst e_table
    simp [Tryz.f16, Tryz.ti3, Tryz.ti4, Tryz.ti9, Tryz.ti22, Tryz.ti31, Tryz.ti32, Tryz.ti33, Tryz.ti34, Tryz.ti36, Tryz.ti44, Tryz.ti50, Tryz.ti82, Tryz.ti85, Tryz.ti94, n1, n2, n3, hcols]
  by_cases e_col : col = []
  rotate_left
  · simp [Tryz.f16, Tryz.ti3, Tryz.ti4, Tryz.ti9, Tryz.ti22, Tryz.ti31, Tryz.ti32, Tryz.ti33, Tryz.ti34, Tryz.ti36, Tryz.ti44, Tryz.ti50, Tryz.ti82, Tryz.ti85, Tryz.ti94, n1, n2, n3, hcols, e_table, e_col]
  subst e_col
  cases b_table : nameS table <;> rw [b_table] at n2
  · simp [Tryz.f16, Tryz.ti3, Tryz.ti4, Tryz.ti9, Tryz.ti22, Tryz.ti31, Tryz.ti32, Tryz.ti33, Tryz.ti34, Tryz.ti36, Tryz.ti44, Tryz.ti50, Tryz.ti82, Tryz.ti85, Tryz.ti94, n1, n2, n3, hcols, e_table, b_table]
  by_cases e_cols : cols = []
  rotate_left
  · have e1 : 0 < cols.length := List.length_pos_iff.2 e_cols
    have e2 : (0 : Int) < cols.length := by omega
    have e3 : ¬ cols.length = 0 := by omega
    have e4 : ¬ (cols.length : Int) = 0 := by omega
    simp [Tryz.f16, Tryz.ti3, Tryz.ti4, Tryz.ti9, Tryz.ti22, Tryz.ti31, Tryz.ti32, Tryz.ti33, Tryz.ti34, Tryz.ti36, Tryz.ti44, Tryz.ti50, Tryz.ti82, Tryz.ti85, Tryz.ti94, n1, n2, n3, hcols, e_table, b_table, e_cols, e1, e2, e3, e4]
  subst e_cols
  by_cases e_prio : prio = 0
  rotate_left
  · simp [Tryz.f16, Tryz.ti3, Tryz.ti4, Tryz.ti9, Tryz.ti22, Tryz.ti31, Tryz.ti32, Tryz.ti33, Tryz.ti34, Tryz.ti36, Tryz.ti44, Tryz.ti50, Tryz.ti82, Tryz.ti85, Tryz.ti94, n1, n2, n3, hcols, e_table, b_table, e_prio]
  subst e_prio
  by_cases e_event : event = 0
  rotate_left
  · simp [Tryz.f16, Tryz.ti3, Tryz.ti4, Tryz.ti9, Tryz.ti22, Tryz.ti31, Tryz.ti32, Tryz.ti33, Tryz.ti34, Tryz.ti36, Tryz.ti44, Tryz.ti50, Tryz.ti82, Tryz.ti85, Tryz.ti94, n1, n2, n3, hcols, e_table, b_table, e_event]
  subst e_event
  cases deferred
  rotate_left
  · simp [Tryz.f16, Tryz.ti3, Tryz.ti4, Tryz.ti9, Tryz.ti22, Tryz.ti31, Tryz.ti32, Tryz.ti33, Tryz.ti34, Tryz.ti36, Tryz.ti44, Tryz.ti50, Tryz.ti82, Tryz.ti85, Tryz.ti94, n1, n2, n3, hcols, e_table, b_table]
  cases rolls
  rotate_left
  · simp [Tryz.f16, Tryz.ti3, Tryz.ti4, Tryz.ti9, Tryz.ti22, Tryz.ti31, Tryz.ti32, Tryz.ti33, Tryz.ti34, Tryz.ti36, Tryz.ti44, Tryz.ti50, Tryz.ti82, Tryz.ti85, Tryz.ti94, n1, n2, n3, hcols, e_table, b_table]
  by_cases e_acts : acts = []
  rotate_left
  · have e1 : 0 < acts.length := List.length_pos_iff.2 e_acts
    have e2 : (0 : Int) < acts.length := by omega
    have e3 : ¬ acts.length = 0 := by omega
    have e4 : ¬ (acts.length : Int) = 0 := by omega
    simp [Tryz.f16, Tryz.ti3, Tryz.ti4, Tryz.ti9, Tryz.ti22, Tryz.ti31, Tryz.ti32, Tryz.ti33, Tryz.ti34, Tryz.ti36, Tryz.ti44, Tryz.ti50, Tryz.ti82, Tryz.ti85, Tryz.ti94, n1, n2, n3, hcols, e_table, b_table, e_acts, e1, e2, e3, e4]
  subst e_acts
  by_cases e_sets : sets = []
  rotate_left
  · have e1 : 0 < sets.length := List.length_pos_iff.2 e_sets
    have e2 : (0 : Int) < sets.length := by omega
    have e3 : ¬ sets.length = 0 := by omega
    have e4 : ¬ (sets.length : Int) = 0 := by omega
    simp [Tryz.f16, Tryz.ti3, Tryz.ti4, Tryz.ti9, Tryz.ti22, Tryz.ti31, Tryz.ti32, Tryz.ti33, Tryz.ti34, Tryz.ti36, Tryz.ti44, Tryz.ti50, Tryz.ti82, Tryz.ti85, Tryz.ti94, n1, n2, n3, hcols, e_table, b_table, e_sets, e1, e2, e3, e4]
  subst e_sets
  simp [Tryz.f16, Tryz.ti3, Tryz.ti4, Tryz.ti9, Tryz.ti22, Tryz.ti31, Tryz.ti32, Tryz.ti33, Tryz.ti34, Tryz.ti36, Tryz.ti44, Tryz.ti50, Tryz.ti82, Tryz.ti85, Tryz.ti94, n1, n2, n3, hcols, e_table, b_table]
  rw [i_loop (ts := [147, 148, 149, 150, 151, 154, 155, 156, 157, 158, 159, 160, 161, 162, 163, 164, 165, 166, 167, 168, 169, 170, 171, 152, 153])]
  rotate_left
  · kernel_rfl
  rw [i_round]
  by_cases e_values : values = []
  · subst e_values
    generalize rightsE wher 0 1 = w at hwher ⊢
    generalize srcsS src 1 = sr at hsrc1 ⊢
    generalize rightsE items 0 40 = it at hitems ⊢
    cases it
    · simp [Tryz.f16, Tryz.ti3, Tryz.ti4, Tryz.ti9, Tryz.ti22, Tryz.ti31, Tryz.ti32, Tryz.ti33, Tryz.ti34, Tryz.ti36, Tryz.ti44, Tryz.ti50, Tryz.ti82, Tryz.ti85, Tryz.ti94, hitems]
    · cases sr
      · simp [Tryz.f16, Tryz.ti3, Tryz.ti4, Tryz.ti9, Tryz.ti22, Tryz.ti31, Tryz.ti32, Tryz.ti33, Tryz.ti34, Tryz.ti36, Tryz.ti44, Tryz.ti50, Tryz.ti82, Tryz.ti85, Tryz.ti94, hitems, hsrc1]
      · simp [Tryz.f16, Tryz.ti3, Tryz.ti4, Tryz.ti9, Tryz.ti22, Tryz.ti31, Tryz.ti32, Tryz.ti33, Tryz.ti34, Tryz.ti36, Tryz.ti44, Tryz.ti50, Tryz.ti82, Tryz.ti85, Tryz.ti94, hitems, hsrc1, hwher]
  · have e1 : 0 < values.length := List.length_pos_iff.2 e_values
    have e2 : (0 : Int) < values.length := by omega
    generalize rightsE values 1 6 = va at hvals ⊢
    cases va
    · simp [Tryz.f16, Tryz.ti3, Tryz.ti4, Tryz.ti9, Tryz.ti22, Tryz.ti31, Tryz.ti32, Tryz.ti33, Tryz.ti34, Tryz.ti36, Tryz.ti44, Tryz.ti50, Tryz.ti82, Tryz.ti85, Tryz.ti94, e_values, e1, e2, hvals]
    by_cases e_items : items = []
    rotate_left
    · have e3 : ¬ items.length = 0 := fun e => e_items (List.eq_nil_of_length_eq_zero e)
      have e4 : ¬ (items.length : Int) = 0 := by omega
      simp [Tryz.f16, Tryz.ti3, Tryz.ti4, Tryz.ti9, Tryz.ti22, Tryz.ti31, Tryz.ti32, Tryz.ti33, Tryz.ti34, Tryz.ti36, Tryz.ti44, Tryz.ti50, Tryz.ti82, Tryz.ti85, Tryz.ti94, e_values, e1, e2, hvals, e_items, e3, e4]
    subst e_items
    by_cases e_src : src = []
    rotate_left
    · have e3 : ¬ src.length = 0 := fun e => e_src (List.eq_nil_of_length_eq_zero e)
      have e4 : ¬ (src.length : Int) = 0 := by omega
      simp [Tryz.f16, Tryz.ti3, Tryz.ti4, Tryz.ti9, Tryz.ti22, Tryz.ti31, Tryz.ti32, Tryz.ti33, Tryz.ti34, Tryz.ti36, Tryz.ti44, Tryz.ti50, Tryz.ti82, Tryz.ti85, Tryz.ti94, e_values, e1, e2, hvals, e_src, e3, e4]
    subst e_src
    by_cases e_wher : wher = []
    rotate_left
    · have e3 : ¬ wher.length = 0 := fun e => e_wher (List.eq_nil_of_length_eq_zero e)
      have e4 : ¬ (wher.length : Int) = 0 := by omega
      simp [Tryz.f16, Tryz.ti3, Tryz.ti4, Tryz.ti9, Tryz.ti22, Tryz.ti31, Tryz.ti32, Tryz.ti33, Tryz.ti34, Tryz.ti36, Tryz.ti44, Tryz.ti50, Tryz.ti82, Tryz.ti85, Tryz.ti94, e_values, e1, e2, hvals, e_wher, e3, e4]
    subst e_wher
    simp [Tryz.f16, Tryz.ti3, Tryz.ti4, Tryz.ti9, Tryz.ti22, Tryz.ti31, Tryz.ti32, Tryz.ti33, Tryz.ti34, Tryz.ti36, Tryz.ti44, Tryz.ti50, Tryz.ti82, Tryz.ti85, Tryz.ti94, e_values, e1, e2, hvals]
end Go.Abs

namespace Go.Abs
set_option linter.unusedSimpArgs false
set_option linter.unusedVariables false
open Go Go.Proofs
attribute [local simp] i_nil i_blk i_skip i_ret i_exit i_seq i_block i_cond i_region' i_ops_nil i_ops i_drawn' k_none k_0 k_1 k_2 k_3 k_4 k_5 d_in a_nil a_cons alt1 h_nil h_one h_two z_nil z_cons z_cells zeqL zeq q_alloc q_some nxtN i_drh d_hi i_drw_nil i_drw u_nil u_code u_ops u_drw u_lp u_again u_exit u_ret u_panic c_bool o_some o_val o_panic d_some d_val d_panic w_none w_fast wantG q_nil q_zero q_succ t_zero t_succ g_zero g_succ s_zero s_succ s_some s_none v_tmp v_const v_func f_quiet gc_none gc_pure wrap_i64 p_move p_assign p_pick p_alloc p_box p_build p_buildSlice p_load p_store p_nilCheck p_binOp n_tmp n_int n_bool n_str n_ptr n_fun n_iface nilCmp p_unOp p_convert p_makeSlice p_makeInterface p_makeFunc p_slice p_fieldAddr p_field p_indexAddr p_index p_extract p_callv p_callb p_panic quiet_val new_val e_assign e_call e_load e_store e_alloc e_box e_move e_pick e_build e_buildSlice e_nilCheck e_binOp e_unOp e_convert e_makeSlice e_makeInterface e_makeFunc e_slice e_fieldAddr e_field e_indexAddr e_index e_extract e_panic callD fpRead adoptZ fulls adopt adoptL ofValue ofScalar binOpV unOpV intBin strBin eqRes veq veqF eqDepth val? finish resL r_tmp r_cell normL normTop tipIs refsL refs ownRefs single frz frzL ren renL renOwn callOp doCall backR writeBack builtinV loadV storeV storeW iceT cellsAt takeV D.isAgg overlay vcells cellOk fieldAddrV indexAddrV fieldV partV indexV buildV fillV buildSliceV litElems appendV appElems elemOk convertV convV winStr makeSliceV sliceV natOf
attribute [local simp ↓] brB_true brB_false brB_dec brB_not brB_and brB_or brB_beq brB_bne
attribute [local irreducible] fpsQ panQ

def rr13 : StB → List Stm → Bool
  | ⟨kind, name, table, col, cols, values, items, wher, sets, src, prio, event, deferred, rolls⟩, acts => decide (name = []) && (!decide (table = []) && (decide (col = []) && (nameS table && (decide (cols = []) && (decide (prio = 0) && (decide (event = 0) && (!deferred && (!rolls && (decide (acts = []) && (!decide (sets = []) && (decide (sets.length ≤ 6) && (sets.all (fun x => nameS x.col && rightE 20 x.e) && (decide (values = []) && (decide (items = []) && (decide (src = []) && (rightsE wher 0 1))))))))))))))))
theorem rr13_eq (b : StB) (acts : List Stm) (hk : b.kind = 13) : rightStm (.mk b acts) = rr13 b acts := by
  obtain ⟨kind, name, table, col, cols, values, items, wher, sets, src, prio, event, deferred, rolls⟩ := b
  dsimp only at hk
  subst hk
  have n1 := @name_ne name
  have n2 := @name_ne table
  have n3 := @name_ne col
  have n4 := @cols_ne cols
  rw [Bool.eq_iff_iff]
  have q1 : (1 ≤ (sets.length : Int)) ↔ ¬ sets = [] := by have := @List.length_pos_iff _ sets; rw [← ne_eq, ← this]; omega
  have q2 : ((sets.length : Int) ≤ 6) ↔ sets.length ≤ 6 := by omega
  simp [q1, q2, rightStm, bareS, bareOf, blankS, nameK, rightK, rr13, Stm.b, Stm.acts, rightRuleS, rightFrom_eq, rightFrom_eq0, rightSetsS, len0, len0', eq_comm (a := (0 : Int)), eq_comm (a := ([] : List UInt8))]
  all_goals first | done | grind | (constructor <;> intro hh <;> simp_all)
set_option maxRecDepth 100000 in
set_option maxHeartbeats 16000000 in
theorem ev_rr13 (b : StB) (acts : List Stm) (h : b.ok) (hk : b.kind = 13) : EV 16 [(Stm.mk b acts).enc] [] = some (.ret (.bool (rr13 b acts)), []) := by
  have n1 := ev_rname b.name (by have := h.name; omega)
  have n2 := ev_rname b.table (by have := h.table; omega)
  have n3 := ev_rname b.col (by have := h.col; omega)
  have hcols := ev_rcols b.cols h.cols.1 h.cols.2
  have hvals := ev_rexprs b.values h.values.1 h.values.2 1 6
  have hitems := ev_rexprs b.items h.items.1 h.items.2 0 40
  have hwher := ev_rexprs b.wher h.wher.1 h.wher.2 0 1
  have hsrc0 := ev_rsources b.src h.src.1 h.src.2 0
  have hsrc1 := ev_rsources b.src h.src.1 h.src.2 1
  have hsets := h.sets
  rw [EV_mki rfl Tryz.func16 rfl (by kernel_rfl) rfl, senc_mk]
  obtain ⟨kind, name, table, col, cols, values, items, wher, sets, src, prio, event, deferred, rolls⟩ := b
  dsimp only at hk n1 n2 n3 hcols hvals hitems hwher hsrc0 hsrc1 hsets
  subst hk
  simp only [rr13]
  by_cases e_name : name = []
  rotate_left
  · simp [Tryz.f16, Tryz.ti3, Tryz.ti4, Tryz.ti9, Tryz.ti22, Tryz.ti31, Tryz.ti32, Tryz.ti33, Tryz.ti34, Tryz.ti36, Tryz.ti44, Tryz.ti50, Tryz.ti82, Tryz.ti85, Tryz.ti94, n1, n2, n3, hcols, e_name]
  subst e_name
  by_cases e_table : table = []
  · subst e_table
    simp [Tryz.f16, Tryz.ti3, Tryz.ti4, Tryz.ti9, Tryz.ti22, Tryz.ti31, Tryz.ti32, Tryz.ti33, Tryz.ti34, Tryz.ti36, Tryz.ti44, Tryz.ti50, Tryz.ti82, Tryz.ti85, Tryz.ti94, n1, n2, n3, hcols]
  by_cases e_col : col = []
  rotate_left
  · simp [Tryz.f16, Tryz.ti3, Tryz.ti4, Tryz.ti9, Tryz.ti22, Tryz.ti31, Tryz.ti32, Tryz.ti33, Tryz.ti34, Tryz.ti36, Tryz.ti44, Tryz.ti50, Tryz.ti82, Tryz.ti85, Tryz.ti94, n1, n2, n3, hcols, e_table, e_col]
  subst e_col
  cases b_table : nameS table <;> rw [b_table] at n2
  · simp [Tryz.f16, Tryz.ti3, Tryz.ti4, Tryz.ti9, Tryz.ti22, Tryz.ti31, Tryz.ti32, Tryz.ti33, Tryz.ti34, Tryz.ti36, Tryz.ti44, Tryz.ti50, Tryz.ti82, Tryz.ti85, Tryz.ti94, n1, n2, n3, hcols, e_table, b_table]
  by_cases e_cols : cols = []
  rotate_left
  · have e1 : 0 < cols.length := List.length_pos_iff.2 e_cols
    have e2 : (0 : Int) < cols.length := by omega
    have e3 : ¬ cols.length = 0 := by omega
    have e4 : ¬ (cols.length : Int) = 0 := by omega
    simp [Tryz.f16, Tryz.ti3, Tryz.ti4, Tryz.ti9, Tryz.ti22, Tryz.ti31, Tryz.ti32, Tryz.ti33, Tryz.ti34, Tryz.ti36, Tryz.ti44, Tryz.ti50, Tryz.ti82, Tryz.ti85, Tryz.ti94, n1, n2, n3, hcols, e_table, b_table, e_cols, e1, e2, e3, e4]
  subst e_cols
  by_cases e_prio : prio = 0
  rotate_left
  · simp [Tryz.f16, Tryz.ti3, Tryz.ti4, Tryz.ti9, Tryz.ti22, Tryz.ti31, Tryz.ti32, Tryz.ti33, Tryz.ti34, Tryz.ti36, Tryz.ti44, Tryz.ti50, Tryz.ti82, Tryz.ti85, Tryz.ti94, n1, n2, n3, hcols, e_table, b_table, e_prio]
  subst e_prio
  by_cases e_event : event = 0
  rotate_left
  · simp [Tryz.f16, Tryz.ti3, Tryz.ti4, Tryz.ti9, Tryz.ti22, Tryz.ti31, Tryz.ti32, Tryz.ti33, Tryz.ti34, Tryz.ti36, Tryz.ti44, Tryz.ti50, Tryz.ti82, Tryz.ti85, Tryz.ti94, n1, n2, n3, hcols, e_table, b_table, e_event]
  subst e_event
  cases deferred
  rotate_left
  · simp [Tryz.f16, Tryz.ti3, Tryz.ti4, Tryz.ti9, Tryz.ti22, Tryz.ti31, Tryz.ti32, Tryz.ti33, Tryz.ti34, Tryz.ti36, Tryz.ti44, Tryz.ti50, Tryz.ti82, Tryz.ti85, Tryz.ti94, n1, n2, n3, hcols, e_table, b_table]
  cases rolls
  rotate_left
  · simp [Tryz.f16, Tryz.ti3, Tryz.ti4, Tryz.ti9, Tryz.ti22, Tryz.ti31, Tryz.ti32, Tryz.ti33, Tryz.ti34, Tryz.ti36, Tryz.ti44, Tryz.ti50, Tryz.ti82, Tryz.ti85, Tryz.ti94, n1, n2, n3, hcols, e_table, b_table]
  by_cases e_acts : acts = []
  rotate_left
  · have e1 : 0 < acts.length := List.length_pos_iff.2 e_acts
    have e2 : (0 : Int) < acts.length := by omega
    have e3 : ¬ acts.length = 0 := by omega
    have e4 : ¬ (acts.length : Int) = 0 := by omega
    simp [Tryz.f16, Tryz.ti3, Tryz.ti4, Tryz.ti9, Tryz.ti22, Tryz.ti31, Tryz.ti32, Tryz.ti33, Tryz.ti34, Tryz.ti36, Tryz.ti44, Tryz.ti50, Tryz.ti82, Tryz.ti85, Tryz.ti94, n1, n2, n3, hcols, e_table, b_table, e_acts, e1, e2, e3, e4]
  subst e_acts
  by_cases e_sets : sets = []
  · subst e_sets
    simp [Tryz.f16, Tryz.ti3, Tryz.ti4, Tryz.ti9, Tryz.ti22, Tryz.ti31, Tryz.ti32, Tryz.ti33, Tryz.ti34, Tryz.ti36, Tryz.ti44, Tryz.ti50, Tryz.ti82, Tryz.ti85, Tryz.ti94, n1, n2, n3, hcols, e_table, b_table]
  have p_sets : 0 < sets.length := List.length_pos_iff.2 e_sets
  have q_sets : (0 : Int) < sets.length := by omega
  by_cases e_6 : sets.length ≤ 6
  rotate_left
  · have e2 : (6 : Int) < sets.length := by omega
    have e3 : 6 < sets.length := by omega
    simp [Tryz.f16, Tryz.ti3, Tryz.ti4, Tryz.ti9, Tryz.ti22, Tryz.ti31, Tryz.ti32, Tryz.ti33, Tryz.ti34, Tryz.ti36, Tryz.ti44, Tryz.ti50, Tryz.ti82, Tryz.ti85, Tryz.ti94, n1, n2, n3, hcols, e_table, b_table, e_sets, p_sets, q_sets, e_6, e2, e3]
  have e_6' : ¬ (6 : Int) < sets.length := by omega
  have e_6'' : ¬ 6 < sets.length := by omega
  simp [Tryz.f16, Tryz.ti3, Tryz.ti4, Tryz.ti9, Tryz.ti22, Tryz.ti31, Tryz.ti32, Tryz.ti33, Tryz.ti34, Tryz.ti36, Tryz.ti44, Tryz.ti50, Tryz.ti82, Tryz.ti85, Tryz.ti94, n1, n2, n3, hcols, e_table, b_table, e_sets, p_sets, q_sets, e_6, e_6', e_6'']
  rw [i_loop (ts := [147, 148, 149, 150, 151, 154, 155, 156, 157, 158, 159, 160, 161, 162, 163, 164, 165, 166, 167, 168, 169, 170, 171, 152, 153])]
  rotate_left
  · kernel_rfl
  obtain ⟨hsl, hso⟩ := hsets
  refine i_at (fun i : {i : Nat // i ≤ sets.length} => sets.length - i.1) (fun i env => setV env 9 (.int .i64 i.1)) (fun i => _) (fun i => some (.ret (.bool ((sets.drop i.1).all (fun x => nameS x.col && rightE 20 x.e) && (decide (values = []) && (decide (items = []) && (decide (src = []) && rightsE wher 0 1))))), [])) ⟨0, by omega⟩ (by simp [s_zero, s_succ]) rfl (by simp [e_6]) ?_
  intro ⟨i, hil⟩ ih
  dsimp only at hil ⊢
  by_cases hi : i < sets.length
  · have ih := ih ⟨i + 1, by omega⟩ (by simp only; omega)
    have hwi : IntKind.i64.wrap ((i : Int) + 1) = (i : Int) + 1 := wrap_i64 (by omega)
    have hot := hso _ (List.getElem_mem hi)
    obtain ⟨t, hk⟩ : ∃ m, sets[i] = m := ⟨_, rfl⟩
    have hkk : sets[i]? = some t := by rw [List.getElem?_eq_getElem hi, hk]
    rw [hk] at hot
    rw [List.drop_eq_getElem_cons hi, List.all_cons, hk]
    obtain ⟨c, e⟩ := t
    have hn := ev_rname c (by have := hot.1; simp only at this; omega)
    have hc := ev_rrightx 20 e hot.2 (by omega)
    obtain ⟨op', v', var', col', kids'⟩ := e
    rw [xenc_mk] at hc
    simp only [s_zero, s_succ, Int.natCast_add, Int.natCast_one, Int.cast_ofNat_Int] at ih hc
    cases hb : nameS c <;> rw [hb] at hn
    · simp [i_again, roundEnd, dropT, cleanV, Tryz.f16, Tryz.ti3, Tryz.ti4, Tryz.ti9, Tryz.ti22, Tryz.ti31, Tryz.ti32, Tryz.ti33, Tryz.ti34, Tryz.ti36, Tryz.ti44, Tryz.ti50, Tryz.ti82, Tryz.ti85, Tryz.ti94, hi, hk, hkk, SetE.enc, xenc_mk, hn, hb]
    · cases hd : rightE 20 (.mk op' v' var' col' kids') <;> rw [hd] at hc <;> simp [i_again, roundEnd, dropT, cleanV, Tryz.f16, Tryz.ti3, Tryz.ti4, Tryz.ti9, Tryz.ti22, Tryz.ti31, Tryz.ti32, Tryz.ti33, Tryz.ti34, Tryz.ti36, Tryz.ti44, Tryz.ti50, Tryz.ti82, Tryz.ti85, Tryz.ti94, hi, hk, hkk, SetE.enc, xenc_mk, hwi, ih, hc, hn, hb, hd]
  · rw [List.drop_of_length_le (by omega)]
    clear ih
    have hi' : ¬ (i : Int) < sets.length := by omega
    by_cases e_values : values = []
    rotate_left
    · have e1 : 0 < values.length := List.length_pos_iff.2 e_values
      have e2 : (0 : Int) < values.length := by omega
      simp [Tryz.f16, Tryz.ti3, Tryz.ti4, Tryz.ti9, Tryz.ti22, Tryz.ti31, Tryz.ti32, Tryz.ti33, Tryz.ti34, Tryz.ti36, Tryz.ti44, Tryz.ti50, Tryz.ti82, Tryz.ti85, Tryz.ti94, hi, hi', e_values, e1, e2]
    subst e_values
    by_cases e_items : items = []
    rotate_left
    · have e1 : 0 < items.length := List.length_pos_iff.2 e_items
      have e2 : (0 : Int) < items.length := by omega
      simp [Tryz.f16, Tryz.ti3, Tryz.ti4, Tryz.ti9, Tryz.ti22, Tryz.ti31, Tryz.ti32, Tryz.ti33, Tryz.ti34, Tryz.ti36, Tryz.ti44, Tryz.ti50, Tryz.ti82, Tryz.ti85, Tryz.ti94, hi, hi', e_items, e1, e2]
    subst e_items
    by_cases e_src : src = []
    rotate_left
    · have e3 : ¬ src.length = 0 := fun e => e_src (List.eq_nil_of_length_eq_zero e)
      have e4 : ¬ (src.length : Int) = 0 := by omega
      simp [Tryz.f16, Tryz.ti3, Tryz.ti4, Tryz.ti9, Tryz.ti22, Tryz.ti31, Tryz.ti32, Tryz.ti33, Tryz.ti34, Tryz.ti36, Tryz.ti44, Tryz.ti50, Tryz.ti82, Tryz.ti85, Tryz.ti94, hi, hi', e_src, e3, e4]
    subst e_src
    generalize rightsE wher 0 1 = w at hwher ⊢
    simp [Tryz.f16, Tryz.ti3, Tryz.ti4, Tryz.ti9, Tryz.ti22, Tryz.ti31, Tryz.ti32, Tryz.ti33, Tryz.ti34, Tryz.ti36, Tryz.ti44, Tryz.ti50, Tryz.ti82, Tryz.ti85, Tryz.ti94, hi, hi', hwher]
end Go.Abs

namespace Go.Abs
set_option linter.unusedSimpArgs false
set_option linter.unusedVariables false
open Go Go.Proofs
attribute [local simp] i_nil i_blk i_skip i_ret i_exit i_seq i_block i_cond i_region' i_ops_nil i_ops i_drawn' k_none k_0 k_1 k_2 k_3 k_4 k_5 d_in a_nil a_cons alt1 h_nil h_one h_two z_nil z_cons z_cells zeqL zeq q_alloc q_some nxtN i_drh d_hi i_drw_nil i_drw u_nil u_code u_ops u_drw u_lp u_again u_exit u_ret u_panic c_bool o_some o_val o_panic d_some d_val d_panic w_none w_fast wantG q_nil q_zero q_succ t_zero t_succ g_zero g_succ s_zero s_succ s_some s_none v_tmp v_const v_func f_quiet gc_none gc_pure wrap_i64 p_move p_assign p_pick p_alloc p_box p_build p_buildSlice p_load p_store p_nilCheck p_binOp n_tmp n_int n_bool n_str n_ptr n_fun n_iface nilCmp p_unOp p_convert p_makeSlice p_makeInterface p_makeFunc p_slice p_fieldAddr p_field p_indexAddr p_index p_extract p_callv p_callb p_panic quiet_val new_val e_assign e_call e_load e_store e_alloc e_box e_move e_pick e_build e_buildSlice e_nilCheck e_binOp e_unOp e_convert e_makeSlice e_makeInterface e_makeFunc e_slice e_fieldAddr e_field e_indexAddr e_index e_extract e_panic callD fpRead adoptZ fulls adopt adoptL ofValue ofScalar binOpV unOpV intBin strBin eqRes veq veqF eqDepth val? finish resL r_tmp r_cell normL normTop tipIs refsL refs ownRefs single frz frzL ren renL renOwn callOp doCall backR writeBack builtinV loadV storeV storeW iceT cellsAt takeV D.isAgg overlay vcells cellOk fieldAddrV indexAddrV fieldV partV indexV buildV fillV buildSliceV litElems appendV appElems elemOk convertV convV winStr makeSliceV sliceV natOf
attribute [local simp ↓] brB_true brB_false brB_dec brB_not brB_and brB_or brB_beq brB_bne
attribute [local irreducible] fpsQ panQ

def rr14 : StB → List Stm → Bool
  | ⟨kind, name, table, col, cols, values, items, wher, sets, src, prio, event, deferred, rolls⟩, acts => decide (name = []) && (!decide (table = []) && (decide (col = []) && (nameS table && (decide (cols = []) && (decide (prio = 0) && (decide (event = 0) && (!deferred && (!rolls && (decide (acts = []) && (decide (sets = []) && (decide (values = []) && (decide (items = []) && (decide (src = []) && (rightsE wher 0 1))))))))))))))
theorem rr14_eq (b : StB) (acts : List Stm) (hk : b.kind = 14) : rightStm (.mk b acts) = rr14 b acts := by
  obtain ⟨kind, name, table, col, cols, values, items, wher, sets, src, prio, event, deferred, rolls⟩ := b
  dsimp only at hk
  subst hk
  have n1 := @name_ne name
  have n2 := @name_ne table
  have n3 := @name_ne col
  have n4 := @cols_ne cols
  rw [Bool.eq_iff_iff]
  simp [rightStm, bareS, bareOf, blankS, nameK, rightK, rr14, Stm.b, Stm.acts, rightRuleS, rightFrom_eq, rightFrom_eq0, rightSetsS, len0, len0', eq_comm (a := (0 : Int)), eq_comm (a := ([] : List UInt8))]
  all_goals first | done | grind | (constructor <;> intro hh <;> simp_all)
set_option maxRecDepth 100000 in
set_option maxHeartbeats 16000000 in
theorem ev_rr14 (b : StB) (acts : List Stm) (h : b.ok) (hk : b.kind = 14) : EV 16 [(Stm.mk b acts).enc] [] = some (.ret (.bool (rr14 b acts)), []) := by
  have n1 := ev_rname b.name (by have := h.name; omega)
  have n2 := ev_rname b.table (by have := h.table; omega)
  have n3 := ev_rname b.col (by have := h.col; omega)
  have hcols := ev_rcols b.cols h.cols.1 h.cols.2
  have hvals := ev_rexprs b.values h.values.1 h.values.2 1 6
  have hitems := ev_rexprs b.items h.items.1 h.items.2 0 40
  have hwher := ev_rexprs b.wher h.wher.1 h.wher.2 0 1
  have hsrc0 := ev_rsources b.src h.src.1 h.src.2 0
  have hsrc1 := ev_rsources b.src h.src.1 h.src.2 1
  have hsets := h.sets
  rw [EV_mki rfl Tryz.func16 rfl (by kernel_rfl) rfl, senc_mk]
  obtain ⟨kind, name, table, col, cols, values, items, wher, sets, src, prio, event, deferred, rolls⟩ := b
  dsimp only at hk n1 n2 n3 hcols hvals hitems hwher hsrc0 hsrc1 hsets
  subst hk
  simp only [rr14]
  by_cases e_name : name = []
  rotate_left
  · simp [Tryz.f16, Tryz.ti3, Tryz.ti4, Tryz.ti9, Tryz.ti22, Tryz.ti31, Tryz.ti32, Tryz.ti33, Tryz.ti34, Tryz.ti36, Tryz.ti44, Tryz.ti50, Tryz.ti82, Tryz.ti85, Tryz.ti94, n1, n2, n3, hcols, e_name]
  subst e_name
  by_cases e_table : table = []
  · subst e_table
    simp [Tryz.f16, Tryz.ti3, Tryz.ti4, Tryz.ti9, Tryz.ti22, Tryz.ti31, Tryz.ti32, Tryz.ti33, Tryz.ti34, Tryz.ti36, Tryz.ti44, Tryz.ti50, Tryz.ti82, Tryz.ti85, Tryz.ti94, n1, n2, n3, hcols]
  by_cases e_col : col = []
  rotate_left
  · simp [Tryz.f16, Tryz.ti3, Tryz.ti4, Tryz.ti9, Tryz.ti22, Tryz.ti31, Tryz.ti32, Tryz.ti33, Tryz.ti34, Tryz.ti36, Tryz.ti44, Tryz.ti50, Tryz.ti82, Tryz.ti85, Tryz.ti94, n1, n2, n3, hcols, e_table, e_col]
  subst e_col
  cases b_table : nameS table <;> rw [b_table] at n2
  · simp [Tryz.f16, Tryz.ti3, Tryz.ti4, Tryz.ti9, Tryz.ti22, Tryz.ti31, Tryz.ti32, Tryz.ti33, Tryz.ti34, Tryz.ti36, Tryz.ti44, Tryz.ti50, Tryz.ti82, Tryz.ti85, Tryz.ti94, n1, n2, n3, hcols, e_table, b_table]
  by_cases e_cols : cols = []
  rotate_left
  · have e1 : 0 < cols.length := List.length_pos_iff.2 e_cols
    have e2 : (0 : Int) < cols.length := by omega
    have e3 : ¬ cols.length = 0 := by omega
    have e4 : ¬ (cols.length : Int) = 0 := by omega
    simp [Tryz.f16, Tryz.ti3, Tryz.ti4, Tryz.ti9, Tryz.ti22, Tryz.ti31, Tryz.ti32, Tryz.ti33, Tryz.ti34, Tryz.ti36, Tryz.ti44, Tryz.ti50, Tryz.ti82, Tryz.ti85, Tryz.ti94, n1, n2, n3, hcols, e_table, b_table, e_cols, e1, e2, e3, e4]
  subst e_cols
  by_cases e_prio : prio = 0
  rotate_left
  · simp [Tryz.f16, Tryz.ti3, Tryz.ti4, Tryz.ti9, Tryz.ti22, Tryz.ti31, Tryz.ti32, Tryz.ti33, Tryz.ti34, Tryz.ti36, Tryz.ti44, Tryz.ti50, Tryz.ti82, Tryz.ti85, Tryz.ti94, n1, n2, n3, hcols, e_table, b_table, e_prio]
  subst e_prio
  by_cases e_event : event = 0
  rotate_left
  · simp [Tryz.f16, Tryz.ti3, Tryz.ti4, Tryz.ti9, Tryz.ti22, Tryz.ti31, Tryz.ti32, Tryz.ti33, Tryz.ti34, Tryz.ti36, Tryz.ti44, Tryz.ti50, Tryz.ti82, Tryz.ti85, Tryz.ti94, n1, n2, n3, hcols, e_table, b_table, e_event]
  subst e_event
  cases deferred
  rotate_left
  · simp [Tryz.f16, Tryz.ti3, Tryz.ti4, Tryz.ti9, Tryz.ti22, Tryz.ti31, Tryz.ti32, Tryz.ti33, Tryz.ti34, Tryz.ti36, Tryz.ti44, Tryz.ti50, Tryz.ti82, Tryz.ti85, Tryz.ti94, n1, n2, n3, hcols, e_table, b_table]
  cases rolls
  rotate_left
  · simp [Tryz.f16, Tryz.ti3, Tryz.ti4, Tryz.ti9, Tryz.ti22, Tryz.ti31, Tryz.ti32, Tryz.ti33, Tryz.ti34, Tryz.ti36, Tryz.ti44, Tryz.ti50, Tryz.ti82, Tryz.ti85, Tryz.ti94, n1, n2, n3, hcols, e_table, b_table]
  by_cases e_acts : acts = []
  rotate_left
  · have e1 : 0 < acts.length := List.length_pos_iff.2 e_acts
    have e2 : (0 : Int) < acts.length := by omega
    have e3 : ¬ acts.length = 0 := by omega
    have e4 : ¬ (acts.length : Int) = 0 := by omega
    simp [Tryz.f16, Tryz.ti3, Tryz.ti4, Tryz.ti9, Tryz.ti22, Tryz.ti31, Tryz.ti32, Tryz.ti33, Tryz.ti34, Tryz.ti36, Tryz.ti44, Tryz.ti50, Tryz.ti82, Tryz.ti85, Tryz.ti94, n1, n2, n3, hcols, e_table, b_table, e_acts, e1, e2, e3, e4]
  subst e_acts
  by_cases e_sets : sets = []
  rotate_left
  · have e1 : 0 < sets.length := List.length_pos_iff.2 e_sets
    have e2 : (0 : Int) < sets.length := by omega
    have e3 : ¬ sets.length = 0 := by omega
    have e4 : ¬ (sets.length : Int) = 0 := by omega
    simp [Tryz.f16, Tryz.ti3, Tryz.ti4, Tryz.ti9, Tryz.ti22, Tryz.ti31, Tryz.ti32, Tryz.ti33, Tryz.ti34, Tryz.ti36, Tryz.ti44, Tryz.ti50, Tryz.ti82, Tryz.ti85, Tryz.ti94, n1, n2, n3, hcols, e_table, b_table, e_sets, e1, e2, e3, e4]
  subst e_sets
  simp [Tryz.f16, Tryz.ti3, Tryz.ti4, Tryz.ti9, Tryz.ti22, Tryz.ti31, Tryz.ti32, Tryz.ti33, Tryz.ti34, Tryz.ti36, Tryz.ti44, Tryz.ti50, Tryz.ti82, Tryz.ti85, Tryz.ti94, n1, n2, n3, hcols, e_table, b_table]
  rw [i_loop (ts := [147, 148, 149, 150, 151, 154, 155, 156, 157, 158, 159, 160, 161, 162, 163, 164, 165, 166, 167, 168, 169, 170, 171, 152, 153])]
  rotate_left
  · kernel_rfl
  rw [i_round]
  by_cases e_values : values = []
  rotate_left
  · have e1 : 0 < values.length := List.length_pos_iff.2 e_values
    have e2 : (0 : Int) < values.length := by omega
    simp [Tryz.f16, Tryz.ti3, Tryz.ti4, Tryz.ti9, Tryz.ti22, Tryz.ti31, Tryz.ti32, Tryz.ti33, Tryz.ti34, Tryz.ti36, Tryz.ti44, Tryz.ti50, Tryz.ti82, Tryz.ti85, Tryz.ti94, e_values, e1, e2]
  subst e_values
  by_cases e_items : items = []
  rotate_left
  · have e1 : 0 < items.length := List.length_pos_iff.2 e_items
    have e2 : (0 : Int) < items.length := by omega
    simp [Tryz.f16, Tryz.ti3, Tryz.ti4, Tryz.ti9, Tryz.ti22, Tryz.ti31, Tryz.ti32, Tryz.ti33, Tryz.ti34, Tryz.ti36, Tryz.ti44, Tryz.ti50, Tryz.ti82, Tryz.ti85, Tryz.ti94, e_items, e1, e2]
  subst e_items
  by_cases e_src : src = []
  rotate_left
  · have e3 : ¬ src.length = 0 := fun e => e_src (List.eq_nil_of_length_eq_zero e)
    have e4 : ¬ (src.length : Int) = 0 := by omega
    simp [Tryz.f16, Tryz.ti3, Tryz.ti4, Tryz.ti9, Tryz.ti22, Tryz.ti31, Tryz.ti32, Tryz.ti33, Tryz.ti34, Tryz.ti36, Tryz.ti44, Tryz.ti50, Tryz.ti82, Tryz.ti85, Tryz.ti94, e_src, e3, e4]
  subst e_src
  generalize rightsE wher 0 1 = w at hwher ⊢
  simp [Tryz.f16, Tryz.ti3, Tryz.ti4, Tryz.ti9, Tryz.ti22, Tryz.ti31, Tryz.ti32, Tryz.ti33, Tryz.ti34, Tryz.ti36, Tryz.ti44, Tryz.ti50, Tryz.ti82, Tryz.ti85, Tryz.ti94, hwher]
end Go.Abs

