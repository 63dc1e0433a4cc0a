/- Is a statement more than what is played? -/
import Derived.Test.YtpmeklllgnnffaaGreatDoorL44
set_option linter.unusedSimpArgs false
set_option linter.unusedVariables false

namespace Go.Abs
set_option linter.unusedSimpArgs false
set_option linter.unusedVariables false
open Go Go.Proofs
attribute [local simp] i_nil i_blk i_skip i_ret i_exit i_seq i_block i_cond i_region' i_ops_nil i_ops i_drawn' d_in a_nil a_cons alt1 h_nil h_one h_two z_nil z_cons z_cells zeqL zeq q_alloc q_some isAlO nxtN i_drh d_hi i_drw_nil i_drw u_nil u_code u_ops u_drw u_lp u_again u_exit u_ret u_panic c_bool o_some o_val o_panic d_some d_val d_panic w_none w_fast wantG q_nil q_zero q_succ t_zero t_succ g_zero g_succ s_zero s_succ s_some s_none v_tmp v_const v_func f_quiet gc_none gc_pure wrap_i64 p_move p_assign p_pick p_alloc p_box p_build p_buildSlice p_load p_store p_nilCheck p_binOp n_tmp n_int n_bool n_str n_ptr n_fun n_iface nilCmp p_unOp p_convert p_makeSlice p_makeInterface p_makeFunc p_slice p_fieldAddr p_field p_indexAddr p_index p_extract p_callv p_callb p_panic quiet_val new_val e_assign e_call e_load e_store e_alloc e_box e_move e_pick e_build e_buildSlice e_nilCheck e_binOp e_unOp e_convert e_makeSlice e_makeInterface e_makeFunc e_slice e_fieldAddr e_field e_indexAddr e_index e_extract e_panic callD fpRead adoptZ fulls adopt adoptL ofValue ofScalar binOpV unOpV intBin strBin eqRes veq veqF eqDepth val? finish resL r_tmp r_cell normL normTop tipIs refsL refs ownRefs single frz frzL ren renL renOwn callOp doCall backR writeBack builtinV loadV storeV cellsAt takeV D.isAgg overlay vcells cellOk fieldAddrV indexAddrV fieldV partV indexV buildV fillV buildSliceV litElems appendV appElems elemOk convertV convV winStr makeSliceV sliceV natOf
attribute [local simp ↓] brB_true brB_false brB_dec brB_not brB_and brB_or brB_beq brB_bne
attribute [local irreducible] fpsQ panQ

def manyS (s : Stm) : Int := s.b.values.length + s.b.items.length + s.b.wher.length + s.b.sets.length + s.acts.length + s.b.cols.length + s.b.src.length
def greatS (s : Stm) : Bool := decide (200 < manyS s) || (deepS 4 s || decide (400 < szS s 400))
set_option maxRecDepth 100000 in
set_option maxHeartbeats 2000000 in
theorem ev_great (e : Stm) (h : e.ok) : EV 13 [e.enc] [] = some (.ret (.bool (greatS e)), []) := by
  have hd := ev_deeps 4 e h (by omega)
  have hp := ev_plainstm e h
  have hz := ev_sizes e h 400 (by omega)
  have hz2 := (szS_le e 400 h).1
  unfold greatS
  obtain ⟨b, acts⟩ := e
  have l1 := h.1.values.1
  have l2 := h.1.items.1
  have l3 := h.1.wher.1
  have l4 := h.1.sets.1
  have l5 := h.2.1
  have l6 := h.1.cols.1
  have l7 := h.1.src.1
  simp only [manyS, Stm.b, Stm.acts]
  generalize deepS 4 (.mk b acts) = d at hd ⊢
  generalize szS (.mk b acts) 400 = z at hz hz2 ⊢
  rw [EV_mki rfl Tryz.func13 rfl (by kernel_rfl) rfl]
  rw [senc_mk] at hd hp hz ⊢
  simp only [Int.cast_ofNat_Int] at hd
  have w1 : IntKind.i64.wrap ((b.values.length : Int) + b.items.length) = b.values.length + b.items.length := wrap_i64 (by omega)
  have w2 : IntKind.i64.wrap ((b.values.length : Int) + b.items.length + b.wher.length) = b.values.length + b.items.length + b.wher.length := wrap_i64 (by omega)
  have w3 : IntKind.i64.wrap ((b.values.length : Int) + b.items.length + b.wher.length + b.sets.length) = b.values.length + b.items.length + b.wher.length + b.sets.length := wrap_i64 (by omega)
  have w4 : IntKind.i64.wrap ((b.values.length : Int) + b.items.length + b.wher.length + b.sets.length + acts.length) = b.values.length + b.items.length + b.wher.length + b.sets.length + acts.length := wrap_i64 (by omega)
  have w5 : IntKind.i64.wrap ((b.values.length : Int) + b.items.length + b.wher.length + b.sets.length + acts.length + b.cols.length) = b.values.length + b.items.length + b.wher.length + b.sets.length + acts.length + b.cols.length := wrap_i64 (by omega)
  have w6 : IntKind.i64.wrap ((b.values.length : Int) + b.items.length + b.wher.length + b.sets.length + acts.length + b.cols.length + b.src.length) = b.values.length + b.items.length + b.wher.length + b.sets.length + acts.length + b.cols.length + b.src.length := wrap_i64 (by omega)
  by_cases h1 : (200 : Int) < (b.values.length : Int) + b.items.length + b.wher.length + b.sets.length + acts.length + b.cols.length + b.src.length
  · simp [Tryz.f13, Tryz.ti3, Tryz.ti4, Tryz.ti9, Tryz.ti22, Tryz.ti23, Tryz.ti24, Tryz.ti25, Tryz.ti26, Tryz.ti28, Tryz.ti44, Tryz.ti46, Tryz.ti80, Tryz.ti84, Tryz.ti94, w1, w2, w3, w4, w5, w6, h1] <;> first | (change _ = true; decide +kernel) | kernel_rfl | (refine ⟨?_, ?_⟩ <;> first | (change _ = true; decide +kernel) | kernel_rfl)
  · cases d with
    | true => simp [Tryz.f13, Tryz.ti3, Tryz.ti4, Tryz.ti9, Tryz.ti22, Tryz.ti23, Tryz.ti24, Tryz.ti25, Tryz.ti26, Tryz.ti28, Tryz.ti44, Tryz.ti46, Tryz.ti80, Tryz.ti84, Tryz.ti94, w1, w2, w3, w4, w5, w6, h1, hd] <;> first | (change _ = true; decide +kernel) | kernel_rfl | (refine ⟨?_, ?_⟩ <;> first | (change _ = true; decide +kernel) | kernel_rfl)
    | false =>
      by_cases h2 : 400 < z
      · simp [Tryz.f13, Tryz.ti3, Tryz.ti4, Tryz.ti9, Tryz.ti22, Tryz.ti23, Tryz.ti24, Tryz.ti25, Tryz.ti26, Tryz.ti28, Tryz.ti44, Tryz.ti46, Tryz.ti80, Tryz.ti84, Tryz.ti94, w1, w2, w3, w4, w5, w6, h1, hd, hp, hz, h2] <;> first | (change _ = true; decide +kernel) | kernel_rfl | (refine ⟨?_, ?_⟩ <;> first | (change _ = true; decide +kernel) | kernel_rfl)
      · simp [Tryz.f13, Tryz.ti3, Tryz.ti4, Tryz.ti9, Tryz.ti22, Tryz.ti23, Tryz.ti24, Tryz.ti25, Tryz.ti26, Tryz.ti28, Tryz.ti44, Tryz.ti46, Tryz.ti80, Tryz.ti84, Tryz.ti94, w1, w2, w3, w4, w5, w6, h1, hd, hp, hz, h2] <;> first | (change _ = true; decide +kernel) | kernel_rfl | (refine ⟨?_, ?_⟩ <;> first | (change _ = true; decide +kernel) | kernel_rfl)
end Go.Abs

