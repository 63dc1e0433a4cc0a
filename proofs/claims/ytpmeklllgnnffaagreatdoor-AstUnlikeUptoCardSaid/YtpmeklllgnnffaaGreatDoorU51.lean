/- Two right statements have the same text just if they are the same: the law. -/
import Derived.Test.YtpmeklllgnnffaaGreatDoorU41
import Derived.Test.YtpmeklllgnnffaaGreatDoorU44
import Derived.Test.YtpmeklllgnnffaaGreatDoorU40
import Derived.Test.YtpmeklllgnnffaaGreatDoorU45
import Derived.Test.YtpmeklllgnnffaaGreatDoorU50
set_option linter.unusedSimpArgs false
set_option linter.unusedVariables false

namespace Go.Abs
set_option linter.unusedSimpArgs false
set_option linter.unusedVariables false
open Go Go.Proofs
attribute [local simp] i_nil i_blk i_skip i_ret i_exit i_seq i_block i_cond i_region' i_ops_nil i_ops i_drawn' k_none k_0 k_1 k_2 k_3 k_4 k_5 d_in a_nil a_cons alt1 h_nil h_one h_two z_nil z_cons z_cells zeqL zeq q_alloc q_some nxtN i_drh d_hi i_drw_nil i_drw u_nil u_code u_ops u_drw u_lp u_again u_exit u_ret u_panic c_bool o_some o_val o_panic d_some d_val d_panic w_none w_fast wantG q_nil q_zero q_succ t_zero t_succ g_zero g_succ s_zero s_succ s_some s_none v_tmp v_const v_func f_quiet gc_none gc_pure wrap_i64 p_move p_assign p_pick p_alloc p_box p_build p_buildSlice p_load p_store p_nilCheck p_binOp n_tmp n_int n_bool n_str n_ptr n_fun n_iface nilCmp p_unOp p_convert p_makeSlice p_makeInterface p_makeFunc p_slice p_fieldAddr p_field p_indexAddr p_index p_extract p_callv p_callb p_panic quiet_val new_val e_assign e_call e_load e_store e_alloc e_box e_move e_pick e_build e_buildSlice e_nilCheck e_binOp e_unOp e_convert e_makeSlice e_makeInterface e_makeFunc e_slice e_fieldAddr e_field e_indexAddr e_index e_extract e_panic callD fpRead adoptZ fulls adopt adoptL ofValue ofScalar binOpV unOpV intBin strBin eqRes veq veqF eqDepth val? finish resL r_tmp r_cell normL normTop tipIs refsL refs ownRefs single frz frzL ren renL renOwn callOp doCall backR writeBack builtinV loadV storeV storeW iceT cellsAt takeV D.isAgg overlay vcells cellOk fieldAddrV indexAddrV fieldV partV indexV buildV fillV buildSliceV litElems appendV appElems elemOk convertV convV winStr makeSliceV sliceV natOf
attribute [local simp ↓] brB_true brB_false brB_dec brB_not brB_and brB_or brB_beq brB_bne
attribute [local irreducible] fpsQ panQ

theorem ev_awakex : EV 12 [] [] = some (.ret (.bool true), []) := ev_some.2 ⟨200, by kernel_rfl⟩
theorem same_text {s t : Stm} (hs : rightStm s = true) (ht : rightStm t = true) (os : s.ok) (ot : t.ok) : sameS s t = decide (showStm s = showStm t) := by
  by_cases h : showStm s = showStm t
  · rw [decide_eq_true h, (sameS_iff s t).2 (stm_inj hs ht os ot h)]
  · rw [decide_eq_false h]
    cases hc : sameS s t with
    | false => rfl
    | true => exact absurd (by rw [(sameS_iff s t).1 hc]) h
set_option maxRecDepth 100000 in
set_option maxHeartbeats 4000000 in
theorem ev_astunlike (e f : Stm) (h : e.ok) (h' : f.ok) : EV 4 [e.enc, f.enc] [] = some (.ret (.bool true), []) := by
  have hg := ev_great e h
  have hp := ev_plainstm e h
  have hrr := ev_rrightstm e h
  have hs := ev_showstm e h
  have kg := ev_great f h'
  have kp := ev_plainstm f h'
  have krr := ev_rrightstm f h'
  have ks := ev_showstm f h'
  have hsame := ev_sames2 e f h h'
  have hd := fun h1 h2 => same_text (s := e) (t := f) h1 h2 h h'
  rw [EV_mki rfl Tryz.func4 rfl (by kernel_rfl) rfl]
  generalize greatS e = g at hg
  generalize greatS f = g' at kg
  generalize rightStm e = R at hrr hs hd
  generalize rightStm f = R' at krr ks hd
  generalize showStm e = T at hs hd
  generalize showStm f = T' at ks hd
  generalize sameS e f = S at hsame hd
  obtain ⟨b, acts⟩ := e
  obtain ⟨c, bcts⟩ := f
  rw [senc_mk] at hg hp hrr hs hsame ⊢
  rw [senc_mk] at kg kp krr ks hsame ⊢
  cases g
  rotate_left
  · simp [Tryz.f4, Tryz.ti3, Tryz.ti4, Tryz.ti9, Tryz.ti22, Tryz.ti23, Tryz.ti24, Tryz.ti25, Tryz.ti26, Tryz.ti28, Tryz.ti31, Tryz.ti32, Tryz.ti33, Tryz.ti34, Tryz.ti36, Tryz.ti44, Tryz.ti46, Tryz.ti50, Tryz.ti80, Tryz.ti82, Tryz.ti84, Tryz.ti85, Tryz.ti94, ev_awakex, hg] <;> first | (refine panQ_of ?_; decide +kernel) | (change _ = true; decide +kernel) | kernel_rfl | (refine ⟨?_, ?_⟩ <;> first | (change _ = true; decide +kernel) | kernel_rfl)
  cases g'
  rotate_left
  · simp [Tryz.f4, Tryz.ti3, Tryz.ti4, Tryz.ti9, Tryz.ti22, Tryz.ti23, Tryz.ti24, Tryz.ti25, Tryz.ti26, Tryz.ti28, Tryz.ti31, Tryz.ti32, Tryz.ti33, Tryz.ti34, Tryz.ti36, Tryz.ti44, Tryz.ti46, Tryz.ti50, Tryz.ti80, Tryz.ti82, Tryz.ti84, Tryz.ti85, Tryz.ti94, ev_awakex, hg, kg] <;> first | (refine panQ_of ?_; decide +kernel) | (change _ = true; decide +kernel) | kernel_rfl | (refine ⟨?_, ?_⟩ <;> first | (change _ = true; decide +kernel) | kernel_rfl)
  cases R
  · simp [Tryz.f4, Tryz.ti3, Tryz.ti4, Tryz.ti9, Tryz.ti22, Tryz.ti23, Tryz.ti24, Tryz.ti25, Tryz.ti26, Tryz.ti28, Tryz.ti31, Tryz.ti32, Tryz.ti33, Tryz.ti34, Tryz.ti36, Tryz.ti44, Tryz.ti46, Tryz.ti50, Tryz.ti80, Tryz.ti82, Tryz.ti84, Tryz.ti85, Tryz.ti94, ev_awakex, hg, kg, hp, kp, hrr] <;> first | (refine panQ_of ?_; decide +kernel) | (change _ = true; decide +kernel) | kernel_rfl | (refine ⟨?_, ?_⟩ <;> first | (change _ = true; decide +kernel) | kernel_rfl)
  cases R'
  · simp [Tryz.f4, Tryz.ti3, Tryz.ti4, Tryz.ti9, Tryz.ti22, Tryz.ti23, Tryz.ti24, Tryz.ti25, Tryz.ti26, Tryz.ti28, Tryz.ti31, Tryz.ti32, Tryz.ti33, Tryz.ti34, Tryz.ti36, Tryz.ti44, Tryz.ti46, Tryz.ti50, Tryz.ti80, Tryz.ti82, Tryz.ti84, Tryz.ti85, Tryz.ti94, ev_awakex, hg, kg, hp, kp, hrr, krr] <;> first | (refine panQ_of ?_; decide +kernel) | (change _ = true; decide +kernel) | kernel_rfl | (refine ⟨?_, ?_⟩ <;> first | (change _ = true; decide +kernel) | kernel_rfl)
  simp only [if_true] at hs ks
  have hd := hd rfl rfl
  subst hd
  by_cases ht : T = T'
  · simp only [ht, decide_true] at hsame
    simp [Tryz.f4, Tryz.ti3, Tryz.ti4, Tryz.ti9, Tryz.ti22, Tryz.ti23, Tryz.ti24, Tryz.ti25, Tryz.ti26, Tryz.ti28, Tryz.ti31, Tryz.ti32, Tryz.ti33, Tryz.ti34, Tryz.ti36, Tryz.ti44, Tryz.ti46, Tryz.ti50, Tryz.ti80, Tryz.ti82, Tryz.ti84, Tryz.ti85, Tryz.ti94, ev_awakex, hg, kg, hp, kp, hrr, krr, hs, ks, hsame, ht] <;> first | (refine panQ_of ?_; decide +kernel) | (change _ = true; decide +kernel) | kernel_rfl | (refine ⟨?_, ?_⟩ <;> first | (change _ = true; decide +kernel) | kernel_rfl)
  · simp only [ht, decide_false] at hsame
    simp [Tryz.f4, Tryz.ti3, Tryz.ti4, Tryz.ti9, Tryz.ti22, Tryz.ti23, Tryz.ti24, Tryz.ti25, Tryz.ti26, Tryz.ti28, Tryz.ti31, Tryz.ti32, Tryz.ti33, Tryz.ti34, Tryz.ti36, Tryz.ti44, Tryz.ti46, Tryz.ti50, Tryz.ti80, Tryz.ti82, Tryz.ti84, Tryz.ti85, Tryz.ti94, ev_awakex, hg, kg, hp, kp, hrr, krr, hs, ks, hsame, ht] <;> first | (refine panQ_of ?_; decide +kernel) | (change _ = true; decide +kernel) | kernel_rfl | (refine ⟨?_, ?_⟩ <;> first | (change _ = true; decide +kernel) | kernel_rfl)
end Go.Abs

