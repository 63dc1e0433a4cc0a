/- A table's columns: the reference's answer. -/
import Derived.Test.YtpmeklllgnnffaaGreatDoorU27
import Derived.Test.YtpmeklllgnnffaaGreatDoorU25
set_option linter.unusedSimpArgs false
set_option linter.unusedVariables false

namespace Go.Abs
set_option linter.unusedSimpArgs false
set_option linter.unusedVariables false
open Go Go.Proofs
attribute [local simp] i_nil i_blk i_skip i_ret i_exit i_seq i_block i_cond i_region' i_ops_nil i_ops i_drawn' k_none k_0 k_1 k_2 k_3 k_4 k_5 d_in a_nil a_cons alt1 h_nil h_one h_two z_nil z_cons z_cells zeqL zeq q_alloc q_some nxtN i_drh d_hi i_drw_nil i_drw u_nil u_code u_ops u_drw u_lp u_again u_exit u_ret u_panic c_bool o_some o_val o_panic d_some d_val d_panic w_none w_fast wantG q_nil q_zero q_succ t_zero t_succ g_zero g_succ s_zero s_succ s_some s_none v_tmp v_const v_func f_quiet gc_none gc_pure wrap_i64 p_move p_assign p_pick p_alloc p_box p_build p_buildSlice p_load p_store p_nilCheck p_binOp n_tmp n_int n_bool n_str n_ptr n_fun n_iface nilCmp p_unOp p_convert p_makeSlice p_makeInterface p_makeFunc p_slice p_fieldAddr p_field p_indexAddr p_index p_extract p_callv p_callb p_panic quiet_val new_val e_assign e_call e_load e_store e_alloc e_box e_move e_pick e_build e_buildSlice e_nilCheck e_binOp e_unOp e_convert e_makeSlice e_makeInterface e_makeFunc e_slice e_fieldAddr e_field e_indexAddr e_index e_extract e_panic callD fpRead adoptZ fulls adopt adoptL ofValue ofScalar binOpV unOpV intBin strBin eqRes veq veqF eqDepth val? finish resL r_tmp r_cell normL normTop tipIs refsL refs ownRefs single frz frzL ren renL renOwn callOp doCall backR writeBack builtinV loadV storeV storeW iceT cellsAt takeV D.isAgg overlay vcells cellOk fieldAddrV indexAddrV fieldV partV indexV buildV fillV buildSliceV litElems appendV appElems elemOk convertV convV winStr makeSliceV sliceV natOf
attribute [local simp ↓] brB_true brB_false brB_dec brB_not brB_and brB_or brB_beq brB_bne
attribute [local irreducible] fpsQ panQ

set_option maxRecDepth 100000 in
theorem ev_rcols (l : List Col) (hl : l.length ≤ 1048576) (ho : ∀ c ∈ l, c.ok) : EV 47 [.slice .froz (l.map Col.enc)] [] = some (.ret (.int .i64 (colsS l)), []) := by
  rw [EV_mki rfl Tryz.func47 rfl (by kernel_rfl) rfl]
  unfold colsS
  by_cases h0 : l = []
  · subst h0
    simp [Tryz.f47, Tryz.ti3, Tryz.ti4, Tryz.ti9, Tryz.ti22, Tryz.ti94]
  rw [if_neg h0]
  by_cases h6 : 6 < l.length
  · rw [if_pos h6]
    have h6' : (6 : Int) < l.length := by omega
    simp [Tryz.f47, Tryz.ti3, Tryz.ti4, Tryz.ti9, Tryz.ti22, Tryz.ti94, h0, h6, h6']
  rw [if_neg h6]
  have h6' : ¬ (6 : Int) < l.length := by omega
  simp [Tryz.f47, Tryz.ti3, Tryz.ti4, Tryz.ti9, Tryz.ti22, Tryz.ti94, h0, h6, h6']
  rw [i_loop (ts := [11, 12, 13, 14, 17, 18, 19, 20, 21, 22, 23, 24, 25, 26, 27, 28, 29, 30, 31, 32, 33, 34, 35, 36, 37, 38, 39, 4, 40, 41, 42, 45, 46, 47, 48, 49, 50, 51, 52, 53, 54, 55, 43, 44, 4, 15, 16])]
  rotate_left
  · kernel_rfl
  refine i_at (fun i : {i : Nat // i ≤ l.length} => l.length - i.1) (fun i env => setV env 3 (.int .i64 i.1)) (fun i => _) (fun i => some (.ret (.int .i64 (colsFrom l i.1 (l.drop i.1))), [])) ⟨0, by omega⟩ (by simp [s_zero, s_succ]) rfl (by simp) ?_
  intro ⟨i, hil⟩ iho
  dsimp only at hil ⊢
  by_cases hi : i < l.length
  · have iho := iho ⟨i + 1, by omega⟩ (by simp only; omega)
    have hwi : IntKind.i64.wrap ((i : Int) + 1) = (i : Int) + 1 := wrap_i64 (by omega)
    have hco := ho _ (List.getElem_mem hi)
    obtain ⟨t, hk⟩ : ∃ m, l[i] = m := ⟨_, rfl⟩
    have hkk : l[i]? = some t := by rw [List.getElem?_eq_getElem hi, hk]
    rw [List.drop_eq_getElem_cons hi, colsFrom, hk]
    rw [hk] at hco
    obtain ⟨tn, ty, ta, tu⟩ := t
    have hr := ev_rname tn (by have := hco.1; simp only at this; omega)
    simp only [s_zero, s_succ, Int.natCast_add, Int.natCast_one, Int.cast_ofNat_Int] at iho
    simp only [colOk]
    cases hn : nameS tn
    · rw [hn] at hr
      simp [i_again, roundEnd, dropT, cleanV, Tryz.f47, Tryz.ti3, Tryz.ti4, Tryz.ti9, Tryz.ti22, Tryz.ti94, hi, hk, hkk, Col.enc, Col.cells, hr]
    rw [hn] at hr
    by_cases h1 : 1 ≤ ty
    · have h1' : ¬ ty < 1 := by omega
      by_cases h3 : ty ≤ 3
      · have h3' : ¬ 3 < ty := by omega
        simp [i_again, roundEnd, dropT, cleanV, Tryz.f47, Tryz.ti3, Tryz.ti4, Tryz.ti9, Tryz.ti22, Tryz.ti94, hi, hk, hkk, Col.enc, Col.cells, hr, h1, h1', h3, h3']
        rw [i_loop (ts := [40, 41, 42, 45, 46, 47, 48, 49, 50, 51, 52, 53, 54, 55, 43, 44])]
        rotate_left
        · kernel_rfl
        refine i_at (fun k : {k : Nat // k ≤ i} => i - k.1) (fun k env => setV env 4 (.int .i64 k.1)) (fun k => _) (fun k => some (.ret (.int .i64 (if findS tn k.1 (l.drop k.1) = (i : Int) then colsFrom l (i + 1) (l.drop (i + 1)) else 3)), [])) ⟨0, by omega⟩ (by simp [s_zero, s_succ]) rfl (by simp) ?_
        intro ⟨k, hkl⟩ ih
        dsimp only at hkl ⊢
        by_cases hki : k < i
        · have ih := ih ⟨k + 1, by omega⟩ (by simp only; omega)
          have hkl2 : k < l.length := by omega
          have hwk : IntKind.i64.wrap ((k : Int) + 1) = (k : Int) + 1 := wrap_i64 (by omega)
          have hne : ¬ (k : Int) = i := by omega
          obtain ⟨u, hu⟩ : ∃ m, l[k] = m := ⟨_, rfl⟩
          have huu : l[k]? = some u := by rw [List.getElem?_eq_getElem hkl2, hu]
          rw [List.drop_eq_getElem_cons hkl2, findS, hu]
          obtain ⟨un, uy, ua, uu⟩ := u
          simp only [s_zero, s_succ, Int.natCast_add, Int.natCast_one, Int.cast_ofNat_Int] at ih
          by_cases he : un = tn
          · simp [i_again, roundEnd, dropT, cleanV, Tryz.f47, Tryz.ti3, Tryz.ti4, Tryz.ti9, Tryz.ti22, Tryz.ti94, hki, hi, hkl2, hk, hkk, hu, huu, Col.enc, Col.cells, he, hne] <;> first | (refine panQ_of ?_; decide +kernel) | (change _ = true; decide +kernel) | kernel_rfl | (refine ⟨?_, ?_⟩ <;> first | (change _ = true; decide +kernel) | kernel_rfl)
          · simp [i_again, roundEnd, dropT, cleanV, Tryz.f47, Tryz.ti3, Tryz.ti4, Tryz.ti9, Tryz.ti22, Tryz.ti94, hki, hi, hkl2, hk, hkk, hu, huu, Col.enc, Col.cells, he, hwk, ih] <;> first | (refine panQ_of ?_; decide +kernel) | (change _ = true; decide +kernel) | kernel_rfl | (refine ⟨?_, ?_⟩ <;> first | (change _ = true; decide +kernel) | kernel_rfl)
        · obtain rfl : k = i := by omega
          have hf : findS tn k (l.drop k) = k := by rw [List.drop_eq_getElem_cons hi, findS, hk]; simp
          rw [hf]
          simp [i_again, roundEnd, dropT, cleanV, Tryz.f47, Tryz.ti3, Tryz.ti4, Tryz.ti9, Tryz.ti22, Tryz.ti94, hwi, iho]
      · have h3' : 3 < ty := by omega
        simp [i_again, roundEnd, dropT, cleanV, Tryz.f47, Tryz.ti3, Tryz.ti4, Tryz.ti9, Tryz.ti22, Tryz.ti94, hi, hk, hkk, Col.enc, Col.cells, hr, h1, h1', h3, h3']
    · have h1' : ty < 1 := by omega
      simp [i_again, roundEnd, dropT, cleanV, Tryz.f47, Tryz.ti3, Tryz.ti4, Tryz.ti9, Tryz.ti22, Tryz.ti94, hi, hk, hkk, Col.enc, Col.cells, hr, h1, h1']
  · rw [List.drop_of_length_le (by omega)]
    simp [i_again, roundEnd, dropT, cleanV, Tryz.f47, Tryz.ti3, Tryz.ti4, Tryz.ti9, Tryz.ti22, Tryz.ti94, hi, colsFrom]
end Go.Abs

