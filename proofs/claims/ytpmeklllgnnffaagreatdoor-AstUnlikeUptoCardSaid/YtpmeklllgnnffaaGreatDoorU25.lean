/- Which texts are names, by the reference. -/
import Derived.Test.YtpmeklllgnnffaaGreatDoorU16
import Derived.Test.YtpmeklllgnnffaaGreatDoorU20
set_option linter.unusedSimpArgs false
set_option linter.unusedVariables false

namespace Go.Abs
set_option linter.unusedSimpArgs false
set_option linter.unusedVariables false
open Go Go.Proofs
attribute [local simp] i_nil i_blk i_skip i_ret i_exit i_seq i_block i_cond i_region' i_ops_nil i_ops i_drawn' k_none k_0 k_1 k_2 k_3 k_4 k_5 d_in a_nil a_cons alt1 h_nil h_one h_two z_nil z_cons z_cells zeqL zeq q_alloc q_some nxtN i_drh d_hi i_drw_nil i_drw u_nil u_code u_ops u_drw u_lp u_again u_exit u_ret u_panic c_bool o_some o_val o_panic d_some d_val d_panic w_none w_fast wantG q_nil q_zero q_succ t_zero t_succ g_zero g_succ s_zero s_succ s_some s_none v_tmp v_const v_func f_quiet gc_none gc_pure wrap_i64 p_move p_assign p_pick p_alloc p_box p_build p_buildSlice p_load p_store p_nilCheck p_binOp n_tmp n_int n_bool n_str n_ptr n_fun n_iface nilCmp p_unOp p_convert p_makeSlice p_makeInterface p_makeFunc p_slice p_fieldAddr p_field p_indexAddr p_index p_extract p_callv p_callb p_panic quiet_val new_val e_assign e_call e_load e_store e_alloc e_box e_move e_pick e_build e_buildSlice e_nilCheck e_binOp e_unOp e_convert e_makeSlice e_makeInterface e_makeFunc e_slice e_fieldAddr e_field e_indexAddr e_index e_extract e_panic callD fpRead adoptZ fulls adopt adoptL ofValue ofScalar binOpV unOpV intBin strBin eqRes veq veqF eqDepth val? finish resL r_tmp r_cell normL normTop tipIs refsL refs ownRefs single frz frzL ren renL renOwn callOp doCall backR writeBack builtinV loadV storeV storeW iceT cellsAt takeV D.isAgg overlay vcells cellOk fieldAddrV indexAddrV fieldV partV indexV buildV fillV buildSliceV litElems appendV appElems elemOk convertV convV winStr makeSliceV sliceV natOf
attribute [local simp ↓] brB_true brB_false brB_dec brB_not brB_and brB_or brB_beq brB_bne

theorem ev_rname (s : List UInt8) (hs : s.length ≤ 4611686018427387904) : EV 46 [.str s] [] = some (.ret (.bool (nameS s)), []) := by
  rw [EV_mki rfl Tryz.func46 rfl (by kernel_rfl) rfl]
  cases s with
  | nil => simp [Tryz.f46, Tryz.ti3, Tryz.ti5, Tryz.ti9, nameS]
  | cons c r =>
    have h0 : ¬ ((c :: r).length : Int) < 1 := by simp; omega
    by_cases hl : r.length + 1 ≤ 16
    · have hl' : ¬ (16 : Int) < (c :: r).length := by simp; omega
      have hl2 : ¬ (16 : Int) < (r.length : Int) + 1 := by omega
      have h02 : ¬ ((r.length : Int) + 1) < 1 := by omega
      by_cases c1 : (97 : Int) ≤ c.toNat
      · have c1' : ¬ (c.toNat : Int) < 97 := by omega
        by_cases c2 : (c.toNat : Int) ≤ 122
        · have c2' : ¬ (122 : Int) < c.toNat := by omega
          have hlow : isLow c = true := by rw [low_int]; simp [c1, c2]
          have hnS : nameS (c :: r) = ((c :: r).drop 1).all (fun c => isLow c || isDig c || c == 95) := by simp [nameS, hlow, hl]
          rw [hnS]
          obtain ⟨A, hA⟩ : ∃ A, ((c :: r).drop 1).all (fun c => isLow c || isDig c || c == 95) = A := ⟨_, rfl⟩
          rw [hA]
          simp [Tryz.f46, Tryz.ti3, Tryz.ti5, Tryz.ti9, hl2, h02, c1', c2']
          generalize hcr : c :: r = s at *
          have hsl : s.length = r.length + 1 := by rw [← hcr]; rfl
          rw [show ((r.length : Int) + 1) = (s.length : Int) by omega] at *
          rw [i_loop (ts := [23, 24, 25, 26, 29, 30, 31, 4, 32, 33, 34, 35, 36, 37, 38, 39, 40, 41, 42, 43, 44, 45, 46, 47, 48, 49, 50, 27, 28])]
          rotate_left
          · kernel_rfl
          refine i_at (fun i : Nat => s.length - i) (fun i env => setV env 3 (.int .i64 i)) (fun _ => _) (fun i => some (.ret (.bool ((s.drop i).all (fun c => isLow c || isDig c || c == 95))), [])) 1 (by simp [s_zero, s_succ]) rfl (by rw [hA]) ?_
          intro i ih
          by_cases hi : i < s.length
          · have ih := ih (i + 1) (by omega)
            have hdr : s.drop i = s[i] :: s.drop (i + 1) := List.drop_eq_getElem_cons hi
            obtain ⟨x, hk⟩ : ∃ m, s[i] = m := ⟨_, rfl⟩
            have hkk : s[i]? = some x := by rw [List.getElem?_eq_getElem hi, hk]
            have hwi : IntKind.i64.wrap ((i : Int) + 1) = (i : Int) + 1 := wrap_i64 (by omega)
            rw [hdr, hk, List.all_cons, low_int, dig_int, under_int]
            simp only [s_zero, s_succ, Int.natCast_add, Int.natCast_one, Int.cast_ofNat_Int] at ih
            by_cases d1 : (97 : Int) ≤ x.toNat
            · have d3 : (48 : Int) ≤ x.toNat := by omega
              have d4 : ¬ (x.toNat : Int) ≤ 57 := by omega
              have d5 : ¬ (x.toNat : Int) = 95 := by omega
              by_cases d2 : (x.toNat : Int) ≤ 122 <;> simp [i_again, roundEnd, dropT, cleanV, Tryz.f46, Tryz.ti3, Tryz.ti5, Tryz.ti9, hi, hk, hkk, hwi, d1, d2, d3, d4, d5, ih]
            · by_cases d3 : (48 : Int) ≤ x.toNat
              · by_cases d4 : (x.toNat : Int) ≤ 57
                · simp [i_again, roundEnd, dropT, cleanV, Tryz.f46, Tryz.ti3, Tryz.ti5, Tryz.ti9, hi, hk, hkk, hwi, d1, d3, d4, ih]
                · by_cases d5 : (x.toNat : Int) = 95 <;> simp [i_again, roundEnd, dropT, cleanV, Tryz.f46, Tryz.ti3, Tryz.ti5, Tryz.ti9, hi, hk, hkk, hwi, d1, d3, d4, d5, ih]
              · have d5 : ¬ (x.toNat : Int) = 95 := by omega
                simp [i_again, roundEnd, dropT, cleanV, Tryz.f46, Tryz.ti3, Tryz.ti5, Tryz.ti9, hi, hk, hkk, hwi, d1, d3, d5, ih]
          · have hdr : s.drop i = [] := List.drop_eq_nil_of_le (by omega)
            rw [hdr]
            simp [i_again, roundEnd, dropT, cleanV, Tryz.f46, Tryz.ti3, Tryz.ti5, Tryz.ti9, hi]
        · have c2' : (122 : Int) < c.toNat := by omega
          have hlow : isLow c = false := by rw [low_int]; simp [c2]
          simp [Tryz.f46, Tryz.ti3, Tryz.ti5, Tryz.ti9, hl2, h02, c1', c2', nameS, hlow]
      · have c1' : (c.toNat : Int) < 97 := by omega
        have hlow : isLow c = false := by rw [low_int]; simp [c1]
        simp [Tryz.f46, Tryz.ti3, Tryz.ti5, Tryz.ti9, hl2, h02, c1', nameS, hlow]
    · have hl2 : (16 : Int) < (r.length : Int) + 1 := by omega
      have h02 : ¬ ((r.length : Int) + 1) < 1 := by omega
      simp [Tryz.f46, Tryz.ti3, Tryz.ti5, Tryz.ti9, hl2, h02, nameS, hl]
end Go.Abs

