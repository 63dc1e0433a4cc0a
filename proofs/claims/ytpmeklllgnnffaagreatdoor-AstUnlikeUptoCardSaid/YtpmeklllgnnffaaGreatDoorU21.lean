/- Which texts are names, by the program. -/
import Derived.Test.YtpmeklllgnnffaaGreatDoorU16
import Derived.Test.YtpmeklllgnnffaaGreatDoorU20
set_option linter.unusedSimpArgs false
set_option linter.unusedVariables false

namespace Go.Abs
set_option linter.unusedSimpArgs false
set_option linter.unusedVariables false
open Go Go.Proofs
attribute [local simp] i_nil i_blk i_skip i_ret i_exit i_seq i_block i_cond i_region' i_ops_nil i_ops i_drawn' k_none k_0 k_1 k_2 k_3 k_4 k_5 d_in a_nil a_cons alt1 h_nil h_one h_two z_nil z_cons z_cells zeqL zeq q_alloc q_some nxtN i_drh d_hi i_drw_nil i_drw u_nil u_code u_ops u_drw u_lp u_again u_exit u_ret u_panic c_bool o_some o_val o_panic d_some d_val d_panic w_none w_fast wantG q_nil q_zero q_succ t_zero t_succ g_zero g_succ s_zero s_succ s_some s_none v_tmp v_const v_func f_quiet gc_none gc_pure wrap_i64 p_move p_assign p_pick p_alloc p_box p_build p_buildSlice p_load p_store p_nilCheck p_binOp n_tmp n_int n_bool n_str n_ptr n_fun n_iface nilCmp p_unOp p_convert p_makeSlice p_makeInterface p_makeFunc p_slice p_fieldAddr p_field p_indexAddr p_index p_extract p_callv p_callb p_panic quiet_val new_val e_assign e_call e_load e_store e_alloc e_box e_move e_pick e_build e_buildSlice e_nilCheck e_binOp e_unOp e_convert e_makeSlice e_makeInterface e_makeFunc e_slice e_fieldAddr e_field e_indexAddr e_index e_extract e_panic callD fpRead adoptZ fulls adopt adoptL ofValue ofScalar binOpV unOpV intBin strBin eqRes veq veqF eqDepth val? finish resL r_tmp r_cell normL normTop tipIs refsL refs ownRefs single frz frzL ren renL renOwn callOp doCall backR writeBack builtinV loadV storeV storeW iceT cellsAt takeV D.isAgg overlay vcells cellOk fieldAddrV indexAddrV fieldV partV indexV buildV fillV buildSliceV litElems appendV appElems elemOk convertV convV winStr makeSliceV sliceV natOf
attribute [local simp ↓] brB_true brB_false brB_dec brB_not brB_and brB_or brB_beq brB_bne

def nameF (s : List UInt8) (i : Nat) : Bool := if i = 0 then nameS s else (s.drop i).all (fun c => isLow c || isDig c || c == 95) && decide (s.length ≤ 16)
theorem nameF_step (s : List UInt8) (i : Nat) (hi : i < s.length) : nameF s i = ((isLow s[i] || (decide (¬ i = 0) && (isDig s[i] || s[i] == 95))) && nameF s (i + 1)) := by
  unfold nameF
  by_cases h : i = 0
  · subst h
    cases s with
    | nil => simp at hi
    | cons c r => simp [nameS, Bool.and_assoc]
  · have hd : s.drop i = s[i] :: s.drop (i + 1) := List.drop_eq_getElem_cons hi
    rw [if_neg h, if_neg (by omega), hd, List.all_cons]
    simp [h, Bool.and_assoc, Bool.or_assoc]
theorem nameF_end (s : List UInt8) (i : Nat) (hi : ¬ i < s.length) (hle : i ≤ s.length) : nameF s i = (decide (¬ s = []) && decide (s.length ≤ 16)) := by
  unfold nameF
  have hd : s.drop i = [] := List.drop_eq_nil_of_le (by omega)
  by_cases h : i = 0
  · have : s = [] := List.eq_nil_of_length_eq_zero (by omega)
    subst this
    simp [h, nameS]
  · have : ¬ s = [] := by rintro rfl; simp at hle; omega
    simp [h, hd, this]
set_option maxRecDepth 100000 in
theorem ev_name (s : List UInt8) (hs : s.length ≤ 4611686018427387904) : EV 40 [.str s] [] = some (.ret (.bool (nameS s)), []) := by
  rw [EV_mki rfl Tryz.func40 rfl (by kernel_rfl) rfl]
  simp [Tryz.f40, Tryz.ti3, Tryz.ti5, Tryz.ti9]
  rw [i_loop (ts := [5, 6, 7, 8, 11, 12, 13, 14, 15, 16, 17, 18, 19, 20, 4, 21, 22, 23, 24, 25, 26, 27, 28, 29, 30, 31, 32, 33, 34, 35, 36, 37, 38, 39, 40, 41, 42, 43, 44, 9, 10])]
  rotate_left
  · kernel_rfl
  refine i_at (fun i : {i : Nat // i ≤ s.length} => s.length - i.1) (fun i env => setV env 3 (.int .i64 i.1)) (fun _ => _) (fun i => some (.ret (.bool (nameF s i.1)), [])) ⟨0, by omega⟩ (by simp [s_zero, s_succ]) rfl (by simp [nameF]) ?_
  intro ⟨i, hil⟩ ih
  dsimp only
  by_cases hi : i < s.length
  · have ih := ih ⟨i + 1, by omega⟩ (by simp only; omega)
    have hwi : IntKind.i64.wrap ((i : Int) + 1) = (i : Int) + 1 := wrap_i64 (by omega)
    rw [nameF_step s i hi]
    obtain ⟨c, hk⟩ : ∃ m, s[i] = m := ⟨_, rfl⟩
    have hkk : s[i]? = some c := by rw [List.getElem?_eq_getElem hi, hk]
    simp only [s_zero, s_succ, Int.natCast_add, Int.natCast_one, Int.cast_ofNat_Int] at ih
    rw [hk, low_int, dig_int, under_int]
    by_cases h1 : (97 : Int) ≤ c.toNat
    · have h3 : ¬ (c.toNat : Int) = 95 := by omega
      have h4 : ¬ (c.toNat : Int) < 48 := by omega
      have h5 : (57 : Int) < c.toNat := by omega
      have h6 : ¬ (c.toNat : Int) ≤ 57 := by omega
      by_cases h2 : (c.toNat : Int) ≤ 122
      · simp [i_again, roundEnd, dropT, cleanV, Tryz.f40, Tryz.ti3, Tryz.ti5, Tryz.ti9, hi, hk, hkk, hwi, ih, h1, h2]
      · by_cases h0 : i = 0
        · subst h0
          have hne : ¬ s = [] := by rintro rfl; simp at hi
          simp [i_again, roundEnd, dropT, cleanV, Tryz.f40, Tryz.ti3, Tryz.ti5, Tryz.ti9, hi, hk, hkk, hne, h1, h2]
        · simp [i_again, roundEnd, dropT, cleanV, Tryz.f40, Tryz.ti3, Tryz.ti5, Tryz.ti9, hi, hk, hkk, hwi, ih, h0, h1, h2, h3, h4, h5, h6]
    · by_cases h0 : i = 0
      · subst h0
        have hne : ¬ s = [] := by rintro rfl; simp at hi
        simp [i_again, roundEnd, dropT, cleanV, Tryz.f40, Tryz.ti3, Tryz.ti5, Tryz.ti9, hi, hk, hkk, hne, h1]
      · by_cases h3 : (c.toNat : Int) = 95
        · simp [i_again, roundEnd, dropT, cleanV, Tryz.f40, Tryz.ti3, Tryz.ti5, Tryz.ti9, hi, hk, hkk, hwi, ih, h0, h1, h3]
        · by_cases h4 : (c.toNat : Int) < 48
          · have h7 : ¬ (48 : Int) ≤ c.toNat := by omega
            simp [i_again, roundEnd, dropT, cleanV, Tryz.f40, Tryz.ti3, Tryz.ti5, Tryz.ti9, hi, hk, hkk, hwi, ih, h0, h1, h3, h4, h7]
          · have h7 : (48 : Int) ≤ c.toNat := by omega
            by_cases h5 : (57 : Int) < c.toNat
            · have h6 : ¬ (c.toNat : Int) ≤ 57 := by omega
              simp [i_again, roundEnd, dropT, cleanV, Tryz.f40, Tryz.ti3, Tryz.ti5, Tryz.ti9, hi, hk, hkk, hwi, ih, h0, h1, h3, h4, h5, h6, h7]
            · have h6 : (c.toNat : Int) ≤ 57 := by omega
              simp [i_again, roundEnd, dropT, cleanV, Tryz.f40, Tryz.ti3, Tryz.ti5, Tryz.ti9, hi, hk, hkk, hwi, ih, h0, h1, h3, h4, h5, h6, h7]
  · rw [nameF_end s i hi hil]
    by_cases h0 : s = []
    · subst h0
      obtain rfl : i = 0 := by simpa using hil
      simp [i_again, roundEnd, dropT, cleanV, Tryz.f40, Tryz.ti3, Tryz.ti5, Tryz.ti9]
    · by_cases h1 : s.length ≤ 16
      · have h1' : (s.length : Int) ≤ 16 := by omega
        simp [i_again, roundEnd, dropT, cleanV, Tryz.f40, Tryz.ti3, Tryz.ti5, Tryz.ti9, hi, h0, h1, h1']
      · have h1' : ¬ (s.length : Int) ≤ 16 := by omega
        simp [i_again, roundEnd, dropT, cleanV, Tryz.f40, Tryz.ti3, Tryz.ti5, Tryz.ti9, hi, h0, h1, h1']
end Go.Abs

