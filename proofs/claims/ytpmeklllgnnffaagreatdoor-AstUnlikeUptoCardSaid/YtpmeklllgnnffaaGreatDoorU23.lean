/- Which expressions are right: the program's answer. -/
import Derived.Test.YtpmeklllgnnffaaGreatDoorU20
import Derived.Test.YtpmeklllgnnffaaGreatDoorU21
import Derived.Test.YtpmeklllgnnffaaGreatDoorU22
set_option linter.unusedSimpArgs false
set_option linter.unusedVariables false

namespace Go.Abs
set_option linter.unusedSimpArgs false
set_option linter.unusedVariables false
open Go Go.Proofs
attribute [local simp] i_nil i_blk i_skip i_ret i_exit i_seq i_block i_cond i_region' i_ops_nil i_ops i_drawn' k_none k_0 k_1 k_2 k_3 k_4 k_5 d_in a_nil a_cons alt1 h_nil h_one h_two z_nil z_cons z_cells zeqL zeq q_alloc q_some nxtN i_drh d_hi i_drw_nil i_drw u_nil u_code u_ops u_drw u_lp u_again u_exit u_ret u_panic c_bool o_some o_val o_panic d_some d_val d_panic w_none w_fast wantG q_nil q_zero q_succ t_zero t_succ g_zero g_succ s_zero s_succ s_some s_none v_tmp v_const v_func f_quiet gc_none gc_pure wrap_i64 p_move p_assign p_pick p_alloc p_box p_build p_buildSlice p_load p_store p_nilCheck p_binOp n_tmp n_int n_bool n_str n_ptr n_fun n_iface nilCmp p_unOp p_convert p_makeSlice p_makeInterface p_makeFunc p_slice p_fieldAddr p_field p_indexAddr p_index p_extract p_callv p_callb p_panic quiet_val new_val e_assign e_call e_load e_store e_alloc e_box e_move e_pick e_build e_buildSlice e_nilCheck e_binOp e_unOp e_convert e_makeSlice e_makeInterface e_makeFunc e_slice e_fieldAddr e_field e_indexAddr e_index e_extract e_panic callD fpRead adoptZ fulls adopt adoptL ofValue ofScalar binOpV unOpV intBin strBin eqRes veq veqF eqDepth val? finish resL r_tmp r_cell normL normTop tipIs refsL refs ownRefs single frz frzL ren renL renOwn callOp doCall backR writeBack builtinV loadV storeV storeW iceT cellsAt takeV D.isAgg overlay vcells cellOk fieldAddrV indexAddrV fieldV partV indexV buildV fillV buildSliceV litElems appendV appElems elemOk convertV convV winStr makeSliceV sliceV natOf
attribute [local simp ↓] brB_true brB_false brB_dec brB_not brB_and brB_or brB_beq brB_bne

theorem ev_arity (op : List UInt8) : EV 94 [.str op] [] = some (.ret (.int .i64 (arityS op)), []) := by
  rw [EV_mki rfl Tryz.func94 rfl (by kernel_rfl) rfl]
  by_cases h0 : op = oValue
  · subst h0; simp [Tryz.f94, Tryz.ti9, arityS, twoOps, oValue, oColumn, oNeg, oNot, oNull, oAnd, oOr]
  by_cases h1 : op = oColumn
  · subst h1; simp [Tryz.f94, Tryz.ti9, arityS, twoOps, oValue, oColumn, oNeg, oNot, oNull, oAnd, oOr]
  by_cases h2 : op = oNeg
  · subst h2; simp [Tryz.f94, Tryz.ti9, arityS, twoOps, oValue, oColumn, oNeg, oNot, oNull, oAnd, oOr]
  by_cases h3 : op = oNot
  · subst h3; simp [Tryz.f94, Tryz.ti9, arityS, twoOps, oValue, oColumn, oNeg, oNot, oNull, oAnd, oOr]
  by_cases h4 : op = oNull
  · subst h4; simp [Tryz.f94, Tryz.ti9, arityS, twoOps, oValue, oColumn, oNeg, oNot, oNull, oAnd, oOr]
  by_cases h5 : op = [43]
  · subst h5; simp [Tryz.f94, Tryz.ti9, arityS, twoOps, oValue, oColumn, oNeg, oNot, oNull, oAnd, oOr]
  by_cases h6 : op = [45]
  · subst h6; simp [Tryz.f94, Tryz.ti9, arityS, twoOps, oValue, oColumn, oNeg, oNot, oNull, oAnd, oOr]
  by_cases h7 : op = [42]
  · subst h7; simp [Tryz.f94, Tryz.ti9, arityS, twoOps, oValue, oColumn, oNeg, oNot, oNull, oAnd, oOr]
  by_cases h8 : op = [61]
  · subst h8; simp [Tryz.f94, Tryz.ti9, arityS, twoOps, oValue, oColumn, oNeg, oNot, oNull, oAnd, oOr]
  by_cases h9 : op = [60, 62]
  · subst h9; simp [Tryz.f94, Tryz.ti9, arityS, twoOps, oValue, oColumn, oNeg, oNot, oNull, oAnd, oOr]
  by_cases h10 : op = [60]
  · subst h10; simp [Tryz.f94, Tryz.ti9, arityS, twoOps, oValue, oColumn, oNeg, oNot, oNull, oAnd, oOr]
  by_cases h11 : op = [60, 61]
  · subst h11; simp [Tryz.f94, Tryz.ti9, arityS, twoOps, oValue, oColumn, oNeg, oNot, oNull, oAnd, oOr]
  by_cases h12 : op = [62]
  · subst h12; simp [Tryz.f94, Tryz.ti9, arityS, twoOps, oValue, oColumn, oNeg, oNot, oNull, oAnd, oOr]
  by_cases h13 : op = [62, 61]
  · subst h13; simp [Tryz.f94, Tryz.ti9, arityS, twoOps, oValue, oColumn, oNeg, oNot, oNull, oAnd, oOr]
  by_cases h14 : op = oAnd
  · subst h14; simp [Tryz.f94, Tryz.ti9, arityS, twoOps, oValue, oColumn, oNeg, oNot, oNull, oAnd, oOr]
  by_cases h15 : op = oOr
  · subst h15; simp [Tryz.f94, Tryz.ti9, arityS, twoOps, oValue, oColumn, oNeg, oNot, oNull, oAnd, oOr]
  simp only [oValue, oColumn, oNeg, oNot, oNull, oAnd, oOr] at h0 h1 h2 h3 h4 h14 h15
  simp [Tryz.f94, Tryz.ti9, arityS, twoOps, oValue, oColumn, oNeg, oNot, oNull, oAnd, oOr, h0, h1, h2, h3, h4, h5, h6, h7, h8, h9, h10, h11, h12, h13, h14, h15]

section
variable (d : Nat) (op : List UInt8) (vk vn : Int) (vs : List UInt8) (var col : List UInt8) (l : List Xp) (hd : d < 1000)
include hd
set_option maxRecDepth 100000 in
set_option maxHeartbeats 4000000 in
theorem ev_rx_value (hA : (l.length : Int) = arityS oValue) : EV 67 [(Xp.mk oValue ⟨vk, vn, vs⟩ var col l).enc, .int .i64 (d + 1 : Nat)] [] = some (.ret (.bool (rightE (d + 1) (Xp.mk oValue ⟨vk, vn, vs⟩ var col l))), []) := by
  have hd0 : ¬ ((d : Int) + 1 = 0) := by omega
  have hr := ev_right vk vn vs
  rw [EV_mki rfl Tryz.func67 rfl (by kernel_rfl) rfl, xenc_mk]
  simp only [rightE]
  have hA' : (l.length : Int) = arityS [118, 97, 108, 117, 101] := hA
  by_cases hx : var = []
  · by_cases hy : col = []
    · cases hb : rightS ⟨vk, vn, vs⟩ <;> rw [hb] at hr
      · simp [Tryz.f67, Tryz.ti3, Tryz.ti9, Tryz.ti23, Tryz.ti44, Tryz.ti46, hd0, ev_arity, hA', hr, hb, oValue, oColumn, hx, hy] <;> first | (refine panQ_of ?_; decide +kernel) | (change _ = true; decide +kernel) | kernel_rfl | (refine ⟨?_, ?_⟩ <;> first | (change _ = true; decide +kernel) | kernel_rfl)
      · by_cases hk : vk = 2
        · subst hk
          by_cases hn : 0 ≤ vn <;> simp [Tryz.f67, Tryz.ti3, Tryz.ti9, Tryz.ti23, Tryz.ti44, Tryz.ti46, hd0, ev_arity, hA', hr, hb, oValue, oColumn, hx, hy, hn] <;> first | (refine panQ_of ?_; decide +kernel) | (change _ = true; decide +kernel) | kernel_rfl | (refine ⟨?_, ?_⟩ <;> first | (change _ = true; decide +kernel) | kernel_rfl)
        · simp [Tryz.f67, Tryz.ti3, Tryz.ti9, Tryz.ti23, Tryz.ti44, Tryz.ti46, hd0, ev_arity, hA', hr, hb, oValue, oColumn, hx, hy, hk] <;> first | (refine panQ_of ?_; decide +kernel) | (change _ = true; decide +kernel) | kernel_rfl | (refine ⟨?_, ?_⟩ <;> first | (change _ = true; decide +kernel) | kernel_rfl)
    · simp [Tryz.f67, Tryz.ti3, Tryz.ti9, Tryz.ti23, Tryz.ti44, Tryz.ti46, hd0, ev_arity, hA', hr, oValue, oColumn, hx, hy] <;> first | (refine panQ_of ?_; decide +kernel) | (change _ = true; decide +kernel) | kernel_rfl | (refine ⟨?_, ?_⟩ <;> first | (change _ = true; decide +kernel) | kernel_rfl)
  · simp [Tryz.f67, Tryz.ti3, Tryz.ti9, Tryz.ti23, Tryz.ti44, Tryz.ti46, hd0, ev_arity, hA', hr, oValue, oColumn, hx] <;> first | (refine panQ_of ?_; decide +kernel) | (change _ = true; decide +kernel) | kernel_rfl | (refine ⟨?_, ?_⟩ <;> first | (change _ = true; decide +kernel) | kernel_rfl)
set_option maxRecDepth 100000 in
set_option maxHeartbeats 4000000 in
theorem ev_rx_column (hv : var.length ≤ 1048576) (hc : col.length ≤ 1048576) (hA : (l.length : Int) = arityS oColumn) : EV 67 [(Xp.mk oColumn ⟨0, 0, []⟩ var col l).enc, .int .i64 (d + 1 : Nat)] [] = some (.ret (.bool (rightE (d + 1) (Xp.mk oColumn ⟨0, 0, []⟩ var col l))), []) := by
  have hd0 : ¬ ((d : Int) + 1 = 0) := by omega
  have hn1 := ev_name var (by omega)
  have hn2 := ev_name col (by omega)
  rw [EV_mki rfl Tryz.func67 rfl (by kernel_rfl) rfl, xenc_mk]
  simp only [rightE]
  have hA' : (l.length : Int) = arityS [99, 111, 108, 117, 109, 110] := hA
  cases h2 : nameS col <;> rw [h2] at hn2
  · simp [Tryz.f67, Tryz.ti3, Tryz.ti9, Tryz.ti23, Tryz.ti44, Tryz.ti46, hd0, ev_arity, hA', hn2, oValue, oColumn, Val.zero] <;> first | (refine panQ_of ?_; decide +kernel) | (change _ = true; decide +kernel) | kernel_rfl | (refine ⟨?_, ?_⟩ <;> first | (change _ = true; decide +kernel) | kernel_rfl)
  · by_cases hx : var = []
    · subst hx; simp [Tryz.f67, Tryz.ti3, Tryz.ti9, Tryz.ti23, Tryz.ti44, Tryz.ti46, hd0, ev_arity, hA', hn2, oValue, oColumn, Val.zero] <;> first | (refine panQ_of ?_; decide +kernel) | (change _ = true; decide +kernel) | kernel_rfl | (refine ⟨?_, ?_⟩ <;> first | (change _ = true; decide +kernel) | kernel_rfl)
    · cases h1 : nameS var <;> rw [h1] at hn1 <;> simp [Tryz.f67, Tryz.ti3, Tryz.ti9, Tryz.ti23, Tryz.ti44, Tryz.ti46, hd0, ev_arity, hA', hn1, hn2, oValue, oColumn, hx, Val.zero] <;> first | (refine panQ_of ?_; decide +kernel) | (change _ = true; decide +kernel) | kernel_rfl | (refine ⟨?_, ?_⟩ <;> first | (change _ = true; decide +kernel) | kernel_rfl)
set_option maxRecDepth 100000 in
set_option maxHeartbeats 4000000 in
theorem ev_rx_nonzero (hA : (l.length : Int) = arityS op) (hV : ¬ op = oValue) (hz : ¬ (vk = 0 ∧ vn = 0 ∧ vs = [])) : EV 67 [(Xp.mk op ⟨vk, vn, vs⟩ var col l).enc, .int .i64 (d + 1 : Nat)] [] = some (.ret (.bool (rightE (d + 1) (Xp.mk op ⟨vk, vn, vs⟩ var col l))), []) := by
  have hd0 : ¬ ((d : Int) + 1 = 0) := by omega
  rw [EV_mki rfl Tryz.func67 rfl (by kernel_rfl) rfl, xenc_mk]
  simp only [rightE]
  have hV' : ¬ op = [118, 97, 108, 117, 101] := hV
  have hz' : (decide ((⟨vk, vn, vs⟩ : Val) = Val.zero)) = false := by simpa [Val.zero] using hz
  have hb : (decide (vk = 0) && (decide (vn = 0) && (decide (vs = []) && true))) = false := by simpa using hz
  have hb' : (decide (vk = 0) && (decide (vn = 0) && decide (vs = []))) = false := by simpa using hz
  simp [Tryz.f67, Tryz.ti3, Tryz.ti9, Tryz.ti23, Tryz.ti44, Tryz.ti46, hd0, ev_arity, hA, hV', hV, hz', hb, hb'] <;> first | (refine panQ_of ?_; decide +kernel) | (change _ = true; decide +kernel) | kernel_rfl | (refine ⟨?_, ?_⟩ <;> first | (change _ = true; decide +kernel) | kernel_rfl)
set_option maxRecDepth 100000 in
set_option maxHeartbeats 4000000 in
theorem ev_rx_var (hA : (l.length : Int) = arityS op) (hV : ¬ op = oValue) (hC : ¬ op = oColumn) (hx : ¬ (var = [] ∧ col = [])) : EV 67 [(Xp.mk op ⟨0, 0, []⟩ var col l).enc, .int .i64 (d + 1 : Nat)] [] = some (.ret (.bool (rightE (d + 1) (Xp.mk op ⟨0, 0, []⟩ var col l))), []) := by
  have hd0 : ¬ ((d : Int) + 1 = 0) := by omega
  rw [EV_mki rfl Tryz.func67 rfl (by kernel_rfl) rfl, xenc_mk]
  simp only [rightE]
  have hV' : ¬ op = [118, 97, 108, 117, 101] := hV
  have hC' : ¬ op = [99, 111, 108, 117, 109, 110] := hC
  by_cases h1 : var = []
  · subst h1
    have h2 : ¬ col = [] := fun h => hx ⟨rfl, h⟩
    simp [Tryz.f67, Tryz.ti3, Tryz.ti9, Tryz.ti23, Tryz.ti44, Tryz.ti46, hd0, ev_arity, hA, hV', hC', hV, hC, h2] <;> first | (refine panQ_of ?_; decide +kernel) | (change _ = true; decide +kernel) | kernel_rfl | (refine ⟨?_, ?_⟩ <;> first | (change _ = true; decide +kernel) | kernel_rfl)
  · simp [Tryz.f67, Tryz.ti3, Tryz.ti9, Tryz.ti23, Tryz.ti44, Tryz.ti46, hd0, ev_arity, hA, hV', hC', hV, hC, h1] <;> first | (refine panQ_of ?_; decide +kernel) | (change _ = true; decide +kernel) | kernel_rfl | (refine ⟨?_, ?_⟩ <;> first | (change _ = true; decide +kernel) | kernel_rfl)
set_option maxRecDepth 100000 in
set_option maxHeartbeats 4000000 in
theorem ev_rx_arity (hA : ¬ (l.length : Int) = arityS op) : EV 67 [(Xp.mk op ⟨vk, vn, vs⟩ var col l).enc, .int .i64 (d + 1 : Nat)] [] = some (.ret (.bool (rightE (d + 1) (Xp.mk op ⟨vk, vn, vs⟩ var col l))), []) := by
  have hd0 : ¬ ((d : Int) + 1 = 0) := by omega
  rw [EV_mki rfl Tryz.func67 rfl (by kernel_rfl) rfl, xenc_mk]
  simp only [rightE]
  simp [Tryz.f67, Tryz.ti3, Tryz.ti9, Tryz.ti23, Tryz.ti44, Tryz.ti46, hd0, ev_arity, hA] <;> first | (refine panQ_of ?_; decide +kernel) | (change _ = true; decide +kernel) | kernel_rfl | (refine ⟨?_, ?_⟩ <;> first | (change _ = true; decide +kernel) | kernel_rfl)
set_option maxRecDepth 100000 in
set_option maxHeartbeats 4000000 in
theorem ev_rx_ops (hl : l.length ≤ 1048576) (hA : (l.length : Int) = arityS op) (hV : ¬ op = oValue) (hC : ¬ op = oColumn) (ihk : ∀ m ∈ l, EV 67 [m.enc, .int .i64 d] [] = some (.ret (.bool (rightE d m)), [])) :
    EV 67 [(Xp.mk op ⟨0, 0, []⟩ [] [] l).enc, .int .i64 (d + 1 : Nat)] [] = some (.ret (.bool (rightE (d + 1) (Xp.mk op ⟨0, 0, []⟩ [] [] l))), []) := by
  have hd0 : ¬ ((d : Int) + 1 = 0) := by omega
  have hw : IntKind.i64.wrap (d : Int) = d := wrap_i64 (by omega)
  rw [EV_mki rfl Tryz.func67 rfl (by kernel_rfl) rfl, xenc_mk]
  simp only [rightE]
  have hV' : ¬ op = [118, 97, 108, 117, 101] := hV
  have hC' : ¬ op = [99, 111, 108, 117, 109, 110] := hC
  simp [Tryz.f67, Tryz.ti3, Tryz.ti9, Tryz.ti23, Tryz.ti44, Tryz.ti46, hd0, ev_arity, hA, hV', hC', hV, hC, Val.zero]
  rw [i_loop (ts := [80, 81, 82, 6, 83, 84, 85, 86, 87, 88])]
  rotate_left
  · kernel_rfl
  refine i_at (fun i : {i : Nat // i ≤ l.length} => l.length - i.1) (fun i env => setV env 79 (.int .i64 i.1)) (fun i => _) (fun i => some (.ret (.bool ((l.drop i.1).all (rightE d))), [])) ⟨0, by omega⟩ (by simp [s_zero, s_succ]) rfl (by simp) ?_
  intro ⟨i, hil⟩ ih
  dsimp only at hil ⊢
  by_cases hi : i < l.length
  · have ih := ih ⟨i + 1, by omega⟩ (by simp only; omega)
    have hwi : IntKind.i64.wrap ((i : Int) + 1) = (i : Int) + 1 := wrap_i64 (by omega)
    have hc := ihk l[i] (List.getElem_mem hi)
    obtain ⟨t, hk⟩ : ∃ m, l[i] = m := ⟨_, rfl⟩
    have hi' : (i : Int) < arityS op := by omega
    rw [List.drop_eq_getElem_cons hi, List.all_cons, hk]
    rw [hk] at hc
    obtain ⟨op', v', var', col', kids'⟩ := t
    rw [xenc_mk] at hc
    simp only [s_zero, s_succ, Int.natCast_add, Int.natCast_one, Int.cast_ofNat_Int] at ih
    cases hd : rightE d (.mk op' v' var' col' kids') <;> rw [hd] at hc <;> simp [i_again, roundEnd, dropT, cleanV, Tryz.f67, Tryz.ti3, Tryz.ti9, Tryz.ti23, Tryz.ti44, Tryz.ti46, hi, hi', hk, xenc_mk, hwi, hw, ih, hc]
  · rw [List.drop_of_length_le (by omega)]
    have hi' : ¬ (i : Int) < arityS op := by omega
    simp [i_again, roundEnd, dropT, cleanV, Tryz.f67, Tryz.ti3, Tryz.ti9, Tryz.ti23, Tryz.ti44, Tryz.ti46, hi, hi']
end
theorem ev_rightx : ∀ (n : Nat) (e : Xp), e.ok → n < 1000 → EV 67 [e.enc, .int .i64 n] [] = some (.ret (.bool (rightE n e)), [])
  | 0, .mk op v var col kids, h, hn => by
    rw [EV_mki rfl Tryz.func67 rfl (by kernel_rfl) rfl, xenc_mk]
    simp [Tryz.f67, Tryz.ti3, Tryz.ti9, Tryz.ti23, Tryz.ti44, Tryz.ti46, rightE] <;> first | (refine panQ_of ?_; decide +kernel) | (change _ = true; decide +kernel) | kernel_rfl | (refine ⟨?_, ?_⟩ <;> first | (change _ = true; decide +kernel) | kernel_rfl)
  | d + 1, .mk op ⟨vk, vn, vs⟩ var col l, h, hn => by
    have hd : d < 1000 := by omega
    by_cases hA : (l.length : Int) = arityS op
    · by_cases hV : op = oValue
      · subst hV; exact ev_rx_value d vk vn vs var col l hd hA
      · by_cases hz : vk = 0 ∧ vn = 0 ∧ vs = []
        · obtain ⟨rfl, rfl, rfl⟩ := hz
          by_cases hC : op = oColumn
          · subst hC; exact ev_rx_column d var col l hd h.2.2.1 h.2.2.2.1 hA
          · by_cases hx : var = [] ∧ col = []
            · obtain ⟨rfl, rfl⟩ := hx
              exact ev_rx_ops d op l hd h.2.2.2.2.1 hA hV hC (fun m hm => ev_rightx d m ((xoks_iff l).1 h.2.2.2.2.2 m hm) hd)
            · exact ev_rx_var d op var col l hd hA hV hC hx
        · exact ev_rx_nonzero d op vk vn vs var col l hd hA hV hz
    · exact ev_rx_arity d op vk vn vs var col l hd hA
theorem ev_rightexpr (e : Xp) (h : e.ok) : EV 24 [e.enc] [] = some (.ret (.bool (rightE 20 e)), []) := by
  have hr := ev_rightx 20 e h (by omega)
  rw [EV_mki rfl Tryz.func24 rfl (by kernel_rfl) rfl]
  obtain ⟨op, v, var, col, l⟩ := e
  rw [xenc_mk] at hr ⊢
  simp only [Int.cast_ofNat_Int] at hr
  simp [Tryz.f24, Tryz.ti3, Tryz.ti9, Tryz.ti23, Tryz.ti44, Tryz.ti46, hr]
end Go.Abs

