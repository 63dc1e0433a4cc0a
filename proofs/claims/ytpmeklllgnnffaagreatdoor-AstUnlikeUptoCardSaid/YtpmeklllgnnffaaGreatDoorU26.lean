/- Which expressions are right: the reference's answer. -/
import Derived.Test.YtpmeklllgnnffaaGreatDoorU23
import Derived.Test.YtpmeklllgnnffaaGreatDoorU24
import Derived.Test.YtpmeklllgnnffaaGreatDoorU25
set_option linter.unusedSimpArgs false
set_option linter.unusedVariables false

namespace Go.Abs
set_option linter.unusedSimpArgs false
set_option linter.unusedVariables false
open Go Go.Proofs
attribute [local simp] i_nil i_blk i_skip i_ret i_exit i_seq i_block i_cond i_region' i_ops_nil i_ops i_drawn' k_none k_0 k_1 k_2 k_3 k_4 k_5 d_in a_nil a_cons alt1 h_nil h_one h_two z_nil z_cons z_cells zeqL zeq q_alloc q_some nxtN i_drh d_hi i_drw_nil i_drw u_nil u_code u_ops u_drw u_lp u_again u_exit u_ret u_panic c_bool o_some o_val o_panic d_some d_val d_panic w_none w_fast wantG q_nil q_zero q_succ t_zero t_succ g_zero g_succ s_zero s_succ s_some s_none v_tmp v_const v_func f_quiet gc_none gc_pure wrap_i64 p_move p_assign p_pick p_alloc p_box p_build p_buildSlice p_load p_store p_nilCheck p_binOp n_tmp n_int n_bool n_str n_ptr n_fun n_iface nilCmp p_unOp p_convert p_makeSlice p_makeInterface p_makeFunc p_slice p_fieldAddr p_field p_indexAddr p_index p_extract p_callv p_callb p_panic quiet_val new_val e_assign e_call e_load e_store e_alloc e_box e_move e_pick e_build e_buildSlice e_nilCheck e_binOp e_unOp e_convert e_makeSlice e_makeInterface e_makeFunc e_slice e_fieldAddr e_field e_indexAddr e_index e_extract e_panic callD fpRead adoptZ fulls adopt adoptL ofValue ofScalar binOpV unOpV intBin strBin eqRes veq veqF eqDepth val? finish resL r_tmp r_cell normL normTop tipIs refsL refs ownRefs single frz frzL ren renL renOwn callOp doCall backR writeBack builtinV loadV storeV storeW iceT cellsAt takeV D.isAgg overlay vcells cellOk fieldAddrV indexAddrV fieldV partV indexV buildV fillV buildSliceV litElems appendV appElems elemOk convertV convV winStr makeSliceV sliceV natOf
attribute [local simp ↓] brB_true brB_false brB_dec brB_not brB_and brB_or brB_beq brB_bne

theorem ev_two (op : List UInt8) : EV 66 [.str op] [] = some (.ret (.bool (twoOps.any (· == op))), []) := by
  rw [EV_mki rfl Tryz.func66 rfl (by kernel_rfl) rfl]
  simp [Tryz.f66, Tryz.ti3, Tryz.ti9, Tryz.ti100]
  rw [i_loop (ts := [6, 7, 8, 9, 12, 13, 14, 15, 16, 17, 10, 11])]
  rotate_left
  · kernel_rfl
  rw [show ([V.str [43], V.str [45], V.str [42], V.str [61], V.str [60, 62], V.str [60], V.str [60, 61], V.str [62], V.str [62, 61], V.str [97, 110, 100], V.str [111, 114]] : List V) = twoOps.map V.str from rfl]
  have hsl : twoOps.length = 11 := rfl
  generalize twoOps = L at hsl ⊢
  refine i_at (fun i : {i : Nat // i ≤ L.length} => L.length - i.1) (fun i env => setV env 4 (.int .i64 i.1)) (fun i => _) (fun i => some (.ret (.bool ((L.drop i.1).any (· == op))), [])) ⟨0, by omega⟩ (by simp [s_zero, s_succ]) rfl (by simp) ?_
  intro ⟨i, hil⟩ ih
  dsimp only at hil ⊢
  by_cases hi : i < L.length
  · have ih := ih ⟨i + 1, by omega⟩ (by simp only; omega)
    have hwi : IntKind.i64.wrap ((i : Int) + 1) = (i : Int) + 1 := wrap_i64 (by omega)
    obtain ⟨t, hk⟩ : ∃ m, L[i] = m := ⟨_, rfl⟩
    rw [List.drop_eq_getElem_cons hi, List.any_cons, hk]
    simp only [s_zero, s_succ, Int.natCast_add, Int.natCast_one, Int.cast_ofNat_Int] at ih
    by_cases ht : t = op
    · simp [i_again, roundEnd, dropT, cleanV, Tryz.f66, Tryz.ti3, Tryz.ti9, Tryz.ti100, hi, hk, hwi, ih, ht]
    · have ht' : (t == op) = false := by simpa using ht
      simp [i_again, roundEnd, dropT, cleanV, Tryz.f66, Tryz.ti3, Tryz.ti9, Tryz.ti100, hi, hk, hwi, ih, ht, ht']
  · rw [List.drop_of_length_le (by omega)]
    simp [i_again, roundEnd, dropT, cleanV, Tryz.f66, Tryz.ti3, Tryz.ti9, Tryz.ti100, hi]
theorem two_mem (op : List UInt8) : twoOps.any (· == op) = decide (op ∈ twoOps) := by
  rw [Bool.eq_iff_iff]
  simp only [List.any_eq_true, beq_iff_eq, decide_eq_true_eq]
  exact ⟨fun ⟨x, h, e⟩ => e ▸ h, fun h => ⟨op, h, rfl⟩⟩

section
variable (d : Nat) (op : List UInt8) (vk vn : Int) (vs : List UInt8) (var col : List UInt8) (l : List Xp) (hd : d < 1000)
include hd
set_option maxRecDepth 100000 in
set_option maxHeartbeats 4000000 in
theorem ev_rrx_value : EV 23 [(Xp.mk oValue ⟨vk, vn, vs⟩ var col l).enc, .int .i64 (d + 1 : Nat)] [] = some (.ret (.bool (rightE (d + 1) (Xp.mk oValue ⟨vk, vn, vs⟩ var col l))), []) := by
  have hd0 : ¬ ((d : Int) + 1 < 1) := by omega
  have hr := ev_rright vk vn vs
  rw [EV_mki rfl Tryz.func23 rfl (by kernel_rfl) rfl, xenc_mk]
  simp only [rightE]
  have hA : arityS oValue = 0 := rfl
  rw [hA]
  by_cases hl : l = []
  · subst hl
    by_cases hx : var = []
    · subst hx
      by_cases hy : col = []
      · subst hy
        cases hb : rightS ⟨vk, vn, vs⟩ <;> rw [hb] at hr
        · simp [Tryz.f23, Tryz.ti3, Tryz.ti9, Tryz.ti31, Tryz.ti44, Tryz.ti50, hd0, hr, hb, oValue, oColumn] <;> first | (refine panQ_of ?_; decide +kernel) | (change _ = true; decide +kernel) | kernel_rfl | (refine ⟨?_, ?_⟩ <;> first | (change _ = true; decide +kernel) | kernel_rfl)
        · by_cases hk : vk = 2
          · subst hk
            by_cases hn : 0 ≤ vn <;> simp [Tryz.f23, Tryz.ti3, Tryz.ti9, Tryz.ti31, Tryz.ti44, Tryz.ti50, hd0, hr, hb, oValue, oColumn, hn] <;> first | (refine panQ_of ?_; decide +kernel) | (change _ = true; decide +kernel) | kernel_rfl | (refine ⟨?_, ?_⟩ <;> first | (change _ = true; decide +kernel) | kernel_rfl)
          · simp [Tryz.f23, Tryz.ti3, Tryz.ti9, Tryz.ti31, Tryz.ti44, Tryz.ti50, hd0, hr, hb, oValue, oColumn, hk] <;> first | (refine panQ_of ?_; decide +kernel) | (change _ = true; decide +kernel) | kernel_rfl | (refine ⟨?_, ?_⟩ <;> first | (change _ = true; decide +kernel) | kernel_rfl)
      · simp [Tryz.f23, Tryz.ti3, Tryz.ti9, Tryz.ti31, Tryz.ti44, Tryz.ti50, hd0, hr, oValue, oColumn, hy] <;> first | (refine panQ_of ?_; decide +kernel) | (change _ = true; decide +kernel) | kernel_rfl | (refine ⟨?_, ?_⟩ <;> first | (change _ = true; decide +kernel) | kernel_rfl)
    · simp [Tryz.f23, Tryz.ti3, Tryz.ti9, Tryz.ti31, Tryz.ti44, Tryz.ti50, hd0, hr, oValue, oColumn, hx] <;> first | (refine panQ_of ?_; decide +kernel) | (change _ = true; decide +kernel) | kernel_rfl | (refine ⟨?_, ?_⟩ <;> first | (change _ = true; decide +kernel) | kernel_rfl)
  · simp [Tryz.f23, Tryz.ti3, Tryz.ti9, Tryz.ti31, Tryz.ti44, Tryz.ti50, hd0, hr, oValue, oColumn, hl] <;> first | (refine panQ_of ?_; decide +kernel) | (change _ = true; decide +kernel) | kernel_rfl | (refine ⟨?_, ?_⟩ <;> first | (change _ = true; decide +kernel) | kernel_rfl)
set_option maxRecDepth 100000 in
set_option maxHeartbeats 4000000 in
theorem ev_rrx_column (hv : var.length ≤ 1048576) (hc : col.length ≤ 1048576) : EV 23 [(Xp.mk oColumn ⟨vk, vn, vs⟩ var col l).enc, .int .i64 (d + 1 : Nat)] [] = some (.ret (.bool (rightE (d + 1) (Xp.mk oColumn ⟨vk, vn, vs⟩ var col l))), []) := by
  have hd0 : ¬ ((d : Int) + 1 < 1) := by omega
  have hn1 := ev_rname var (by omega)
  have hn2 := ev_rname col (by omega)
  rw [EV_mki rfl Tryz.func23 rfl (by kernel_rfl) rfl, xenc_mk]
  simp only [rightE]
  have hA : arityS oColumn = 0 := rfl
  rw [hA]
  by_cases hl : l = []
  · subst hl
    by_cases hz : vk = 0 ∧ vn = 0 ∧ vs = []
    · obtain ⟨rfl, rfl, rfl⟩ := hz
      cases h2 : nameS col <;> rw [h2] at hn2
      · simp [Tryz.f23, Tryz.ti3, Tryz.ti9, Tryz.ti31, Tryz.ti44, Tryz.ti50, hd0, hn2, oValue, oColumn, Val.zero] <;> first | (refine panQ_of ?_; decide +kernel) | (change _ = true; decide +kernel) | kernel_rfl | (refine ⟨?_, ?_⟩ <;> first | (change _ = true; decide +kernel) | kernel_rfl)
      · by_cases hx : var = []
        · subst hx; simp [Tryz.f23, Tryz.ti3, Tryz.ti9, Tryz.ti31, Tryz.ti44, Tryz.ti50, hd0, hn2, oValue, oColumn, Val.zero] <;> first | (refine panQ_of ?_; decide +kernel) | (change _ = true; decide +kernel) | kernel_rfl | (refine ⟨?_, ?_⟩ <;> first | (change _ = true; decide +kernel) | kernel_rfl)
        · cases h1 : nameS var <;> rw [h1] at hn1 <;> simp [Tryz.f23, Tryz.ti3, Tryz.ti9, Tryz.ti31, Tryz.ti44, Tryz.ti50, hd0, hn1, hn2, oValue, oColumn, hx, Val.zero] <;> first | (refine panQ_of ?_; decide +kernel) | (change _ = true; decide +kernel) | kernel_rfl | (refine ⟨?_, ?_⟩ <;> first | (change _ = true; decide +kernel) | kernel_rfl)
    · have hz' : (decide ((⟨vk, vn, vs⟩ : Val) = Val.zero)) = false := by simpa [Val.zero] using hz
      have hb : (decide (vk = 0) && (decide (vn = 0) && (decide (vs = []) && true))) = false := by simpa using hz
      have hb' : (decide (vk = 0) && (decide (vn = 0) && decide (vs = []))) = false := by simpa using hz
      simp [Tryz.f23, Tryz.ti3, Tryz.ti9, Tryz.ti31, Tryz.ti44, Tryz.ti50, hd0, oValue, oColumn, hz', hb, hb'] <;> first | (refine panQ_of ?_; decide +kernel) | (change _ = true; decide +kernel) | kernel_rfl | (refine ⟨?_, ?_⟩ <;> first | (change _ = true; decide +kernel) | kernel_rfl)
  · simp [Tryz.f23, Tryz.ti3, Tryz.ti9, Tryz.ti31, Tryz.ti44, Tryz.ti50, hd0, oValue, oColumn, hl] <;> first | (refine panQ_of ?_; decide +kernel) | (change _ = true; decide +kernel) | kernel_rfl | (refine ⟨?_, ?_⟩ <;> first | (change _ = true; decide +kernel) | kernel_rfl)
/- one that has kids -/
set_option maxRecDepth 100000 in
set_option maxHeartbeats 4000000 in
theorem ev_rrx_none (h1 : ¬ op = oValue) (h2 : ¬ op = oColumn) (h3 : ¬ op = oNeg) (h4 : ¬ op = oNot) (h5 : ¬ op = oNull) (h6 : ¬ op ∈ twoOps) :
    EV 23 [(Xp.mk op ⟨vk, vn, vs⟩ var col l).enc, .int .i64 (d + 1 : Nat)] [] = some (.ret (.bool (rightE (d + 1) (Xp.mk op ⟨vk, vn, vs⟩ var col l))), []) := by
  have hd0 : ¬ ((d : Int) + 1 < 1) := by omega
  have hA : arityS op = -1 := by simp [arityS, h1, h2, h3, h4, h5, h6]
  have hA' : ¬ (l.length : Int) = -1 := by omega
  have ht := ev_two op
  rw [two_mem, decide_eq_false h6] at ht
  rw [EV_mki rfl Tryz.func23 rfl (by kernel_rfl) rfl, xenc_mk]
  simp only [rightE, hA, hA']
  simp only [oValue, oColumn, oNeg, oNot, oNull] at h1 h2 h3 h4 h5
  simp [Tryz.f23, Tryz.ti3, Tryz.ti9, Tryz.ti31, Tryz.ti44, Tryz.ti50, hd0, h1, h2, h3, h4, h5, ht] <;> first | (refine panQ_of ?_; decide +kernel) | (change _ = true; decide +kernel) | kernel_rfl | (refine ⟨?_, ?_⟩ <;> first | (change _ = true; decide +kernel) | kernel_rfl)
set_option maxRecDepth 100000 in
set_option maxHeartbeats 4000000 in
theorem ev_rrx_neg (hl : l.length ≤ 1048576) (ihk : ∀ m ∈ l, EV 23 [m.enc, .int .i64 d] [] = some (.ret (.bool (rightE d m)), [])) :
    EV 23 [(Xp.mk oNeg ⟨vk, vn, vs⟩ var col l).enc, .int .i64 (d + 1 : Nat)] [] = some (.ret (.bool (rightE (d + 1) (Xp.mk oNeg ⟨vk, vn, vs⟩ var col l))), []) := by
  have hd0 : ¬ ((d : Int) + 1 < 1) := by omega
  have hw : IntKind.i64.wrap (d : Int) = d := wrap_i64 (by omega)
  have hA : arityS oNeg = 1 := rfl
  have ht : EV 66 [.str oNeg] [] = some (.ret (.bool false), []) := ev_two oNeg
  simp only [oNeg] at ht
  rw [EV_mki rfl Tryz.func23 rfl (by kernel_rfl) rfl, xenc_mk]
  simp only [rightE, hA]
  simp only [show decide (oNeg = oValue) = false from rfl, show decide (oNeg = oColumn) = false from rfl, show ¬ oNeg = oValue from of_decide_eq_true rfl, show ¬ oNeg = oColumn from of_decide_eq_true rfl, if_false, Bool.false_or]
  by_cases hn : l.length = 1
  · have hn' : (l.length : Int) = 1 := by omega
    by_cases hz : vk = 0 ∧ vn = 0 ∧ vs = []
    · obtain ⟨rfl, rfl, rfl⟩ := hz
      by_cases hx : var = []
      · subst hx
        by_cases hy : col = []
        · subst hy
          simp [Tryz.f23, Tryz.ti3, Tryz.ti9, Tryz.ti31, Tryz.ti44, Tryz.ti50, hd0, oValue, oColumn, oNeg, oNot, oNull, ht, hn, hn', Val.zero]
          rw [i_loop (ts := [114, 115, 116, 119, 120, 121, 122, 123, 124, 125, 126, 127, 117, 118])]
          rotate_left
          · kernel_rfl
          refine i_at (fun i : {i : Nat // i ≤ l.length} => l.length - i.1) (fun i env => setV env 7 (.int .i64 i.1)) (fun i => _) (fun i => some (.ret (.bool ((l.drop i.1).all (rightE d))), [])) ⟨0, by omega⟩ (by simp [s_zero, s_succ]) rfl (by simp) ?_
          intro ⟨i, hil⟩ ih
          dsimp only at hil ⊢
          by_cases hi : i < l.length
          · have ih := ih ⟨i + 1, by omega⟩ (by simp only; omega)
            have hwi : IntKind.i64.wrap ((i : Int) + 1) = (i : Int) + 1 := wrap_i64 (by omega)
            have hc := ihk l[i] (List.getElem_mem hi)
            obtain ⟨t, hk⟩ : ∃ m, l[i] = m := ⟨_, rfl⟩
            have hi' : i < 1 := by omega
            have hi2 : (i : Int) < 1 := by omega
            have hkk : l[i]? = some t := by rw [List.getElem?_eq_getElem hi, hk]
            rw [List.drop_eq_getElem_cons hi, List.all_cons, hk]
            rw [hk] at hc
            obtain ⟨op', v', var', col', kids'⟩ := t
            rw [xenc_mk] at hc
            simp only [s_zero, s_succ, Int.natCast_add, Int.natCast_one, Int.cast_ofNat_Int] at ih
            cases hd : rightE d (.mk op' v' var' col' kids') <;> rw [hd] at hc <;> simp [i_again, roundEnd, dropT, cleanV, Tryz.f23, Tryz.ti3, Tryz.ti9, Tryz.ti31, Tryz.ti44, Tryz.ti50, hn, hn', hi, hi', hi2, hk, hkk, xenc_mk, hwi, hw, ih, hc]
          · rw [List.drop_of_length_le (by omega)]
            have hi' : ¬ i < 1 := by omega
            have hi2 : ¬ (i : Int) < 1 := by omega
            simp [i_again, roundEnd, dropT, cleanV, Tryz.f23, Tryz.ti3, Tryz.ti9, Tryz.ti31, Tryz.ti44, Tryz.ti50, hi, hi', hi2]
        · simp [Tryz.f23, Tryz.ti3, Tryz.ti9, Tryz.ti31, Tryz.ti44, Tryz.ti50, hd0, oValue, oColumn, oNeg, oNot, oNull, ht, hn, hn', hy, Val.zero] <;> first | (refine panQ_of ?_; decide +kernel) | (change _ = true; decide +kernel) | kernel_rfl | (refine ⟨?_, ?_⟩ <;> first | (change _ = true; decide +kernel) | kernel_rfl)
      · simp [Tryz.f23, Tryz.ti3, Tryz.ti9, Tryz.ti31, Tryz.ti44, Tryz.ti50, hd0, oValue, oColumn, oNeg, oNot, oNull, ht, hn, hn', hx, Val.zero] <;> first | (refine panQ_of ?_; decide +kernel) | (change _ = true; decide +kernel) | kernel_rfl | (refine ⟨?_, ?_⟩ <;> first | (change _ = true; decide +kernel) | kernel_rfl)
    · have hz' : (decide ((⟨vk, vn, vs⟩ : Val) = Val.zero)) = false := by simpa [Val.zero] using hz
      have hb : (decide (vk = 0) && (decide (vn = 0) && (decide (vs = []) && true))) = false := by simpa using hz
      have hb' : (decide (vk = 0) && (decide (vn = 0) && decide (vs = []))) = false := by simpa using hz
      simp [Tryz.f23, Tryz.ti3, Tryz.ti9, Tryz.ti31, Tryz.ti44, Tryz.ti50, hd0, oValue, oColumn, oNeg, oNot, oNull, ht, hn, hn', hz', hb, hb'] <;> first | (refine panQ_of ?_; decide +kernel) | (change _ = true; decide +kernel) | kernel_rfl | (refine ⟨?_, ?_⟩ <;> first | (change _ = true; decide +kernel) | kernel_rfl)
  · have hn' : ¬ (l.length : Int) = 1 := by omega
    simp [Tryz.f23, Tryz.ti3, Tryz.ti9, Tryz.ti31, Tryz.ti44, Tryz.ti50, hd0, oValue, oColumn, oNeg, oNot, oNull, ht, hn, hn'] <;> first | (refine panQ_of ?_; decide +kernel) | (change _ = true; decide +kernel) | kernel_rfl | (refine ⟨?_, ?_⟩ <;> first | (change _ = true; decide +kernel) | kernel_rfl)
set_option maxRecDepth 100000 in
set_option maxHeartbeats 4000000 in
theorem ev_rrx_not (hl : l.length ≤ 1048576) (ihk : ∀ m ∈ l, EV 23 [m.enc, .int .i64 d] [] = some (.ret (.bool (rightE d m)), [])) :
    EV 23 [(Xp.mk oNot ⟨vk, vn, vs⟩ var col l).enc, .int .i64 (d + 1 : Nat)] [] = some (.ret (.bool (rightE (d + 1) (Xp.mk oNot ⟨vk, vn, vs⟩ var col l))), []) := by
  have hd0 : ¬ ((d : Int) + 1 < 1) := by omega
  have hw : IntKind.i64.wrap (d : Int) = d := wrap_i64 (by omega)
  have hA : arityS oNot = 1 := rfl
  have ht : EV 66 [.str oNot] [] = some (.ret (.bool false), []) := ev_two oNot
  simp only [oNot] at ht
  rw [EV_mki rfl Tryz.func23 rfl (by kernel_rfl) rfl, xenc_mk]
  simp only [rightE, hA]
  simp only [show decide (oNot = oValue) = false from rfl, show decide (oNot = oColumn) = false from rfl, show ¬ oNot = oValue from of_decide_eq_true rfl, show ¬ oNot = oColumn from of_decide_eq_true rfl, if_false, Bool.false_or]
  by_cases hn : l.length = 1
  · have hn' : (l.length : Int) = 1 := by omega
    by_cases hz : vk = 0 ∧ vn = 0 ∧ vs = []
    · obtain ⟨rfl, rfl, rfl⟩ := hz
      by_cases hx : var = []
      · subst hx
        by_cases hy : col = []
        · subst hy
          simp [Tryz.f23, Tryz.ti3, Tryz.ti9, Tryz.ti31, Tryz.ti44, Tryz.ti50, hd0, oValue, oColumn, oNeg, oNot, oNull, ht, hn, hn', Val.zero]
          rw [i_loop (ts := [114, 115, 116, 119, 120, 121, 122, 123, 124, 125, 126, 127, 117, 118])]
          rotate_left
          · kernel_rfl
          refine i_at (fun i : {i : Nat // i ≤ l.length} => l.length - i.1) (fun i env => setV env 7 (.int .i64 i.1)) (fun i => _) (fun i => some (.ret (.bool ((l.drop i.1).all (rightE d))), [])) ⟨0, by omega⟩ (by simp [s_zero, s_succ]) rfl (by simp) ?_
          intro ⟨i, hil⟩ ih
          dsimp only at hil ⊢
          by_cases hi : i < l.length
          · have ih := ih ⟨i + 1, by omega⟩ (by simp only; omega)
            have hwi : IntKind.i64.wrap ((i : Int) + 1) = (i : Int) + 1 := wrap_i64 (by omega)
            have hc := ihk l[i] (List.getElem_mem hi)
            obtain ⟨t, hk⟩ : ∃ m, l[i] = m := ⟨_, rfl⟩
            have hi' : i < 1 := by omega
            have hi2 : (i : Int) < 1 := by omega
            have hkk : l[i]? = some t := by rw [List.getElem?_eq_getElem hi, hk]
            rw [List.drop_eq_getElem_cons hi, List.all_cons, hk]
            rw [hk] at hc
            obtain ⟨op', v', var', col', kids'⟩ := t
            rw [xenc_mk] at hc
            simp only [s_zero, s_succ, Int.natCast_add, Int.natCast_one, Int.cast_ofNat_Int] at ih
            cases hd : rightE d (.mk op' v' var' col' kids') <;> rw [hd] at hc <;> simp [i_again, roundEnd, dropT, cleanV, Tryz.f23, Tryz.ti3, Tryz.ti9, Tryz.ti31, Tryz.ti44, Tryz.ti50, hn, hn', hi, hi', hi2, hk, hkk, xenc_mk, hwi, hw, ih, hc]
          · rw [List.drop_of_length_le (by omega)]
            have hi' : ¬ i < 1 := by omega
            have hi2 : ¬ (i : Int) < 1 := by omega
            simp [i_again, roundEnd, dropT, cleanV, Tryz.f23, Tryz.ti3, Tryz.ti9, Tryz.ti31, Tryz.ti44, Tryz.ti50, hi, hi', hi2]
        · simp [Tryz.f23, Tryz.ti3, Tryz.ti9, Tryz.ti31, Tryz.ti44, Tryz.ti50, hd0, oValue, oColumn, oNeg, oNot, oNull, ht, hn, hn', hy, Val.zero] <;> first | (refine panQ_of ?_; decide +kernel) | (change _ = true; decide +kernel) | kernel_rfl | (refine ⟨?_, ?_⟩ <;> first | (change _ = true; decide +kernel) | kernel_rfl)
      · simp [Tryz.f23, Tryz.ti3, Tryz.ti9, Tryz.ti31, Tryz.ti44, Tryz.ti50, hd0, oValue, oColumn, oNeg, oNot, oNull, ht, hn, hn', hx, Val.zero] <;> first | (refine panQ_of ?_; decide +kernel) | (change _ = true; decide +kernel) | kernel_rfl | (refine ⟨?_, ?_⟩ <;> first | (change _ = true; decide +kernel) | kernel_rfl)
    · have hz' : (decide ((⟨vk, vn, vs⟩ : Val) = Val.zero)) = false := by simpa [Val.zero] using hz
      have hb : (decide (vk = 0) && (decide (vn = 0) && (decide (vs = []) && true))) = false := by simpa using hz
      have hb' : (decide (vk = 0) && (decide (vn = 0) && decide (vs = []))) = false := by simpa using hz
      simp [Tryz.f23, Tryz.ti3, Tryz.ti9, Tryz.ti31, Tryz.ti44, Tryz.ti50, hd0, oValue, oColumn, oNeg, oNot, oNull, ht, hn, hn', hz', hb, hb'] <;> first | (refine panQ_of ?_; decide +kernel) | (change _ = true; decide +kernel) | kernel_rfl | (refine ⟨?_, ?_⟩ <;> first | (change _ = true; decide +kernel) | kernel_rfl)
  · have hn' : ¬ (l.length : Int) = 1 := by omega
    simp [Tryz.f23, Tryz.ti3, Tryz.ti9, Tryz.ti31, Tryz.ti44, Tryz.ti50, hd0, oValue, oColumn, oNeg, oNot, oNull, ht, hn, hn'] <;> first | (refine panQ_of ?_; decide +kernel) | (change _ = true; decide +kernel) | kernel_rfl | (refine ⟨?_, ?_⟩ <;> first | (change _ = true; decide +kernel) | kernel_rfl)
set_option maxRecDepth 100000 in
set_option maxHeartbeats 4000000 in
theorem ev_rrx_null (hl : l.length ≤ 1048576) (ihk : ∀ m ∈ l, EV 23 [m.enc, .int .i64 d] [] = some (.ret (.bool (rightE d m)), [])) :
    EV 23 [(Xp.mk oNull ⟨vk, vn, vs⟩ var col l).enc, .int .i64 (d + 1 : Nat)] [] = some (.ret (.bool (rightE (d + 1) (Xp.mk oNull ⟨vk, vn, vs⟩ var col l))), []) := by
  have hd0 : ¬ ((d : Int) + 1 < 1) := by omega
  have hw : IntKind.i64.wrap (d : Int) = d := wrap_i64 (by omega)
  have hA : arityS oNull = 1 := rfl
  have ht : EV 66 [.str oNull] [] = some (.ret (.bool false), []) := ev_two oNull
  simp only [oNull] at ht
  rw [EV_mki rfl Tryz.func23 rfl (by kernel_rfl) rfl, xenc_mk]
  simp only [rightE, hA]
  simp only [show decide (oNull = oValue) = false from rfl, show decide (oNull = oColumn) = false from rfl, show ¬ oNull = oValue from of_decide_eq_true rfl, show ¬ oNull = oColumn from of_decide_eq_true rfl, if_false, Bool.false_or]
  by_cases hn : l.length = 1
  · have hn' : (l.length : Int) = 1 := by omega
    by_cases hz : vk = 0 ∧ vn = 0 ∧ vs = []
    · obtain ⟨rfl, rfl, rfl⟩ := hz
      by_cases hx : var = []
      · subst hx
        by_cases hy : col = []
        · subst hy
          simp [Tryz.f23, Tryz.ti3, Tryz.ti9, Tryz.ti31, Tryz.ti44, Tryz.ti50, hd0, oValue, oColumn, oNeg, oNot, oNull, ht, hn, hn', Val.zero]
          rw [i_loop (ts := [114, 115, 116, 119, 120, 121, 122, 123, 124, 125, 126, 127, 117, 118])]
          rotate_left
          · kernel_rfl
          refine i_at (fun i : {i : Nat // i ≤ l.length} => l.length - i.1) (fun i env => setV env 7 (.int .i64 i.1)) (fun i => _) (fun i => some (.ret (.bool ((l.drop i.1).all (rightE d))), [])) ⟨0, by omega⟩ (by simp [s_zero, s_succ]) rfl (by simp) ?_
          intro ⟨i, hil⟩ ih
          dsimp only at hil ⊢
          by_cases hi : i < l.length
          · have ih := ih ⟨i + 1, by omega⟩ (by simp only; omega)
            have hwi : IntKind.i64.wrap ((i : Int) + 1) = (i : Int) + 1 := wrap_i64 (by omega)
            have hc := ihk l[i] (List.getElem_mem hi)
            obtain ⟨t, hk⟩ : ∃ m, l[i] = m := ⟨_, rfl⟩
            have hi' : i < 1 := by omega
            have hi2 : (i : Int) < 1 := by omega
            have hkk : l[i]? = some t := by rw [List.getElem?_eq_getElem hi, hk]
            rw [List.drop_eq_getElem_cons hi, List.all_cons, hk]
            rw [hk] at hc
            obtain ⟨op', v', var', col', kids'⟩ := t
            rw [xenc_mk] at hc
            simp only [s_zero, s_succ, Int.natCast_add, Int.natCast_one, Int.cast_ofNat_Int] at ih
            cases hd : rightE d (.mk op' v' var' col' kids') <;> rw [hd] at hc <;> simp [i_again, roundEnd, dropT, cleanV, Tryz.f23, Tryz.ti3, Tryz.ti9, Tryz.ti31, Tryz.ti44, Tryz.ti50, hn, hn', hi, hi', hi2, hk, hkk, xenc_mk, hwi, hw, ih, hc]
          · rw [List.drop_of_length_le (by omega)]
            have hi' : ¬ i < 1 := by omega
            have hi2 : ¬ (i : Int) < 1 := by omega
            simp [i_again, roundEnd, dropT, cleanV, Tryz.f23, Tryz.ti3, Tryz.ti9, Tryz.ti31, Tryz.ti44, Tryz.ti50, hi, hi', hi2]
        · simp [Tryz.f23, Tryz.ti3, Tryz.ti9, Tryz.ti31, Tryz.ti44, Tryz.ti50, hd0, oValue, oColumn, oNeg, oNot, oNull, ht, hn, hn', hy, Val.zero] <;> first | (refine panQ_of ?_; decide +kernel) | (change _ = true; decide +kernel) | kernel_rfl | (refine ⟨?_, ?_⟩ <;> first | (change _ = true; decide +kernel) | kernel_rfl)
      · simp [Tryz.f23, Tryz.ti3, Tryz.ti9, Tryz.ti31, Tryz.ti44, Tryz.ti50, hd0, oValue, oColumn, oNeg, oNot, oNull, ht, hn, hn', hx, Val.zero] <;> first | (refine panQ_of ?_; decide +kernel) | (change _ = true; decide +kernel) | kernel_rfl | (refine ⟨?_, ?_⟩ <;> first | (change _ = true; decide +kernel) | kernel_rfl)
    · have hz' : (decide ((⟨vk, vn, vs⟩ : Val) = Val.zero)) = false := by simpa [Val.zero] using hz
      have hb : (decide (vk = 0) && (decide (vn = 0) && (decide (vs = []) && true))) = false := by simpa using hz
      have hb' : (decide (vk = 0) && (decide (vn = 0) && decide (vs = []))) = false := by simpa using hz
      simp [Tryz.f23, Tryz.ti3, Tryz.ti9, Tryz.ti31, Tryz.ti44, Tryz.ti50, hd0, oValue, oColumn, oNeg, oNot, oNull, ht, hn, hn', hz', hb, hb'] <;> first | (refine panQ_of ?_; decide +kernel) | (change _ = true; decide +kernel) | kernel_rfl | (refine ⟨?_, ?_⟩ <;> first | (change _ = true; decide +kernel) | kernel_rfl)
  · have hn' : ¬ (l.length : Int) = 1 := by omega
    simp [Tryz.f23, Tryz.ti3, Tryz.ti9, Tryz.ti31, Tryz.ti44, Tryz.ti50, hd0, oValue, oColumn, oNeg, oNot, oNull, ht, hn, hn'] <;> first | (refine panQ_of ?_; decide +kernel) | (change _ = true; decide +kernel) | kernel_rfl | (refine ⟨?_, ?_⟩ <;> first | (change _ = true; decide +kernel) | kernel_rfl)
set_option maxRecDepth 100000 in
set_option maxHeartbeats 4000000 in
theorem ev_rrx_two (hl : l.length ≤ 1048576) (h1 : ¬ op = oValue) (h2 : ¬ op = oColumn) (h3 : ¬ op = oNeg) (h4 : ¬ op = oNot) (h5 : ¬ op = oNull) (h6 : op ∈ twoOps) (ihk : ∀ m ∈ l, EV 23 [m.enc, .int .i64 d] [] = some (.ret (.bool (rightE d m)), [])) :
    EV 23 [(Xp.mk op ⟨vk, vn, vs⟩ var col l).enc, .int .i64 (d + 1 : Nat)] [] = some (.ret (.bool (rightE (d + 1) (Xp.mk op ⟨vk, vn, vs⟩ var col l))), []) := by
  have hd0 : ¬ ((d : Int) + 1 < 1) := by omega
  have hw : IntKind.i64.wrap (d : Int) = d := wrap_i64 (by omega)
  have hA : arityS op = 2 := by simp [arityS, h1, h2, h3, h4, h5, h6]
  have ht := ev_two op
  rw [two_mem, decide_eq_true h6] at ht
  rw [EV_mki rfl Tryz.func23 rfl (by kernel_rfl) rfl, xenc_mk]
  simp only [rightE, hA]
  have e1 : decide (op = oValue) = false := by simpa using h1
  have e2 : decide (op = oColumn) = false := by simpa using h2
  simp only [e1, e2, h1, h2, if_false, Bool.false_or]
  simp only [oValue, oColumn, oNeg, oNot, oNull] at h1 h2 h3 h4 h5
  by_cases hn : l.length = 2
  · have hn' : (l.length : Int) = 2 := by omega
    by_cases hz : vk = 0 ∧ vn = 0 ∧ vs = []
    · obtain ⟨rfl, rfl, rfl⟩ := hz
      by_cases hx : var = []
      · subst hx
        by_cases hy : col = []
        · subst hy
          simp [Tryz.f23, Tryz.ti3, Tryz.ti9, Tryz.ti31, Tryz.ti44, Tryz.ti50, hd0, hA, ht, h1, h2, h3, h4, h5, hn, hn', Val.zero]
          rw [i_loop (ts := [114, 115, 116, 119, 120, 121, 122, 123, 124, 125, 126, 127, 117, 118])]
          rotate_left
          · kernel_rfl
          refine i_at (fun i : {i : Nat // i ≤ l.length} => l.length - i.1) (fun i env => setV env 7 (.int .i64 i.1)) (fun i => _) (fun i => some (.ret (.bool ((l.drop i.1).all (rightE d))), [])) ⟨0, by omega⟩ (by simp [s_zero, s_succ]) rfl (by simp) ?_
          intro ⟨i, hil⟩ ih
          dsimp only at hil ⊢
          by_cases hi : i < l.length
          · have ih := ih ⟨i + 1, by omega⟩ (by simp only; omega)
            have hwi : IntKind.i64.wrap ((i : Int) + 1) = (i : Int) + 1 := wrap_i64 (by omega)
            have hc := ihk l[i] (List.getElem_mem hi)
            obtain ⟨t, hk⟩ : ∃ m, l[i] = m := ⟨_, rfl⟩
            have hi' : i < 2 := by omega
            have hi2 : (i : Int) < 2 := by omega
            have hkk : l[i]? = some t := by rw [List.getElem?_eq_getElem hi, hk]
            rw [List.drop_eq_getElem_cons hi, List.all_cons, hk]
            rw [hk] at hc
            obtain ⟨op', v', var', col', kids'⟩ := t
            rw [xenc_mk] at hc
            simp only [s_zero, s_succ, Int.natCast_add, Int.natCast_one, Int.cast_ofNat_Int] at ih
            cases hd : rightE d (.mk op' v' var' col' kids') <;> rw [hd] at hc <;> simp [i_again, roundEnd, dropT, cleanV, Tryz.f23, Tryz.ti3, Tryz.ti9, Tryz.ti31, Tryz.ti44, Tryz.ti50, hn, hn', hi, hi', hi2, hk, hkk, xenc_mk, hwi, hw, ih, hc]
          · rw [List.drop_of_length_le (by omega)]
            have hi' : ¬ i < 2 := by omega
            have hi2 : ¬ (i : Int) < 2 := by omega
            simp [i_again, roundEnd, dropT, cleanV, Tryz.f23, Tryz.ti3, Tryz.ti9, Tryz.ti31, Tryz.ti44, Tryz.ti50, hi, hi', hi2]
        · simp [Tryz.f23, Tryz.ti3, Tryz.ti9, Tryz.ti31, Tryz.ti44, Tryz.ti50, hd0, hA, ht, h1, h2, h3, h4, h5, hn, hn', hy, Val.zero] <;> first | (refine panQ_of ?_; decide +kernel) | (change _ = true; decide +kernel) | kernel_rfl | (refine ⟨?_, ?_⟩ <;> first | (change _ = true; decide +kernel) | kernel_rfl)
      · simp [Tryz.f23, Tryz.ti3, Tryz.ti9, Tryz.ti31, Tryz.ti44, Tryz.ti50, hd0, hA, ht, h1, h2, h3, h4, h5, hn, hn', hx, Val.zero] <;> first | (refine panQ_of ?_; decide +kernel) | (change _ = true; decide +kernel) | kernel_rfl | (refine ⟨?_, ?_⟩ <;> first | (change _ = true; decide +kernel) | kernel_rfl)
    · have hz' : (decide ((⟨vk, vn, vs⟩ : Val) = Val.zero)) = false := by simpa [Val.zero] using hz
      have hb : (decide (vk = 0) && (decide (vn = 0) && (decide (vs = []) && true))) = false := by simpa using hz
      have hb' : (decide (vk = 0) && (decide (vn = 0) && decide (vs = []))) = false := by simpa using hz
      simp [Tryz.f23, Tryz.ti3, Tryz.ti9, Tryz.ti31, Tryz.ti44, Tryz.ti50, hd0, hA, ht, h1, h2, h3, h4, h5, hn, hn', hz', hb, hb'] <;> first | (refine panQ_of ?_; decide +kernel) | (change _ = true; decide +kernel) | kernel_rfl | (refine ⟨?_, ?_⟩ <;> first | (change _ = true; decide +kernel) | kernel_rfl)
  · have hn' : ¬ (l.length : Int) = 2 := by omega
    simp [Tryz.f23, Tryz.ti3, Tryz.ti9, Tryz.ti31, Tryz.ti44, Tryz.ti50, hd0, hA, ht, h1, h2, h3, h4, h5, hn, hn'] <;> first | (refine panQ_of ?_; decide +kernel) | (change _ = true; decide +kernel) | kernel_rfl | (refine ⟨?_, ?_⟩ <;> first | (change _ = true; decide +kernel) | kernel_rfl)
end
theorem ev_rrightx : ∀ (n : Nat) (e : Xp), e.ok → n < 1000 → EV 23 [e.enc, .int .i64 n] [] = some (.ret (.bool (rightE n e)), [])
  | 0, .mk op v var col kids, h, hn => by
    rw [EV_mki rfl Tryz.func23 rfl (by kernel_rfl) rfl, xenc_mk]
    simp [Tryz.f23, Tryz.ti3, Tryz.ti9, Tryz.ti31, Tryz.ti44, Tryz.ti50, rightE] <;> first | (refine panQ_of ?_; decide +kernel) | (change _ = true; decide +kernel) | kernel_rfl | (refine ⟨?_, ?_⟩ <;> first | (change _ = true; decide +kernel) | kernel_rfl)
  | d + 1, .mk op ⟨vk, vn, vs⟩ var col l, h, hn => by
    have hd : d < 1000 := by omega
    have ihk : ∀ m ∈ l, EV 23 [m.enc, .int .i64 d] [] = some (.ret (.bool (rightE d m)), []) := fun m hm => ev_rrightx d m ((xoks_iff l).1 h.2.2.2.2.2 m hm) hd
    have hl := h.2.2.2.2.1
    by_cases h1 : op = oValue
    · subst h1; exact ev_rrx_value d vk vn vs var col l hd
    by_cases h2 : op = oColumn
    · subst h2; exact ev_rrx_column d vk vn vs var col l hd h.2.2.1 h.2.2.2.1
    by_cases h3 : op = oNeg
    · subst h3; exact ev_rrx_neg d vk vn vs var col l hd hl ihk
    by_cases h4 : op = oNot
    · subst h4; exact ev_rrx_not d vk vn vs var col l hd hl ihk
    by_cases h5 : op = oNull
    · subst h5; exact ev_rrx_null d vk vn vs var col l hd hl ihk
    by_cases h6 : op ∈ twoOps
    · exact ev_rrx_two d op vk vn vs var col l hd hl h1 h2 h3 h4 h5 h6 ihk
    · exact ev_rrx_none d op vk vn vs var col l hd h1 h2 h3 h4 h5 h6
end Go.Abs

