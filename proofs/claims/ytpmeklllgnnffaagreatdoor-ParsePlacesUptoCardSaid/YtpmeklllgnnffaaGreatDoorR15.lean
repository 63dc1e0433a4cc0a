/- Which expressions are right: the program's answer. -/
import Derived.Test.YtpmeklllgnnffaaGreatDoorR14
import Derived.Test.YtpmeklllgnnffaaGreatDoorR10
import Derived.Test.YtpmeklllgnnffaaGreatDoorR11
set_option linter.unusedSimpArgs false
set_option linter.unusedVariables false

namespace Go.Abs
set_option linter.unusedSimpArgs false
set_option linter.unusedVariables false
open Go Go.Proofs
attribute [local simp] i_nil i_blk i_skip i_ret i_exit i_seq i_block i_cond i_region' i_ops_nil i_ops i_drawn' k_none k_0 k_1 k_2 k_3 k_4 k_5 d_in a_nil a_cons alt1 h_nil h_one h_two z_nil z_cons z_cells zeqL zeq q_alloc q_some nxtN i_drh d_hi i_drw_nil i_drw u_nil u_code u_ops u_drw u_lp u_again u_exit u_ret u_panic c_bool o_some o_val o_panic d_some d_val d_panic w_none w_fast wantG q_nil q_zero q_succ t_zero t_succ g_zero g_succ s_zero s_succ s_some s_none v_tmp v_const v_func f_quiet gc_none gc_pure wrap_i64 p_move p_assign p_pick p_alloc p_box p_build p_buildSlice p_load p_store p_nilCheck p_binOp n_tmp n_int n_bool n_str n_ptr n_fun n_iface nilCmp p_unOp p_convert p_makeSlice p_makeInterface p_makeFunc p_slice p_fieldAddr p_field p_indexAddr p_index p_extract p_callv p_callb p_panic quiet_val new_val e_assign e_call e_load e_store e_alloc e_box e_move e_pick e_build e_buildSlice e_nilCheck e_binOp e_unOp e_convert e_makeSlice e_makeInterface e_makeFunc e_slice e_fieldAddr e_field e_indexAddr e_index e_extract e_panic callD fpRead adoptZ fulls adopt adoptL ofValue ofScalar binOpV unOpV intBin strBin eqRes veq veqF eqDepth val? finish resL r_tmp r_cell normL normTop tipIs refsL refs ownRefs single frz frzL ren renL renOwn callOp doCall backR writeBack builtinV loadV storeV storeW iceT cellsAt takeV D.isAgg overlay vcells cellOk fieldAddrV indexAddrV fieldV partV indexV buildV fillV buildSliceV litElems appendV appElems elemOk convertV convV winStr makeSliceV sliceV natOf
attribute [local simp ↓] brB_true brB_false brB_dec brB_not brB_and brB_or brB_beq brB_bne
theorem ev_arity (op : List UInt8) : EV 94 [.str op] [] = some (.ret (.int .i64 (arityS op)), []) := by
  rw [EV_mki rfl Tryz.func94 rfl (by kernel_rfl) rfl]
  by_cases h0 : op = oValue
  · subst h0; simp [Tryz.f94, Tryz.ti9, arityS, twoOps, oValue, oColumn, oNeg, oNot, oNull, oAnd, oOr]
  by_cases h1 : op = oColumn
  · subst h1; simp [Tryz.f94, Tryz.ti9, arityS, twoOps, oValue, oColumn, oNeg, oNot, oNull, oAnd, oOr]
  by_cases h2 : op = oNeg
  · subst h2; simp [Tryz.f94, Tryz.ti9, arityS, twoOps, oValue, oColumn, oNeg, oNot, oNull, oAnd, oOr]
  by_cases h3 : op = oNot
  · subst h3; simp [Tryz.f94, Tryz.ti9, arityS, twoOps, oValue, oColumn, oNeg, oNot, oNull, oAnd, oOr]
  by_cases h4 : op = oNull
  · subst h4; simp [Tryz.f94, Tryz.ti9, arityS, twoOps, oValue, oColumn, oNeg, oNot, oNull, oAnd, oOr]
  by_cases h5 : op = [43]
  · subst h5; simp [Tryz.f94, Tryz.ti9, arityS, twoOps, oValue, oColumn, oNeg, oNot, oNull, oAnd, oOr]
  by_cases h6 : op = [45]
  · subst h6; simp [Tryz.f94, Tryz.ti9, arityS, twoOps, oValue, oColumn, oNeg, oNot, oNull, oAnd, oOr]
  by_cases h7 : op = [42]
  · subst h7; simp [Tryz.f94, Tryz.ti9, arityS, twoOps, oValue, oColumn, oNeg, oNot, oNull, oAnd, oOr]
  by_cases h8 : op = [61]
  · subst h8; simp [Tryz.f94, Tryz.ti9, arityS, twoOps, oValue, oColumn, oNeg, oNot, oNull, oAnd, oOr]
  by_cases h9 : op = [60, 62]
  · subst h9; simp [Tryz.f94, Tryz.ti9, arityS, twoOps, oValue, oColumn, oNeg, oNot, oNull, oAnd, oOr]
  by_cases h10 : op = [60]
  · subst h10; simp [Tryz.f94, Tryz.ti9, arityS, twoOps, oValue, oColumn, oNeg, oNot, oNull, oAnd, oOr]
  by_cases h11 : op = [60, 61]
  · subst h11; simp [Tryz.f94, Tryz.ti9, arityS, twoOps, oValue, oColumn, oNeg, oNot, oNull, oAnd, oOr]
  by_cases h12 : op = [62]
  · subst h12; simp [Tryz.f94, Tryz.ti9, arityS, twoOps, oValue, oColumn, oNeg, oNot, oNull, oAnd, oOr]
  by_cases h13 : op = [62, 61]
  · subst h13; simp [Tryz.f94, Tryz.ti9, arityS, twoOps, oValue, oColumn, oNeg, oNot, oNull, oAnd, oOr]
  by_cases h14 : op = oAnd
  · subst h14; simp [Tryz.f94, Tryz.ti9, arityS, twoOps, oValue, oColumn, oNeg, oNot, oNull, oAnd, oOr]
  by_cases h15 : op = oOr
  · subst h15; simp [Tryz.f94, Tryz.ti9, arityS, twoOps, oValue, oColumn, oNeg, oNot, oNull, oAnd, oOr]
  simp only [oValue, oColumn, oNeg, oNot, oNull, oAnd, oOr] at h0 h1 h2 h3 h4 h14 h15
  simp [Tryz.f94, Tryz.ti9, arityS, twoOps, oValue, oColumn, oNeg, oNot, oNull, oAnd, oOr, h0, h1, h2, h3, h4, h5, h6, h7, h8, h9, h10, h11, h12, h13, h14, h15]
section
variable (d : Nat) (op : List UInt8) (vk vn : Int) (vs : List UInt8) (var col : List UInt8) (l : List Xp) (hd : d < 1000)
include hd
set_option maxRecDepth 100000 in
set_option maxHeartbeats 4000000 in
theorem ev_rx_value (hA : (l.length : Int) = arityS oValue) : EV 67 [(Xp.mk oValue ⟨vk, vn, vs⟩ var col l).enc, .int .i64 (d + 1 : Nat)] [] = some (.ret (.bool (rightE (d + 1) (Xp.mk oValue ⟨vk, vn, vs⟩ var col l))), []) := by
  have hd0 : ¬ ((d : Int) + 1 = 0) := by omega
  have hr := ev_right vk vn vs
  rw [EV_mki rfl Tryz.func67 rfl (by kernel_rfl) rfl, xenc_mk]
  simp only [rightE]
  have hA' : (l.length : Int) = arityS [118, 97, 108, 117, 101] := hA
  by_cases hx : var = []
  · by_cases hy : col = []
    · cases hb : rightS ⟨vk, vn, vs⟩ <;> rw [hb] at hr
      · simp [Tryz.f67, Tryz.ti3, Tryz.ti9, Tryz.ti23, Tryz.ti44, Tryz.ti46, hd0, ev_arity, hA', hr, hb, oValue, oColumn, hx, hy] <;> first | (refine panQ_of ?_; decide +kernel) | (change _ = true; decide +kernel) | kernel_rfl | (refine ⟨?_, ?_⟩ <;> first | (change _ = true; decide +kernel) | kernel_rfl)
      · by_cases hk : vk = 2
        · subst hk
          by_cases hn : 0 ≤ vn <;> simp [Tryz.f67, Tryz.ti3, Tryz.ti9, Tryz.ti23, Tryz.ti44, Tryz.ti46, hd0, ev_arity, hA', hr, hb, oValue, oColumn, hx, hy, hn] <;> first | (refine panQ_of ?_; decide +kernel) | (change _ = true; decide +kernel) | kernel_rfl | (refine ⟨?_, ?_⟩ <;> first | (change _ = true; decide +kernel) | kernel_rfl)
        · simp [Tryz.f67, Tryz.ti3, Tryz.ti9, Tryz.ti23, Tryz.ti44, Tryz.ti46, hd0, ev_arity, hA', hr, hb, oValue, oColumn, hx, hy, hk] <;> first | (refine panQ_of ?_; decide +kernel) | (change _ = true; decide +kernel) | kernel_rfl | (refine ⟨?_, ?_⟩ <;> first | (change _ = true; decide +kernel) | kernel_rfl)
    · simp [Tryz.f67, Tryz.ti3, Tryz.ti9, Tryz.ti23, Tryz.ti44, Tryz.ti46, hd0, ev_arity, hA', hr, oValue, oColumn, hx, hy] <;> first | (refine panQ_of ?_; decide +kernel) | (change _ = true; decide +kernel) | kernel_rfl | (refine ⟨?_, ?_⟩ <;> first | (change _ = true; decide +kernel) | kernel_rfl)
  · simp [Tryz.f67, Tryz.ti3, Tryz.ti9, Tryz.ti23, Tryz.ti44, Tryz.ti46, hd0, ev_arity, hA', hr, oValue, oColumn, hx] <;> first | (refine panQ_of ?_; decide +kernel) | (change _ = true; decide +kernel) | kernel_rfl | (refine ⟨?_, ?_⟩ <;> first | (change _ = true; decide +kernel) | kernel_rfl)
set_option maxRecDepth 100000 in
set_option maxHeartbeats 4000000 in
theorem ev_rx_column (hv : var.length ≤ 1048576) (hc : col.length ≤ 1048576) (hA : (l.length : Int) = arityS oColumn) : EV 67 [(Xp.mk oColumn ⟨0, 0, []⟩ var col l).enc, .int .i64 (d + 1 : Nat)] [] = some (.ret (.bool (rightE (d + 1) (Xp.mk oColumn ⟨0, 0, []⟩ var col l))), []) := by
  have hd0 : ¬ ((d : Int) + 1 = 0) := by omega
  have hn1 := ev_name var (by omega)
  have hn2 := ev_name col (by omega)
  rw [EV_mki rfl Tryz.func67 rfl (by kernel_rfl) rfl, xenc_mk]
  simp only [rightE]
  have hA' : (l.length : Int) = arityS [99, 111, 108, 117, 109, 110] := hA
  cases h2 : nameS col <;> rw [h2] at hn2
  · simp [Tryz.f67, Tryz.ti3, Tryz.ti9, Tryz.ti23, Tryz.ti44, Tryz.ti46, hd0, ev_arity, hA', hn2, oValue, oColumn, Val.zero] <;> first | (refine panQ_of ?_; decide +kernel) | (change _ = true; decide +kernel) | kernel_rfl | (refine ⟨?_, ?_⟩ <;> first | (change _ = true; decide +kernel) | kernel_rfl)
  · by_cases hx : var = []
    · subst hx; simp [Tryz.f67, Tryz.ti3, Tryz.ti9, Tryz.ti23, Tryz.ti44, Tryz.ti46, hd0, ev_arity, hA', hn2, oValue, oColumn, Val.zero] <;> first | (refine panQ_of ?_; decide +kernel) | (change _ = true; decide +kernel) | kernel_rfl | (refine ⟨?_, ?_⟩ <;> first | (change _ = true; decide +kernel) | kernel_rfl)
    · cases h1 : nameS var <;> rw [h1] at hn1 <;> simp [Tryz.f67, Tryz.ti3, Tryz.ti9, Tryz.ti23, Tryz.ti44, Tryz.ti46, hd0, ev_arity, hA', hn1, hn2, oValue, oColumn, hx, Val.zero] <;> first | (refine panQ_of ?_; decide +kernel) | (change _ = true; decide +kernel) | kernel_rfl | (refine ⟨?_, ?_⟩ <;> first | (change _ = true; decide +kernel) | kernel_rfl)
set_option maxRecDepth 100000 in
set_option maxHeartbeats 4000000 in
theorem ev_rx_nonzero (hA : (l.length : Int) = arityS op) (hV : ¬ op = oValue) (hz : ¬ (vk = 0 ∧ vn = 0 ∧ vs = [])) : EV 67 [(Xp.mk op ⟨vk, vn, vs⟩ var col l).enc, .int .i64 (d + 1 : Nat)] [] = some (.ret (.bool (rightE (d + 1) (Xp.mk op ⟨vk, vn, vs⟩ var col l))), []) := by
  have hd0 : ¬ ((d : Int) + 1 = 0) := by omega
  rw [EV_mki rfl Tryz.func67 rfl (by kernel_rfl) rfl, xenc_mk]
  simp only [rightE]
  have hV' : ¬ op = [118, 97, 108, 117, 101] := hV
  have hz' : (decide ((⟨vk, vn, vs⟩ : Val) = Val.zero)) = false := by simpa [Val.zero] using hz
  have hb : (decide (vk = 0) && (decide (vn = 0) && (decide (vs = []) && true))) = false := by simpa using hz
  have hb' : (decide (vk = 0) && (decide (vn = 0) && decide (vs = []))) = false := by simpa using hz
  simp [Tryz.f67, Tryz.ti3, Tryz.ti9, Tryz.ti23, Tryz.ti44, Tryz.ti46, hd0, ev_arity, hA, hV', hV, hz', hb, hb'] <;> first | (refine panQ_of ?_; decide +kernel) | (change _ = true; decide +kernel) | kernel_rfl | (refine ⟨?_, ?_⟩ <;> first | (change _ = true; decide +kernel) | kernel_rfl)
set_option maxRecDepth 100000 in
set_option maxHeartbeats 4000000 in
theorem ev_rx_var (hA : (l.length : Int) = arityS op) (hV : ¬ op = oValue) (hC : ¬ op = oColumn) (hx : ¬ (var = [] ∧ col = [])) : EV 67 [(Xp.mk op ⟨0, 0, []⟩ var col l).enc, .int .i64 (d + 1 : Nat)] [] = some (.ret (.bool (rightE (d + 1) (Xp.mk op ⟨0, 0, []⟩ var col l))), []) := by
  have hd0 : ¬ ((d : Int) + 1 = 0) := by omega
  rw [EV_mki rfl Tryz.func67 rfl (by kernel_rfl) rfl, xenc_mk]
  simp only [rightE]
  have hV' : ¬ op = [118, 97, 108, 117, 101] := hV
  have hC' : ¬ op = [99, 111, 108, 117, 109, 110] := hC
  by_cases h1 : var = []
  · subst h1
    have h2 : ¬ col = [] := fun h => hx ⟨rfl, h⟩
    simp [Tryz.f67, Tryz.ti3, Tryz.ti9, Tryz.ti23, Tryz.ti44, Tryz.ti46, hd0, ev_arity, hA, hV', hC', hV, hC, h2] <;> first | (refine panQ_of ?_; decide +kernel) | (change _ = true; decide +kernel) | kernel_rfl | (refine ⟨?_, ?_⟩ <;> first | (change _ = true; decide +kernel) | kernel_rfl)
  · simp [Tryz.f67, Tryz.ti3, Tryz.ti9, Tryz.ti23, Tryz.ti44, Tryz.ti46, hd0, ev_arity, hA, hV', hC', hV, hC, h1] <;> first | (refine panQ_of ?_; decide +kernel) | (change _ = true; decide +kernel) | kernel_rfl | (refine ⟨?_, ?_⟩ <;> first | (change _ = true; decide +kernel) | kernel_rfl)
set_option maxRecDepth 100000 in
set_option maxHeartbeats 4000000 in
theorem ev_rx_arity (hA : ¬ (l.length : Int) = arityS op) : EV 67 [(Xp.mk op ⟨vk, vn, vs⟩ var col l).enc, .int .i64 (d + 1 : Nat)] [] = some (.ret (.bool (rightE (d + 1) (Xp.mk op ⟨vk, vn, vs⟩ var col l))), []) := by
  have hd0 : ¬ ((d : Int) + 1 = 0) := by omega
  rw [EV_mki rfl Tryz.func67 rfl (by kernel_rfl) rfl, xenc_mk]
  simp only [rightE]
  simp [Tryz.f67, Tryz.ti3, Tryz.ti9, Tryz.ti23, Tryz.ti44, Tryz.ti46, hd0, ev_arity, hA] <;> first | (refine panQ_of ?_; decide +kernel) | (change _ = true; decide +kernel) | kernel_rfl | (refine ⟨?_, ?_⟩ <;> first | (change _ = true; decide +kernel) | kernel_rfl)
set_option maxRecDepth 100000 in
set_option maxHeartbeats 4000000 in
theorem ev_rx_ops (hl : l.length ≤ 1048576) (hA : (l.length : Int) = arityS op) (hV : ¬ op = oValue) (hC : ¬ op = oColumn) (ihk : ∀ m ∈ l, EV 67 [m.enc, .int .i64 d] [] = some (.ret (.bool (rightE d m)), [])) :
    EV 67 [(Xp.mk op ⟨0, 0, []⟩ [] [] l).enc, .int .i64 (d + 1 : Nat)] [] = some (.ret (.bool (rightE (d + 1) (Xp.mk op ⟨0, 0, []⟩ [] [] l))), []) := by
  have hd0 : ¬ ((d : Int) + 1 = 0) := by omega
  have hw : IntKind.i64.wrap (d : Int) = d := wrap_i64 (by omega)
  rw [EV_mki rfl Tryz.func67 rfl (by kernel_rfl) rfl, xenc_mk]
  simp only [rightE]
  have hV' : ¬ op = [118, 97, 108, 117, 101] := hV
  have hC' : ¬ op = [99, 111, 108, 117, 109, 110] := hC
  simp [Tryz.f67, Tryz.ti3, Tryz.ti9, Tryz.ti23, Tryz.ti44, Tryz.ti46, hd0, ev_arity, hA, hV', hC', hV, hC, Val.zero]
  rw [i_loop (ts := [80, 81, 82, 6, 83, 84, 85, 86, 87, 88])]
  rotate_left
  · kernel_rfl
  refine i_at (fun i : {i : Nat // i ≤ l.length} => l.length - i.1) (fun i env => setV env 79 (.int .i64 i.1)) (fun i => _) (fun i => some (.ret (.bool ((l.drop i.1).all (rightE d))), [])) ⟨0, by omega⟩ (by simp [s_zero, s_succ]) rfl (by simp) ?_
  intro ⟨i, hil⟩ ih
  dsimp only at hil ⊢
  by_cases hi : i < l.length
  · have ih := ih ⟨i + 1, by omega⟩ (by simp only; omega)
    have hwi : IntKind.i64.wrap ((i : Int) + 1) = (i : Int) + 1 := wrap_i64 (by omega)
    have hc := ihk l[i] (List.getElem_mem hi)
    obtain ⟨t, hk⟩ : ∃ m, l[i] = m := ⟨_, rfl⟩
    have hi' : (i : Int) < arityS op := by omega
    rw [List.drop_eq_getElem_cons hi, List.all_cons, hk]
    rw [hk] at hc
    obtain ⟨op', v', var', col', kids'⟩ := t
    rw [xenc_mk] at hc
    simp only [s_zero, s_succ, Int.natCast_add, Int.natCast_one, Int.cast_ofNat_Int] at ih
    cases hd : rightE d (.mk op' v' var' col' kids') <;> rw [hd] at hc <;> simp [i_again, roundEnd, dropT, cleanV, Tryz.f67, Tryz.ti3, Tryz.ti9, Tryz.ti23, Tryz.ti44, Tryz.ti46, hi, hi', hk, xenc_mk, hwi, hw, ih, hc]
  · rw [List.drop_of_length_le (by omega)]
    have hi' : ¬ (i : Int) < arityS op := by omega
    simp [i_again, roundEnd, dropT, cleanV, Tryz.f67, Tryz.ti3, Tryz.ti9, Tryz.ti23, Tryz.ti44, Tryz.ti46, hi, hi']
end
theorem ev_rightx : ∀ (n : Nat) (e : Xp), e.ok → n < 1000 → EV 67 [e.enc, .int .i64 n] [] = some (.ret (.bool (rightE n e)), [])
  | 0, .mk op v var col kids, h, hn => by
    rw [EV_mki rfl Tryz.func67 rfl (by kernel_rfl) rfl, xenc_mk]
    simp [Tryz.f67, Tryz.ti3, Tryz.ti9, Tryz.ti23, Tryz.ti44, Tryz.ti46, rightE] <;> first | (refine panQ_of ?_; decide +kernel) | (change _ = true; decide +kernel) | kernel_rfl | (refine ⟨?_, ?_⟩ <;> first | (change _ = true; decide +kernel) | kernel_rfl)
  | d + 1, .mk op ⟨vk, vn, vs⟩ var col l, h, hn => by
    have hd : d < 1000 := by omega
    by_cases hA : (l.length : Int) = arityS op
    · by_cases hV : op = oValue
      · subst hV; exact ev_rx_value d vk vn vs var col l hd hA
      · by_cases hz : vk = 0 ∧ vn = 0 ∧ vs = []
        · obtain ⟨rfl, rfl, rfl⟩ := hz
          by_cases hC : op = oColumn
          · subst hC; exact ev_rx_column d var col l hd h.2.2.1 h.2.2.2.1 hA
          · by_cases hx : var = [] ∧ col = []
            · obtain ⟨rfl, rfl⟩ := hx
              exact ev_rx_ops d op l hd h.2.2.2.2.1 hA hV hC (fun m hm => ev_rightx d m ((xoks_iff l).1 h.2.2.2.2.2 m hm) hd)
            · exact ev_rx_var d op var col l hd hA hV hC hx
        · exact ev_rx_nonzero d op vk vn vs var col l hd hA hV hz
    · exact ev_rx_arity d op vk vn vs var col l hd hA
theorem ev_rightexpr (e : Xp) (h : e.ok) : EV 24 [e.enc] [] = some (.ret (.bool (rightE 20 e)), []) := by
  have hr := ev_rightx 20 e h (by omega)
  rw [EV_mki rfl Tryz.func24 rfl (by kernel_rfl) rfl]
  obtain ⟨op, v, var, col, l⟩ := e
  rw [xenc_mk] at hr ⊢
  simp only [Int.cast_ofNat_Int] at hr
  simp [Tryz.f24, Tryz.ti3, Tryz.ti9, Tryz.ti23, Tryz.ti44, Tryz.ti46, hr]
end Go.Abs
namespace Go.Abs
open Go
theorem i_at2 {P : Program} {cl : Oracle} {n : Nat} {rs : List ResultVar} {k : List Item} {env : Env} {st : St} {c : Code} {ts : List Nat} {m : Nat} {ι : Type} (meas : ι → Nat) (upd : ι → Env → Env) (S : ι → St → St) (F : ι → Option (Out × St)) (x0 : ι) {R : Option (Out × St)}
    (he : upd x0 env = env) (hs : S x0 st = st) (hR : F x0 = R)
    (h : ∀ x, (∀ y, meas y < meas x → @mki P cl n rs ⟨.lp c ts m :: k⟩ (upd y env) (S y st) = F y) → @mki P cl n rs ⟨.code c :: .again c ts m :: k⟩ (upd x env) (S x st) = F x) :
    @mki P cl n rs ⟨.lp c ts m :: k⟩ env st = R :=
  i_at meas upd (fun x => S x st) F x0 he hs hR h
end Go.Abs
namespace Go.Abs
set_option linter.unusedSimpArgs false
set_option linter.unusedVariables false
open Go Go.Proofs
attribute [local simp] i_nil i_blk i_skip i_ret i_exit i_seq i_block i_cond i_region' i_ops_nil i_ops i_drawn' k_none k_0 k_1 k_2 k_3 k_4 k_5 d_in a_nil a_cons alt1 h_nil h_one h_two z_nil z_cons z_cells zeqL zeq q_alloc q_some nxtN i_drh d_hi i_drw_nil i_drw u_nil u_code u_ops u_drw u_lp u_again u_exit u_ret u_panic c_bool o_some o_val o_panic d_some d_val d_panic w_none w_fast wantG q_nil q_zero q_succ t_zero t_succ g_zero g_succ s_zero s_succ s_some s_none v_tmp v_const v_func f_quiet gc_none gc_pure wrap_i64 p_move p_assign p_pick p_alloc p_box p_build p_buildSlice p_load p_store p_nilCheck p_binOp n_tmp n_int n_bool n_str n_ptr n_fun n_iface nilCmp p_unOp p_convert p_makeSlice p_makeInterface p_makeFunc p_slice p_fieldAddr p_field p_indexAddr p_index p_extract p_callv p_callb p_panic quiet_val new_val e_assign e_call e_load e_store e_alloc e_box e_move e_pick e_build e_buildSlice e_nilCheck e_binOp e_unOp e_convert e_makeSlice e_makeInterface e_makeFunc e_slice e_fieldAddr e_field e_indexAddr e_index e_extract e_panic callD fpRead adoptZ fulls adopt adoptL ofValue ofScalar binOpV unOpV intBin strBin eqRes veq veqF eqDepth val? finish resL r_tmp r_cell normL normTop tipIs refsL refs ownRefs single frz frzL ren renL renOwn callOp doCall backR writeBack builtinV loadV storeV storeW iceT cellsAt takeV D.isAgg overlay vcells cellOk fieldAddrV indexAddrV fieldV partV indexV buildV fillV buildSliceV litElems appendV appElems elemOk convertV convV winStr makeSliceV sliceV natOf
attribute [local simp ↓] brB_true brB_false brB_dec brB_not brB_and brB_or brB_beq brB_bne
def rightsE (l : List Xp) (least most : Int) : Bool := l.all (rightE 20) && (decide (least ≤ (l.length : Int)) && decide ((l.length : Int) ≤ most))
def rightSrc (x : Src) : Bool := (decide (x.var = []) || nameS x.var) && (if x.kind = 0 then nameS x.table else decide (1 ≤ x.kind) && (decide (x.kind ≤ 4) && decide (x.table = [])))
def rightFromS (src : List Src) (wher : List Xp) (least : Int) : Bool := src.all rightSrc && (decide (least ≤ (src.length : Int)) && (decide ((src.length : Int) ≤ 3) && rightsE wher 0 (if (1 : Int) < src.length then 1 else src.length)))
def rightSetsS (l : List SetE) : Bool := l.all (fun x => nameS x.col && rightE 20 x.e) && (decide (1 ≤ (l.length : Int)) && decide ((l.length : Int) ≤ 6))
theorem ev_rightall (l : List Xp) (hl : l.length ≤ 1048576) (ho : ∀ m ∈ l, m.ok) (least most : Int) : EV 43 [.slice .froz (l.map Xp.enc), .int .i64 least, .int .i64 most] [] = some (.ret (.bool (rightsE l least most)), []) := by
  rw [EV_mki rfl Tryz.func43 rfl (by kernel_rfl) rfl]
  simp [Tryz.f43, Tryz.ti3, Tryz.ti9, Tryz.ti23, Tryz.ti44, Tryz.ti46]
  rw [i_loop (ts := [12, 13, 14, 8, 15, 16, 17, 18])]
  rotate_left
  · kernel_rfl
  refine i_at (fun i : {i : Nat // i ≤ l.length} => l.length - i.1) (fun i env => setV env 11 (.int .i64 i.1)) (fun i => _) (fun i => some (.ret (.bool ((l.drop i.1).all (rightE 20) && (decide (least ≤ (l.length : Int)) && decide ((l.length : Int) ≤ most)))), [])) ⟨0, by omega⟩ (by simp [s_zero, s_succ]) rfl (by simp [rightsE]) ?_
  intro ⟨i, hil⟩ ih
  dsimp only at hil ⊢
  by_cases hi : i < l.length
  · have ih := ih ⟨i + 1, by omega⟩ (by simp only; omega)
    have hwi : IntKind.i64.wrap ((i : Int) + 1) = (i : Int) + 1 := wrap_i64 (by omega)
    have hc := ev_rightexpr l[i] (ho _ (List.getElem_mem hi))
    obtain ⟨t, hk⟩ : ∃ m, l[i] = m := ⟨_, rfl⟩
    rw [List.drop_eq_getElem_cons hi, List.all_cons, hk]
    rw [hk] at hc
    obtain ⟨op', v', var', col', kids'⟩ := t
    rw [xenc_mk] at hc
    simp only [s_zero, s_succ, Int.natCast_add, Int.natCast_one, Int.cast_ofNat_Int] at ih
    cases hd : rightE 20 (.mk op' v' var' col' kids') <;> rw [hd] at hc <;> simp [i_again, roundEnd, dropT, cleanV, Tryz.f43, Tryz.ti3, Tryz.ti9, Tryz.ti23, Tryz.ti44, Tryz.ti46, hi, hk, xenc_mk, hwi, ih, hc]
  · rw [List.drop_of_length_le (by omega)]
    by_cases h1 : least ≤ (l.length : Int) <;> by_cases h2 : (l.length : Int) ≤ most <;> simp [i_again, roundEnd, dropT, cleanV, Tryz.f43, Tryz.ti3, Tryz.ti9, Tryz.ti23, Tryz.ti44, Tryz.ti46, hi, h1, h2]
theorem ev_rightsource (x : Src) (h : x.ok) : EV 86 [x.enc] [] = some (.ret (.bool (rightSrc x)), []) := by
  obtain ⟨k, t, v⟩ := x
  have hn1 := ev_name v (by have := h.2.2; simp only at this; omega)
  have hn2 := ev_name t (by have := h.2.1; simp only at this; omega)
  rw [EV_mki rfl Tryz.func86 rfl (by kernel_rfl) rfl]
  simp only [Src.enc, Src.cells, rightSrc]
  by_cases hv : v = []
  · subst hv
    by_cases hk : k = 0
    · subst hk; simp [Tryz.f86, Tryz.ti3, Tryz.ti9, Tryz.ti84, hn2]
    · by_cases h1 : 1 ≤ k
      · by_cases h4 : k ≤ 4 <;> simp [Tryz.f86, Tryz.ti3, Tryz.ti9, Tryz.ti84, hk, h1, h4]
      · simp [Tryz.f86, Tryz.ti3, Tryz.ti9, Tryz.ti84, hk, h1]
  · cases hb : nameS v <;> rw [hb] at hn1
    · simp [Tryz.f86, Tryz.ti3, Tryz.ti9, Tryz.ti84, hn1, hv]
    · by_cases hk : k = 0
      · subst hk; simp [Tryz.f86, Tryz.ti3, Tryz.ti9, Tryz.ti84, hn1, hn2, hv]
      · by_cases h1 : 1 ≤ k
        · by_cases h4 : k ≤ 4 <;> simp [Tryz.f86, Tryz.ti3, Tryz.ti9, Tryz.ti84, hn1, hv, hk, h1, h4]
        · simp [Tryz.f86, Tryz.ti3, Tryz.ti9, Tryz.ti84, hn1, hv, hk, h1]
theorem ev_rightsets (l : List SetE) (hl : l.length ≤ 1048576) (ho : ∀ m ∈ l, m.ok) : EV 45 [.slice .froz (l.map SetE.enc)] [] = some (.ret (.bool (rightSetsS l)), []) := by
  rw [EV_mki rfl Tryz.func45 rfl (by kernel_rfl) rfl]
  simp [Tryz.f45, Tryz.ti3, Tryz.ti9, Tryz.ti23, Tryz.ti24, Tryz.ti44, Tryz.ti46, Tryz.ti80]
  rw [i_loop (ts := [8, 9, 10, 4, 11, 12, 13, 14, 15, 16, 17, 18, 19, 20, 21])]
  rotate_left
  · kernel_rfl
  refine i_at (fun i : {i : Nat // i ≤ l.length} => l.length - i.1) (fun i env => setV env 7 (.int .i64 i.1)) (fun i => _) (fun i => some (.ret (.bool ((l.drop i.1).all (fun x => nameS x.col && rightE 20 x.e) && (decide (1 ≤ (l.length : Int)) && decide ((l.length : Int) ≤ 6)))), [])) ⟨0, by omega⟩ (by simp [s_zero, s_succ]) rfl (by simp [rightSetsS]) ?_
  intro ⟨i, hil⟩ ih
  dsimp only at hil ⊢
  by_cases hi : i < l.length
  · have ih := ih ⟨i + 1, by omega⟩ (by simp only; omega)
    have hwi : IntKind.i64.wrap ((i : Int) + 1) = (i : Int) + 1 := wrap_i64 (by omega)
    have hot := ho _ (List.getElem_mem hi)
    obtain ⟨t, hk⟩ : ∃ m, l[i] = m := ⟨_, rfl⟩
    rw [hk] at hot
    rw [List.drop_eq_getElem_cons hi, List.all_cons, hk]
    obtain ⟨c, e⟩ := t
    have hn := ev_name c (by have := hot.1; simp only at this; omega)
    have hc := ev_rightexpr e hot.2
    obtain ⟨op', v', var', col', kids'⟩ := e
    rw [xenc_mk] at hc
    simp only [s_zero, s_succ, Int.natCast_add, Int.natCast_one, Int.cast_ofNat_Int] at ih
    cases hb : nameS c <;> rw [hb] at hn
    · simp [i_again, roundEnd, dropT, cleanV, Tryz.f45, Tryz.ti3, Tryz.ti9, Tryz.ti23, Tryz.ti24, Tryz.ti44, Tryz.ti46, Tryz.ti80, hi, hk, SetE.enc, xenc_mk, hn, hb]
    · cases hd : rightE 20 (.mk op' v' var' col' kids') <;> rw [hd] at hc <;> simp [i_again, roundEnd, dropT, cleanV, Tryz.f45, Tryz.ti3, Tryz.ti9, Tryz.ti23, Tryz.ti24, Tryz.ti44, Tryz.ti46, Tryz.ti80, hi, hk, SetE.enc, xenc_mk, hwi, ih, hc, hn, hb, hd]
  · rw [List.drop_of_length_le (by omega)]
    have hcast : ((1 : Int) ≤ (l.length : Int)) ↔ (1 ≤ l.length) := by omega
    by_cases h1 : (1 : Int) ≤ (l.length : Int) <;> by_cases h2 : (l.length : Int) ≤ 6 <;> simp [i_again, roundEnd, dropT, cleanV, Tryz.f45, Tryz.ti3, Tryz.ti9, Tryz.ti23, Tryz.ti24, Tryz.ti44, Tryz.ti46, Tryz.ti80, hi, h1, h2]
theorem ev_rightfrom (b : StB) (acts : List Stm) (h : b.ok) (least : Int) : EV 44 [(Stm.mk b acts).enc, .int .i64 least] [] = some (.ret (.bool (rightFromS b.src b.wher least)), []) := by
  have hw := fun m => ev_rightall b.wher h.wher.1 h.wher.2 0 m
  have hso := h.src.2
  have hsl := h.src.1
  rw [EV_mki rfl Tryz.func44 rfl (by kernel_rfl) rfl, senc_mk]
  obtain ⟨kind, name, table, col, cols, values, items, wher, sets, l, prio, event, deferred, rolls⟩ := b
  dsimp only at hw hso hsl ⊢
  simp [Tryz.f44, Tryz.ti3, Tryz.ti4, Tryz.ti9, Tryz.ti22, Tryz.ti23, Tryz.ti24, Tryz.ti25, Tryz.ti26, Tryz.ti28, Tryz.ti44, Tryz.ti46, Tryz.ti80, Tryz.ti84, Tryz.ti94]
  rw [i_loop (ts := [11, 12, 13, 6, 14, 15, 16, 17])]
  rotate_left
  · kernel_rfl
  refine i_at (fun i : {i : Nat // i ≤ l.length} => l.length - i.1) (fun i env => setV env 10 (.int .i64 i.1)) (fun i => _) (fun i => some (.ret (.bool ((l.drop i.1).all rightSrc && (decide (least ≤ (l.length : Int)) && (decide ((l.length : Int) ≤ 3) && rightsE wher 0 (if (1 : Int) < l.length then 1 else l.length))))), [])) ⟨0, by omega⟩ (by simp [s_zero, s_succ]) rfl (by simp [rightFromS]) ?_
  intro ⟨i, hil⟩ ih
  dsimp only at hil ⊢
  by_cases hi : i < l.length
  · have ih := ih ⟨i + 1, by omega⟩ (by simp only; omega)
    have hwi : IntKind.i64.wrap ((i : Int) + 1) = (i : Int) + 1 := wrap_i64 (by omega)
    have hc := ev_rightsource l[i] (hso _ (List.getElem_mem hi))
    obtain ⟨t, hk⟩ : ∃ m, l[i] = m := ⟨_, rfl⟩
    rw [List.drop_eq_getElem_cons hi, List.all_cons, hk]
    rw [hk] at hc
    obtain ⟨sk, st, sv⟩ := t
    simp only [Src.enc, Src.cells] at hc
    simp only [s_zero, s_succ, Int.natCast_add, Int.natCast_one, Int.cast_ofNat_Int] at ih
    cases hd : rightSrc ⟨sk, st, sv⟩ <;> rw [hd] at hc <;> simp [i_again, roundEnd, dropT, cleanV, Tryz.f44, Tryz.ti3, Tryz.ti4, Tryz.ti9, Tryz.ti22, Tryz.ti23, Tryz.ti24, Tryz.ti25, Tryz.ti26, Tryz.ti28, Tryz.ti44, Tryz.ti46, Tryz.ti80, Tryz.ti84, Tryz.ti94, hi, hk, Src.enc, Src.cells, hwi, ih, hc]
  · rw [List.drop_of_length_le (by omega)]
    have hw' := hw (if (1 : Int) < l.length then 1 else l.length)
    by_cases h1 : least ≤ (l.length : Int)
    · by_cases h2 : (l.length : Int) ≤ 3
      · by_cases h3 : (1 : Int) < l.length
        · rw [if_pos h3] at hw' ⊢
          have h3' : ¬ (l.length : Int) ≤ 1 := by omega
          simp [i_again, roundEnd, dropT, cleanV, Tryz.f44, Tryz.ti3, Tryz.ti4, Tryz.ti9, Tryz.ti22, Tryz.ti23, Tryz.ti24, Tryz.ti25, Tryz.ti26, Tryz.ti28, Tryz.ti44, Tryz.ti46, Tryz.ti80, Tryz.ti84, Tryz.ti94, hi, h1, h2, h3, hw', maxInts, minInts, h3']
        · rw [if_neg h3] at hw' ⊢
          simp [i_again, roundEnd, dropT, cleanV, Tryz.f44, Tryz.ti3, Tryz.ti4, Tryz.ti9, Tryz.ti22, Tryz.ti23, Tryz.ti24, Tryz.ti25, Tryz.ti26, Tryz.ti28, Tryz.ti44, Tryz.ti46, Tryz.ti80, Tryz.ti84, Tryz.ti94, hi, h1, h2, h3, hw', maxInts, minInts]
      · simp [i_again, roundEnd, dropT, cleanV, Tryz.f44, Tryz.ti3, Tryz.ti4, Tryz.ti9, Tryz.ti22, Tryz.ti23, Tryz.ti24, Tryz.ti25, Tryz.ti26, Tryz.ti28, Tryz.ti44, Tryz.ti46, Tryz.ti80, Tryz.ti84, Tryz.ti94, hi, h1, h2]
    · simp [i_again, roundEnd, dropT, cleanV, Tryz.f44, Tryz.ti3, Tryz.ti4, Tryz.ti9, Tryz.ti22, Tryz.ti23, Tryz.ti24, Tryz.ti25, Tryz.ti26, Tryz.ti28, Tryz.ti44, Tryz.ti46, Tryz.ti80, Tryz.ti84, Tryz.ti94, hi, h1]
theorem ev_stop (c at_ : Int) : EV 127 [.int .i64 c, .int .i64 at_] [] = if c = 0 then some (.ret (.tup []), []) else some (.panic (.iface 58 (.agg [.int .i64 c, .int .i64 at_])), []) := by
  rw [EV_mki rfl Tryz.func127 rfl (by kernel_rfl) rfl]
  simp +contextual [Tryz.f127, Tryz.ti3, Tryz.ti56, Tryz.ti58]
  simp only [brP, dite_eq_ite]
theorem ev_check (c : Int) : EV 99 [.int .i64 c] [] = if c = 0 then some (.ret (.tup []), []) else some (.panic (.iface 58 (.agg [.int .i64 c, .int .i64 0])), []) := by
  rw [EV_mki rfl Tryz.func99 rfl (by kernel_rfl) rfl]
  by_cases h : c = 0 <;> simp +contextual [Tryz.f99, ev_stop, h]
end Go.Abs
namespace Go.Abs
set_option linter.unusedSimpArgs false
set_option linter.unusedVariables false
open Go Go.Proofs
theorem ev_grab (g : FuncId) (first cap : List V) (st : St) : EV 75 [.func g first cap] st = primRun EV (.grab 58) [.func g first cap] st := by
  unfold EV
  rw [ev_eq]
  rfl
end Go.Abs
namespace Go.Abs
set_option linter.unusedSimpArgs false
set_option linter.unusedVariables false
open Go Go.Proofs
attribute [local simp] i_nil i_blk i_skip i_ret i_exit i_seq i_block i_cond i_region' i_ops_nil i_ops i_drawn' k_none k_0 k_1 k_2 k_3 k_4 k_5 d_in a_nil a_cons alt1 h_nil h_one h_two z_nil z_cons z_cells zeqL zeq q_alloc q_some nxtN i_drh d_hi i_drw_nil i_drw u_nil u_code u_ops u_drw u_lp u_again u_exit u_ret u_panic c_bool o_some o_val o_panic d_some d_val d_panic w_none w_fast wantG q_nil q_zero q_succ t_zero t_succ g_zero g_succ s_zero s_succ s_some s_none v_tmp v_const v_func f_quiet gc_none gc_pure wrap_i64 p_move p_assign p_pick p_alloc p_box p_build p_buildSlice p_load p_store p_nilCheck p_binOp n_tmp n_int n_bool n_str n_ptr n_fun n_iface nilCmp p_unOp p_convert p_makeSlice p_makeInterface p_makeFunc p_slice p_fieldAddr p_field p_indexAddr p_index p_extract p_callv p_callb p_panic quiet_val new_val e_assign e_call e_load e_store e_alloc e_box e_move e_pick e_build e_buildSlice e_nilCheck e_binOp e_unOp e_convert e_makeSlice e_makeInterface e_makeFunc e_slice e_fieldAddr e_field e_indexAddr e_index e_extract e_panic callD fpRead adoptZ fulls adopt adoptL ofValue ofScalar binOpV unOpV intBin strBin eqRes veq veqF eqDepth val? finish resL r_tmp r_cell normL normTop tipIs refsL refs ownRefs single frz frzL ren renL renOwn callOp doCall backR writeBack builtinV loadV storeV storeW iceT cellsAt takeV D.isAgg overlay vcells cellOk fieldAddrV indexAddrV fieldV partV indexV buildV fillV buildSliceV litElems appendV appElems elemOk convertV convV winStr makeSliceV sliceV natOf
attribute [local simp ↓] brB_true brB_false brB_dec brB_not brB_and brB_or brB_beq brB_bne
def findS (name : List UInt8) (i : Nat) : List Col → Int
  | [] => -1
  | c :: r => if c.name = name then i else findS name (i + 1) r
theorem ev_findfn (c : Col) (name : List UInt8) : EV 132 [c.enc, .box 0 0] [[.str name]] = some (.ret (.bool (decide (c.name = name))), [[.str name]]) := by
  obtain ⟨n, t, a, b⟩ := c
  rw [EV_mki rfl Tryz.func132 rfl (by kernel_rfl) rfl]
  simp [Tryz.f132, Tryz.ti3, Tryz.ti4, Tryz.ti9, Tryz.ti94, Col.enc, Col.cells, gc, reach, reachFuel, shut, nodup, List.idxOf, List.findIdx, List.findIdx.go, List.range, List.range.loop]
theorem ev_colindex (l : List Col) (hl : l.length ≤ 1048576) (name : List UInt8) : EV 131 [.slice .froz (l.map Col.enc), .func 132 [] [.box 0 0]] [[.str name]] = some (.ret (.int .i64 (findS name 0 l)), [[.str name]]) := by
  rw [EV_mki rfl Tryz.func131 rfl (by kernel_rfl) rfl]
  simp [Tryz.f131, Tryz.ti3, Tryz.ti4, Tryz.ti9, Tryz.ti22, Tryz.ti94]
  rw [i_loop (ts := [9, 10, 5, 11, 12, 13, 14, 15, 16, 17, 18])]
  rotate_left
  · kernel_rfl
  refine i_at (fun i : {i : Nat // i ≤ l.length} => l.length - i.1) (fun i env => setV env 8 (.int .i64 i.1)) (fun i => _) (fun i => some (.ret (.int .i64 (findS name i.1 (l.drop i.1))), [[.str name]])) ⟨0, by omega⟩ (by simp [s_zero, s_succ]) rfl (by simp) ?_
  intro ⟨i, hil⟩ ih
  dsimp only at hil ⊢
  by_cases hi : i < l.length
  · have ih := ih ⟨i + 1, by omega⟩ (by simp only; omega)
    have hwi : IntKind.i64.wrap ((i : Int) + 1) = (i : Int) + 1 := wrap_i64 (by omega)
    have hc := ev_findfn l[i] name
    obtain ⟨t, hk⟩ : ∃ m, l[i] = m := ⟨_, rfl⟩
    rw [List.drop_eq_getElem_cons hi, findS, hk]
    rw [hk] at hc
    obtain ⟨n, ty, a, b⟩ := t
    simp only [Col.enc, Col.cells] at hc
    simp only [s_zero, s_succ, Int.natCast_add, Int.natCast_one, Int.cast_ofNat_Int] at ih
    by_cases hn : n = name
    · simp only [hn, decide_true] at hc
      simp [i_again, roundEnd, dropT, cleanV, reach, reachFuel, shut, nodup, List.idxOf, List.findIdx, List.findIdx.go, backR, Tryz.f131, Tryz.ti3, Tryz.ti4, Tryz.ti9, Tryz.ti22, Tryz.ti94, hi, hk, Col.enc, Col.cells, hwi, hc, hn, gc, List.range, List.range.loop]
    · simp only [hn, decide_false] at hc
      simp [i_again, roundEnd, dropT, cleanV, reach, reachFuel, shut, nodup, List.idxOf, List.findIdx, List.findIdx.go, backR, Tryz.f131, Tryz.ti3, Tryz.ti4, Tryz.ti9, Tryz.ti22, Tryz.ti94, hi, hk, Col.enc, Col.cells, hwi, hc, hn, ih]
  · rw [List.drop_of_length_le (by omega)]
    simp [i_again, roundEnd, dropT, cleanV, Tryz.f131, Tryz.ti3, Tryz.ti4, Tryz.ti9, Tryz.ti22, Tryz.ti94, hi, findS, gc, reach, reachFuel, shut, nodup, List.idxOf, List.findIdx, List.findIdx.go, List.range, List.range.loop]
theorem ev_find (l : List Col) (hl : l.length ≤ 1048576) (name : List UInt8) : EV 85 [.slice .froz (l.map Col.enc), .str name] [] = some (.ret (.int .i64 (findS name 0 l)), []) := by
  have h := ev_colindex l hl name
  rw [EV_mki rfl Tryz.func85 rfl (by kernel_rfl) rfl]
  simp [reach, reachFuel, shut, nodup, List.idxOf, List.findIdx, List.findIdx.go, backR, Tryz.f85, Tryz.ti9, h]
theorem ev_must (b : Bool) (c : Int) (hc : c ≠ 0) : EV 84 [.bool b, .int .i64 c] [] = if b then some (.ret (.tup []), []) else some (.panic (.iface 58 (.agg [.int .i64 c, .int .i64 0])), []) := by
  have h := ev_check c
  rw [if_neg hc] at h
  rw [EV_mki rfl Tryz.func84 rfl (by kernel_rfl) rfl]
  cases b <;> simp [Tryz.f84, h]
def colOk (c : Col) : Bool := nameS c.name && (decide (1 ≤ c.type) && decide (c.type ≤ 3))
def colsFrom (all : List Col) (i : Nat) : List Col → Int
  | [] => 0
  | c :: r => bif colOk c then (if findS c.name 0 all = (i : Int) then colsFrom all (i + 1) r else 3) else 15
def colsS (l : List Col) : Int := if l = [] then 15 else if 6 < l.length then 8 else colsFrom l 0 l
def codeO (c : Int) (st : St) : Option (Out × St) := if c = 0 then some (.ret (.tup []), st) else some (.panic (.iface 58 (.agg [.int .i64 c, .int .i64 0])), st)
theorem ev_colsfn (l : List Col) (hl : l.length ≤ 1048576) (ho : ∀ c ∈ l, c.ok) : EV 83 [.box 0 0] [[.slice .froz (l.map Col.enc)]] = codeO (colsS l) [[.slice .froz (l.map Col.enc)]] := by
  have m15 := fun b => ev_must b 15 (by omega)
  have m8 := fun b => ev_must b 8 (by omega)
  have m3 := fun b => ev_must b 3 (by omega)
  rw [EV_mki rfl Tryz.func83 rfl (by kernel_rfl) rfl]
  unfold colsS
  by_cases h0 : l = []
  · subst h0
    simp [Tryz.f83, Tryz.ti3, Tryz.ti4, Tryz.ti9, Tryz.ti22, Tryz.ti94, m15, codeO, gc, reach, reachFuel, shut, nodup, List.idxOf, List.findIdx, List.findIdx.go, List.range, List.range.loop]
  · rw [if_neg h0]
    have hpos : 0 < l.length := List.length_pos_iff.2 h0
    by_cases h6 : 6 < l.length
    · rw [if_pos h6]
      have h6' : ¬ (l.length : Int) ≤ 6 := by omega
      have h6'' : ¬ l.length ≤ 6 := by omega
      simp [Tryz.f83, Tryz.ti3, Tryz.ti4, Tryz.ti9, Tryz.ti22, Tryz.ti94, m15, m8, h0, hpos, h6, h6', h6'', codeO, gc, reach, reachFuel, shut, nodup, List.idxOf, List.findIdx, List.findIdx.go, List.range, List.range.loop]
    · rw [if_neg h6]
      have h6' : (l.length : Int) ≤ 6 := by omega
      have h6'' : l.length ≤ 6 := by omega
      simp [Tryz.f83, Tryz.ti3, Tryz.ti4, Tryz.ti9, Tryz.ti22, Tryz.ti94, m15, m8, h0, hpos, h6, h6', h6'']
      rw [i_loop (ts := [14, 15, 16, 17, 2, 1, 18, 19, 20, 21, 22, 23, 24, 25, 26, 27, 28, 29, 30, 31, 32, 33, 34, 35, 36, 37, 38, 39])]
      rotate_left
      · kernel_rfl
      refine i_at (fun i : {i : Nat // i ≤ l.length} => l.length - i.1) (fun i env => setV env 13 (.int .i64 i.1)) (fun i => _) (fun i => codeO (colsFrom l i.1 (l.drop i.1)) [[.slice .froz (l.map Col.enc)]]) ⟨0, by omega⟩ (by simp [s_zero, s_succ]) rfl (by simp) ?_
      intro ⟨i, hil⟩ ih
      dsimp only at hil ⊢
      by_cases hi : i < l.length
      · have ih := ih ⟨i + 1, by omega⟩ (by simp only; omega)
        have hwi : IntKind.i64.wrap ((i : Int) + 1) = (i : Int) + 1 := wrap_i64 (by omega)
        have hco := ho _ (List.getElem_mem hi)
        have hf := ev_find l hl (l[i]).name
        obtain ⟨t, hk⟩ : ∃ m, l[i] = m := ⟨_, rfl⟩
        rw [List.drop_eq_getElem_cons hi, colsFrom, hk]
        rw [hk] at hf hco
        obtain ⟨n, ty, a, b⟩ := t
        have hn := ev_name n (by have := hco.1; simp only at this; omega)
        dsimp only at hf
        simp only [s_zero, s_succ, Int.natCast_add, Int.natCast_one, Int.cast_ofNat_Int] at ih
        simp only [colOk]
        cases hb : nameS n <;> rw [hb] at hn
        · simp [i_again, roundEnd, dropT, cleanV, Tryz.f83, Tryz.ti3, Tryz.ti4, Tryz.ti9, Tryz.ti22, Tryz.ti94, hi, hk, Col.enc, Col.cells, hn, m15, codeO, gc, reach, reachFuel, shut, nodup, List.idxOf, List.findIdx, List.findIdx.go, List.range, List.range.loop]
        · by_cases h1 : 1 ≤ ty
          · by_cases h3 : ty ≤ 3
            · by_cases he : findS n 0 l = (i : Int)
              · rw [he] at hf
                simp [i_again, roundEnd, dropT, cleanV, Tryz.f83, Tryz.ti3, Tryz.ti4, Tryz.ti9, Tryz.ti22, Tryz.ti94, hi, hk, Col.enc, Col.cells, hn, h1, h3, he, hf, hwi, m15, m3, ih]
              · simp [i_again, roundEnd, dropT, cleanV, Tryz.f83, Tryz.ti3, Tryz.ti4, Tryz.ti9, Tryz.ti22, Tryz.ti94, hi, hk, Col.enc, Col.cells, hn, h1, h3, he, hf, hwi, m15, m3, codeO, gc, reach, reachFuel, shut, nodup, List.idxOf, List.findIdx, List.findIdx.go, List.range, List.range.loop]
            · simp [i_again, roundEnd, dropT, cleanV, Tryz.f83, Tryz.ti3, Tryz.ti4, Tryz.ti9, Tryz.ti22, Tryz.ti94, hi, hk, Col.enc, Col.cells, hn, h1, h3, m15, codeO, gc, reach, reachFuel, shut, nodup, List.idxOf, List.findIdx, List.findIdx.go, List.range, List.range.loop]
          · simp [i_again, roundEnd, dropT, cleanV, Tryz.f83, Tryz.ti3, Tryz.ti4, Tryz.ti9, Tryz.ti22, Tryz.ti94, hi, hk, Col.enc, Col.cells, hn, h1, m15, codeO, gc, reach, reachFuel, shut, nodup, List.idxOf, List.findIdx, List.findIdx.go, List.range, List.range.loop]
      · rw [List.drop_of_length_le (by omega)]
        simp [i_again, roundEnd, dropT, cleanV, Tryz.f83, Tryz.ti3, Tryz.ti4, Tryz.ti9, Tryz.ti22, Tryz.ti94, hi, colsFrom, codeO, gc, reach, reachFuel, shut, nodup, List.idxOf, List.findIdx, List.findIdx.go, List.range, List.range.loop]
theorem ev_columns (l : List Col) (hl : l.length ≤ 1048576) (ho : ∀ c ∈ l, c.ok) : EV 41 [.slice .froz (l.map Col.enc)] [] = some (.ret (.int .i64 (colsS l)), []) := by
  have hc := ev_colsfn l hl ho
  have hg : EV 75 [.func 83 [] [.box 0 0]] [[.slice .froz (l.map Col.enc)]] = some (.ret (.agg [.int .i64 (colsS l), .int .i64 0]), [[.slice .froz (l.map Col.enc)]]) := by
    rw [ev_grab]
    unfold codeO at hc
    by_cases h0 : colsS l = 0
    · rw [if_pos h0] at hc
      simp [primRun, reach, reachFuel, shut, nodup, List.idxOf, List.findIdx, List.findIdx.go, hc, catchRes, gc, List.range, List.range.loop, backR, h0]
    · rw [if_neg h0] at hc
      simp [primRun, reach, reachFuel, shut, nodup, List.idxOf, List.findIdx, List.findIdx.go, hc, catchRes, gc, List.range, List.range.loop, backR]
  rw [EV_mki rfl Tryz.func41 rfl (by kernel_rfl) rfl]
  simp [reach, reachFuel, shut, nodup, List.idxOf, List.findIdx, List.findIdx.go, backR, Tryz.f41, Tryz.ti3, Tryz.ti4, Tryz.ti9, Tryz.ti22, Tryz.ti56, Tryz.ti58, Tryz.ti94, hg]
def nameK (k : Int) : Prop := k = 4 ∨ k = 5 ∨ k = 9 ∨ k = 10 ∨ k = 11
instance (k : Int) : Decidable (nameK k) := by unfold nameK; infer_instance
def blankS : Stm → Stm
  | .mk b acts =>
    if nameK b.kind then .mk ⟨b.kind, b.name, [], [], [], [], [], [], [], [], 0, 0, false, false⟩ []
    else if b.kind = 6 then .mk ⟨b.kind, b.name, [], [], b.cols, [], [], [], [], [], 0, 0, false, false⟩ []
    else if b.kind = 7 then .mk ⟨b.kind, b.name, b.table, b.col, [], [], [], [], [], [], 0, 0, false, false⟩ []
    else if b.kind = 8 then .mk ⟨b.kind, b.name, b.table, [], [], [], [], b.wher, [], b.src, b.prio, b.event, b.deferred, b.rolls⟩ acts
    else if b.kind = 12 then .mk ⟨b.kind, [], b.table, [], [], b.values, b.items, b.wher, [], b.src, 0, 0, false, false⟩ []
    else if b.kind = 13 then .mk ⟨b.kind, [], b.table, [], [], [], [], b.wher, b.sets, [], 0, 0, false, false⟩ []
    else if b.kind = 14 then .mk ⟨b.kind, [], b.table, [], [], [], [], b.wher, [], [], 0, 0, false, false⟩ []
    else if b.kind = 15 then .mk ⟨b.kind, [], [], [], [], [], b.items, b.wher, [], b.src, 0, 0, false, false⟩ []
    else .mk ⟨b.kind, [], [], [], [], [], [], [], [], [], 0, 0, false, false⟩ []
set_option maxRecDepth 100000 in
set_option maxHeartbeats 4000000 in
theorem ev_blank_name (b : StB) (acts : List Stm) (h : nameK b.kind) : EV 82 [(Stm.mk b acts).enc] [] = some (.ret (blankS (.mk b acts)).enc, []) := by
  simp only [blankS, if_pos h]
  rw [EV_mki rfl Tryz.func82 rfl (by kernel_rfl) rfl, senc_mk, senc_mk]
  obtain ⟨kind, name, table, col, cols, values, items, wher, sets, src, prio, event, deferred, rolls⟩ := b
  dsimp only at h ⊢
  rcases h with rfl | rfl | rfl | rfl | rfl <;> simp [Tryz.f82, Tryz.ti3, Tryz.ti4, Tryz.ti9, Tryz.ti22, Tryz.ti23, Tryz.ti24, Tryz.ti25, Tryz.ti26, Tryz.ti28, Tryz.ti44, Tryz.ti46, Tryz.ti80, Tryz.ti84, Tryz.ti94] <;> first | (refine panQ_of ?_; decide +kernel) | (change _ = true; decide +kernel) | kernel_rfl | (refine ⟨?_, ?_⟩ <;> first | (change _ = true; decide +kernel) | kernel_rfl)
set_option maxRecDepth 100000 in
set_option maxHeartbeats 4000000 in
theorem ev_blank_table (b : StB) (acts : List Stm) (h : b.kind = 6) : EV 82 [(Stm.mk b acts).enc] [] = some (.ret (blankS (.mk b acts)).enc, []) := by
  have hn : ¬ nameK b.kind := by unfold nameK; omega
  simp only [blankS, if_neg hn, if_pos h]
  rw [EV_mki rfl Tryz.func82 rfl (by kernel_rfl) rfl, senc_mk, senc_mk]
  obtain ⟨kind, name, table, col, cols, values, items, wher, sets, src, prio, event, deferred, rolls⟩ := b
  dsimp only at h ⊢
  subst h
  simp [Tryz.f82, Tryz.ti3, Tryz.ti4, Tryz.ti9, Tryz.ti22, Tryz.ti23, Tryz.ti24, Tryz.ti25, Tryz.ti26, Tryz.ti28, Tryz.ti44, Tryz.ti46, Tryz.ti80, Tryz.ti84, Tryz.ti94] <;> first | (refine panQ_of ?_; decide +kernel) | (change _ = true; decide +kernel) | kernel_rfl | (refine ⟨?_, ?_⟩ <;> first | (change _ = true; decide +kernel) | kernel_rfl)
set_option maxRecDepth 100000 in
set_option maxHeartbeats 4000000 in
theorem ev_blank_index (b : StB) (acts : List Stm) (h : b.kind = 7) : EV 82 [(Stm.mk b acts).enc] [] = some (.ret (blankS (.mk b acts)).enc, []) := by
  have hn : ¬ nameK b.kind := by unfold nameK; omega
  simp only [blankS, if_neg hn, if_neg (show ¬ b.kind = 6 by omega), if_pos h]
  rw [EV_mki rfl Tryz.func82 rfl (by kernel_rfl) rfl, senc_mk, senc_mk]
  obtain ⟨kind, name, table, col, cols, values, items, wher, sets, src, prio, event, deferred, rolls⟩ := b
  dsimp only at h ⊢
  subst h
  simp [Tryz.f82, Tryz.ti3, Tryz.ti4, Tryz.ti9, Tryz.ti22, Tryz.ti23, Tryz.ti24, Tryz.ti25, Tryz.ti26, Tryz.ti28, Tryz.ti44, Tryz.ti46, Tryz.ti80, Tryz.ti84, Tryz.ti94] <;> first | (refine panQ_of ?_; decide +kernel) | (change _ = true; decide +kernel) | kernel_rfl | (refine ⟨?_, ?_⟩ <;> first | (change _ = true; decide +kernel) | kernel_rfl)
set_option maxRecDepth 100000 in
set_option maxHeartbeats 4000000 in
theorem ev_blank_rule (b : StB) (acts : List Stm) (h : b.kind = 8) : EV 82 [(Stm.mk b acts).enc] [] = some (.ret (blankS (.mk b acts)).enc, []) := by
  have hn : ¬ nameK b.kind := by unfold nameK; omega
  simp only [blankS, if_neg hn, if_neg (show ¬ b.kind = 6 by omega), if_neg (show ¬ b.kind = 7 by omega), if_pos h]
  rw [EV_mki rfl Tryz.func82 rfl (by kernel_rfl) rfl, senc_mk, senc_mk]
  obtain ⟨kind, name, table, col, cols, values, items, wher, sets, src, prio, event, deferred, rolls⟩ := b
  dsimp only at h ⊢
  subst h
  simp [Tryz.f82, Tryz.ti3, Tryz.ti4, Tryz.ti9, Tryz.ti22, Tryz.ti23, Tryz.ti24, Tryz.ti25, Tryz.ti26, Tryz.ti28, Tryz.ti44, Tryz.ti46, Tryz.ti80, Tryz.ti84, Tryz.ti94] <;> first | (refine panQ_of ?_; decide +kernel) | (change _ = true; decide +kernel) | kernel_rfl | (refine ⟨?_, ?_⟩ <;> first | (change _ = true; decide +kernel) | kernel_rfl)
set_option maxRecDepth 100000 in
set_option maxHeartbeats 4000000 in
theorem ev_blank_insert (b : StB) (acts : List Stm) (h : b.kind = 12) : EV 82 [(Stm.mk b acts).enc] [] = some (.ret (blankS (.mk b acts)).enc, []) := by
  have hn : ¬ nameK b.kind := by unfold nameK; omega
  simp only [blankS, if_neg hn, if_neg (show ¬ b.kind = 6 by omega), if_neg (show ¬ b.kind = 7 by omega), if_neg (show ¬ b.kind = 8 by omega), if_pos h]
  rw [EV_mki rfl Tryz.func82 rfl (by kernel_rfl) rfl, senc_mk, senc_mk]
  obtain ⟨kind, name, table, col, cols, values, items, wher, sets, src, prio, event, deferred, rolls⟩ := b
  dsimp only at h ⊢
  subst h
  simp [Tryz.f82, Tryz.ti3, Tryz.ti4, Tryz.ti9, Tryz.ti22, Tryz.ti23, Tryz.ti24, Tryz.ti25, Tryz.ti26, Tryz.ti28, Tryz.ti44, Tryz.ti46, Tryz.ti80, Tryz.ti84, Tryz.ti94] <;> first | (refine panQ_of ?_; decide +kernel) | (change _ = true; decide +kernel) | kernel_rfl | (refine ⟨?_, ?_⟩ <;> first | (change _ = true; decide +kernel) | kernel_rfl)
set_option maxRecDepth 100000 in
set_option maxHeartbeats 4000000 in
theorem ev_blank_update (b : StB) (acts : List Stm) (h : b.kind = 13) : EV 82 [(Stm.mk b acts).enc] [] = some (.ret (blankS (.mk b acts)).enc, []) := by
  have hn : ¬ nameK b.kind := by unfold nameK; omega
  simp only [blankS, if_neg hn, if_neg (show ¬ b.kind = 6 by omega), if_neg (show ¬ b.kind = 7 by omega), if_neg (show ¬ b.kind = 8 by omega), if_neg (show ¬ b.kind = 12 by omega), if_pos h]
  rw [EV_mki rfl Tryz.func82 rfl (by kernel_rfl) rfl, senc_mk, senc_mk]
  obtain ⟨kind, name, table, col, cols, values, items, wher, sets, src, prio, event, deferred, rolls⟩ := b
  dsimp only at h ⊢
  subst h
  simp [Tryz.f82, Tryz.ti3, Tryz.ti4, Tryz.ti9, Tryz.ti22, Tryz.ti23, Tryz.ti24, Tryz.ti25, Tryz.ti26, Tryz.ti28, Tryz.ti44, Tryz.ti46, Tryz.ti80, Tryz.ti84, Tryz.ti94] <;> first | (refine panQ_of ?_; decide +kernel) | (change _ = true; decide +kernel) | kernel_rfl | (refine ⟨?_, ?_⟩ <;> first | (change _ = true; decide +kernel) | kernel_rfl)
set_option maxRecDepth 100000 in
set_option maxHeartbeats 4000000 in
theorem ev_blank_delete (b : StB) (acts : List Stm) (h : b.kind = 14) : EV 82 [(Stm.mk b acts).enc] [] = some (.ret (blankS (.mk b acts)).enc, []) := by
  have hn : ¬ nameK b.kind := by unfold nameK; omega
  simp only [blankS, if_neg hn, if_neg (show ¬ b.kind = 6 by omega), if_neg (show ¬ b.kind = 7 by omega), if_neg (show ¬ b.kind = 8 by omega), if_neg (show ¬ b.kind = 12 by omega), if_neg (show ¬ b.kind = 13 by omega), if_pos h]
  rw [EV_mki rfl Tryz.func82 rfl (by kernel_rfl) rfl, senc_mk, senc_mk]
  obtain ⟨kind, name, table, col, cols, values, items, wher, sets, src, prio, event, deferred, rolls⟩ := b
  dsimp only at h ⊢
  subst h
  simp [Tryz.f82, Tryz.ti3, Tryz.ti4, Tryz.ti9, Tryz.ti22, Tryz.ti23, Tryz.ti24, Tryz.ti25, Tryz.ti26, Tryz.ti28, Tryz.ti44, Tryz.ti46, Tryz.ti80, Tryz.ti84, Tryz.ti94] <;> first | (refine panQ_of ?_; decide +kernel) | (change _ = true; decide +kernel) | kernel_rfl | (refine ⟨?_, ?_⟩ <;> first | (change _ = true; decide +kernel) | kernel_rfl)
set_option maxRecDepth 100000 in
set_option maxHeartbeats 4000000 in
theorem ev_blank_select (b : StB) (acts : List Stm) (h : b.kind = 15) : EV 82 [(Stm.mk b acts).enc] [] = some (.ret (blankS (.mk b acts)).enc, []) := by
  have hn : ¬ nameK b.kind := by unfold nameK; omega
  simp only [blankS, if_neg hn, if_neg (show ¬ b.kind = 6 by omega), if_neg (show ¬ b.kind = 7 by omega), if_neg (show ¬ b.kind = 8 by omega), if_neg (show ¬ b.kind = 12 by omega), if_neg (show ¬ b.kind = 13 by omega), if_neg (show ¬ b.kind = 14 by omega), if_pos h]
  rw [EV_mki rfl Tryz.func82 rfl (by kernel_rfl) rfl, senc_mk, senc_mk]
  obtain ⟨kind, name, table, col, cols, values, items, wher, sets, src, prio, event, deferred, rolls⟩ := b
  dsimp only at h ⊢
  subst h
  simp [Tryz.f82, Tryz.ti3, Tryz.ti4, Tryz.ti9, Tryz.ti22, Tryz.ti23, Tryz.ti24, Tryz.ti25, Tryz.ti26, Tryz.ti28, Tryz.ti44, Tryz.ti46, Tryz.ti80, Tryz.ti84, Tryz.ti94] <;> first | (refine panQ_of ?_; decide +kernel) | (change _ = true; decide +kernel) | kernel_rfl | (refine ⟨?_, ?_⟩ <;> first | (change _ = true; decide +kernel) | kernel_rfl)
set_option maxRecDepth 100000 in
set_option maxHeartbeats 4000000 in
theorem ev_blank_other (b : StB) (acts : List Stm) (hn : ¬ nameK b.kind) (h6 : ¬ b.kind = 6) (h7 : ¬ b.kind = 7) (h8 : ¬ b.kind = 8) (h12 : ¬ b.kind = 12) (h13 : ¬ b.kind = 13) (h14 : ¬ b.kind = 14) (h15 : ¬ b.kind = 15) : EV 82 [(Stm.mk b acts).enc] [] = some (.ret (blankS (.mk b acts)).enc, []) := by
  simp only [blankS, if_neg hn, if_neg h6, if_neg h7, if_neg h8, if_neg h12, if_neg h13, if_neg h14, if_neg h15]
  rw [EV_mki rfl Tryz.func82 rfl (by kernel_rfl) rfl, senc_mk, senc_mk]
  obtain ⟨kind, name, table, col, cols, values, items, wher, sets, src, prio, event, deferred, rolls⟩ := b
  dsimp only at *
  unfold nameK at hn
  simp only [not_or] at hn
  obtain ⟨n4, n5, n9, n10, n11⟩ := hn
  simp [Tryz.f82, Tryz.ti3, Tryz.ti4, Tryz.ti9, Tryz.ti22, Tryz.ti23, Tryz.ti24, Tryz.ti25, Tryz.ti26, Tryz.ti28, Tryz.ti44, Tryz.ti46, Tryz.ti80, Tryz.ti84, Tryz.ti94, n4, n5, n9, n10, n11, h6, h7, h8, h12, h13, h14, h15] <;> first | (refine panQ_of ?_; decide +kernel) | (change _ = true; decide +kernel) | kernel_rfl | (refine ⟨?_, ?_⟩ <;> first | (change _ = true; decide +kernel) | kernel_rfl)
theorem ev_blank : ∀ s : Stm, EV 82 [s.enc] [] = some (.ret (blankS s).enc, [])
  | .mk b acts => by
    by_cases hn : nameK b.kind
    · exact ev_blank_name b acts hn
    by_cases h6 : b.kind = 6
    · exact ev_blank_table b acts h6
    by_cases h7 : b.kind = 7
    · exact ev_blank_index b acts h7
    by_cases h8 : b.kind = 8
    · exact ev_blank_rule b acts h8
    by_cases h12 : b.kind = 12
    · exact ev_blank_insert b acts h12
    by_cases h13 : b.kind = 13
    · exact ev_blank_update b acts h13
    by_cases h14 : b.kind = 14
    · exact ev_blank_delete b acts h14
    by_cases h15 : b.kind = 15
    · exact ev_blank_select b acts h15
    exact ev_blank_other b acts hn h6 h7 h8 h12 h13 h14 h15
end Go.Abs
