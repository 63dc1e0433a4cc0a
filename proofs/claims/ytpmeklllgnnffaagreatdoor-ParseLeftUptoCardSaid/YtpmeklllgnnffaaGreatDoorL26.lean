/- Expressions' texts, by the program and by the reference; how many there are. -/
import Derived.Test.YtpmeklllgnnffaaGreatDoorL24
import Derived.Test.YtpmeklllgnnffaaGreatDoorL25
set_option linter.unusedSimpArgs false
set_option linter.unusedVariables false

namespace Go.Abs
set_option linter.unusedSimpArgs false
set_option linter.unusedVariables false
open Go Go.Proofs
attribute [local simp] i_nil i_blk i_skip i_ret i_exit i_seq i_block i_cond i_region' i_ops_nil i_ops i_drawn' d_in a_nil a_cons alt1 h_nil h_one h_two z_nil z_cons z_cells zeqL zeq q_alloc q_some isAlO nxtN i_drh d_hi i_drw_nil i_drw u_nil u_code u_ops u_drw u_lp u_again u_exit u_ret u_panic c_bool o_some o_val o_panic d_some d_val d_panic w_none w_fast wantG q_nil q_zero q_succ t_zero t_succ g_zero g_succ s_zero s_succ s_some s_none v_tmp v_const v_func f_quiet gc_none gc_pure wrap_i64 p_move p_assign p_pick p_alloc p_box p_build p_buildSlice p_load p_store p_nilCheck p_binOp n_tmp n_int n_bool n_str n_ptr n_fun n_iface nilCmp p_unOp p_convert p_makeSlice p_makeInterface p_makeFunc p_slice p_fieldAddr p_field p_indexAddr p_index p_extract p_callv p_callb p_panic quiet_val new_val e_assign e_call e_load e_store e_alloc e_box e_move e_pick e_build e_buildSlice e_nilCheck e_binOp e_unOp e_convert e_makeSlice e_makeInterface e_makeFunc e_slice e_fieldAddr e_field e_indexAddr e_index e_extract e_panic callD fpRead adoptZ fulls adopt adoptL ofValue ofScalar binOpV unOpV intBin strBin eqRes veq veqF eqDepth val? finish resL r_tmp r_cell normL normTop tipIs refsL refs ownRefs single frz frzL ren renL renOwn callOp doCall backR writeBack builtinV loadV storeV cellsAt takeV D.isAgg overlay vcells cellOk fieldAddrV indexAddrV fieldV partV indexV buildV fillV buildSliceV litElems appendV appElems elemOk convertV convV winStr makeSliceV sliceV natOf
attribute [local simp ↓] brB_true brB_false brB_dec brB_not brB_and brB_or brB_beq brB_bne

theorem ev_upper (op : List UInt8) (h : op ∈ twoOps) : EV 93 [.str op] [] = some (.ret (.str (upS op)), []) := by
  unfold EV
  rw [ev_eq]
  simp only [twoOps, List.mem_cons, List.mem_nil_iff, or_false] at h
  rcases h with rfl | rfl | rfl | rfl | rfl | rfl | rfl | rfl | rfl | rfl | rfl <;> rfl

theorem two_len {op : List UInt8} (h : op ∈ twoOps) : op.length ≤ 3 ∧ (upS op).length ≤ 3 := by
  simp only [twoOps, List.mem_cons, List.mem_nil_iff, or_false] at h
  rcases h with rfl | rfl | rfl | rfl | rfl | rfl | rfl | rfl | rfl | rfl | rfl <;> exact ⟨by decide, by decide⟩

theorem name_len {s : List UInt8} (h : nameS s = true) : s.length ≤ 16 := by
  unfold nameS at h
  cases s with
  | nil => simp
  | cons c r => simp at h; simp; omega
theorem right_text {v : Val} (h : rightS v = true) : (v.kind = 0 ∨ v.kind = 1 ∨ v.kind = 2 ∨ v.kind = 3) ∧ v.s.length ≤ 24 := by
  unfold rightS at h
  split at h
  · simp at h; exact ⟨.inl (by assumption), by simp [h.2]⟩
  · split at h
    · simp at h; exact ⟨.inr (.inl (by assumption)), by simp [h.1]⟩
    · split at h
      · simp at h; exact ⟨.inr (.inr (.inl (by assumption))), by simp [h]⟩
      · split at h
        · simp at h; exact ⟨.inr (.inr (.inr (by assumption))), by omega⟩
        · cases h
theorem showV_len {v : Val} (h : rightS v = true) (hn : inI v.n) : (showV v).length ≤ 50 := by
  have h1 := Lib.itoa_length_le v.n hn.1 hn.2
  have h2 := quoteE_len v.s
  have h3 := (right_text h).2
  unfold showV
  split
  · split <;> simp
  · split
    · omega
    · split
      · simp; omega
      · simp

/- what is right, taken apart -/
theorem right_parts {d : Nat} {op : List UInt8} {v : Val} {var col : List UInt8} {l : List Xp} (h : rightE (d + 1) (.mk op v var col l) = true) :
    (op = oValue ∧ l = [] ∧ var = [] ∧ col = [] ∧ rightS v = true ∧ (v.kind ≠ 2 ∨ 0 ≤ v.n)) ∨
    (op = oColumn ∧ l = [] ∧ v = Val.zero ∧ nameS col = true ∧ (var = [] ∨ nameS var = true)) ∨
    (∃ a, (op = oNeg ∨ op = oNot ∨ op = oNull) ∧ l = [a] ∧ v = Val.zero ∧ var = [] ∧ col = [] ∧ rightE d a = true) ∨
    (∃ a b, op ∈ twoOps ∧ op ≠ oNeg ∧ op ≠ oNot ∧ op ≠ oNull ∧ op ≠ oValue ∧ op ≠ oColumn ∧ l = [a, b] ∧ v = Val.zero ∧ var = [] ∧ col = [] ∧ rightE d a = true ∧ rightE d b = true) := by
  simp only [rightE, Bool.and_eq_true, Bool.or_eq_true, decide_eq_true_eq] at h
  obtain ⟨⟨⟨hA, hZ⟩, hC⟩, hk⟩ := h
  by_cases h1 : op = oValue
  · subst h1
    left
    have hl : l.length = 0 := by have : arityS oValue = 0 := rfl; omega
    simp only [if_true, Bool.and_eq_true, decide_eq_true_eq] at hk
    have hc : var = [] ∧ col = [] := by
      rcases hC with e | e
      · exact absurd e (by decide)
      · exact e
    exact ⟨rfl, List.eq_nil_of_length_eq_zero hl, hc.1, hc.2, hk.1, hk.2⟩
  by_cases h2 : op = oColumn
  · subst h2
    right; left
    have hl : l.length = 0 := by have : arityS oColumn = 0 := rfl; omega
    simp only [h1, if_false, if_true, Bool.and_eq_true, Bool.or_eq_true, decide_eq_true_eq] at hk
    have hz : v = Val.zero := by
      rcases hZ with e | e
      · exact absurd e (by decide)
      · exact e
    exact ⟨rfl, List.eq_nil_of_length_eq_zero hl, hz, hk.1, hk.2⟩
  have hz : v = Val.zero := by
    rcases hZ with e | e
    · exact absurd e h1
    · exact e
  have hc : var = [] ∧ col = [] := by
    rcases hC with e | e
    · exact absurd e h2
    · exact e
  simp only [h1, h2, if_false, List.all_eq_true] at hk
  by_cases h3 : op = oNeg ∨ op = oNot ∨ op = oNull
  · right; right; left
    have hA' : arityS op = 1 := by simp [arityS, h1, h2, h3]
    obtain ⟨a, rfl⟩ : ∃ a, l = [a] := List.length_eq_one_iff.1 (by omega)
    exact ⟨a, h3, rfl, hz, hc.1, hc.2, hk a (by simp)⟩
  · right; right; right
    by_cases h4 : op ∈ twoOps
    · have hA' : arityS op = 2 := by simp only [arityS, h1, h2, h3, h4, or_self, if_false, if_true]
      obtain ⟨a, b, rfl⟩ : ∃ a b, l = [a, b] := by
        match l, hA with
        | [], hA => simp at hA; omega
        | [a], hA => simp at hA; omega
        | [a, b], _ => exact ⟨a, b, rfl⟩
        | a :: b :: c :: r, hA => simp at hA; omega
      exact ⟨a, b, h4, fun e => h3 (.inl e), fun e => h3 (.inr (.inl e)), fun e => h3 (.inr (.inr e)), h1, h2, rfl, hz, hc.1, hc.2, hk a (by simp), hk b (by simp)⟩
    · have hA' : arityS op = -1 := by simp only [arityS, h1, h2, h3, h4, or_self, if_false]
      omega

theorem showE_value (v : Val) (var col : List UInt8) (l : List Xp) : showE (.mk oValue v var col l) = showV v := by simp [showE]
theorem showE_column (v : Val) (var col : List UInt8) (l : List Xp) : showE (.mk oColumn v var col l) = if var = [] then col else var ++ 46 :: col := by simp [showE, show ¬ oColumn = oValue from of_decide_eq_true rfl]
theorem showE_neg (v : Val) (var col : List UInt8) (a : Xp) : showE (.mk oNeg v var col [a]) = 40 :: 45 :: 32 :: (showE a ++ [41]) := by
  simp [showE, showEs, show ¬ oNeg = oValue from of_decide_eq_true rfl, show ¬ oNeg = oColumn from of_decide_eq_true rfl]
theorem showE_not (v : Val) (var col : List UInt8) (a : Xp) : showE (.mk oNot v var col [a]) = [40, 78, 79, 84, 32] ++ showE a ++ [41] := by
  simp [showE, showEs, show ¬ oNot = oValue from of_decide_eq_true rfl, show ¬ oNot = oColumn from of_decide_eq_true rfl, show ¬ oNot = oNeg from of_decide_eq_true rfl]
theorem showE_null (v : Val) (var col : List UInt8) (a : Xp) : showE (.mk oNull v var col [a]) = 40 :: (showE a ++ [32, 73, 83, 32, 78, 85, 76, 76, 41]) := by
  simp [showE, showEs, show ¬ oNull = oValue from of_decide_eq_true rfl, show ¬ oNull = oColumn from of_decide_eq_true rfl, show ¬ oNull = oNeg from of_decide_eq_true rfl, show ¬ oNull = oNot from of_decide_eq_true rfl]
theorem showE_two {op : List UInt8} (h1 : op ≠ oNeg) (h2 : op ≠ oNot) (h3 : op ≠ oNull) (h4 : op ≠ oValue) (h5 : op ≠ oColumn) (v : Val) (var col : List UInt8) (a b : Xp) : showE (.mk op v var col [a, b]) = 40 :: (showE a ++ 32 :: (upS op ++ 32 :: (showE b ++ [41]))) := by
  simp [showE, showEs, h1, h2, h3, h4, h5]

theorem showE_len : ∀ (d : Nat) (e : Xp), rightE d e = true → e.ok → (showE e).length + 8 ≤ 64 * 2 ^ d
  | 0, .mk op v var col l, h, _ => by cases h
  | d + 1, .mk op v var col l, h, ho => by
    have hp : 1 ≤ 2 ^ d := Nat.one_le_two_pow
    have hp' : 2 ^ (d + 1) = 2 * 2 ^ d := by rw [Nat.pow_succ, Nat.mul_comm]
    rw [hp']
    rcases right_parts h with ⟨rfl, rfl, rfl, rfl, h1, h2⟩ | ⟨rfl, rfl, rfl, h1, h2⟩ | ⟨a, h1, rfl, rfl, rfl, rfl, h2⟩ | ⟨a, b, h1, n1, n2, n3, n4, n5, rfl, rfl, rfl, rfl, h2, h3⟩
    · rw [showE_value]
      have := showV_len h1 ho.2.1.2.1
      omega
    · rw [showE_column]
      have := name_len h1
      split
      · omega
      · rename_i hv
        rcases h2 with e | e
        · exact absurd e hv
        · have := name_len e
          simp; omega
    · have hl := showE_len d a h2 ho.2.2.2.2.2.1
      rcases h1 with rfl | rfl | rfl
      · rw [showE_neg]; simp; omega
      · rw [showE_not]; simp; omega
      · rw [showE_null]; simp; omega
    · have hl := showE_len d a h2 ho.2.2.2.2.2.1
      have hl' := showE_len d b h3 ho.2.2.2.2.2.2.1
      have hu := (two_len h1).2
      rw [showE_two n1 n2 n3 n4 n5]
      simp; omega

theorem ev_show1 (a : Xp) (A : List UInt8) (ha : EV 54 [a.enc] [] = some (.ret (.str A), [])) (hA : A.length ≤ 1000000000) (op : List UInt8) (h : op = oNeg ∨ op = oNot ∨ op = oNull) :
    EV 54 [(Xp.mk op Val.zero [] [] [a]).enc] [] = some (.ret (.str (if op = oNeg then 40 :: 45 :: 32 :: (A ++ [41]) else if op = oNot then [40, 78, 79, 84, 32] ++ A ++ [41] else 40 :: (A ++ [32, 73, 83, 32, 78, 85, 76, 76, 41]))), []) := by
  rw [EV_mki rfl Tryz.func54 rfl (by kernel_rfl) rfl, xenc_mk]
  obtain ⟨op', v', var', col', kids'⟩ := a
  rw [xenc_mk] at ha
  have hb0 : 3 + A.length ≤ 4611686018427387904 := by omega
  have hb1 : A.length + 3 + 1 ≤ 4611686018427387904 := by omega
  have hb2 : A.length + 1 + 1 + 1 + 1 ≤ 4611686018427387904 := by omega
  have hb3 : 5 + A.length ≤ 4611686018427387904 := by omega
  have hb4 : 5 + A.length + 1 ≤ 4611686018427387904 := by omega
  have hb5 : 1 + A.length ≤ 4611686018427387904 := by omega
  have hb6 : A.length + 1 + 9 ≤ 4611686018427387904 := by omega
  have hb7 : A.length + 1 + 1 + 1 + 1 + 1 + 1 ≤ 4611686018427387904 := by omega
  rcases h with rfl | rfl | rfl
  · simp [Tryz.f54, Tryz.ti3, Tryz.ti9, Tryz.ti23, Tryz.ti44, Tryz.ti46, xenc_mk, ha, oNeg, oNot, oNull, Val.zero, hb0, hb1, hb2, hb3, hb4, hb5, hb6, hb7]
  · simp [Tryz.f54, Tryz.ti3, Tryz.ti9, Tryz.ti23, Tryz.ti44, Tryz.ti46, xenc_mk, ha, oNeg, oNot, oNull, Val.zero, hb0, hb1, hb2, hb3, hb4, hb5, hb6, hb7]
  · simp [Tryz.f54, Tryz.ti3, Tryz.ti9, Tryz.ti23, Tryz.ti44, Tryz.ti46, xenc_mk, ha, oNeg, oNot, oNull, Val.zero, hb0, hb1, hb2, hb3, hb4, hb5, hb6, hb7]

def twoT (op A B : List UInt8) : List UInt8 := 40 :: (A ++ 32 :: (upS op ++ 32 :: (B ++ [41])))
set_option maxHeartbeats 1000000 in
theorem ev_show2 (a b : Xp) (A B : List UInt8) (ha : EV 54 [a.enc] [] = some (.ret (.str A), [])) (hb : EV 54 [b.enc] [] = some (.ret (.str B), [])) (hA : A.length ≤ 1000000000) (hB : B.length ≤ 1000000000) (op : List UInt8)
    (h : op ∈ twoOps) (h1 : op ≠ oNeg) (h2 : op ≠ oNot) (h3 : op ≠ oNull) (h4 : op ≠ oValue) (h5 : op ≠ oColumn) :
    EV 54 [(Xp.mk op Val.zero [] [] [a, b]).enc] [] = some (.ret (.str (twoT op A B)), []) := by
  rw [EV_mki rfl Tryz.func54 rfl (by kernel_rfl) rfl, xenc_mk]
  obtain ⟨op', v', var', col', kids'⟩ := a
  obtain ⟨op'', v'', var'', col'', kids''⟩ := b
  rw [xenc_mk] at ha hb
  have hu := ev_upper op h
  have hl := (two_len h).2
  unfold twoT
  generalize upS op = U at *
  simp only [oNeg, oNot, oNull, oValue, oColumn, ne_eq] at h1 h2 h3 h4 h5
  simp (disch := first | ((try simp only [List.length_cons, List.length_append, List.length_nil]); omega) | simp [refsL, refs]) [-strBin, sb_add, sb_eql, sb_neq, sb_lss, Tryz.f54, Tryz.ti3, Tryz.ti9, Tryz.ti23, Tryz.ti44, Tryz.ti46, xenc_mk, ha, hb, hu, h1, h2, h3, h4, h5, Val.zero] <;> first | (change _ = true; decide +kernel) | kernel_rfl | (refine ⟨?_, ?_⟩ <;> first | (change _ = true; decide +kernel) | kernel_rfl)

theorem ev_show : ∀ (d : Nat) (e : Xp), d ≤ 20 → rightE d e = true → e.ok → EV 54 [e.enc] [] = some (.ret (.str (showE e)), [])
  | 0, .mk op v var col l, _, h, _ => by cases h
  | d + 1, .mk op v var col l, hd, h, ho => by
    have hpw : 2 ^ d ≤ 2 ^ 19 := Nat.pow_le_pow_right (by omega) (by omega)
    rcases right_parts h with ⟨rfl, rfl, rfl, rfl, h1, h2⟩ | ⟨rfl, rfl, rfl, h1, h2⟩ | ⟨a, h1, rfl, rfl, rfl, rfl, h2⟩ | ⟨a, b, h1, n1, n2, n3, n4, n5, rfl, rfl, rfl, rfl, h2, h3⟩
    · rw [showE_value, EV_mki rfl Tryz.func54 rfl (by kernel_rfl) rfl, xenc_mk]
      have hs := ev_vshow v.kind v.n v.s ho.2.1.2.1 (by have := (right_text h1).2; omega)
      have e : (⟨v.kind, v.n, v.s⟩ : Val) = v := rfl
      rw [e] at hs
      simp [Tryz.f54, Tryz.ti3, Tryz.ti9, Tryz.ti23, Tryz.ti44, Tryz.ti46, oValue, hs]
    · rw [showE_column, EV_mki rfl Tryz.func54 rfl (by kernel_rfl) rfl, xenc_mk]
      have hc := name_len h1
      by_cases hv : var = []
      · subst hv
        simp [Tryz.f54, Tryz.ti3, Tryz.ti9, Tryz.ti23, Tryz.ti44, Tryz.ti46, oColumn, Val.zero]
      · have hvl : var.length ≤ 16 := by
          rcases h2 with e | e
          · exact absurd e hv
          · exact name_len e
        have hb0 : var.length + 1 ≤ 4611686018427387904 := by omega
        have hb1 : var.length + 1 + col.length ≤ 4611686018427387904 := by omega
        simp [Tryz.f54, Tryz.ti3, Tryz.ti9, Tryz.ti23, Tryz.ti44, Tryz.ti46, oColumn, hv, Val.zero, hb0, hb1]
    · have ha := ev_show d a (by omega) h2 ho.2.2.2.2.2.1
      have hl := showE_len d a h2 ho.2.2.2.2.2.1
      rw [ev_show1 a (showE a) ha (by omega) op h1]
      rcases h1 with rfl | rfl | rfl
      · rw [if_pos rfl, showE_neg]
      · rw [if_neg (by decide), if_pos rfl, showE_not]
      · rw [if_neg (by decide), if_neg (by decide), showE_null]
    · have ha := ev_show d a (by omega) h2 ho.2.2.2.2.2.1
      have hl := showE_len d a h2 ho.2.2.2.2.2.1
      have hb := ev_show d b (by omega) h3 ho.2.2.2.2.2.2.1
      have hl' := showE_len d b h3 ho.2.2.2.2.2.2.1
      rw [ev_show2 a b (showE a) (showE b) ha hb (by omega) (by omega) op h1 n1 n2 n3 n4 n5, showE_two n1 n2 n3 n4 n5]
      rfl
theorem ev_showexpr (e : Xp) (h : e.ok) : EV 25 [e.enc] [] = some (.ret (.str (if rightE 20 e then showE e else [])), []) := by
  have hr := ev_rightexpr e h
  have hs := fun h' => ev_show 20 e (by omega) h' h
  rw [EV_mki rfl Tryz.func25 rfl (by kernel_rfl) rfl]
  obtain ⟨op, v, var, col, l⟩ := e
  rw [xenc_mk] at hr hs ⊢
  cases hb : rightE 20 (.mk op v var col l)
  · rw [hb] at hr
    simp [Tryz.f25, Tryz.ti3, Tryz.ti9, Tryz.ti23, Tryz.ti44, Tryz.ti46, hr]
  · rw [hb] at hr
    have hs := hs hb
    simp [Tryz.f25, Tryz.ti3, Tryz.ti9, Tryz.ti23, Tryz.ti44, Tryz.ti46, hr, hs]

/- the reference's -/
theorem ev_rshow1 (a : Xp) (A : List UInt8) (ha : EV 26 [a.enc] [] = some (.ret (.str A), [])) (hA : A.length ≤ 1000000000) (op : List UInt8) (h : op = oNeg ∨ op = oNot ∨ op = oNull) :
    EV 26 [(Xp.mk op Val.zero [] [] [a]).enc] [] = some (.ret (.str (if op = oNeg then 40 :: 45 :: 32 :: (A ++ [41]) else if op = oNot then [40, 78, 79, 84, 32] ++ A ++ [41] else 40 :: (A ++ [32, 73, 83, 32, 78, 85, 76, 76, 41]))), []) := by
  rw [EV_mki rfl Tryz.func26 rfl (by kernel_rfl) rfl, xenc_mk]
  obtain ⟨op', v', var', col', kids'⟩ := a
  rw [xenc_mk] at ha
  have hb0 : 3 + A.length ≤ 4611686018427387904 := by omega
  have hb1 : A.length + 3 + 1 ≤ 4611686018427387904 := by omega
  have hb2 : A.length + 1 + 1 + 1 + 1 ≤ 4611686018427387904 := by omega
  have hb3 : 5 + A.length ≤ 4611686018427387904 := by omega
  have hb4 : 5 + A.length + 1 ≤ 4611686018427387904 := by omega
  have hb5 : 1 + A.length ≤ 4611686018427387904 := by omega
  have hb6 : A.length + 1 + 9 ≤ 4611686018427387904 := by omega
  have hb7 : A.length + 1 + 1 + 1 + 1 + 1 + 1 ≤ 4611686018427387904 := by omega
  rcases h with rfl | rfl | rfl
  · simp [Tryz.f26, Tryz.ti3, Tryz.ti9, Tryz.ti31, Tryz.ti44, Tryz.ti50, xenc_mk, ha, oNeg, oNot, oNull, Val.zero, hb0, hb1, hb2, hb3, hb4, hb5, hb6, hb7]
  · simp [Tryz.f26, Tryz.ti3, Tryz.ti9, Tryz.ti31, Tryz.ti44, Tryz.ti50, xenc_mk, ha, oNeg, oNot, oNull, Val.zero, hb0, hb1, hb2, hb3, hb4, hb5, hb6, hb7]
  · simp [Tryz.f26, Tryz.ti3, Tryz.ti9, Tryz.ti31, Tryz.ti44, Tryz.ti50, xenc_mk, ha, oNeg, oNot, oNull, Val.zero, hb0, hb1, hb2, hb3, hb4, hb5, hb6, hb7]
set_option maxHeartbeats 2000000 in
theorem ev_rshow2 (a b : Xp) (A B : List UInt8) (ha : EV 26 [a.enc] [] = some (.ret (.str A), [])) (hb : EV 26 [b.enc] [] = some (.ret (.str B), [])) (hA : A.length ≤ 1000000000) (hB : B.length ≤ 1000000000) (op : List UInt8)
    (h : op ∈ twoOps) (h1 : op ≠ oNeg) (h2 : op ≠ oNot) (h3 : op ≠ oNull) (h4 : op ≠ oValue) (h5 : op ≠ oColumn) :
    EV 26 [(Xp.mk op Val.zero [] [] [a, b]).enc] [] = some (.ret (.str (twoT op A B)), []) := by
  rw [EV_mki rfl Tryz.func26 rfl (by kernel_rfl) rfl, xenc_mk]
  obtain ⟨op', v', var', col', kids'⟩ := a
  obtain ⟨op'', v'', var'', col'', kids''⟩ := b
  rw [xenc_mk] at ha hb
  have hl := (two_len h).1
  unfold twoT
  simp only [oNeg, oNot, oNull, oValue, oColumn, ne_eq] at h1 h2 h3 h4 h5
  by_cases hand : op = [97, 110, 100]
  · subst hand
    simp (disch := first | ((try simp only [List.length_cons, List.length_append, List.length_nil]); omega) | simp [refsL, refs]) [-strBin, sb_add, sb_eql, sb_neq, sb_lss, Tryz.f26, Tryz.ti3, Tryz.ti9, Tryz.ti31, Tryz.ti44, Tryz.ti50, xenc_mk, ha, hb, h1, h2, h3, h4, h5, Val.zero, upS, oAnd, oOr]
  · by_cases hor : op = [111, 114]
    · subst hor
      simp (disch := first | ((try simp only [List.length_cons, List.length_append, List.length_nil]); omega) | simp [refsL, refs]) [-strBin, sb_add, sb_eql, sb_neq, sb_lss, Tryz.f26, Tryz.ti3, Tryz.ti9, Tryz.ti31, Tryz.ti44, Tryz.ti50, xenc_mk, ha, hb, h1, h2, h3, h4, h5, Val.zero, upS, oAnd, oOr]
    · have hup : upS op = op := by simp [upS, oAnd, oOr, hand, hor]
      rw [hup]
      simp (disch := first | ((try simp only [List.length_cons, List.length_append, List.length_nil]); omega) | simp [refsL, refs]) [-strBin, sb_add, sb_eql, sb_neq, sb_lss, Tryz.f26, Tryz.ti3, Tryz.ti9, Tryz.ti31, Tryz.ti44, Tryz.ti50, xenc_mk, ha, hb, h1, h2, h3, h4, h5, hand, hor, Val.zero]
end Go.Abs

