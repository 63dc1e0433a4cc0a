/- ParseAgain: what is read has a text that is read as the same; blanks around tokens change nothing: the law. -/
import Derived.Test.YtpmeklllgnnffaaGreatDoorP32
set_option linter.unusedSimpArgs false
set_option linter.unusedVariables false

namespace Go.Abs
set_option linter.unusedSimpArgs false
set_option linter.unusedVariables false
open Go Go.Proofs
attribute [local simp] i_nil i_blk i_skip i_ret i_exit i_seq i_block i_cond i_region' i_ops_nil i_ops i_drawn' k_none k_0 k_1 k_2 k_3 k_4 k_5 d_in a_nil a_cons alt1 h_nil h_one h_two z_nil z_cons z_cells zeqL zeq q_alloc q_some nxtN i_drh d_hi i_drw_nil i_drw u_nil u_code u_ops u_drw u_lp u_again u_exit u_ret u_panic c_bool o_some o_val o_panic d_some d_val d_panic w_none w_fast wantG q_nil q_zero q_succ t_zero t_succ g_zero g_succ s_zero s_succ s_some s_none v_tmp v_const v_func f_quiet gc_none gc_pure wrap_i64 p_move p_assign p_pick p_alloc p_box p_build p_buildSlice p_load p_store p_nilCheck p_binOp n_tmp n_int n_bool n_str n_ptr n_fun n_iface nilCmp p_unOp p_convert p_makeSlice p_makeInterface p_makeFunc p_slice p_fieldAddr p_field p_indexAddr p_index p_extract p_callv p_callb p_panic quiet_val new_val e_assign e_call e_load e_store e_alloc e_box e_move e_pick e_build e_buildSlice e_nilCheck e_binOp e_unOp e_convert e_makeSlice e_makeInterface e_makeFunc e_slice e_fieldAddr e_field e_indexAddr e_index e_extract e_panic callD fpRead adoptZ fulls adopt adoptL ofValue ofScalar binOpV unOpV intBin strBin eqRes veq veqF eqDepth val? finish resL r_tmp r_cell normL normTop tipIs refsL refs ownRefs single frz frzL ren renL renOwn callOp doCall backR writeBack builtinV loadV storeV storeW iceT cellsAt takeV D.isAgg overlay vcells cellOk fieldAddrV indexAddrV fieldV partV indexV buildV fillV buildSliceV litElems appendV appElems elemOk convertV convV winStr makeSliceV sliceV natOf
attribute [local simp ↓] brB_true brB_false brB_dec brB_not brB_and brB_or brB_beq brB_bne
attribute [local irreducible] fpsQ panQ
theorem parse_inv (s : List UInt8) : (∃ k q, k ≠ 0 ∧ parseS s = (Stm.zero, k, q)) ∨ ∃ x l r, parseS s = (x, 0, 0) ∧ s.length ≤ 2000 ∧ toksS (s.length + 1) 0 s = .ok l ∧ stmtP l = (some x, r) ∧ topK r = 0 ∧ rightStm x = true := by
  unfold parseS readP
  by_cases hl : 2000 < s.length
  · exact .inl ⟨8, 0, by decide, by simp [hl]⟩
  · simp only [hl, if_false]
    cases ht : toksS (s.length + 1) 0 s with
    | error e => exact .inl ⟨1, e, by decide, rfl⟩
    | ok l =>
      simp only
      cases hP : stmtP l with
      | mk o r =>
        cases o with
        | none => exact .inl ⟨1, topAt r, by decide, rfl⟩
        | some x =>
          simp only
          by_cases hk : topK r = 0
          · by_cases hR : rightStm x = true
            · exact .inr ⟨x, l, r, by simp [hk, hR], by omega, rfl, hP, hk, hR⟩
            · exact .inl ⟨8, 0, by decide, by simp [hk, hR]⟩
          · exact .inl ⟨1, topAt r, by decide, by simp [hk]⟩
theorem strips_shift (d : Int) (l : List Tok) : strips (l.map (shiftT d)) = strips l := by
  induction l with
  | nil => rfl
  | cons t l ih => simp only [strips, List.map_cons, strip, shiftT] at ih ⊢; rw [ih]
theorem parse_pad {s : List UInt8} {x : Stm} {l r : List Tok} (hl : s.length ≤ 1900) (ht : toksS (s.length + 1) 0 s = .ok l) (hP : stmtP l = (some x, r)) (hk : topK r = 0) (hR : rightStm x = true) : parseS (32 :: 10 :: (s ++ [9])) = (x, 0, 0) := by
  have h2 : toksS (s.length + 1) 2 s = .ok (l.map (shiftT 2)) := by
    have := toks_shift (s.length + 1) 0 2 s
    rw [ht] at this
    simpa [shiftE] using this
  have h3 := toks_app (b := 9) (by decide) [] (s.length + 1) 2 s _ h2 ((s ++ [9]).length + 1) (by simp)
  have h4 : toksS ([] : List UInt8).length.succ (2 + s.length + 1) [] = .ok [⟨0, 0, ((2 + s.length + 1 : Nat) : Int), []⟩] := by simp [toksS, nextTok, unblank, blanks, tokS]
  rw [show (([] : List UInt8).length + 1) = ([] : List UInt8).length.succ from rfl, h4] at h3
  simp only [behindS] at h3
  have h5 : toksS ((32 :: 10 :: (s ++ [9])).length + 1) 0 (32 :: 10 :: (s ++ [9])) = .ok ((l.map (shiftT 2)).dropLast ++ [⟨0, 0, ((2 + s.length + 1 : Nat) : Int), []⟩]) := by
    rw [toks_pad (b := 32) (by decide), toks_pad (b := 10) (by decide)]
    exact h3
  obtain ⟨m, e, rfl, ek, en, es, _⟩ := toks_ok _ _ _ _ ht
  have hst : strips ((List.map (shiftT 2) (m ++ [e])).dropLast ++ [⟨0, 0, ((2 + s.length + 1 : Nat) : Int), []⟩]) = strips (m ++ [e]) := by
    have h6 := strips_shift 2 m
    simp only [List.map_append, List.map_cons, List.map_nil, List.dropLast_concat, strips, strip] at h6 ⊢
    rw [h6, ek, en, es]
  have hn := nat_alike nat_stmt hst
  rw [hP] at hn
  unfold parseS readP
  rw [if_neg (by simp; omega), h5]
  simp only
  cases hx : stmtP ((List.map (shiftT 2) (m ++ [e])).dropLast ++ [⟨0, 0, ((2 + s.length + 1 : Nat) : Int), []⟩]) with
  | mk o r' =>
    rw [hx] at hn
    obtain ⟨n1, n2⟩ := hn
    simp only at n1 n2
    subst n1
    have : topK r' = 0 := by
      have := congrArg topK n2
      rw [topK_strip, topK_strip, hk] at this
      exact this
    simp only [this, if_true, hR]
set_option maxRecDepth 100000 in
set_option maxHeartbeats 4000000 in
theorem ev_parseagain (s : List UInt8) (hsl : s.length ≤ 1048576) : EV 8 [.str s] [] = some (.ret (.bool true), []) := by
  have hw := ev_awake14
  rw [EV_mki rfl Tryz.func8 rfl (by kernel_rfl) rfl]
  by_cases h9 : 900 < (s.length : Int)
  · simp [Tryz.f8, Tryz.ti3, Tryz.ti4, Tryz.ti9, Tryz.ti22, Tryz.ti23, Tryz.ti24, Tryz.ti25, Tryz.ti26, Tryz.ti28, Tryz.ti31, Tryz.ti32, Tryz.ti33, Tryz.ti34, Tryz.ti36, Tryz.ti44, Tryz.ti46, Tryz.ti50, Tryz.ti56, Tryz.ti58, Tryz.ti80, Tryz.ti82, Tryz.ti84, Tryz.ti85, Tryz.ti94, hw, h9] <;> first | (refine panQ_of ?_; decide +kernel) | (change _ = true; decide +kernel) | kernel_rfl | (refine ⟨?_, ?_⟩ <;> first | (change _ = true; decide +kernel) | kernel_rfl)
  have h1 := ev_pparse s
  unfold stmO errV at h1
  rcases parse_inv s with ⟨k, q, hk, hp⟩ | ⟨x, l, r, hp, hl2, ht, hP, hk, hR⟩
  · rw [hp] at h1
    have hz : Stm.zero.ok := ⟨zb_ok, by simp, trivial⟩
    have h2 := ev_plainstm Stm.zero hz
    have h3 := same_self Stm.zero hz
    simp only [Stm.zero, senc_mk, StB.zero, List.map_nil] at h1 h2 h3
    simp [Tryz.f8, Tryz.ti3, Tryz.ti4, Tryz.ti9, Tryz.ti22, Tryz.ti23, Tryz.ti24, Tryz.ti25, Tryz.ti26, Tryz.ti28, Tryz.ti31, Tryz.ti32, Tryz.ti33, Tryz.ti34, Tryz.ti36, Tryz.ti44, Tryz.ti46, Tryz.ti50, Tryz.ti56, Tryz.ti58, Tryz.ti80, Tryz.ti82, Tryz.ti84, Tryz.ti85, Tryz.ti94, hw, h9, h1, hk, h2, h3] <;> first | (refine panQ_of ?_; decide +kernel) | (change _ = true; decide +kernel) | kernel_rfl | (refine ⟨?_, ?_⟩ <;> first | (change _ = true; decide +kernel) | kernel_rfl)
  · have hok : x.ok := by have := parse_okS s; rw [hp] at this; exact this
    rw [hp] at h1
    have h2 := ev_plainstm x hok
    have h3 := same_self x hok
    have h4 := ev_showstm x hok
    rw [if_pos hR] at h4
    have h5 := ev_pparse (showStm x)
    have h6 := ev_pparse (32 :: 10 :: (s ++ [9]))
    unfold stmO errV at h5 h6
    rw [parse_back hR hok] at h5
    rw [parse_pad (by omega) ht hP hk hR] at h6
    have hb1 : 2 + s.length ≤ 4611686018427387904 := by omega
    have hb2 : s.length + 1 + 1 + 1 ≤ 4611686018427387904 := by omega
    have hb3 : s.length + 3 ≤ 4611686018427387904 := by omega
    have hb4 : s.length + 2 + 1 ≤ 4611686018427387904 := by omega
    generalize showStm x = T at h4 h5
    obtain ⟨b, acts⟩ := x
    by_cases hl : 2000 < T.length
    · have hl' : 2000 < (T.length : Int) := by omega
      have hT : ¬ T = [] := by rintro rfl; simp at hl
      simp only [hl, if_true, Stm.zero] at h5
      rw [senc_mk] at h1 h2 h3 h4 h6
      rw [senc_mk] at h5
      simp [Tryz.f8, Tryz.ti3, Tryz.ti4, Tryz.ti9, Tryz.ti22, Tryz.ti23, Tryz.ti24, Tryz.ti25, Tryz.ti26, Tryz.ti28, Tryz.ti31, Tryz.ti32, Tryz.ti33, Tryz.ti34, Tryz.ti36, Tryz.ti44, Tryz.ti46, Tryz.ti50, Tryz.ti56, Tryz.ti58, Tryz.ti80, Tryz.ti82, Tryz.ti84, Tryz.ti85, Tryz.ti94, hw, h9, h1, h2, h3, h4, h5, h6, hl', hT, hb1, hb2, hb3, hb4, StB.zero] <;> first | (refine panQ_of ?_; decide +kernel) | (change _ = true; decide +kernel) | kernel_rfl | (refine ⟨?_, ?_⟩ <;> first | (change _ = true; decide +kernel) | kernel_rfl)
    · have hl' : ¬ 2000 < (T.length : Int) := by omega
      simp only [hl, if_false] at h5
      rw [senc_mk] at h1 h2 h3 h4 h5 h6
      simp [Tryz.f8, Tryz.ti3, Tryz.ti4, Tryz.ti9, Tryz.ti22, Tryz.ti23, Tryz.ti24, Tryz.ti25, Tryz.ti26, Tryz.ti28, Tryz.ti31, Tryz.ti32, Tryz.ti33, Tryz.ti34, Tryz.ti36, Tryz.ti44, Tryz.ti46, Tryz.ti50, Tryz.ti56, Tryz.ti58, Tryz.ti80, Tryz.ti82, Tryz.ti84, Tryz.ti85, Tryz.ti94, hw, h9, h1, h2, h3, h4, h5, h6, hl', hb1, hb2, hb3, hb4] <;> first | (refine panQ_of ?_; decide +kernel) | (change _ = true; decide +kernel) | kernel_rfl | (refine ⟨?_, ?_⟩ <;> first | (change _ = true; decide +kernel) | kernel_rfl)
end Go.Abs
