/- The program's reader: what is made, a statement. -/
import Derived.Test.YtpmeklllgnnffaaGreatDoorR23
set_option linter.unusedSimpArgs false
set_option linter.unusedVariables false

namespace Go.Abs
set_option linter.unusedSimpArgs false
set_option linter.unusedVariables false
open Go Go.Proofs
attribute [local simp] i_nil i_blk i_skip i_ret i_exit i_seq i_block i_cond i_region' i_ops_nil i_ops i_drawn' k_none k_0 k_1 k_2 k_3 k_4 k_5 d_in a_nil a_cons alt1 h_nil h_one h_two z_nil z_cons z_cells zeqL zeq q_alloc q_some nxtN i_drh d_hi i_drw_nil i_drw u_nil u_code u_ops u_drw u_lp u_again u_exit u_ret u_panic c_bool o_some o_val o_panic d_some d_val d_panic w_none w_fast wantG q_nil q_zero q_succ t_zero t_succ g_zero g_succ s_zero s_succ s_some s_none v_tmp v_const v_func f_quiet gc_none gc_pure wrap_i64 p_move p_assign p_pick p_alloc p_box p_build p_buildSlice p_load p_store p_nilCheck p_binOp n_tmp n_int n_bool n_str n_ptr n_fun n_iface nilCmp p_unOp p_convert p_makeSlice p_makeInterface p_makeFunc p_slice p_fieldAddr p_field p_indexAddr p_index p_extract p_callv p_callb p_panic quiet_val new_val e_assign e_call e_load e_store e_alloc e_box e_move e_pick e_build e_buildSlice e_nilCheck e_binOp e_unOp e_convert e_makeSlice e_makeInterface e_makeFunc e_slice e_fieldAddr e_field e_indexAddr e_index e_extract e_panic callD fpRead adoptZ fulls adopt adoptL ofValue ofScalar binOpV unOpV intBin strBin eqRes veq veqF eqDepth val? finish resL r_tmp r_cell normL normTop tipIs refsL refs ownRefs single frz frzL ren renL renOwn callOp doCall backR writeBack builtinV loadV storeV storeW iceT cellsAt takeV D.isAgg overlay vcells cellOk fieldAddrV indexAddrV fieldV partV indexV buildV fillV buildSliceV litElems appendV appElems elemOk convertV convV winStr makeSliceV sliceV natOf
attribute [local simp ↓] brB_true brB_false brB_dec brB_not brB_and brB_or brB_beq brB_bne
theorem oneOf_range {ss : List (List UInt8)} {l r : List Tok} {n : Nat} (h : oneOfP ss l = (some n, r)) : 1 ≤ n ∧ n ≤ ss.length := by
 have h2 := one_le ss l
 unfold oneOfP at h
 cases ho : oneP ss l with
 | mk k l' =>
  rw [ho] at h h2
  cases k with
  | zero => cases h
  | succ k => cases h; exact ⟨by omega, h2⟩
set_option maxRecDepth 100000 in
set_option maxHeartbeats 16000000 in
theorem ev_pcreate (r0 : List Tok) (e0 : Ends r0) (n0 : r0.length ≤ 100000) :
  prC (createP r0) nilV stmC (EV 106 [.box 0 0, .box 1 0] [[.slice .froz (r0.map Tok.enc)], stZ 0 [] .full]) := by
 rw [EV_mki0 rfl Tryz.func106 rfl (by kernel_rfl)]
 unfold createP whatP stZ
 have h0 := ev_oneOf [[84, 65, 66, 76, 69], [73, 78, 68, 69, 88], [82, 85, 76, 69]] (by simp) r0 e0
 simp only [List.map_cons, List.map_nil] at h0
 have kk0 := kp_oneOf [[84, 65, 66, 76, 69], [73, 78, 68, 69, 88], [82, 85, 76, 69]] r0
 cases hP0 : oneOfP [[84, 65, 66, 76, 69], [73, 78, 68, 69, 88], [82, 85, 76, 69]] r0 with
 | mk o r1 =>
  rw [hP0] at h0 kk0
  cases o with
  | none =>
   simp only [thenP, prO_none, prC_none, faultV, rdS] at h0 ⊢
   simp [Tryz.f106, Tryz.ti3, Tryz.ti4, Tryz.ti9, Tryz.ti22, Tryz.ti23, Tryz.ti24, Tryz.ti25, Tryz.ti26, Tryz.ti28, Tryz.ti44, Tryz.ti46, Tryz.ti80, Tryz.ti84, Tryz.ti94, Tryz.ti100, h0, nilV, stmC, StB.head, StB.zero, Stm.b, Stm.acts, gc, reach, reachFuel, shut, nodup, List.idxOf, List.findIdx, List.findIdx.go, backR, List.range, List.range.loop, -List.map_tail] <;> exact ⟨⟨_, _, _, _, _, _, _, _, _, _, _, _, _, _, _⟩, rfl⟩
  | some a0 =>
   simp only [thenP, prO_some, rdS] at h0 ⊢
   have e1 : Ends r1 := kk0.2 e0
   have n1 : r1.length ≤ 100000 := Nat.le_trans kk0.1 n0
   have hrg := oneOf_range hP0
   simp only [List.length_cons, List.length_nil] at hrg
   have h1 := ev_pname r1 e1
   have kk1 := kp_name r1
   cases hP1 : nameP r1 with
   | mk o r2 =>
    rw [hP1] at h1 kk1
    cases o with
    | none =>
     simp only [thenP, prO_none, prC_none, faultV, rdS] at h1 ⊢
     simp [Tryz.f106, Tryz.ti3, Tryz.ti4, Tryz.ti9, Tryz.ti22, Tryz.ti23, Tryz.ti24, Tryz.ti25, Tryz.ti26, Tryz.ti28, Tryz.ti44, Tryz.ti46, Tryz.ti80, Tryz.ti84, Tryz.ti94, Tryz.ti100, h0, h1, nilV, stmC, StB.head, StB.zero, Stm.b, Stm.acts, gc, reach, reachFuel, shut, nodup, List.idxOf, List.findIdx, List.findIdx.go, backR, List.range, List.range.loop, -List.map_tail] <;> exact ⟨⟨_, _, _, _, _, _, _, _, _, _, _, _, _, _, _⟩, rfl⟩
    | some a1 =>
     simp only [thenP, prO_some, rdS] at h1 ⊢
     have e2 : Ends r2 := kk1.2 e1
     have n2 : r2.length ≤ 100000 := Nat.le_trans kk1.1 n1
     have hcase : a0 = 1 ∨ a0 = 2 ∨ a0 = 3 := by omega
     rcases hcase with rfl | rfl | rfl
     ·simp only [reduceIte, Nat.reduceEqDiff] at ⊢
      try simp at h0
      have h2 := ev_must1 [40] r2 e2
      have kk2 := kp_need [40] r2
      cases hP2 : needP [40] r2 with
      | mk o r3 =>
       rw [hP2] at h2 kk2
       cases o with
       | none =>
        simp only [thenP, prO_none, prC_none, faultV, rdS] at h2 ⊢
        simp [Tryz.f106, Tryz.ti3, Tryz.ti4, Tryz.ti9, Tryz.ti22, Tryz.ti23, Tryz.ti24, Tryz.ti25, Tryz.ti26, Tryz.ti28, Tryz.ti44, Tryz.ti46, Tryz.ti80, Tryz.ti84, Tryz.ti94, Tryz.ti100, h0, h1, h2, nilV, stmC, StB.head, StB.zero, Stm.b, Stm.acts, gc, reach, reachFuel, shut, nodup, List.idxOf, List.findIdx, List.findIdx.go, backR, List.range, List.range.loop, -List.map_tail] <;> exact ⟨⟨_, _, _, _, _, _, _, _, _, _, _, _, _, _, _⟩, rfl⟩
       | some a2 =>
        simp only [thenP, prO_some, rdS] at h2 ⊢
        have e3 : Ends r3 := kk2.2 e2
        have n3 : r3.length ≤ 100000 := Nat.le_trans kk2.1 n2
        have h3 := ev_list_colP 151 columnP kp_column 100000 (fun l h _ => ev_pcolumn l h) r3 e3 n3 (by omega)
        have kk3 := kp_list kp_column (r3.length + 1) r3
        cases hP3 : listP columnP (r3.length + 1) r3 with
        | mk o r4 =>
         rw [hP3] at h3 kk3
         cases o with
         | none =>
          simp only [thenP, prL_none, prC_none, faultV, rdS] at h3 ⊢
          simp [Tryz.f106, Tryz.ti3, Tryz.ti4, Tryz.ti9, Tryz.ti22, Tryz.ti23, Tryz.ti24, Tryz.ti25, Tryz.ti26, Tryz.ti28, Tryz.ti44, Tryz.ti46, Tryz.ti80, Tryz.ti84, Tryz.ti94, Tryz.ti100, h0, h1, h2, h3, nilV, stmC, StB.head, StB.zero, Stm.b, Stm.acts, gc, reach, reachFuel, shut, nodup, List.idxOf, List.findIdx, List.findIdx.go, backR, List.range, List.range.loop, -List.map_tail] <;> exact ⟨⟨_, _, _, _, _, _, _, _, _, _, _, _, _, _, _⟩, rfl⟩
         | some a3 =>
          simp only [thenP, prL_some, rdS] at h3 ⊢
          have e4 : Ends r4 := kk3.2 e3
          have n4 : r4.length ≤ 100000 := Nat.le_trans kk3.1 n3
          have h4 := ev_must1 [41] r4 e4
          have kk4 := kp_need [41] r4
          cases hP4 : needP [41] r4 with
          | mk o r5 =>
           rw [hP4] at h4 kk4
           cases o with
           | none =>
            simp only [thenP, prO_none, prC_none, faultV, rdS] at h4 ⊢
            simp [Tryz.f106, Tryz.ti3, Tryz.ti4, Tryz.ti9, Tryz.ti22, Tryz.ti23, Tryz.ti24, Tryz.ti25, Tryz.ti26, Tryz.ti28, Tryz.ti44, Tryz.ti46, Tryz.ti80, Tryz.ti84, Tryz.ti94, Tryz.ti100, h0, h1, h2, h3, h4, nilV, stmC, StB.head, StB.zero, Stm.b, Stm.acts, gc, reach, reachFuel, shut, nodup, List.idxOf, List.findIdx, List.findIdx.go, backR, List.range, List.range.loop, -List.map_tail] <;> exact ⟨⟨_, _, _, _, _, _, _, _, _, _, _, _, _, _, _⟩, rfl⟩
           | some a4 =>
            simp only [thenP, prO_some, rdS] at h4 ⊢
            have e5 : Ends r5 := kk4.2 e4
            have n5 : r5.length ≤ 100000 := Nat.le_trans kk4.1 n4
            try simp only [prC_some]
            simp [Tryz.f106, Tryz.ti3, Tryz.ti4, Tryz.ti9, Tryz.ti22, Tryz.ti23, Tryz.ti24, Tryz.ti25, Tryz.ti26, Tryz.ti28, Tryz.ti44, Tryz.ti46, Tryz.ti80, Tryz.ti84, Tryz.ti94, Tryz.ti100, h0, h1, h2, h3, h4, nilV, stmC, StB.head, StB.zero, Stm.b, Stm.acts, iceO, iceF, keepI, gc, reach, reachFuel, shut, nodup, List.idxOf, List.findIdx, List.findIdx.go, backR, List.range, List.range.loop, -List.map_tail]
     ·simp only [reduceIte, Nat.reduceEqDiff] at ⊢
      try simp at h0
      have h2 := ev_must1 [79, 78] r2 e2
      have kk2 := kp_need [79, 78] r2
      cases hP2 : needP [79, 78] r2 with
      | mk o r3 =>
       rw [hP2] at h2 kk2
       cases o with
       | none =>
        simp only [thenP, prO_none, prC_none, faultV, rdS] at h2 ⊢
        simp [Tryz.f106, Tryz.ti3, Tryz.ti4, Tryz.ti9, Tryz.ti22, Tryz.ti23, Tryz.ti24, Tryz.ti25, Tryz.ti26, Tryz.ti28, Tryz.ti44, Tryz.ti46, Tryz.ti80, Tryz.ti84, Tryz.ti94, Tryz.ti100, h0, h1, h2, nilV, stmC, StB.head, StB.zero, Stm.b, Stm.acts, gc, reach, reachFuel, shut, nodup, List.idxOf, List.findIdx, List.findIdx.go, backR, List.range, List.range.loop, -List.map_tail] <;> exact ⟨⟨_, _, _, _, _, _, _, _, _, _, _, _, _, _, _⟩, rfl⟩
       | some a2 =>
        simp only [thenP, prO_some, rdS] at h2 ⊢
        have e3 : Ends r3 := kk2.2 e2
        have n3 : r3.length ≤ 100000 := Nat.le_trans kk2.1 n2
        have h3 := ev_pname r3 e3
        have kk3 := kp_name r3
        cases hP3 : nameP r3 with
        | mk o r4 =>
         rw [hP3] at h3 kk3
         cases o with
         | none =>
          simp only [thenP, prO_none, prC_none, faultV, rdS] at h3 ⊢
          simp [Tryz.f106, Tryz.ti3, Tryz.ti4, Tryz.ti9, Tryz.ti22, Tryz.ti23, Tryz.ti24, Tryz.ti25, Tryz.ti26, Tryz.ti28, Tryz.ti44, Tryz.ti46, Tryz.ti80, Tryz.ti84, Tryz.ti94, Tryz.ti100, h0, h1, h2, h3, nilV, stmC, StB.head, StB.zero, Stm.b, Stm.acts, gc, reach, reachFuel, shut, nodup, List.idxOf, List.findIdx, List.findIdx.go, backR, List.range, List.range.loop, -List.map_tail] <;> exact ⟨⟨_, _, _, _, _, _, _, _, _, _, _, _, _, _, _⟩, rfl⟩
         | some a3 =>
          simp only [thenP, prO_some, rdS] at h3 ⊢
          have e4 : Ends r4 := kk3.2 e3
          have n4 : r4.length ≤ 100000 := Nat.le_trans kk3.1 n3
          have h4 := ev_must1 [40] r4 e4
          have kk4 := kp_need [40] r4
          cases hP4 : needP [40] r4 with
          | mk o r5 =>
           rw [hP4] at h4 kk4
           cases o with
           | none =>
            simp only [thenP, prO_none, prC_none, faultV, rdS] at h4 ⊢
            simp [Tryz.f106, Tryz.ti3, Tryz.ti4, Tryz.ti9, Tryz.ti22, Tryz.ti23, Tryz.ti24, Tryz.ti25, Tryz.ti26, Tryz.ti28, Tryz.ti44, Tryz.ti46, Tryz.ti80, Tryz.ti84, Tryz.ti94, Tryz.ti100, h0, h1, h2, h3, h4, nilV, stmC, StB.head, StB.zero, Stm.b, Stm.acts, gc, reach, reachFuel, shut, nodup, List.idxOf, List.findIdx, List.findIdx.go, backR, List.range, List.range.loop, -List.map_tail] <;> exact ⟨⟨_, _, _, _, _, _, _, _, _, _, _, _, _, _, _⟩, rfl⟩
           | some a4 =>
            simp only [thenP, prO_some, rdS] at h4 ⊢
            have e5 : Ends r5 := kk4.2 e4
            have n5 : r5.length ≤ 100000 := Nat.le_trans kk4.1 n4
            have h5 := ev_pname r5 e5
            have kk5 := kp_name r5
            cases hP5 : nameP r5 with
            | mk o r6 =>
             rw [hP5] at h5 kk5
             cases o with
             | none =>
              simp only [thenP, prO_none, prC_none, faultV, rdS] at h5 ⊢
              simp [Tryz.f106, Tryz.ti3, Tryz.ti4, Tryz.ti9, Tryz.ti22, Tryz.ti23, Tryz.ti24, Tryz.ti25, Tryz.ti26, Tryz.ti28, Tryz.ti44, Tryz.ti46, Tryz.ti80, Tryz.ti84, Tryz.ti94, Tryz.ti100, h0, h1, h2, h3, h4, h5, nilV, stmC, StB.head, StB.zero, Stm.b, Stm.acts, gc, reach, reachFuel, shut, nodup, List.idxOf, List.findIdx, List.findIdx.go, backR, List.range, List.range.loop, -List.map_tail] <;> exact ⟨⟨_, _, _, _, _, _, _, _, _, _, _, _, _, _, _⟩, rfl⟩
             | some a5 =>
              simp only [thenP, prO_some, rdS] at h5 ⊢
              have e6 : Ends r6 := kk5.2 e5
              have n6 : r6.length ≤ 100000 := Nat.le_trans kk5.1 n5
              have h6 := ev_must1 [41] r6 e6
              have kk6 := kp_need [41] r6
              cases hP6 : needP [41] r6 with
              | mk o r7 =>
               rw [hP6] at h6 kk6
               cases o with
               | none =>
                simp only [thenP, prO_none, prC_none, faultV, rdS] at h6 ⊢
                simp [Tryz.f106, Tryz.ti3, Tryz.ti4, Tryz.ti9, Tryz.ti22, Tryz.ti23, Tryz.ti24, Tryz.ti25, Tryz.ti26, Tryz.ti28, Tryz.ti44, Tryz.ti46, Tryz.ti80, Tryz.ti84, Tryz.ti94, Tryz.ti100, h0, h1, h2, h3, h4, h5, h6, nilV, stmC, StB.head, StB.zero, Stm.b, Stm.acts, gc, reach, reachFuel, shut, nodup, List.idxOf, List.findIdx, List.findIdx.go, backR, List.range, List.range.loop, -List.map_tail] <;> exact ⟨⟨_, _, _, _, _, _, _, _, _, _, _, _, _, _, _⟩, rfl⟩
               | some a6 =>
                simp only [thenP, prO_some, rdS] at h6 ⊢
                have e7 : Ends r7 := kk6.2 e6
                have n7 : r7.length ≤ 100000 := Nat.le_trans kk6.1 n6
                try simp only [prC_some]
                simp [Tryz.f106, Tryz.ti3, Tryz.ti4, Tryz.ti9, Tryz.ti22, Tryz.ti23, Tryz.ti24, Tryz.ti25, Tryz.ti26, Tryz.ti28, Tryz.ti44, Tryz.ti46, Tryz.ti80, Tryz.ti84, Tryz.ti94, Tryz.ti100, h0, h1, h2, h3, h4, h5, h6, nilV, stmC, StB.head, StB.zero, Stm.b, Stm.acts, iceO, iceF, keepI, gc, reach, reachFuel, shut, nodup, List.idxOf, List.findIdx, List.findIdx.go, backR, List.range, List.range.loop, -List.map_tail]
     ·simp only [reduceIte, Nat.reduceEqDiff] at ⊢
      try simp at h0
      have h2 := ev_prule a1 r2 e2 n2
      unfold stN at h2
      cases hP2 : ruleP a1 r2 with
      | mk o rx =>
       rw [hP2] at h2
       cases o with
       | none =>
        rw [prC_none] at h2
        obtain ⟨q, hq⟩ := h2
        simp only [prC_none, faultV, PC.cells] at hq ⊢
        simp [Tryz.f106, Tryz.ti3, Tryz.ti4, Tryz.ti9, Tryz.ti22, Tryz.ti23, Tryz.ti24, Tryz.ti25, Tryz.ti26, Tryz.ti28, Tryz.ti44, Tryz.ti46, Tryz.ti80, Tryz.ti84, Tryz.ti94, Tryz.ti100, h0, h1, hq, nilV, stmC, StB.head, StB.zero, Stm.b, Stm.acts, gc, reach, reachFuel, shut, nodup, List.idxOf, List.findIdx, List.findIdx.go, backR, List.range, List.range.loop, -List.map_tail] <;> exact ⟨⟨_, _, _, _, _, _, _, _, _, _, _, _, _, _, _⟩, rfl⟩
       | some s =>
        obtain ⟨⟨kind, name, table, col, cols, values, items, wher, sets, src, prio, event, deferred, rolls⟩, acts⟩ := s
        simp only [prC_some, nilV, stmC, StB.head, Stm.b, Stm.acts, List.cons_append, List.nil_append] at h2 ⊢
        simp [Tryz.f106, Tryz.ti3, Tryz.ti4, Tryz.ti9, Tryz.ti22, Tryz.ti23, Tryz.ti24, Tryz.ti25, Tryz.ti26, Tryz.ti28, Tryz.ti44, Tryz.ti46, Tryz.ti80, Tryz.ti84, Tryz.ti94, Tryz.ti100, h0, h1, h2, nilV, stmC, StB.head, StB.zero, Stm.b, Stm.acts, iceO, iceF, keepI, gc, reach, reachFuel, shut, nodup, List.idxOf, List.findIdx, List.findIdx.go, backR, List.range, List.range.loop, -List.map_tail]
set_option maxRecDepth 100000 in
set_option maxHeartbeats 16000000 in
theorem ev_pstmt (r0 : List Tok) (e0 : Ends r0) (n0 : r0.length ≤ 100000) :
  EV 71 [.box 0 0] [[.slice .froz (r0.map Tok.enc)]] = prO Stm.enc (stmtP r0) := by
 rw [EV_mki rfl Tryz.func71 rfl (by kernel_rfl) rfl]
 unfold stmtP
 have ha := ev_pact r0 e0 n0
 have ka := kp_act r0
 unfold stZ at ha
 cases hA : actP r0 with
 | mk o r1 =>
  rw [hA] at ha ka
  cases o with
  | none =>
   rw [prC_none] at ha
   obtain ⟨q, hq⟩ := ha
   simp only [thenP, prO_none, faultV, PC.cells, rdS] at hq ⊢
   simp [Tryz.f71, Tryz.ti3, Tryz.ti4, Tryz.ti9, Tryz.ti22, Tryz.ti23, Tryz.ti24, Tryz.ti25, Tryz.ti26, Tryz.ti28, Tryz.ti44, Tryz.ti46, Tryz.ti80, Tryz.ti84, Tryz.ti94, Tryz.ti100, hq, nilV, stmC, StB.head, StB.zero, Stm.b, Stm.acts, gc, reach, reachFuel, shut, nodup, List.idxOf, List.findIdx, List.findIdx.go, backR, List.range, List.range.loop, -List.map_tail, senc_mk, StB.zero]
  | some o =>
   rw [prC_some] at ha
   have e1 : Ends r1 := ka.2 e0
   have n1 : r1.length ≤ 100000 := Nat.le_trans ka.1 n0
   simp only [thenP]
   cases o with
   | some b =>
    obtain ⟨kind, name, table, col, cols, values, items, wher, sets, src, prio, event, deferred, rolls⟩ := b
    simp only [actV, actC, StB.head, Option.isSome, List.cons_append, List.nil_append, prO_some, rdS] at ha ⊢
    simp [Tryz.f71, Tryz.ti3, Tryz.ti4, Tryz.ti9, Tryz.ti22, Tryz.ti23, Tryz.ti24, Tryz.ti25, Tryz.ti26, Tryz.ti28, Tryz.ti44, Tryz.ti46, Tryz.ti80, Tryz.ti84, Tryz.ti94, Tryz.ti100, ha, nilV, stmC, StB.head, StB.zero, Stm.b, Stm.acts, gc, reach, reachFuel, shut, nodup, List.idxOf, List.findIdx, List.findIdx.go, backR, List.range, List.range.loop, -List.map_tail, senc_mk, StB.zero]
   | none =>
    simp only [actV, actC, stZ, Option.isSome] at ha
    have hsel : EV 101 [.box 0 0, .str [83, 69, 76, 69, 67, 84]] (rdS r1) = some (.ret (.bool (isT [83, 69, 76, 69, 67, 84] r1)), rdS r1) := by
     obtain ⟨t, q, rfl⟩ := ends_cons e1
     exact ev_is t q [83, 69, 76, 69, 67, 84]
    simp only [rdS] at hsel
    cases hS : isT [83, 69, 76, 69, 67, 84] r1
    rotate_left
    ·rw [hS] at hsel
     simp only [if_true]
     have hq := ev_pqueryF 15 [] r1 e1 n1
     unfold stZ at hq
     cases hQ : queryP r1 with
     | mk o r2 =>
      rw [hQ] at hq
      cases o with
      | none =>
       rw [prC_none] at hq
       obtain ⟨q, hq⟩ := hq
       simp only [thenP, prO_none, faultV, PC.cells, rdS] at hq ⊢
       simp [Tryz.f71, Tryz.ti3, Tryz.ti4, Tryz.ti9, Tryz.ti22, Tryz.ti23, Tryz.ti24, Tryz.ti25, Tryz.ti26, Tryz.ti28, Tryz.ti44, Tryz.ti46, Tryz.ti80, Tryz.ti84, Tryz.ti94, Tryz.ti100, ha, hsel, hq, nilV, stmC, StB.head, StB.zero, Stm.b, Stm.acts, gc, reach, reachFuel, shut, nodup, List.idxOf, List.findIdx, List.findIdx.go, backR, List.range, List.range.loop, -List.map_tail, senc_mk, StB.zero]
      | some q =>
       obtain ⟨qi, qs, qw⟩ := q
       simp only [thenP, prC_some, nilV, qryC, prO_some, rdS] at hq ⊢
       simp [Tryz.f71, Tryz.ti3, Tryz.ti4, Tryz.ti9, Tryz.ti22, Tryz.ti23, Tryz.ti24, Tryz.ti25, Tryz.ti26, Tryz.ti28, Tryz.ti44, Tryz.ti46, Tryz.ti80, Tryz.ti84, Tryz.ti94, Tryz.ti100, ha, hsel, hq, nilV, stmC, StB.head, StB.zero, Stm.b, Stm.acts, gc, reach, reachFuel, shut, nodup, List.idxOf, List.findIdx, List.findIdx.go, backR, List.range, List.range.loop, -List.map_tail, senc_mk, StB.zero]
    rw [hS] at hsel
    simp only [Bool.false_eq_true, if_false]
    have h1 := ev_oneOf [[66, 69, 71, 73, 78], [67, 79, 77, 77, 73, 84], [65, 66, 79, 82, 84], [83, 65, 86, 69, 80, 79, 73, 78, 84], [82, 79, 76, 76, 66, 65, 67, 75], [67, 82, 69, 65, 84, 69], [68, 82, 79, 80]] (by simp) r1 e1
    simp only [List.map_cons, List.map_nil] at h1
    have kk1 := kp_oneOf [[66, 69, 71, 73, 78], [67, 79, 77, 77, 73, 84], [65, 66, 79, 82, 84], [83, 65, 86, 69, 80, 79, 73, 78, 84], [82, 79, 76, 76, 66, 65, 67, 75], [67, 82, 69, 65, 84, 69], [68, 82, 79, 80]] r1
    cases hP1 : oneOfP [[66, 69, 71, 73, 78], [67, 79, 77, 77, 73, 84], [65, 66, 79, 82, 84], [83, 65, 86, 69, 80, 79, 73, 78, 84], [82, 79, 76, 76, 66, 65, 67, 75], [67, 82, 69, 65, 84, 69], [68, 82, 79, 80]] r1 with
    | mk o r2 =>
     rw [hP1] at h1 kk1
     cases o with
     | none =>
      simp only [thenP, prO_none, prO_none, faultV, rdS] at h1 ⊢
      simp [Tryz.f71, Tryz.ti3, Tryz.ti4, Tryz.ti9, Tryz.ti22, Tryz.ti23, Tryz.ti24, Tryz.ti25, Tryz.ti26, Tryz.ti28, Tryz.ti44, Tryz.ti46, Tryz.ti80, Tryz.ti84, Tryz.ti94, Tryz.ti100, ha, hsel, h1, nilV, stmC, StB.head, StB.zero, Stm.b, Stm.acts, gc, reach, reachFuel, shut, nodup, List.idxOf, List.findIdx, List.findIdx.go, backR, List.range, List.range.loop, -List.map_tail, senc_mk, StB.zero]
     | some a1 =>
      simp only [thenP, prO_some, rdS] at h1 ⊢
      have e2 : Ends r2 := kk1.2 e1
      have n2 : r2.length ≤ 100000 := Nat.le_trans kk1.1 n1
      have hrg := oneOf_range hP1
      simp only [List.length_cons, List.length_nil] at hrg
      have hcase : a1 = 1 ∨ a1 = 2 ∨ a1 = 3 ∨ a1 = 4 ∨ a1 = 5 ∨ a1 = 6 ∨ a1 = 7 := by omega
      unfold smallP
      rcases hcase with rfl | rfl | rfl | rfl | rfl | rfl | rfl
      ·simp only [reduceIte, Nat.reduceEqDiff, Nat.reduceLeDiff] at ⊢
       try simp at h1
       try simp only [prO_some]
       simp [Tryz.f71, Tryz.ti3, Tryz.ti4, Tryz.ti9, Tryz.ti22, Tryz.ti23, Tryz.ti24, Tryz.ti25, Tryz.ti26, Tryz.ti28, Tryz.ti44, Tryz.ti46, Tryz.ti80, Tryz.ti84, Tryz.ti94, Tryz.ti100, ha, hsel, h1, nilV, stmC, StB.head, StB.zero, Stm.b, Stm.acts, gc, reach, reachFuel, shut, nodup, List.idxOf, List.findIdx, List.findIdx.go, backR, List.range, List.range.loop, -List.map_tail, senc_mk, StB.zero]
      ·simp only [reduceIte, Nat.reduceEqDiff, Nat.reduceLeDiff] at ⊢
       try simp at h1
       try simp only [prO_some]
       simp [Tryz.f71, Tryz.ti3, Tryz.ti4, Tryz.ti9, Tryz.ti22, Tryz.ti23, Tryz.ti24, Tryz.ti25, Tryz.ti26, Tryz.ti28, Tryz.ti44, Tryz.ti46, Tryz.ti80, Tryz.ti84, Tryz.ti94, Tryz.ti100, ha, hsel, h1, nilV, stmC, StB.head, StB.zero, Stm.b, Stm.acts, gc, reach, reachFuel, shut, nodup, List.idxOf, List.findIdx, List.findIdx.go, backR, List.range, List.range.loop, -List.map_tail, senc_mk, StB.zero]
      ·simp only [reduceIte, Nat.reduceEqDiff, Nat.reduceLeDiff] at ⊢
       try simp at h1
       try simp only [prO_some]
       simp [Tryz.f71, Tryz.ti3, Tryz.ti4, Tryz.ti9, Tryz.ti22, Tryz.ti23, Tryz.ti24, Tryz.ti25, Tryz.ti26, Tryz.ti28, Tryz.ti44, Tryz.ti46, Tryz.ti80, Tryz.ti84, Tryz.ti94, Tryz.ti100, ha, hsel, h1, nilV, stmC, StB.head, StB.zero, Stm.b, Stm.acts, gc, reach, reachFuel, shut, nodup, List.idxOf, List.findIdx, List.findIdx.go, backR, List.range, List.range.loop, -List.map_tail, senc_mk, StB.zero]
      ·simp only [reduceIte, Nat.reduceEqDiff, Nat.reduceLeDiff] at ⊢
       try simp at h1
       have h2 := ev_pname r2 e2
       have kk2 := kp_name r2
       cases hP2 : nameP r2 with
       | mk o r3 =>
        rw [hP2] at h2 kk2
        cases o with
        | none =>
         simp only [thenP, prO_none, prO_none, faultV, rdS] at h2 ⊢
         simp [Tryz.f71, Tryz.ti3, Tryz.ti4, Tryz.ti9, Tryz.ti22, Tryz.ti23, Tryz.ti24, Tryz.ti25, Tryz.ti26, Tryz.ti28, Tryz.ti44, Tryz.ti46, Tryz.ti80, Tryz.ti84, Tryz.ti94, Tryz.ti100, ha, hsel, h1, h2, nilV, stmC, StB.head, StB.zero, Stm.b, Stm.acts, gc, reach, reachFuel, shut, nodup, List.idxOf, List.findIdx, List.findIdx.go, backR, List.range, List.range.loop, -List.map_tail, senc_mk, StB.zero]
        | some a2 =>
         simp only [thenP, prO_some, rdS] at h2 ⊢
         have e3 : Ends r3 := kk2.2 e2
         have n3 : r3.length ≤ 100000 := Nat.le_trans kk2.1 n2
         try simp only [prO_some]
         simp [Tryz.f71, Tryz.ti3, Tryz.ti4, Tryz.ti9, Tryz.ti22, Tryz.ti23, Tryz.ti24, Tryz.ti25, Tryz.ti26, Tryz.ti28, Tryz.ti44, Tryz.ti46, Tryz.ti80, Tryz.ti84, Tryz.ti94, Tryz.ti100, ha, hsel, h1, h2, nilV, stmC, StB.head, StB.zero, Stm.b, Stm.acts, gc, reach, reachFuel, shut, nodup, List.idxOf, List.findIdx, List.findIdx.go, backR, List.range, List.range.loop, -List.map_tail, senc_mk, StB.zero]
      ·simp only [reduceIte, Nat.reduceEqDiff, Nat.reduceLeDiff] at ⊢
       try simp at h1
       have h2 := ev_must1 [84, 79] r2 e2
       have kk2 := kp_need [84, 79] r2
       cases hP2 : needP [84, 79] r2 with
       | mk o r3 =>
        rw [hP2] at h2 kk2
        cases o with
        | none =>
         simp only [thenP, prO_none, prO_none, faultV, rdS] at h2 ⊢
         simp [Tryz.f71, Tryz.ti3, Tryz.ti4, Tryz.ti9, Tryz.ti22, Tryz.ti23, Tryz.ti24, Tryz.ti25, Tryz.ti26, Tryz.ti28, Tryz.ti44, Tryz.ti46, Tryz.ti80, Tryz.ti84, Tryz.ti94, Tryz.ti100, ha, hsel, h1, h2, nilV, stmC, StB.head, StB.zero, Stm.b, Stm.acts, gc, reach, reachFuel, shut, nodup, List.idxOf, List.findIdx, List.findIdx.go, backR, List.range, List.range.loop, -List.map_tail, senc_mk, StB.zero]
        | some a2 =>
         simp only [thenP, prO_some, rdS] at h2 ⊢
         have e3 : Ends r3 := kk2.2 e2
         have n3 : r3.length ≤ 100000 := Nat.le_trans kk2.1 n2
         have h3 := ev_pname r3 e3
         have kk3 := kp_name r3
         cases hP3 : nameP r3 with
         | mk o r4 =>
          rw [hP3] at h3 kk3
          cases o with
          | none =>
           simp only [thenP, prO_none, prO_none, faultV, rdS] at h3 ⊢
           simp [Tryz.f71, Tryz.ti3, Tryz.ti4, Tryz.ti9, Tryz.ti22, Tryz.ti23, Tryz.ti24, Tryz.ti25, Tryz.ti26, Tryz.ti28, Tryz.ti44, Tryz.ti46, Tryz.ti80, Tryz.ti84, Tryz.ti94, Tryz.ti100, ha, hsel, h1, h2, h3, nilV, stmC, StB.head, StB.zero, Stm.b, Stm.acts, gc, reach, reachFuel, shut, nodup, List.idxOf, List.findIdx, List.findIdx.go, backR, List.range, List.range.loop, -List.map_tail, senc_mk, StB.zero]
          | some a3 =>
           simp only [thenP, prO_some, rdS] at h3 ⊢
           have e4 : Ends r4 := kk3.2 e3
           have n4 : r4.length ≤ 100000 := Nat.le_trans kk3.1 n3
           try simp only [prO_some]
           simp [Tryz.f71, Tryz.ti3, Tryz.ti4, Tryz.ti9, Tryz.ti22, Tryz.ti23, Tryz.ti24, Tryz.ti25, Tryz.ti26, Tryz.ti28, Tryz.ti44, Tryz.ti46, Tryz.ti80, Tryz.ti84, Tryz.ti94, Tryz.ti100, ha, hsel, h1, h2, h3, nilV, stmC, StB.head, StB.zero, Stm.b, Stm.acts, gc, reach, reachFuel, shut, nodup, List.idxOf, List.findIdx, List.findIdx.go, backR, List.range, List.range.loop, -List.map_tail, senc_mk, StB.zero]
      ·simp only [reduceIte, Nat.reduceEqDiff, Nat.reduceLeDiff] at ⊢
       try simp at h1
       have h2 := ev_pcreate r2 e2 n2
       unfold stZ at h2
       cases hP2 : createP r2 with
       | mk o rx =>
        rw [hP2] at h2
        cases o with
        | none =>
         rw [prC_none] at h2
         obtain ⟨q, hq⟩ := h2
         simp only [prO_none, faultV, PC.cells, rdS] at hq ⊢
         simp [Tryz.f71, Tryz.ti3, Tryz.ti4, Tryz.ti9, Tryz.ti22, Tryz.ti23, Tryz.ti24, Tryz.ti25, Tryz.ti26, Tryz.ti28, Tryz.ti44, Tryz.ti46, Tryz.ti80, Tryz.ti84, Tryz.ti94, Tryz.ti100, ha, hsel, h1, hq, nilV, stmC, StB.head, StB.zero, Stm.b, Stm.acts, gc, reach, reachFuel, shut, nodup, List.idxOf, List.findIdx, List.findIdx.go, backR, List.range, List.range.loop, -List.map_tail, senc_mk, StB.zero]
        | some s =>
         obtain ⟨⟨kind, name, table, col, cols, values, items, wher, sets, src, prio, event, deferred, rolls⟩, acts⟩ := s
         simp only [prC_some, prO_some, nilV, stmC, StB.head, Stm.b, Stm.acts, List.cons_append, List.nil_append, rdS] at h2 ⊢
         simp [Tryz.f71, Tryz.ti3, Tryz.ti4, Tryz.ti9, Tryz.ti22, Tryz.ti23, Tryz.ti24, Tryz.ti25, Tryz.ti26, Tryz.ti28, Tryz.ti44, Tryz.ti46, Tryz.ti80, Tryz.ti84, Tryz.ti94, Tryz.ti100, ha, hsel, h1, h2, nilV, stmC, StB.head, StB.zero, Stm.b, Stm.acts, gc, reach, reachFuel, shut, nodup, List.idxOf, List.findIdx, List.findIdx.go, backR, List.range, List.range.loop, -List.map_tail, senc_mk, StB.zero]
      ·simp only [reduceIte, Nat.reduceEqDiff, Nat.reduceLeDiff] at ⊢
       try simp at h1
       unfold dropP whatP
       have h2 := ev_oneOf [[84, 65, 66, 76, 69], [73, 78, 68, 69, 88], [82, 85, 76, 69]] (by simp) r2 e2
       simp only [List.map_cons, List.map_nil] at h2
       have kk2 := kp_oneOf [[84, 65, 66, 76, 69], [73, 78, 68, 69, 88], [82, 85, 76, 69]] r2
       cases hP2 : oneOfP [[84, 65, 66, 76, 69], [73, 78, 68, 69, 88], [82, 85, 76, 69]] r2 with
       | mk o r3 =>
        rw [hP2] at h2 kk2
        cases o with
        | none =>
         simp only [thenP, prO_none, prO_none, faultV, rdS] at h2 ⊢
         simp [Tryz.f71, Tryz.ti3, Tryz.ti4, Tryz.ti9, Tryz.ti22, Tryz.ti23, Tryz.ti24, Tryz.ti25, Tryz.ti26, Tryz.ti28, Tryz.ti44, Tryz.ti46, Tryz.ti80, Tryz.ti84, Tryz.ti94, Tryz.ti100, ha, hsel, h1, h2, nilV, stmC, StB.head, StB.zero, Stm.b, Stm.acts, gc, reach, reachFuel, shut, nodup, List.idxOf, List.findIdx, List.findIdx.go, backR, List.range, List.range.loop, -List.map_tail, senc_mk, StB.zero]
        | some a2 =>
         simp only [thenP, prO_some, rdS] at h2 ⊢
         have e3 : Ends r3 := kk2.2 e2
         have n3 : r3.length ≤ 100000 := Nat.le_trans kk2.1 n2
         have hrg2 := oneOf_range hP2
         simp only [List.length_cons, List.length_nil] at hrg2
         have h3 := ev_pname r3 e3
         have kk3 := kp_name r3
         cases hP3 : nameP r3 with
         | mk o r4 =>
          rw [hP3] at h3 kk3
          cases o with
          | none =>
           simp only [thenP, prO_none, prO_none, faultV, rdS] at h3 ⊢
           simp [Tryz.f71, Tryz.ti3, Tryz.ti4, Tryz.ti9, Tryz.ti22, Tryz.ti23, Tryz.ti24, Tryz.ti25, Tryz.ti26, Tryz.ti28, Tryz.ti44, Tryz.ti46, Tryz.ti80, Tryz.ti84, Tryz.ti94, Tryz.ti100, ha, hsel, h1, h2, h3, nilV, stmC, StB.head, StB.zero, Stm.b, Stm.acts, gc, reach, reachFuel, shut, nodup, List.idxOf, List.findIdx, List.findIdx.go, backR, List.range, List.range.loop, -List.map_tail, senc_mk, StB.zero]
          | some a3 =>
           simp only [thenP, prO_some, rdS] at h3 ⊢
           have e4 : Ends r4 := kk3.2 e3
           have n4 : r4.length ≤ 100000 := Nat.le_trans kk3.1 n3
           have hcase : a2 = 1 ∨ a2 = 2 ∨ a2 = 3 := by omega
           rcases hcase with rfl | rfl | rfl
           ·try simp at h2
            try simp only [prO_some]
            simp [Tryz.f71, Tryz.ti3, Tryz.ti4, Tryz.ti9, Tryz.ti22, Tryz.ti23, Tryz.ti24, Tryz.ti25, Tryz.ti26, Tryz.ti28, Tryz.ti44, Tryz.ti46, Tryz.ti80, Tryz.ti84, Tryz.ti94, Tryz.ti100, ha, hsel, h1, h2, h3, nilV, stmC, StB.head, StB.zero, Stm.b, Stm.acts, gc, reach, reachFuel, shut, nodup, List.idxOf, List.findIdx, List.findIdx.go, backR, List.range, List.range.loop, -List.map_tail, senc_mk, StB.zero]
           ·try simp at h2
            try simp only [prO_some]
            simp [Tryz.f71, Tryz.ti3, Tryz.ti4, Tryz.ti9, Tryz.ti22, Tryz.ti23, Tryz.ti24, Tryz.ti25, Tryz.ti26, Tryz.ti28, Tryz.ti44, Tryz.ti46, Tryz.ti80, Tryz.ti84, Tryz.ti94, Tryz.ti100, ha, hsel, h1, h2, h3, nilV, stmC, StB.head, StB.zero, Stm.b, Stm.acts, gc, reach, reachFuel, shut, nodup, List.idxOf, List.findIdx, List.findIdx.go, backR, List.range, List.range.loop, -List.map_tail, senc_mk, StB.zero]
           ·try simp at h2
            try simp only [prO_some]
            simp [Tryz.f71, Tryz.ti3, Tryz.ti4, Tryz.ti9, Tryz.ti22, Tryz.ti23, Tryz.ti24, Tryz.ti25, Tryz.ti26, Tryz.ti28, Tryz.ti44, Tryz.ti46, Tryz.ti80, Tryz.ti84, Tryz.ti94, Tryz.ti100, ha, hsel, h1, h2, h3, nilV, stmC, StB.head, StB.zero, Stm.b, Stm.acts, gc, reach, reachFuel, shut, nodup, List.idxOf, List.findIdx, List.findIdx.go, backR, List.range, List.range.loop, -List.map_tail, senc_mk, StB.zero]
end Go.Abs
