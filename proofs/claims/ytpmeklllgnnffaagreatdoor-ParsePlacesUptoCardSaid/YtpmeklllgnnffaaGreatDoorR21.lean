/- The program's reader: a query, an act. -/
import Derived.Test.YtpmeklllgnnffaaGreatDoorR20
set_option linter.unusedSimpArgs false
set_option linter.unusedVariables false

namespace Go.Abs
set_option linter.unusedSimpArgs false
set_option linter.unusedVariables false
open Go Go.Proofs
attribute [local simp] i_nil i_blk i_skip i_ret i_exit i_seq i_block i_cond i_region' i_ops_nil i_ops i_drawn' k_none k_0 k_1 k_2 k_3 k_4 k_5 d_in a_nil a_cons alt1 h_nil h_one h_two z_nil z_cons z_cells zeqL zeq q_alloc q_some nxtN i_drh d_hi i_drw_nil i_drw u_nil u_code u_ops u_drw u_lp u_again u_exit u_ret u_panic c_bool o_some o_val o_panic d_some d_val d_panic w_none w_fast wantG q_nil q_zero q_succ t_zero t_succ g_zero g_succ s_zero s_succ s_some s_none v_tmp v_const v_func f_quiet gc_none gc_pure wrap_i64 p_move p_assign p_pick p_alloc p_box p_build p_buildSlice p_load p_store p_nilCheck p_binOp n_tmp n_int n_bool n_str n_ptr n_fun n_iface nilCmp p_unOp p_convert p_makeSlice p_makeInterface p_makeFunc p_slice p_fieldAddr p_field p_indexAddr p_index p_extract p_callv p_callb p_panic quiet_val new_val e_assign e_call e_load e_store e_alloc e_box e_move e_pick e_build e_buildSlice e_nilCheck e_binOp e_unOp e_convert e_makeSlice e_makeInterface e_makeFunc e_slice e_fieldAddr e_field e_indexAddr e_index e_extract e_panic callD fpRead adoptZ fulls adopt adoptL ofValue ofScalar binOpV unOpV intBin strBin eqRes veq veqF eqDepth val? finish resL r_tmp r_cell normL normTop tipIs refsL refs ownRefs single frz frzL ren renL renOwn callOp doCall backR writeBack builtinV loadV storeV storeW iceT cellsAt takeV D.isAgg overlay vcells cellOk fieldAddrV indexAddrV fieldV partV indexV buildV fillV buildSliceV litElems appendV appElems elemOk convertV convV winStr makeSliceV sliceV natOf
attribute [local simp ↓] brB_true brB_false brB_dec brB_not brB_and brB_or brB_beq brB_bne
structure PC where
 (k : Int) (n t c : List UInt8) (a b d e f g : List V) (p v : Int) (x y : Bool) (h : List V)
def PC.cells (q : PC) : List V := [.int .i64 q.k, .str q.n, .str q.t, .str q.c, .slice .froz q.a, .slice .froz q.b, .slice .froz q.d, .slice .froz q.e, .slice .froz q.f, .slice .froz q.g,
 .int .i64 q.p, .int .i64 q.v, .bool q.x, .bool q.y, .slice .froz q.h]
def stZ (k : Int) (t : List UInt8) (o : Own) : List V := [.int .i64 k, .str [], .str t, .str [], .slice o [], .slice o [], .slice o [], .slice o [], .slice o [], .slice o [],
 .int .i64 0, .int .i64 0, .bool false, .bool false, .slice o []]
def prC {α : Type} (p : PR α) (v : α → V) (c : α → List V) (X : Option (Out × St)) : Prop :=
 match p with
 | (some a, r) => X = some (.ret (v a), [[.slice .froz (r.map Tok.enc)], c a])
 | (none, r) => ∃ q : PC, X = some (.panic (faultV (topAt r)), [[.slice .froz (r.map Tok.enc)], q.cells])
theorem prC_some {α : Type} (a : α) (r : List Tok) (v : α → V) (c : α → List V) (X : Option (Out × St)) : prC (some a, r) v c X = (X = some (.ret (v a), [[.slice .froz (r.map Tok.enc)], c a])) := rfl
theorem prC_none {α : Type} (r : List Tok) (v : α → V) (c : α → List V) (X : Option (Out × St)) : prC (none, r) v c X = ∃ q : PC, X = some (.panic (faultV (topAt r)), [[.slice .froz (r.map Tok.enc)], q.cells]) := rfl
def nilV {α : Type} (_ : α) : V := .tup []
def actV (o : Option StB) : V := .bool o.isSome
def actC : Option StB → List V
 | none => stZ 0 [] .full
 | some b => b.head ++ [.slice .froz []]
def qryC (k : Int) (t : List UInt8) (q : Qry) : List V := [.int .i64 k, .str [], .str t, .str [], .slice .froz [], .slice .froz [], .slice .froz (q.items.map Xp.enc), .slice .froz (q.wher.map Xp.enc), .slice .froz [], .slice .froz (q.src.map Src.enc),
 .int .i64 0, .int .i64 0, .bool false, .bool false, .slice .froz []]
set_option maxRecDepth 100000 in
set_option maxHeartbeats 8000000 in
theorem ev_pqueryF (k : Int) (t : List UInt8) (r0 : List Tok) (e0 : Ends r0) (n0 : r0.length ≤ 100000) :
  prC (queryP r0) nilV (qryC k t) (EV 102 [.box 0 0, .box 1 0] [[.slice .froz (r0.map Tok.enc)], stZ k t .full]) := by
 rw [EV_mki0 rfl Tryz.func102 rfl (by kernel_rfl)]
 unfold queryP itemsP stZ
 have h0 := ev_must1 [83, 69, 76, 69, 67, 84] r0 e0
 have kk0 := kp_need [83, 69, 76, 69, 67, 84] r0
 cases hP0 : needP [83, 69, 76, 69, 67, 84] r0 with
 | mk o r1 =>
  rw [hP0] at h0 kk0
  cases o with
  | none =>
   simp only [thenP, prO_none, prC_none, faultV, rdS] at h0 ⊢
   simp [Tryz.f102, Tryz.ti3, Tryz.ti4, Tryz.ti9, Tryz.ti22, Tryz.ti23, Tryz.ti24, Tryz.ti25, Tryz.ti26, Tryz.ti28, Tryz.ti44, Tryz.ti46, Tryz.ti80, Tryz.ti84, Tryz.ti94, Tryz.ti100, h0, nilV, qryC, Qry.items, Qry.src, Qry.wher, gc, reach, reachFuel, shut, nodup, List.idxOf, List.findIdx, List.findIdx.go, backR, List.range, List.range.loop, -List.map_tail] <;> exact ⟨⟨_, _, _, _, _, _, _, _, _, _, _, _, _, _, _⟩, rfl⟩
  | some a0 =>
   simp only [thenP, prO_some, rdS] at h0 ⊢
   have e1 : Ends r1 := kk0.2 e0
   have n1 : r1.length ≤ 100000 := Nat.le_trans kk0.1 n0
   have hm1 := ev_maybe [42] r1 e1
   unfold maybeP at hm1
   cases hi1 : isT [42] r1
   ·rw [hi1] at hm1
    simp only [Bool.false_eq_true, if_false, rdS] at hm1 ⊢
    have h1 := ev_list_xpP 79 exprP kp_expr 100000 (fun l h _ => ev_or l h) r1 e1 n1 (by omega)
    have kk1 := kp_list kp_expr (r1.length + 1) r1
    cases hP1 : listP exprP (r1.length + 1) r1 with
    | mk o r2 =>
     rw [hP1] at h1 kk1
     cases o with
     | none =>
      simp only [thenP, prL_none, prC_none, faultV, rdS] at h1 ⊢
      simp [Tryz.f102, Tryz.ti3, Tryz.ti4, Tryz.ti9, Tryz.ti22, Tryz.ti23, Tryz.ti24, Tryz.ti25, Tryz.ti26, Tryz.ti28, Tryz.ti44, Tryz.ti46, Tryz.ti80, Tryz.ti84, Tryz.ti94, Tryz.ti100, h0, hm1, h1, nilV, qryC, Qry.items, Qry.src, Qry.wher, gc, reach, reachFuel, shut, nodup, List.idxOf, List.findIdx, List.findIdx.go, backR, List.range, List.range.loop, -List.map_tail] <;> exact ⟨⟨_, _, _, _, _, _, _, _, _, _, _, _, _, _, _⟩, rfl⟩
     | some a1 =>
      simp only [thenP, prL_some, rdS] at h1 ⊢
      have e2 : Ends r2 := kk1.2 e1
      have n2 : r2.length ≤ 100000 := Nat.le_trans kk1.1 n1
      have h2 := ev_must1 [70, 82, 79, 77] r2 e2
      have kk2 := kp_need [70, 82, 79, 77] r2
      cases hP2 : needP [70, 82, 79, 77] r2 with
      | mk o r3 =>
       rw [hP2] at h2 kk2
       cases o with
       | none =>
        simp only [thenP, prO_none, prC_none, faultV, rdS] at h2 ⊢
        simp [Tryz.f102, Tryz.ti3, Tryz.ti4, Tryz.ti9, Tryz.ti22, Tryz.ti23, Tryz.ti24, Tryz.ti25, Tryz.ti26, Tryz.ti28, Tryz.ti44, Tryz.ti46, Tryz.ti80, Tryz.ti84, Tryz.ti94, Tryz.ti100, h0, hm1, h1, h2, nilV, qryC, Qry.items, Qry.src, Qry.wher, gc, reach, reachFuel, shut, nodup, List.idxOf, List.findIdx, List.findIdx.go, backR, List.range, List.range.loop, -List.map_tail] <;> exact ⟨⟨_, _, _, _, _, _, _, _, _, _, _, _, _, _, _⟩, rfl⟩
       | some a2 =>
        simp only [thenP, prO_some, rdS] at h2 ⊢
        have e3 : Ends r3 := kk2.2 e2
        have n3 : r3.length ≤ 100000 := Nat.le_trans kk2.1 n2
        have h3 := ev_list_srcP 148 sourceP kp_source 100000 (fun l h _ => ev_psource l h) r3 e3 n3 (by omega)
        have kk3 := kp_list kp_source (r3.length + 1) r3
        cases hP3 : listP sourceP (r3.length + 1) r3 with
        | mk o r4 =>
         rw [hP3] at h3 kk3
         cases o with
         | none =>
          simp only [thenP, prL_none, prC_none, faultV, rdS] at h3 ⊢
          simp [Tryz.f102, Tryz.ti3, Tryz.ti4, Tryz.ti9, Tryz.ti22, Tryz.ti23, Tryz.ti24, Tryz.ti25, Tryz.ti26, Tryz.ti28, Tryz.ti44, Tryz.ti46, Tryz.ti80, Tryz.ti84, Tryz.ti94, Tryz.ti100, h0, hm1, h1, h2, h3, nilV, qryC, Qry.items, Qry.src, Qry.wher, gc, reach, reachFuel, shut, nodup, List.idxOf, List.findIdx, List.findIdx.go, backR, List.range, List.range.loop, -List.map_tail] <;> exact ⟨⟨_, _, _, _, _, _, _, _, _, _, _, _, _, _, _⟩, rfl⟩
         | some a3 =>
          simp only [thenP, prL_some, rdS] at h3 ⊢
          have e4 : Ends r4 := kk3.2 e3
          have n4 : r4.length ≤ 100000 := Nat.le_trans kk3.1 n3
          have h4 := ev_pwhere r4 e4
          have kk4 := kp_where r4
          cases hP4 : whereP r4 with
          | mk o r5 =>
           rw [hP4] at h4 kk4
           cases o with
           | none =>
            simp only [thenP, prL_none, prC_none, faultV, rdS] at h4 ⊢
            simp [Tryz.f102, Tryz.ti3, Tryz.ti4, Tryz.ti9, Tryz.ti22, Tryz.ti23, Tryz.ti24, Tryz.ti25, Tryz.ti26, Tryz.ti28, Tryz.ti44, Tryz.ti46, Tryz.ti80, Tryz.ti84, Tryz.ti94, Tryz.ti100, h0, hm1, h1, h2, h3, h4, nilV, qryC, Qry.items, Qry.src, Qry.wher, gc, reach, reachFuel, shut, nodup, List.idxOf, List.findIdx, List.findIdx.go, backR, List.range, List.range.loop, -List.map_tail] <;> exact ⟨⟨_, _, _, _, _, _, _, _, _, _, _, _, _, _, _⟩, rfl⟩
           | some a4 =>
            simp only [thenP, prL_some, prC_some, rdS] at h4 ⊢
            have e5 : Ends r5 := kk4.2 e4
            have n5 : r5.length ≤ 100000 := Nat.le_trans kk4.1 n4
            simp [Tryz.f102, Tryz.ti3, Tryz.ti4, Tryz.ti9, Tryz.ti22, Tryz.ti23, Tryz.ti24, Tryz.ti25, Tryz.ti26, Tryz.ti28, Tryz.ti44, Tryz.ti46, Tryz.ti80, Tryz.ti84, Tryz.ti94, Tryz.ti100, h0, hm1, h1, h2, h3, h4, iceO, iceF, keepI, nilV, qryC, Qry.items, Qry.src, Qry.wher, gc, reach, reachFuel, shut, nodup, List.idxOf, List.findIdx, List.findIdx.go, backR, List.range, List.range.loop, -List.map_tail]
   ·rw [hi1] at hm1
    simp only [if_true, rdS] at hm1 ⊢
    have e2 : Ends r1.tail := ends_tail e1 hi1
    have n2 : r1.tail.length ≤ 100000 := Nat.le_trans (by simp) n1
    generalize r1.tail = r2 at *
    have h2 := ev_must1 [70, 82, 79, 77] r2 e2
    have kk2 := kp_need [70, 82, 79, 77] r2
    cases hP2 : needP [70, 82, 79, 77] r2 with
    | mk o r3 =>
     rw [hP2] at h2 kk2
     cases o with
     | none =>
      simp only [thenP, prO_none, prC_none, faultV, rdS] at h2 ⊢
      simp [Tryz.f102, Tryz.ti3, Tryz.ti4, Tryz.ti9, Tryz.ti22, Tryz.ti23, Tryz.ti24, Tryz.ti25, Tryz.ti26, Tryz.ti28, Tryz.ti44, Tryz.ti46, Tryz.ti80, Tryz.ti84, Tryz.ti94, Tryz.ti100, h0, hm1, h2, nilV, qryC, Qry.items, Qry.src, Qry.wher, gc, reach, reachFuel, shut, nodup, List.idxOf, List.findIdx, List.findIdx.go, backR, List.range, List.range.loop, -List.map_tail] <;> exact ⟨⟨_, _, _, _, _, _, _, _, _, _, _, _, _, _, _⟩, rfl⟩
     | some a2 =>
      simp only [thenP, prO_some, rdS] at h2 ⊢
      have e3 : Ends r3 := kk2.2 e2
      have n3 : r3.length ≤ 100000 := Nat.le_trans kk2.1 n2
      have h3 := ev_list_srcP 148 sourceP kp_source 100000 (fun l h _ => ev_psource l h) r3 e3 n3 (by omega)
      have kk3 := kp_list kp_source (r3.length + 1) r3
      cases hP3 : listP sourceP (r3.length + 1) r3 with
      | mk o r4 =>
       rw [hP3] at h3 kk3
       cases o with
       | none =>
        simp only [thenP, prL_none, prC_none, faultV, rdS] at h3 ⊢
        simp [Tryz.f102, Tryz.ti3, Tryz.ti4, Tryz.ti9, Tryz.ti22, Tryz.ti23, Tryz.ti24, Tryz.ti25, Tryz.ti26, Tryz.ti28, Tryz.ti44, Tryz.ti46, Tryz.ti80, Tryz.ti84, Tryz.ti94, Tryz.ti100, h0, hm1, h2, h3, nilV, qryC, Qry.items, Qry.src, Qry.wher, gc, reach, reachFuel, shut, nodup, List.idxOf, List.findIdx, List.findIdx.go, backR, List.range, List.range.loop, -List.map_tail] <;> exact ⟨⟨_, _, _, _, _, _, _, _, _, _, _, _, _, _, _⟩, rfl⟩
       | some a3 =>
        simp only [thenP, prL_some, rdS] at h3 ⊢
        have e4 : Ends r4 := kk3.2 e3
        have n4 : r4.length ≤ 100000 := Nat.le_trans kk3.1 n3
        have h4 := ev_pwhere r4 e4
        have kk4 := kp_where r4
        cases hP4 : whereP r4 with
        | mk o r5 =>
         rw [hP4] at h4 kk4
         cases o with
         | none =>
          simp only [thenP, prL_none, prC_none, faultV, rdS] at h4 ⊢
          simp [Tryz.f102, Tryz.ti3, Tryz.ti4, Tryz.ti9, Tryz.ti22, Tryz.ti23, Tryz.ti24, Tryz.ti25, Tryz.ti26, Tryz.ti28, Tryz.ti44, Tryz.ti46, Tryz.ti80, Tryz.ti84, Tryz.ti94, Tryz.ti100, h0, hm1, h2, h3, h4, nilV, qryC, Qry.items, Qry.src, Qry.wher, gc, reach, reachFuel, shut, nodup, List.idxOf, List.findIdx, List.findIdx.go, backR, List.range, List.range.loop, -List.map_tail] <;> exact ⟨⟨_, _, _, _, _, _, _, _, _, _, _, _, _, _, _⟩, rfl⟩
         | some a4 =>
          simp only [thenP, prL_some, prC_some, rdS] at h4 ⊢
          have e5 : Ends r5 := kk4.2 e4
          have n5 : r5.length ≤ 100000 := Nat.le_trans kk4.1 n4
          simp [Tryz.f102, Tryz.ti3, Tryz.ti4, Tryz.ti9, Tryz.ti22, Tryz.ti23, Tryz.ti24, Tryz.ti25, Tryz.ti26, Tryz.ti28, Tryz.ti44, Tryz.ti46, Tryz.ti80, Tryz.ti84, Tryz.ti94, Tryz.ti100, h0, hm1, h2, h3, h4, iceO, iceF, keepI, nilV, qryC, Qry.items, Qry.src, Qry.wher, gc, reach, reachFuel, shut, nodup, List.idxOf, List.findIdx, List.findIdx.go, backR, List.range, List.range.loop, -List.map_tail]
set_option maxRecDepth 100000 in
set_option maxHeartbeats 8000000 in
theorem ev_pact (r0 : List Tok) (e0 : Ends r0) (n0 : r0.length ≤ 100000) :
  prC (actP r0) actV actC (EV 100 [.box 0 0, .box 1 0] [[.slice .froz (r0.map Tok.enc)], stZ 0 [] .full]) := by
 rw [EV_mki0 rfl Tryz.func100 rfl (by kernel_rfl)]
 unfold actP stZ
 have h0 := ev_one [[73, 78, 83, 69, 82, 84], [85, 80, 68, 65, 84, 69], [68, 69, 76, 69, 84, 69]] (by simp) r0 e0
 simp only [List.map_cons, List.map_nil, rdS] at h0
 cases iwINSERT : isT [73, 78, 83, 69, 82, 84] r0
 rotate_left
 ·simp only [oneP, iwINSERT, if_true, if_false, Bool.false_eq_true, insP] at h0 ⊢
  skip
  have e1 : Ends r0.tail := ends_tail e0 iwINSERT
  have n1 : r0.tail.length ≤ 100000 := Nat.le_trans (by simp) n0
  generalize r0.tail = r1 at *
  have h1 := ev_must1 [73, 78, 84, 79] r1 e1
  have kk1 := kp_need [73, 78, 84, 79] r1
  cases hP1 : needP [73, 78, 84, 79] r1 with
  | mk o r2 =>
   rw [hP1] at h1 kk1
   cases o with
   | none =>
    simp only [thenP, prO_none, prC_none, faultV, rdS] at h1 ⊢
    simp [Tryz.f100, Tryz.ti3, Tryz.ti4, Tryz.ti9, Tryz.ti22, Tryz.ti23, Tryz.ti24, Tryz.ti25, Tryz.ti26, Tryz.ti28, Tryz.ti44, Tryz.ti46, Tryz.ti80, Tryz.ti84, Tryz.ti94, Tryz.ti100, h0, h1, actV, actC, stZ, StB.head, StB.zero, gc, reach, reachFuel, shut, nodup, List.idxOf, List.findIdx, List.findIdx.go, backR, List.range, List.range.loop, -List.map_tail] <;> exact ⟨⟨_, _, _, _, _, _, _, _, _, _, _, _, _, _, _⟩, rfl⟩
   | some a1 =>
    simp only [thenP, prO_some, rdS] at h1 ⊢
    have e2 : Ends r2 := kk1.2 e1
    have n2 : r2.length ≤ 100000 := Nat.le_trans kk1.1 n1
    have h2 := ev_pname r2 e2
    have kk2 := kp_name r2
    cases hP2 : nameP r2 with
    | mk o r3 =>
     rw [hP2] at h2 kk2
     cases o with
     | none =>
      simp only [thenP, prO_none, prC_none, faultV, rdS] at h2 ⊢
      simp [Tryz.f100, Tryz.ti3, Tryz.ti4, Tryz.ti9, Tryz.ti22, Tryz.ti23, Tryz.ti24, Tryz.ti25, Tryz.ti26, Tryz.ti28, Tryz.ti44, Tryz.ti46, Tryz.ti80, Tryz.ti84, Tryz.ti94, Tryz.ti100, h0, h1, h2, actV, actC, stZ, StB.head, StB.zero, gc, reach, reachFuel, shut, nodup, List.idxOf, List.findIdx, List.findIdx.go, backR, List.range, List.range.loop, -List.map_tail] <;> exact ⟨⟨_, _, _, _, _, _, _, _, _, _, _, _, _, _, _⟩, rfl⟩
     | some a2 =>
      simp only [thenP, prO_some, rdS] at h2 ⊢
      have e3 : Ends r3 := kk2.2 e2
      have n3 : r3.length ≤ 100000 := Nat.le_trans kk2.1 n2
      have hm1 := ev_maybe [86, 65, 76, 85, 69, 83] r3 e3
      unfold maybeP at hm1
      cases hi1 : isT [86, 65, 76, 85, 69, 83] r3
      ·rw [hi1] at hm1
       simp only [Bool.false_eq_true, if_false, rdS] at hm1 ⊢
       have h3 := ev_pqueryF 12 a2 r3 e3 n3
       have kk3 := kp_query r3
       unfold stZ at h3
       cases hP3 : queryP r3 with
       | mk o r4 =>
        rw [hP3] at h3 kk3
        cases o with
        | none =>
         rw [prC_none] at h3
         obtain ⟨q, hq⟩ := h3
         simp only [thenP, prC_none, faultV, PC.cells] at hq ⊢
         simp [Tryz.f100, Tryz.ti3, Tryz.ti4, Tryz.ti9, Tryz.ti22, Tryz.ti23, Tryz.ti24, Tryz.ti25, Tryz.ti26, Tryz.ti28, Tryz.ti44, Tryz.ti46, Tryz.ti80, Tryz.ti84, Tryz.ti94, Tryz.ti100, h0, h1, h2, hm1, hq, actV, actC, stZ, StB.head, StB.zero, gc, reach, reachFuel, shut, nodup, List.idxOf, List.findIdx, List.findIdx.go, backR, List.range, List.range.loop, -List.map_tail] <;> exact ⟨⟨_, _, _, _, _, _, _, _, _, _, _, _, _, _, _⟩, rfl⟩
        | some a3 =>
         rw [prC_some] at h3
         simp only [thenP, prC_some, nilV, qryC] at h3 ⊢
         have e4 : Ends r4 := kk3.2 e3
         have n4 : r4.length ≤ 100000 := Nat.le_trans kk3.1 n3
         simp [Tryz.f100, Tryz.ti3, Tryz.ti4, Tryz.ti9, Tryz.ti22, Tryz.ti23, Tryz.ti24, Tryz.ti25, Tryz.ti26, Tryz.ti28, Tryz.ti44, Tryz.ti46, Tryz.ti80, Tryz.ti84, Tryz.ti94, Tryz.ti100, h0, h1, h2, hm1, h3, iceO, iceF, keepI, actV, actC, stZ, StB.head, StB.zero, gc, reach, reachFuel, shut, nodup, List.idxOf, List.findIdx, List.findIdx.go, backR, List.range, List.range.loop, -List.map_tail]
      ·rw [hi1] at hm1
       simp only [if_true, rdS] at hm1 ⊢
       have e4 : Ends r3.tail := ends_tail e3 hi1
       have n4 : r3.tail.length ≤ 100000 := Nat.le_trans (by simp) n3
       generalize r3.tail = r4 at *
       have h4 := ev_must1 [40] r4 e4
       have kk4 := kp_need [40] r4
       cases hP4 : needP [40] r4 with
       | mk o r5 =>
        rw [hP4] at h4 kk4
        cases o with
        | none =>
         simp only [thenP, prO_none, prC_none, faultV, rdS] at h4 ⊢
         simp [Tryz.f100, Tryz.ti3, Tryz.ti4, Tryz.ti9, Tryz.ti22, Tryz.ti23, Tryz.ti24, Tryz.ti25, Tryz.ti26, Tryz.ti28, Tryz.ti44, Tryz.ti46, Tryz.ti80, Tryz.ti84, Tryz.ti94, Tryz.ti100, h0, h1, h2, hm1, h4, actV, actC, stZ, StB.head, StB.zero, gc, reach, reachFuel, shut, nodup, List.idxOf, List.findIdx, List.findIdx.go, backR, List.range, List.range.loop, -List.map_tail] <;> exact ⟨⟨_, _, _, _, _, _, _, _, _, _, _, _, _, _, _⟩, rfl⟩
        | some a4 =>
         simp only [thenP, prO_some, rdS] at h4 ⊢
         have e5 : Ends r5 := kk4.2 e4
         have n5 : r5.length ≤ 100000 := Nat.le_trans kk4.1 n4
         have h5 := ev_list_xpP 79 exprP kp_expr 100000 (fun l h _ => ev_or l h) r5 e5 n5 (by omega)
         have kk5 := kp_list kp_expr (r5.length + 1) r5
         cases hP5 : listP exprP (r5.length + 1) r5 with
         | mk o r6 =>
          rw [hP5] at h5 kk5
          cases o with
          | none =>
           simp only [thenP, prL_none, prC_none, faultV, rdS] at h5 ⊢
           simp [Tryz.f100, Tryz.ti3, Tryz.ti4, Tryz.ti9, Tryz.ti22, Tryz.ti23, Tryz.ti24, Tryz.ti25, Tryz.ti26, Tryz.ti28, Tryz.ti44, Tryz.ti46, Tryz.ti80, Tryz.ti84, Tryz.ti94, Tryz.ti100, h0, h1, h2, hm1, h4, h5, actV, actC, stZ, StB.head, StB.zero, gc, reach, reachFuel, shut, nodup, List.idxOf, List.findIdx, List.findIdx.go, backR, List.range, List.range.loop, -List.map_tail] <;> exact ⟨⟨_, _, _, _, _, _, _, _, _, _, _, _, _, _, _⟩, rfl⟩
          | some a5 =>
           simp only [thenP, prL_some, rdS] at h5 ⊢
           have e6 : Ends r6 := kk5.2 e5
           have n6 : r6.length ≤ 100000 := Nat.le_trans kk5.1 n5
           have h6 := ev_must1 [41] r6 e6
           have kk6 := kp_need [41] r6
           cases hP6 : needP [41] r6 with
           | mk o r7 =>
            rw [hP6] at h6 kk6
            cases o with
            | none =>
             simp only [thenP, prO_none, prC_none, faultV, rdS] at h6 ⊢
             simp [Tryz.f100, Tryz.ti3, Tryz.ti4, Tryz.ti9, Tryz.ti22, Tryz.ti23, Tryz.ti24, Tryz.ti25, Tryz.ti26, Tryz.ti28, Tryz.ti44, Tryz.ti46, Tryz.ti80, Tryz.ti84, Tryz.ti94, Tryz.ti100, h0, h1, h2, hm1, h4, h5, h6, actV, actC, stZ, StB.head, StB.zero, gc, reach, reachFuel, shut, nodup, List.idxOf, List.findIdx, List.findIdx.go, backR, List.range, List.range.loop, -List.map_tail] <;> exact ⟨⟨_, _, _, _, _, _, _, _, _, _, _, _, _, _, _⟩, rfl⟩
            | some a6 =>
             simp only [thenP, prO_some, prC_some, rdS] at h6 ⊢
             have e7 : Ends r7 := kk6.2 e6
             have n7 : r7.length ≤ 100000 := Nat.le_trans kk6.1 n6
             simp [Tryz.f100, Tryz.ti3, Tryz.ti4, Tryz.ti9, Tryz.ti22, Tryz.ti23, Tryz.ti24, Tryz.ti25, Tryz.ti26, Tryz.ti28, Tryz.ti44, Tryz.ti46, Tryz.ti80, Tryz.ti84, Tryz.ti94, Tryz.ti100, h0, h1, h2, hm1, h4, h5, h6, iceO, iceF, keepI, actV, actC, stZ, StB.head, StB.zero, gc, reach, reachFuel, shut, nodup, List.idxOf, List.findIdx, List.findIdx.go, backR, List.range, List.range.loop, -List.map_tail]
 cases iwUPDATE : isT [85, 80, 68, 65, 84, 69] r0
 rotate_left
 ·simp only [oneP, iwINSERT, iwUPDATE, if_true, if_false, Bool.false_eq_true, updP] at h0 ⊢
  skip
  have e1 : Ends r0.tail := ends_tail e0 iwUPDATE
  have n1 : r0.tail.length ≤ 100000 := Nat.le_trans (by simp) n0
  generalize r0.tail = r1 at *
  have h1 := ev_pname r1 e1
  have kk1 := kp_name r1
  cases hP1 : nameP r1 with
  | mk o r2 =>
   rw [hP1] at h1 kk1
   cases o with
   | none =>
    simp only [thenP, prO_none, prC_none, faultV, rdS] at h1 ⊢
    simp [Tryz.f100, Tryz.ti3, Tryz.ti4, Tryz.ti9, Tryz.ti22, Tryz.ti23, Tryz.ti24, Tryz.ti25, Tryz.ti26, Tryz.ti28, Tryz.ti44, Tryz.ti46, Tryz.ti80, Tryz.ti84, Tryz.ti94, Tryz.ti100, h0, h1, actV, actC, stZ, StB.head, StB.zero, gc, reach, reachFuel, shut, nodup, List.idxOf, List.findIdx, List.findIdx.go, backR, List.range, List.range.loop, -List.map_tail] <;> exact ⟨⟨_, _, _, _, _, _, _, _, _, _, _, _, _, _, _⟩, rfl⟩
   | some a1 =>
    simp only [thenP, prO_some, rdS] at h1 ⊢
    have e2 : Ends r2 := kk1.2 e1
    have n2 : r2.length ≤ 100000 := Nat.le_trans kk1.1 n1
    have h2 := ev_must1 [83, 69, 84] r2 e2
    have kk2 := kp_need [83, 69, 84] r2
    cases hP2 : needP [83, 69, 84] r2 with
    | mk o r3 =>
     rw [hP2] at h2 kk2
     cases o with
     | none =>
      simp only [thenP, prO_none, prC_none, faultV, rdS] at h2 ⊢
      simp [Tryz.f100, Tryz.ti3, Tryz.ti4, Tryz.ti9, Tryz.ti22, Tryz.ti23, Tryz.ti24, Tryz.ti25, Tryz.ti26, Tryz.ti28, Tryz.ti44, Tryz.ti46, Tryz.ti80, Tryz.ti84, Tryz.ti94, Tryz.ti100, h0, h1, h2, actV, actC, stZ, StB.head, StB.zero, gc, reach, reachFuel, shut, nodup, List.idxOf, List.findIdx, List.findIdx.go, backR, List.range, List.range.loop, -List.map_tail] <;> exact ⟨⟨_, _, _, _, _, _, _, _, _, _, _, _, _, _, _⟩, rfl⟩
     | some a2 =>
      simp only [thenP, prO_some, rdS] at h2 ⊢
      have e3 : Ends r3 := kk2.2 e2
      have n3 : r3.length ≤ 100000 := Nat.le_trans kk2.1 n2
      have h3 := ev_list_setP 145 setP kp_set 100000 (fun l h _ => ev_pset l h) r3 e3 n3 (by omega)
      have kk3 := kp_list kp_set (r3.length + 1) r3
      cases hP3 : listP setP (r3.length + 1) r3 with
      | mk o r4 =>
       rw [hP3] at h3 kk3
       cases o with
       | none =>
        simp only [thenP, prL_none, prC_none, faultV, rdS] at h3 ⊢
        simp [Tryz.f100, Tryz.ti3, Tryz.ti4, Tryz.ti9, Tryz.ti22, Tryz.ti23, Tryz.ti24, Tryz.ti25, Tryz.ti26, Tryz.ti28, Tryz.ti44, Tryz.ti46, Tryz.ti80, Tryz.ti84, Tryz.ti94, Tryz.ti100, h0, h1, h2, h3, actV, actC, stZ, StB.head, StB.zero, gc, reach, reachFuel, shut, nodup, List.idxOf, List.findIdx, List.findIdx.go, backR, List.range, List.range.loop, -List.map_tail] <;> exact ⟨⟨_, _, _, _, _, _, _, _, _, _, _, _, _, _, _⟩, rfl⟩
       | some a3 =>
        simp only [thenP, prL_some, rdS] at h3 ⊢
        have e4 : Ends r4 := kk3.2 e3
        have n4 : r4.length ≤ 100000 := Nat.le_trans kk3.1 n3
        have h4 := ev_pwhere r4 e4
        have kk4 := kp_where r4
        cases hP4 : whereP r4 with
        | mk o r5 =>
         rw [hP4] at h4 kk4
         cases o with
         | none =>
          simp only [thenP, prL_none, prC_none, faultV, rdS] at h4 ⊢
          simp [Tryz.f100, Tryz.ti3, Tryz.ti4, Tryz.ti9, Tryz.ti22, Tryz.ti23, Tryz.ti24, Tryz.ti25, Tryz.ti26, Tryz.ti28, Tryz.ti44, Tryz.ti46, Tryz.ti80, Tryz.ti84, Tryz.ti94, Tryz.ti100, h0, h1, h2, h3, h4, actV, actC, stZ, StB.head, StB.zero, gc, reach, reachFuel, shut, nodup, List.idxOf, List.findIdx, List.findIdx.go, backR, List.range, List.range.loop, -List.map_tail] <;> exact ⟨⟨_, _, _, _, _, _, _, _, _, _, _, _, _, _, _⟩, rfl⟩
         | some a4 =>
          simp only [thenP, prL_some, prC_some, rdS] at h4 ⊢
          have e5 : Ends r5 := kk4.2 e4
          have n5 : r5.length ≤ 100000 := Nat.le_trans kk4.1 n4
          simp [Tryz.f100, Tryz.ti3, Tryz.ti4, Tryz.ti9, Tryz.ti22, Tryz.ti23, Tryz.ti24, Tryz.ti25, Tryz.ti26, Tryz.ti28, Tryz.ti44, Tryz.ti46, Tryz.ti80, Tryz.ti84, Tryz.ti94, Tryz.ti100, h0, h1, h2, h3, h4, iceO, iceF, keepI, actV, actC, stZ, StB.head, StB.zero, gc, reach, reachFuel, shut, nodup, List.idxOf, List.findIdx, List.findIdx.go, backR, List.range, List.range.loop, -List.map_tail]
 cases iwDELETE : isT [68, 69, 76, 69, 84, 69] r0
 rotate_left
 ·simp only [oneP, iwINSERT, iwUPDATE, iwDELETE, if_true, if_false, Bool.false_eq_true, delP] at h0 ⊢
  skip
  have e1 : Ends r0.tail := ends_tail e0 iwDELETE
  have n1 : r0.tail.length ≤ 100000 := Nat.le_trans (by simp) n0
  generalize r0.tail = r1 at *
  have h1 := ev_must1 [70, 82, 79, 77] r1 e1
  have kk1 := kp_need [70, 82, 79, 77] r1
  cases hP1 : needP [70, 82, 79, 77] r1 with
  | mk o r2 =>
   rw [hP1] at h1 kk1
   cases o with
   | none =>
    simp only [thenP, prO_none, prC_none, faultV, rdS] at h1 ⊢
    simp [Tryz.f100, Tryz.ti3, Tryz.ti4, Tryz.ti9, Tryz.ti22, Tryz.ti23, Tryz.ti24, Tryz.ti25, Tryz.ti26, Tryz.ti28, Tryz.ti44, Tryz.ti46, Tryz.ti80, Tryz.ti84, Tryz.ti94, Tryz.ti100, h0, h1, actV, actC, stZ, StB.head, StB.zero, gc, reach, reachFuel, shut, nodup, List.idxOf, List.findIdx, List.findIdx.go, backR, List.range, List.range.loop, -List.map_tail] <;> exact ⟨⟨_, _, _, _, _, _, _, _, _, _, _, _, _, _, _⟩, rfl⟩
   | some a1 =>
    simp only [thenP, prO_some, rdS] at h1 ⊢
    have e2 : Ends r2 := kk1.2 e1
    have n2 : r2.length ≤ 100000 := Nat.le_trans kk1.1 n1
    have h2 := ev_pname r2 e2
    have kk2 := kp_name r2
    cases hP2 : nameP r2 with
    | mk o r3 =>
     rw [hP2] at h2 kk2
     cases o with
     | none =>
      simp only [thenP, prO_none, prC_none, faultV, rdS] at h2 ⊢
      simp [Tryz.f100, Tryz.ti3, Tryz.ti4, Tryz.ti9, Tryz.ti22, Tryz.ti23, Tryz.ti24, Tryz.ti25, Tryz.ti26, Tryz.ti28, Tryz.ti44, Tryz.ti46, Tryz.ti80, Tryz.ti84, Tryz.ti94, Tryz.ti100, h0, h1, h2, actV, actC, stZ, StB.head, StB.zero, gc, reach, reachFuel, shut, nodup, List.idxOf, List.findIdx, List.findIdx.go, backR, List.range, List.range.loop, -List.map_tail] <;> exact ⟨⟨_, _, _, _, _, _, _, _, _, _, _, _, _, _, _⟩, rfl⟩
     | some a2 =>
      simp only [thenP, prO_some, rdS] at h2 ⊢
      have e3 : Ends r3 := kk2.2 e2
      have n3 : r3.length ≤ 100000 := Nat.le_trans kk2.1 n2
      have h3 := ev_pwhere r3 e3
      have kk3 := kp_where r3
      cases hP3 : whereP r3 with
      | mk o r4 =>
       rw [hP3] at h3 kk3
       cases o with
       | none =>
        simp only [thenP, prL_none, prC_none, faultV, rdS] at h3 ⊢
        simp [Tryz.f100, Tryz.ti3, Tryz.ti4, Tryz.ti9, Tryz.ti22, Tryz.ti23, Tryz.ti24, Tryz.ti25, Tryz.ti26, Tryz.ti28, Tryz.ti44, Tryz.ti46, Tryz.ti80, Tryz.ti84, Tryz.ti94, Tryz.ti100, h0, h1, h2, h3, actV, actC, stZ, StB.head, StB.zero, gc, reach, reachFuel, shut, nodup, List.idxOf, List.findIdx, List.findIdx.go, backR, List.range, List.range.loop, -List.map_tail] <;> exact ⟨⟨_, _, _, _, _, _, _, _, _, _, _, _, _, _, _⟩, rfl⟩
       | some a3 =>
        simp only [thenP, prL_some, prC_some, rdS] at h3 ⊢
        have e4 : Ends r4 := kk3.2 e3
        have n4 : r4.length ≤ 100000 := Nat.le_trans kk3.1 n3
        simp [Tryz.f100, Tryz.ti3, Tryz.ti4, Tryz.ti9, Tryz.ti22, Tryz.ti23, Tryz.ti24, Tryz.ti25, Tryz.ti26, Tryz.ti28, Tryz.ti44, Tryz.ti46, Tryz.ti80, Tryz.ti84, Tryz.ti94, Tryz.ti100, h0, h1, h2, h3, iceO, iceF, keepI, actV, actC, stZ, StB.head, StB.zero, gc, reach, reachFuel, shut, nodup, List.idxOf, List.findIdx, List.findIdx.go, backR, List.range, List.range.loop, -List.map_tail]
 simp only [oneP, iwINSERT, iwUPDATE, iwDELETE, if_false, Bool.false_eq_true] at h0 ⊢
 rw [prC_some]
 simp [Tryz.f100, Tryz.ti3, Tryz.ti4, Tryz.ti9, Tryz.ti22, Tryz.ti23, Tryz.ti24, Tryz.ti25, Tryz.ti26, Tryz.ti28, Tryz.ti44, Tryz.ti46, Tryz.ti80, Tryz.ti84, Tryz.ti94, Tryz.ti100, h0, iceO, iceF, keepI, actV, actC, stZ, StB.head, StB.zero, gc, reach, reachFuel, shut, nodup, List.idxOf, List.findIdx, List.findIdx.go, backR, List.range, List.range.loop, -List.map_tail]
end Go.Abs
