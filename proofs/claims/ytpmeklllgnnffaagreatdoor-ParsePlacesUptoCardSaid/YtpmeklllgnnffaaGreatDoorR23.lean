/- The program's reader: a rule. -/
import Derived.Test.YtpmeklllgnnffaaGreatDoorR21
import Derived.Test.YtpmeklllgnnffaaGreatDoorR15
set_option linter.unusedSimpArgs false
set_option linter.unusedVariables false

namespace Go.Abs
set_option linter.unusedSimpArgs false
set_option linter.unusedVariables false
open Go Go.Proofs
attribute [local simp] i_nil i_blk i_skip i_ret i_exit i_seq i_block i_cond i_region' i_ops_nil i_ops i_drawn' k_none k_0 k_1 k_2 k_3 k_4 k_5 d_in a_nil a_cons alt1 h_nil h_one h_two z_nil z_cons z_cells zeqL zeq q_alloc q_some nxtN i_drh d_hi i_drw_nil i_drw u_nil u_code u_ops u_drw u_lp u_again u_exit u_ret u_panic c_bool o_some o_val o_panic d_some d_val d_panic w_none w_fast wantG q_nil q_zero q_succ t_zero t_succ g_zero g_succ s_zero s_succ s_some s_none v_tmp v_const v_func f_quiet gc_none gc_pure wrap_i64 p_move p_assign p_pick p_alloc p_box p_build p_buildSlice p_load p_store p_nilCheck p_binOp n_tmp n_int n_bool n_str n_ptr n_fun n_iface nilCmp p_unOp p_convert p_makeSlice p_makeInterface p_makeFunc p_slice p_fieldAddr p_field p_indexAddr p_index p_extract p_callv p_callb p_panic quiet_val new_val e_assign e_call e_load e_store e_alloc e_box e_move e_pick e_build e_buildSlice e_nilCheck e_binOp e_unOp e_convert e_makeSlice e_makeInterface e_makeFunc e_slice e_fieldAddr e_field e_indexAddr e_index e_extract e_panic callD fpRead adoptZ fulls adopt adoptL ofValue ofScalar binOpV unOpV intBin strBin eqRes veq veqF eqDepth val? finish resL r_tmp r_cell normL normTop tipIs refsL refs ownRefs single frz frzL ren renL renOwn callOp doCall backR writeBack builtinV loadV storeV storeW iceT cellsAt takeV D.isAgg overlay vcells cellOk fieldAddrV indexAddrV fieldV partV indexV buildV fillV buildSliceV litElems appendV appElems elemOk convertV convV winStr makeSliceV sliceV natOf
attribute [local simp ↓] brB_true brB_false brB_dec brB_not brB_and brB_or brB_beq brB_bne
def actsD : Nat → List Tok → List Stm × Bool × List Tok
 | 0, l => ([], false, l)
 | n + 1, l => match actP l with
  | (some (some b), r) => if isT [59] r = true then (.mk b [] :: (actsD n r.tail).1, (actsD n r.tail).2) else ([.mk b []], true, r)
  | (some none, r) => ([], false, r)
  | (none, r) => ([], false, r)
theorem actsP_eq : ∀ (n : Nat) (l : List Tok), actsP n l = if (actsD n l).2.1 = true then (some (actsD n l).1, (actsD n l).2.2) else (none, (actsD n l).2.2)
 | 0, l => by simp [actsP, actsD]
 | n + 1, l => by
  unfold actsP actsD
  cases hP : actP l with
  | mk o r =>
   cases o with
   | none => simp [thenP]
   | some o =>
    cases o with
    | none => simp [thenP]
    | some b =>
     simp only [thenP]
     cases hi : isT [59] r
     ·simp
     ·simp only [if_true, actsP_eq n r.tail]
      cases hq : (actsD n r.tail).2.1 <;> simp
theorem actsD_fuel : ∀ (n m : Nat) (l : List Tok), l.length < n → l.length < m → actsD n l = actsD m l
 | 0, m, l, h, _ => by omega
 | n + 1, 0, l, _, h => by omega
 | n + 1, m + 1, l, h, h' => by
  unfold actsD
  have kk := kp_act l
  cases hP : actP l with
  | mk o r =>
   rw [hP] at kk
   cases o with
   | none => rfl
   | some o =>
    cases o with
    | none => rfl
    | some b =>
     cases hi : isT [59] r
     ·simp [hi]
     ·have := tail_len hi
      simp only [hi, if_true]
      rw [actsD_fuel n m r.tail (by have := kk.1; simp only at this; omega) (by have := kk.1; simp only at this; omega)]
def loopD (done : List Stm) (l : List Tok) (ag : Bool) : List Stm × Bool × List Tok := if ag = true then (done ++ (actsD (l.length + 1) l).1, (actsD (l.length + 1) l).2) else (done, true, l)
theorem loopD_out (done : List Stm) (l : List Tok) : loopD done l false = (done, true, l) := rfl
theorem loopD_fail {done : List Stm} {l r : List Tok} (h : actP l = (none, r) ∨ actP l = (some none, r)) : loopD done l true = (done, false, r) := by
 rcases h with h | h <;> simp [loopD, actsD, h]
theorem loopD_step {done : List Stm} {l r : List Tok} {b : StB} (h : actP l = (some (some b), r)) : loopD done l true = loopD (done ++ [.mk b []]) (maybeP [59] r).2 (maybeP [59] r).1 := by
 have kk := kp_act l
 rw [h] at kk
 unfold maybeP
 cases hi : isT [59] r
 ·simp [loopD, actsD, h, hi]
 ·have := tail_len hi
  have hk := kk.1
  simp only at hk
  have e : actsD (l.length + 1) l = (.mk b [] :: (actsD l.length r.tail).1, (actsD l.length r.tail).2) := by simp [actsD, h, hi]
  simp only [loopD, if_true, e]
  rw [actsD_fuel l.length (r.tail.length + 1) r.tail (by omega) (by omega)]
  simp only [List.append_assoc, List.cons_append, List.nil_append]
structure RC where
 (n t : List UInt8) (wh fr : V) (p e : Int) (d : Bool)
def RC.cells (c : RC) (a : V) : List V := [.int .i64 8, .str c.n, .str c.t, .str [], .slice .full [], .slice .full [], .slice .full [], c.wh, .slice .full [], c.fr, .int .i64 c.p, .int .i64 c.e, .bool c.d, .bool false, a]
def actsV (k : Nat) (acts : List Stm) : V := if acts = [] then .slice .full [] else .slice (.own k) (acts.map Stm.enc)
def actsT (acts : List Stm) : List (List V) := if acts = [] then [] else [[.tip acts.length]]
def ruS (c : RC) (gs : List (List V)) (acts : List Stm) (l : List Tok) : St := [.slice .froz (l.map Tok.enc)] :: c.cells (actsV (2 + gs.length) acts) :: (gs ++ actsT acts)
def ruF (c : RC) (gs : List (List V)) (q : List Stm × Bool × List Tok) : Option (Out × St) :=
 if q.2.1 = true then match needP [69, 78, 68] q.2.2 with
  | (some _, r) => some (.ret (.tup []), ruS c gs q.1 r)
  | (none, r) => some (.panic (faultV (topAt r)), ruS c gs q.1 r)
 else some (.panic (faultV (topAt q.2.2)), ruS c gs q.1 q.2.2)
structure RSt where
 (done : List Stm) (l : List Tok) (ag : Bool) (ne : done ≠ []) (he : Ends l) (hn : l.length ≤ 100000) (hd : ag = true → done.length + l.length ≤ 100001)
theorem stm15 (y : Stm) : (vcells y.enc).length = 15 := by obtain ⟨b, acts⟩ := y; rw [senc_mk]; rfl
theorem ru_ice {f : FuncId} {n : Nat} {α : Type} {p : PR α} {v : α → V} {c : α → List V} {X R : Option (Out × St)} (h : X = R) (hr : prC p v c (iceO f n R)) : prC p v c (iceO f n X) := h ▸ hr
def stN (k : Int) (n : List UInt8) : List V := [.int .i64 k, .str n, .str [], .str [], .slice .full [], .slice .full [], .slice .full [], .slice .full [], .slice .full [], .slice .full [], .int .i64 0, .int .i64 0, .bool false, .bool false, .slice .full []]
def stmC (s : Stm) : List V := s.b.head ++ [.slice .froz (s.acts.map Stm.enc)]
set_option maxRecDepth 100000 in
set_option maxHeartbeats 16000000 in
theorem ev_prule (n : List UInt8) (r0 : List Tok) (e0 : Ends r0) (n0 : r0.length ≤ 100000) :
  prC (ruleP n r0) nilV stmC (EV 152 [.box 0 0, .box 1 0] [[.slice .froz (r0.map Tok.enc)], stN 8 n]) := by
 rw [EV_mki0 rfl Tryz.func152 rfl (by kernel_rfl)]
 unfold ruleP stN
 have h0 := ev_must1 [80, 82, 73, 79, 82, 73, 84, 89] r0 e0
 have kk0 := kp_need [80, 82, 73, 79, 82, 73, 84, 89] r0
 cases hP0 : needP [80, 82, 73, 79, 82, 73, 84, 89] r0 with
 | mk o r1 =>
  rw [hP0] at h0 kk0
  cases o with
  | none =>
   simp only [thenP, prO_none, prC_none, faultV, rdS] at h0 ⊢
   simp [Tryz.f152, Tryz.ti3, Tryz.ti4, Tryz.ti9, Tryz.ti22, Tryz.ti23, Tryz.ti24, Tryz.ti25, Tryz.ti26, Tryz.ti28, Tryz.ti44, Tryz.ti46, Tryz.ti80, Tryz.ti84, Tryz.ti94, Tryz.ti100, Tryz.ti125, h0, nilV, stmC, StB.head, StB.zero, Stm.b, Stm.acts, gc, reach, reachFuel, shut, nodup, List.idxOf, List.findIdx, List.findIdx.go, backR, List.range, List.range.loop, -List.map_tail] <;> exact ⟨⟨_, _, _, _, _, _, _, _, _, _, _, _, _, _, _⟩, rfl⟩
  | some a0 =>
   simp only [thenP, prO_some, rdS] at h0 ⊢
   have e1 : Ends r1 := kk0.2 e0
   have n1 : r1.length ≤ 100000 := Nat.le_trans kk0.1 n0
   obtain ⟨t1, q1, rfl⟩ := ends_cons e1
   have w1 := ev_top t1 q1
   have w2 := ev_no t1 q1
   have hcl : ∀ x ∈ q1.map Tok.enc, (vcells x).length = 4 := fun x hx => by obtain ⟨y, _, rfl⟩ := List.mem_map.1 hx; rfl
   by_cases hk : t1.kind = 3
   rotate_left
   ·have hk' : ¬ t1.kind = 3 := hk
    simp only [numP, if_neg hk, thenP, prC_none, topAt, faultV, rdS, Tok.enc_eq] at w2 h0 ⊢
    obtain ⟨tk, tn, tp, tw⟩ := t1
    simp only [Tok.enc_eq, rdS, List.map_cons] at w1 w2 h0 ⊢
    simp only at hk
    generalize q1.map Tok.enc = xs at *
    simp [Tryz.f152, Tryz.ti3, Tryz.ti4, Tryz.ti9, Tryz.ti22, Tryz.ti23, Tryz.ti24, Tryz.ti25, Tryz.ti26, Tryz.ti28, Tryz.ti44, Tryz.ti46, Tryz.ti80, Tryz.ti84, Tryz.ti94, Tryz.ti100, Tryz.ti125, h0, w1, w2, hk, nilV, stmC, gc, reach, reachFuel, shut, nodup, List.idxOf, List.findIdx, List.findIdx.go, backR, List.range, List.range.loop, -List.map_tail] <;> exact ⟨⟨_, _, _, _, _, _, _, _, _, _, _, _, _, _, _⟩, rfl⟩
   have w3 := ev_take t1 q1 (by omega) hcl
   simp only [numP, if_pos hk, thenP] at ⊢
   obtain ⟨tk, tn, tp, tw⟩ := t1
   simp only at hk
   subst hk
   simp only [Tok.enc_eq, rdS, List.map_cons] at w1 w3 h0
   have e2 : Ends q1 := ends_next e1 (by simp)
   have n2 : q1.length ≤ 100000 := Nat.le_trans (by simp) n1
   generalize q1 = r2 at *
   have h2 := ev_must1 [79, 78] r2 e2
   have kk2 := kp_need [79, 78] r2
   cases hP2 : needP [79, 78] r2 with
   | mk o r3 =>
    rw [hP2] at h2 kk2
    cases o with
    | none =>
     simp only [thenP, prO_none, prC_none, faultV, rdS] at h2 ⊢
     simp [Tryz.f152, Tryz.ti3, Tryz.ti4, Tryz.ti9, Tryz.ti22, Tryz.ti23, Tryz.ti24, Tryz.ti25, Tryz.ti26, Tryz.ti28, Tryz.ti44, Tryz.ti46, Tryz.ti80, Tryz.ti84, Tryz.ti94, Tryz.ti100, Tryz.ti125, h0, w1, w3, h2, nilV, stmC, StB.head, StB.zero, Stm.b, Stm.acts, gc, reach, reachFuel, shut, nodup, List.idxOf, List.findIdx, List.findIdx.go, backR, List.range, List.range.loop, -List.map_tail] <;> exact ⟨⟨_, _, _, _, _, _, _, _, _, _, _, _, _, _, _⟩, rfl⟩
    | some a2 =>
     simp only [thenP, prO_some, rdS] at h2 ⊢
     have e3 : Ends r3 := kk2.2 e2
     have n3 : r3.length ≤ 100000 := Nat.le_trans kk2.1 n2
     have h3 := ev_oneOf [[73, 78, 83, 69, 82, 84], [68, 69, 76, 69, 84, 69], [85, 80, 68, 65, 84, 69]] (by simp) r3 e3
     simp only [List.map_cons, List.map_nil] at h3
     have kk3 := kp_oneOf [[73, 78, 83, 69, 82, 84], [68, 69, 76, 69, 84, 69], [85, 80, 68, 65, 84, 69]] r3
     cases hP3 : oneOfP [[73, 78, 83, 69, 82, 84], [68, 69, 76, 69, 84, 69], [85, 80, 68, 65, 84, 69]] r3 with
     | mk o r4 =>
      rw [hP3] at h3 kk3
      cases o with
      | none =>
       simp only [thenP, prO_none, prC_none, faultV, rdS] at h3 ⊢
       simp [Tryz.f152, Tryz.ti3, Tryz.ti4, Tryz.ti9, Tryz.ti22, Tryz.ti23, Tryz.ti24, Tryz.ti25, Tryz.ti26, Tryz.ti28, Tryz.ti44, Tryz.ti46, Tryz.ti80, Tryz.ti84, Tryz.ti94, Tryz.ti100, Tryz.ti125, h0, w1, w3, h2, h3, nilV, stmC, StB.head, StB.zero, Stm.b, Stm.acts, gc, reach, reachFuel, shut, nodup, List.idxOf, List.findIdx, List.findIdx.go, backR, List.range, List.range.loop, -List.map_tail] <;> exact ⟨⟨_, _, _, _, _, _, _, _, _, _, _, _, _, _, _⟩, rfl⟩
      | some a3 =>
       simp only [thenP, prO_some, rdS] at h3 ⊢
       have e4 : Ends r4 := kk3.2 e3
       have n4 : r4.length ≤ 100000 := Nat.le_trans kk3.1 n3
       have h4 := ev_must1 [84, 79] r4 e4
       have kk4 := kp_need [84, 79] r4
       cases hP4 : needP [84, 79] r4 with
       | mk o r5 =>
        rw [hP4] at h4 kk4
        cases o with
        | none =>
         simp only [thenP, prO_none, prC_none, faultV, rdS] at h4 ⊢
         simp [Tryz.f152, Tryz.ti3, Tryz.ti4, Tryz.ti9, Tryz.ti22, Tryz.ti23, Tryz.ti24, Tryz.ti25, Tryz.ti26, Tryz.ti28, Tryz.ti44, Tryz.ti46, Tryz.ti80, Tryz.ti84, Tryz.ti94, Tryz.ti100, Tryz.ti125, h0, w1, w3, h2, h3, h4, nilV, stmC, StB.head, StB.zero, Stm.b, Stm.acts, gc, reach, reachFuel, shut, nodup, List.idxOf, List.findIdx, List.findIdx.go, backR, List.range, List.range.loop, -List.map_tail] <;> exact ⟨⟨_, _, _, _, _, _, _, _, _, _, _, _, _, _, _⟩, rfl⟩
        | some a4 =>
         simp only [thenP, prO_some, rdS] at h4 ⊢
         have e5 : Ends r5 := kk4.2 e4
         have n5 : r5.length ≤ 100000 := Nat.le_trans kk4.1 n4
         have h5 := ev_pname r5 e5
         have kk5 := kp_name r5
         cases hP5 : nameP r5 with
         | mk o r6 =>
          rw [hP5] at h5 kk5
          cases o with
          | none =>
           simp only [thenP, prO_none, prC_none, faultV, rdS] at h5 ⊢
           simp [Tryz.f152, Tryz.ti3, Tryz.ti4, Tryz.ti9, Tryz.ti22, Tryz.ti23, Tryz.ti24, Tryz.ti25, Tryz.ti26, Tryz.ti28, Tryz.ti44, Tryz.ti46, Tryz.ti80, Tryz.ti84, Tryz.ti94, Tryz.ti100, Tryz.ti125, h0, w1, w3, h2, h3, h4, h5, nilV, stmC, StB.head, StB.zero, Stm.b, Stm.acts, gc, reach, reachFuel, shut, nodup, List.idxOf, List.findIdx, List.findIdx.go, backR, List.range, List.range.loop, -List.map_tail] <;> exact ⟨⟨_, _, _, _, _, _, _, _, _, _, _, _, _, _, _⟩, rfl⟩
          | some a5 =>
           simp only [thenP, prO_some, rdS] at h5 ⊢
           have e6 : Ends r6 := kk5.2 e5
           have n6 : r6.length ≤ 100000 := Nat.le_trans kk5.1 n5
           have hmd := ev_maybe [68, 69, 70, 69, 82, 82, 69, 68] r6 e6
           have kmd := maybe_keep [68, 69, 70, 69, 82, 82, 69, 68] r6
           cases hMD : maybeP [68, 69, 70, 69, 82, 82, 69, 68] r6 with
           | mk df r7 =>
            rw [hMD] at hmd kmd
            simp only [rdS] at hmd
            have e7 : Ends r7 := kmd.2 e6
            have n7 : r7.length ≤ 100000 := Nat.le_trans kmd.1 n6
            unfold whenP doP
            have h7 := ev_oneOf [[65, 76, 87, 65, 89, 83], [87, 72, 69, 78]] (by simp) r7 e7
            simp only [List.map_cons, List.map_nil] at h7
            have kk7 := kp_oneOf [[65, 76, 87, 65, 89, 83], [87, 72, 69, 78]] r7
            cases hP7 : oneOfP [[65, 76, 87, 65, 89, 83], [87, 72, 69, 78]] r7 with
            | mk o r8 =>
             rw [hP7] at h7 kk7
             cases o with
             | none =>
              simp only [thenP, prO_none, prC_none, faultV, rdS] at h7 ⊢
              simp [Tryz.f152, Tryz.ti3, Tryz.ti4, Tryz.ti9, Tryz.ti22, Tryz.ti23, Tryz.ti24, Tryz.ti25, Tryz.ti26, Tryz.ti28, Tryz.ti44, Tryz.ti46, Tryz.ti80, Tryz.ti84, Tryz.ti94, Tryz.ti100, Tryz.ti125, h0, w1, w3, h2, h3, h4, h5, hmd, h7, nilV, stmC, StB.head, StB.zero, Stm.b, Stm.acts, gc, reach, reachFuel, shut, nodup, List.idxOf, List.findIdx, List.findIdx.go, backR, List.range, List.range.loop, -List.map_tail] <;> exact ⟨⟨_, _, _, _, _, _, _, _, _, _, _, _, _, _, _⟩, rfl⟩
             | some a7 =>
              simp only [thenP, prO_some, rdS] at h7 ⊢
              have e8 : Ends r8 := kk7.2 e7
              have n8 : r8.length ≤ 100000 := Nat.le_trans kk7.1 n7
              by_cases hw : a7 = 2
              ·skip
               subst hw
               simp only [if_true] at ⊢
               have h8 := ev_list_srcP 148 sourceP kp_source 100000 (fun l h _ => ev_psource l h) r8 e8 n8 (by omega)
               have kk8 := kp_list kp_source (r8.length + 1) r8
               cases hP8 : listP sourceP (r8.length + 1) r8 with
               | mk o r9 =>
                rw [hP8] at h8 kk8
                cases o with
                | none =>
                 simp only [thenP, prL_none, prC_none, faultV, rdS] at h8 ⊢
                 simp [Tryz.f152, Tryz.ti3, Tryz.ti4, Tryz.ti9, Tryz.ti22, Tryz.ti23, Tryz.ti24, Tryz.ti25, Tryz.ti26, Tryz.ti28, Tryz.ti44, Tryz.ti46, Tryz.ti80, Tryz.ti84, Tryz.ti94, Tryz.ti100, Tryz.ti125, h0, w1, w3, h2, h3, h4, h5, hmd, h7, h8, nilV, stmC, StB.head, StB.zero, Stm.b, Stm.acts, gc, reach, reachFuel, shut, nodup, List.idxOf, List.findIdx, List.findIdx.go, backR, List.range, List.range.loop, -List.map_tail] <;> exact ⟨⟨_, _, _, _, _, _, _, _, _, _, _, _, _, _, _⟩, rfl⟩
                | some a8 =>
                 simp only [thenP, prL_some, rdS] at h8 ⊢
                 have e9 : Ends r9 := kk8.2 e8
                 have n9 : r9.length ≤ 100000 := Nat.le_trans kk8.1 n8
                 have h9 := ev_pwhere r9 e9
                 have kk9 := kp_where r9
                 cases hP9 : whereP r9 with
                 | mk o r10 =>
                  rw [hP9] at h9 kk9
                  cases o with
                  | none =>
                   simp only [thenP, prL_none, prC_none, faultV, rdS] at h9 ⊢
                   simp [Tryz.f152, Tryz.ti3, Tryz.ti4, Tryz.ti9, Tryz.ti22, Tryz.ti23, Tryz.ti24, Tryz.ti25, Tryz.ti26, Tryz.ti28, Tryz.ti44, Tryz.ti46, Tryz.ti80, Tryz.ti84, Tryz.ti94, Tryz.ti100, Tryz.ti125, h0, w1, w3, h2, h3, h4, h5, hmd, h7, h8, h9, nilV, stmC, StB.head, StB.zero, Stm.b, Stm.acts, gc, reach, reachFuel, shut, nodup, List.idxOf, List.findIdx, List.findIdx.go, backR, List.range, List.range.loop, -List.map_tail] <;> exact ⟨⟨_, _, _, _, _, _, _, _, _, _, _, _, _, _, _⟩, rfl⟩
                  | some a9 =>
                   simp only [thenP, prL_some, rdS] at h9 ⊢
                   have e10 : Ends r10 := kk9.2 e9
                   have n10 : r10.length ≤ 100000 := Nat.le_trans kk9.1 n9
                   have h10 := ev_must1 [68, 79] r10 e10
                   have kk10 := kp_need [68, 79] r10
                   cases hP10 : needP [68, 79] r10 with
                   | mk o r11 =>
                    rw [hP10] at h10 kk10
                    cases o with
                    | none =>
                     simp only [thenP, prO_none, prC_none, faultV, rdS] at h10 ⊢
                     simp [Tryz.f152, Tryz.ti3, Tryz.ti4, Tryz.ti9, Tryz.ti22, Tryz.ti23, Tryz.ti24, Tryz.ti25, Tryz.ti26, Tryz.ti28, Tryz.ti44, Tryz.ti46, Tryz.ti80, Tryz.ti84, Tryz.ti94, Tryz.ti100, Tryz.ti125, h0, w1, w3, h2, h3, h4, h5, hmd, h7, h8, h9, h10, nilV, stmC, StB.head, StB.zero, Stm.b, Stm.acts, gc, reach, reachFuel, shut, nodup, List.idxOf, List.findIdx, List.findIdx.go, backR, List.range, List.range.loop, -List.map_tail] <;> exact ⟨⟨_, _, _, _, _, _, _, _, _, _, _, _, _, _, _⟩, rfl⟩
                    | some a10 =>
                     simp only [thenP, prO_some, rdS] at h10 ⊢
                     have e11 : Ends r11 := kk10.2 e10
                     have n11 : r11.length ≤ 100000 := Nat.le_trans kk10.1 n10
                     have hmr := ev_maybe [82, 79, 76, 76, 66, 65, 67, 75] r11 e11
                     unfold maybeP at hmr
                     cases hi : isT [82, 79, 76, 76, 66, 65, 67, 75] r11
                     rotate_left
                     ·rw [hi] at hmr
                      simp only [if_true, thenP, prC_some, rdS] at hmr ⊢
                      simp [Tryz.f152, Tryz.ti3, Tryz.ti4, Tryz.ti9, Tryz.ti22, Tryz.ti23, Tryz.ti24, Tryz.ti25, Tryz.ti26, Tryz.ti28, Tryz.ti44, Tryz.ti46, Tryz.ti80, Tryz.ti84, Tryz.ti94, Tryz.ti100, Tryz.ti125, h0, w1, w3, h2, h3, h4, h5, hmd, h7, h8, h9, h10, hmr, iceO, iceF, keepI, Option.isNone, Option.getD, nilV, stmC, StB.head, StB.zero, Stm.b, Stm.acts, gc, reach, reachFuel, shut, nodup, List.idxOf, List.findIdx, List.findIdx.go, backR, List.range, List.range.loop, -List.map_tail]
                     rw [hi] at hmr
                     simp only [Bool.false_eq_true, if_false, rdS] at hmr ⊢
                     simp [Tryz.f152, Tryz.ti3, Tryz.ti4, Tryz.ti9, Tryz.ti22, Tryz.ti23, Tryz.ti24, Tryz.ti25, Tryz.ti26, Tryz.ti28, Tryz.ti44, Tryz.ti46, Tryz.ti80, Tryz.ti84, Tryz.ti94, Tryz.ti100, Tryz.ti125, h0, w1, w3, h2, h3, h4, h5, hmd, h7, h8, h9, h10, hmr, gc, reach, reachFuel, shut, nodup, List.idxOf, List.findIdx, List.findIdx.go, backR, List.range, List.range.loop, -List.map_tail]
                     rw [i_loop (ts := [71, 5, 74, 75, 76, 77, 78, 79, 80, 81, 82, 83, 84, 85, 86, 87, 88, 89, 90, 91, 92, 93, 94, 95, 96, 97, 98, 99, 100, 101, 72, 73])]
                     rotate_left
                     ·kernel_rfl
                     refine ru_ice (R := ruF ⟨n, a5, .slice (.own 2) (a9.map Xp.enc), .slice (.own 3) (a8.map Src.enc), tn, a3, df⟩ [[.tip a9.length], [.tip a8.length]] (loopD [] r11 true)) ?_ ?_
                     ·rw [i_round]
                      have ha := ev_pact r11 e11 n11
                      have ka := kp_act r11
                      unfold stZ at ha
                      cases hA : actP r11 with
                      | mk o ra =>
                       rw [hA] at ha ka
                       have era : Ends ra := ka.2 e11
                       cases o with
                       | none =>
                        rw [prC_none] at ha
                        obtain ⟨q, hq⟩ := ha
                        simp only [PC.cells, faultV] at hq
                        rw [loopD_fail (.inl hA)]
                        simp [i_again, roundEnd, dropT, cleanV, coinW, coinL, coin4, coinV, coinS, afterB, Region.binds, k_some, k_coin, coinT, c_tip, t_arm, t_some, k_arm, i_arm, armV, aggT, isFull1, arm5, nodupN, i_join1, i_join2, meet_cons, meet_same, meet_undef, undef_meet, meet_nil, Tryz.f152, Tryz.ti3, Tryz.ti4, Tryz.ti9, Tryz.ti22, Tryz.ti23, Tryz.ti24, Tryz.ti25, Tryz.ti26, Tryz.ti28, Tryz.ti44, Tryz.ti46, Tryz.ti80, Tryz.ti84, Tryz.ti94, Tryz.ti100, Tryz.ti125, hi, RC.cells, ruF, ruS, actsV, actsT, gc, reach, reachFuel, shut, nodup, List.idxOf, List.findIdx, List.findIdx.go, backR, List.range, List.range.loop, -List.map_tail, hq, faultV]
                       | some o =>
                        rw [prC_some] at ha
                        cases o with
                        | none =>
                         rw [loopD_fail (.inr hA)]
                         obtain ⟨t, q, rfl⟩ := ends_cons era
                         have hn := ev_no t q
                         simp only [actV, actC, stZ, Option.isSome, faultV, topAt, List.map_cons] at ha hn ⊢
                         generalize hte : t.enc = te at *
                         generalize hqs : q.map Tok.enc = qs at *
                         simp [i_again, roundEnd, dropT, cleanV, coinW, coinL, coin4, coinV, coinS, afterB, Region.binds, k_some, k_coin, coinT, c_tip, t_arm, t_some, k_arm, i_arm, armV, aggT, isFull1, arm5, nodupN, i_join1, i_join2, meet_cons, meet_same, meet_undef, undef_meet, meet_nil, Tryz.f152, Tryz.ti3, Tryz.ti4, Tryz.ti9, Tryz.ti22, Tryz.ti23, Tryz.ti24, Tryz.ti25, Tryz.ti26, Tryz.ti28, Tryz.ti44, Tryz.ti46, Tryz.ti80, Tryz.ti84, Tryz.ti94, Tryz.ti100, Tryz.ti125, hi, RC.cells, ruF, ruS, actsV, actsT, gc, reach, reachFuel, shut, nodup, List.idxOf, List.findIdx, List.findIdx.go, backR, List.range, List.range.loop, -List.map_tail, ha, hn, hte, hqs, faultV, topAt]
                        | some b =>
                         rw [loopD_step hA]
                         have hm := ev_maybe [59] ra era
                         have km := maybe_keep [59] ra
                         have klt : (maybeP [59] ra).1 = true → (maybeP [59] ra).2.length < ra.length := by
                          unfold maybeP
                          cases hi : isT [59] ra
                          ·simp
                          ·intro _; exact tail_len hi
                         cases hM : maybeP [59] ra with
                         | mk g rb =>
                          rw [hM] at hm km klt
                          dsimp only at klt
                          have erb : Ends rb := km.2 era
                          have hl1 : ra.length ≤ r11.length := ka.1
                          have hl2 : rb.length ≤ ra.length := km.1
                          simp only [actV, actC, StB.head, List.cons_append, List.nil_append, Option.isSome, rdS] at ha hm
                          obtain ⟨kind, name, table, col, cols, values, items, wher, sets, src, prio, event, deferred, rolls⟩ := b
                          dsimp only at ha ⊢
                          simp only [List.nil_append]
                          generalize hR : ruF _ _ _ = R
                          simp [i_again, roundEnd, dropT, cleanV, coinW, coinL, coin4, coinV, coinS, afterB, Region.binds, k_some, k_coin, coinT, c_tip, t_arm, t_some, k_arm, i_arm, armV, aggT, isFull1, arm5, nodupN, i_join1, i_join2, meet_cons, meet_same, meet_undef, undef_meet, meet_nil, Tryz.f152, Tryz.ti3, Tryz.ti4, Tryz.ti9, Tryz.ti22, Tryz.ti23, Tryz.ti24, Tryz.ti25, Tryz.ti26, Tryz.ti28, Tryz.ti44, Tryz.ti46, Tryz.ti80, Tryz.ti84, Tryz.ti94, Tryz.ti100, Tryz.ti125, hi, RC.cells, gc, reach, reachFuel, shut, nodup, List.idxOf, List.findIdx, List.findIdx.go, backR, List.range, List.range.loop, -List.map_tail, ha, hm, appFp]
                          refine (if_pos (by decide +kernel)).trans ?_
                          refine i_at2 (fun x : RSt => 2 * x.l.length + (if x.ag = true then 1 else 0)) (fun x env => setV env 4 (.bool x.ag)) (fun x _ => ruS ⟨n, a5, .slice (.own 3) (a9.map Xp.enc), .slice (.own 2) (a8.map Src.enc), tn, a3, df⟩ [[.tip a8.length], [.tip a9.length]] x.done x.l) (fun x => ruF ⟨n, a5, .slice (.own 2) (a9.map Xp.enc), .slice (.own 3) (a8.map Src.enc), tn, a3, df⟩ [[.tip a9.length], [.tip a8.length]] (loopD x.done x.l x.ag)) ⟨[.mk ⟨kind, name, table, col, cols, values, items, wher, sets, src, prio, event, deferred, rolls⟩ []], rb, g, by simp, erb, by omega, by intro hg; have := klt hg; simp only [List.length_singleton]; omega⟩ (by simp [s_zero, s_succ]) (by simp [ruS, actsV, actsT, RC.cells, senc_mk]) hR ?_
                          clear hR ha hm hA hM
                          intro ⟨done, l, ag, ne, he, hn, hd⟩ ih
                          dsimp only at ih ⊢
                          cases ag
                          ·rw [loopD_out]
                           have hx := ev_must1 [69, 78, 68] l he
                           cases hP : needP [69, 78, 68] l with
                           | mk o r =>
                            rw [hP] at hx
                            cases o with
                            | none =>
                             simp only [prO_none, faultV, rdS] at hx
                             simp [i_again, roundEnd, dropT, cleanV, coinW, coinL, coin4, coinV, coinS, afterB, Region.binds, k_some, k_coin, coinT, c_tip, t_arm, t_some, k_arm, i_arm, armV, aggT, isFull1, arm5, nodupN, i_join1, i_join2, meet_cons, meet_same, meet_undef, undef_meet, meet_nil, Tryz.f152, Tryz.ti3, Tryz.ti4, Tryz.ti9, Tryz.ti22, Tryz.ti23, Tryz.ti24, Tryz.ti25, Tryz.ti26, Tryz.ti28, Tryz.ti44, Tryz.ti46, Tryz.ti80, Tryz.ti84, Tryz.ti94, Tryz.ti100, Tryz.ti125, hi, RC.cells, ruF, ruS, actsV, actsT, gc, reach, reachFuel, shut, nodup, List.idxOf, List.findIdx, List.findIdx.go, backR, List.range, List.range.loop, -List.map_tail, ne, hP, hx, faultV, s_zero, s_succ]
                            | some a =>
                             simp only [prO_some, faultV, rdS] at hx
                             simp [i_again, roundEnd, dropT, cleanV, coinW, coinL, coin4, coinV, coinS, afterB, Region.binds, k_some, k_coin, coinT, c_tip, t_arm, t_some, k_arm, i_arm, armV, aggT, isFull1, arm5, nodupN, i_join1, i_join2, meet_cons, meet_same, meet_undef, undef_meet, meet_nil, Tryz.f152, Tryz.ti3, Tryz.ti4, Tryz.ti9, Tryz.ti22, Tryz.ti23, Tryz.ti24, Tryz.ti25, Tryz.ti26, Tryz.ti28, Tryz.ti44, Tryz.ti46, Tryz.ti80, Tryz.ti84, Tryz.ti94, Tryz.ti100, Tryz.ti125, hi, RC.cells, ruF, ruS, actsV, actsT, gc, reach, reachFuel, shut, nodup, List.idxOf, List.findIdx, List.findIdx.go, backR, List.range, List.range.loop, -List.map_tail, ne, hP, hx, faultV, s_zero, s_succ]
                          ·skip
                           have ha := ev_pact l he hn
                           have ka := kp_act l
                           unfold stZ at ha
                           cases hA : actP l with
                           | mk o ra =>
                            rw [hA] at ha ka
                            have era : Ends ra := ka.2 he
                            cases o with
                            | none =>
                             rw [prC_none] at ha
                             obtain ⟨q, hq⟩ := ha
                             simp only [PC.cells, faultV] at hq
                             rw [loopD_fail (.inl hA)]
                             simp [i_again, roundEnd, dropT, cleanV, coinW, coinL, coin4, coinV, coinS, afterB, Region.binds, k_some, k_coin, coinT, c_tip, t_arm, t_some, k_arm, i_arm, armV, aggT, isFull1, arm5, nodupN, i_join1, i_join2, meet_cons, meet_same, meet_undef, undef_meet, meet_nil, Tryz.f152, Tryz.ti3, Tryz.ti4, Tryz.ti9, Tryz.ti22, Tryz.ti23, Tryz.ti24, Tryz.ti25, Tryz.ti26, Tryz.ti28, Tryz.ti44, Tryz.ti46, Tryz.ti80, Tryz.ti84, Tryz.ti94, Tryz.ti100, Tryz.ti125, hi, RC.cells, ruF, ruS, actsV, actsT, gc, reach, reachFuel, shut, nodup, List.idxOf, List.findIdx, List.findIdx.go, backR, List.range, List.range.loop, -List.map_tail, hq, faultV, ne, s_zero, s_succ]
                            | some o =>
                             rw [prC_some] at ha
                             cases o with
                             | none =>
                              rw [loopD_fail (.inr hA)]
                              obtain ⟨t, q, rfl⟩ := ends_cons era
                              have hn := ev_no t q
                              simp only [actV, actC, stZ, Option.isSome, faultV, topAt, List.map_cons] at ha hn ⊢
                              generalize hte : t.enc = te at *
                              generalize hqs : q.map Tok.enc = qs at *
                              simp [i_again, roundEnd, dropT, cleanV, coinW, coinL, coin4, coinV, coinS, afterB, Region.binds, k_some, k_coin, coinT, c_tip, t_arm, t_some, k_arm, i_arm, armV, aggT, isFull1, arm5, nodupN, i_join1, i_join2, meet_cons, meet_same, meet_undef, undef_meet, meet_nil, Tryz.f152, Tryz.ti3, Tryz.ti4, Tryz.ti9, Tryz.ti22, Tryz.ti23, Tryz.ti24, Tryz.ti25, Tryz.ti26, Tryz.ti28, Tryz.ti44, Tryz.ti46, Tryz.ti80, Tryz.ti84, Tryz.ti94, Tryz.ti100, Tryz.ti125, hi, RC.cells, ruF, ruS, actsV, actsT, gc, reach, reachFuel, shut, nodup, List.idxOf, List.findIdx, List.findIdx.go, backR, List.range, List.range.loop, -List.map_tail, ha, hn, hte, hqs, faultV, topAt, ne, s_zero, s_succ]
                             | some b =>
                              rw [loopD_step hA]
                              have hm := ev_maybe [59] ra era
                              have km := maybe_keep [59] ra
                              have klt : (maybeP [59] ra).1 = true → (maybeP [59] ra).2.length < ra.length := by
                               unfold maybeP
                               cases hi : isT [59] ra
                               ·simp
                               ·intro _; exact tail_len hi
                              cases hM : maybeP [59] ra with
                              | mk g rb =>
                               rw [hM] at hm km klt
                               dsimp only at klt
                               have erb : Ends rb := km.2 era
                               have hl1 : ra.length ≤ l.length := ka.1
                               have hl2 : rb.length ≤ ra.length := km.1
                               simp only [actV, actC, StB.head, List.cons_append, List.nil_append, Option.isSome, rdS] at ha hm
                               obtain ⟨kind, name, table, col, cols, values, items, wher, sets, src, prio, event, deferred, rolls⟩ := b
                               dsimp only at ha ⊢
                               have ih := ih ⟨done ++ [.mk ⟨kind, name, table, col, cols, values, items, wher, sets, src, prio, event, deferred, rolls⟩ []], rb, g, by simp, erb, by omega, by
                                intro hg; have := klt hg; have := hd rfl; simp only [List.length_append, List.length_singleton]; omega⟩ (by
                                cases g
                                ·simp only [reduceIte, Bool.false_eq_true]; omega
                                ·have := klt rfl; simp only [reduceIte]; omega)
                               have hdl := hd rfl
                               generalize ruF _ _ _ = R at ih ⊢
                               simp only [ruS, actsV, actsT, RC.cells, List.map_append, List.map_cons, List.map_nil, senc_mk, List.length_append, List.length_singleton, if_neg (show ¬ (done ++ [Stm.mk ⟨kind, name, table, col, cols, values, items, wher, sets, src, prio, event, deferred, rolls⟩ []] = []) by simp), if_neg ne, List.cons_append, List.nil_append, List.length_nil, List.length_cons] at ih
                               simp only [s_zero, s_succ] at ih
                               simp only [ruS, actsV, actsT, RC.cells, if_neg ne, List.cons_append, List.nil_append, List.length_nil, List.length_cons]
                               have hlen : (done.map Stm.enc).length = done.length := by simp
                               have hff : ∀ x ∈ done.map Stm.enc, (vcells x).length = 15 := fun x hx => by obtain ⟨y, _, rfl⟩ := List.mem_map.1 hx; exact stm15 y
                               generalize done.map Stm.enc = xs at *
                               simp only [vcells] at hff
                               have hbb : (done.length + 1) * 248 ≤ 70368744177664 := by omega
                               have hbc : done.length + 1 ≤ 70368744177664 := by omega
                               simp +contextual [i_again, roundEnd, dropT, cleanV, coinW, coinL, coin4, coinV, coinS, afterB, Region.binds, k_some, k_coin, coinT, c_tip, t_arm, t_some, k_arm, i_arm, armV, aggT, isFull1, arm5, nodupN, i_join1, i_join2, meet_cons, meet_same, meet_undef, undef_meet, meet_nil, Tryz.f152, Tryz.ti3, Tryz.ti4, Tryz.ti9, Tryz.ti22, Tryz.ti23, Tryz.ti24, Tryz.ti25, Tryz.ti26, Tryz.ti28, Tryz.ti44, Tryz.ti46, Tryz.ti80, Tryz.ti84, Tryz.ti94, Tryz.ti100, Tryz.ti125, hi, RC.cells, gc, reach, reachFuel, shut, nodup, List.idxOf, List.findIdx, List.findIdx.go, backR, List.range, List.range.loop, -List.map_tail, ne, hlen, hff, hbb, hbc, ha, hm, appFp, s_zero, s_succ]
                               refine (if_pos (by decide +kernel)).trans ?_
                               exact ih
                     ·rw [actsP_eq]
                      simp only [loopD, if_true, List.nil_append, ruF]
                      generalize actsD (r11.length + 1) r11 = D
                      obtain ⟨ac, ok, rr⟩ := D
                      dsimp only
                      cases ok
                      ·simp only [Bool.false_eq_true, if_false, prC_none]
                       by_cases hac : ac = [] <;> simp [iceO, iceF, keepI, ruS, actsV, actsT, RC.cells, hac, faultV, nilV, stmC, StB.head, StB.zero, Stm.b, Stm.acts, refsL, refs, ownRefs, frz, frzL, Option.isNone, Option.getD, gc, reach, reachFuel, shut, nodup, List.idxOf, List.findIdx, List.findIdx.go, backR, List.range, List.range.loop, -List.map_tail] <;> exact ⟨⟨_, _, _, _, _, _, _, _, _, _, _, _, _, _, _⟩, rfl⟩
                      simp only [if_true]
                      cases hP : needP [69, 78, 68] rr with
                      | mk o rx =>
                       cases o with
                       | none =>
                        simp only [prC_none]
                        by_cases hac : ac = [] <;> simp [iceO, iceF, keepI, ruS, actsV, actsT, RC.cells, hac, faultV, nilV, stmC, StB.head, StB.zero, Stm.b, Stm.acts, refsL, refs, ownRefs, frz, frzL, Option.isNone, Option.getD, gc, reach, reachFuel, shut, nodup, List.idxOf, List.findIdx, List.findIdx.go, backR, List.range, List.range.loop, -List.map_tail] <;> exact ⟨⟨_, _, _, _, _, _, _, _, _, _, _, _, _, _, _⟩, rfl⟩
                       | some x =>
                        simp only [prC_some]
                        by_cases hac : ac = [] <;> simp [iceO, iceF, keepI, ruS, actsV, actsT, RC.cells, hac, faultV, nilV, stmC, StB.head, StB.zero, Stm.b, Stm.acts, refsL, refs, ownRefs, frz, frzL, Option.isNone, Option.getD, gc, reach, reachFuel, shut, nodup, List.idxOf, List.findIdx, List.findIdx.go, backR, List.range, List.range.loop, -List.map_tail]
              ·skip
               have hwi : ¬ (a7 : Int) = 2 := by omega
               simp only [if_neg hw, thenP] at ⊢
               have h8 := ev_must1 [68, 79] r8 e8
               have kk8 := kp_need [68, 79] r8
               cases hP8 : needP [68, 79] r8 with
               | mk o r9 =>
                rw [hP8] at h8 kk8
                cases o with
                | none =>
                 simp only [thenP, prO_none, prC_none, faultV, rdS] at h8 ⊢
                 simp [Tryz.f152, Tryz.ti3, Tryz.ti4, Tryz.ti9, Tryz.ti22, Tryz.ti23, Tryz.ti24, Tryz.ti25, Tryz.ti26, Tryz.ti28, Tryz.ti44, Tryz.ti46, Tryz.ti80, Tryz.ti84, Tryz.ti94, Tryz.ti100, Tryz.ti125, h0, w1, w3, h2, h3, h4, h5, hmd, h7, hwi, h8, nilV, stmC, StB.head, StB.zero, Stm.b, Stm.acts, gc, reach, reachFuel, shut, nodup, List.idxOf, List.findIdx, List.findIdx.go, backR, List.range, List.range.loop, -List.map_tail] <;> exact ⟨⟨_, _, _, _, _, _, _, _, _, _, _, _, _, _, _⟩, rfl⟩
                | some a8 =>
                 simp only [thenP, prO_some, rdS] at h8 ⊢
                 have e9 : Ends r9 := kk8.2 e8
                 have n9 : r9.length ≤ 100000 := Nat.le_trans kk8.1 n8
                 have hmr := ev_maybe [82, 79, 76, 76, 66, 65, 67, 75] r9 e9
                 unfold maybeP at hmr
                 cases hi : isT [82, 79, 76, 76, 66, 65, 67, 75] r9
                 rotate_left
                 ·rw [hi] at hmr
                  simp only [if_true, thenP, prC_some, rdS] at hmr ⊢
                  simp [Tryz.f152, Tryz.ti3, Tryz.ti4, Tryz.ti9, Tryz.ti22, Tryz.ti23, Tryz.ti24, Tryz.ti25, Tryz.ti26, Tryz.ti28, Tryz.ti44, Tryz.ti46, Tryz.ti80, Tryz.ti84, Tryz.ti94, Tryz.ti100, Tryz.ti125, h0, w1, w3, h2, h3, h4, h5, hmd, h7, hwi, h8, hmr, iceO, iceF, keepI, Option.isNone, Option.getD, nilV, stmC, StB.head, StB.zero, Stm.b, Stm.acts, gc, reach, reachFuel, shut, nodup, List.idxOf, List.findIdx, List.findIdx.go, backR, List.range, List.range.loop, -List.map_tail]
                 rw [hi] at hmr
                 simp only [Bool.false_eq_true, if_false, rdS] at hmr ⊢
                 simp [Tryz.f152, Tryz.ti3, Tryz.ti4, Tryz.ti9, Tryz.ti22, Tryz.ti23, Tryz.ti24, Tryz.ti25, Tryz.ti26, Tryz.ti28, Tryz.ti44, Tryz.ti46, Tryz.ti80, Tryz.ti84, Tryz.ti94, Tryz.ti100, Tryz.ti125, h0, w1, w3, h2, h3, h4, h5, hmd, h7, hwi, h8, hmr, gc, reach, reachFuel, shut, nodup, List.idxOf, List.findIdx, List.findIdx.go, backR, List.range, List.range.loop, -List.map_tail]
                 rw [i_loop (ts := [71, 5, 74, 75, 76, 77, 78, 79, 80, 81, 82, 83, 84, 85, 86, 87, 88, 89, 90, 91, 92, 93, 94, 95, 96, 97, 98, 99, 100, 101, 72, 73])]
                 rotate_left
                 ·kernel_rfl
                 refine ru_ice (R := ruF ⟨n, a5, .slice .full [], .slice .full [], tn, a3, df⟩ [] (loopD [] r9 true)) ?_ ?_
                 ·rw [i_round]
                  have ha := ev_pact r9 e9 n9
                  have ka := kp_act r9
                  unfold stZ at ha
                  cases hA : actP r9 with
                  | mk o ra =>
                   rw [hA] at ha ka
                   have era : Ends ra := ka.2 e9
                   cases o with
                   | none =>
                    rw [prC_none] at ha
                    obtain ⟨q, hq⟩ := ha
                    simp only [PC.cells, faultV] at hq
                    rw [loopD_fail (.inl hA)]
                    simp [i_again, roundEnd, dropT, cleanV, coinW, coinL, coin4, coinV, coinS, afterB, Region.binds, k_some, k_coin, coinT, c_tip, t_arm, t_some, k_arm, i_arm, armV, aggT, isFull1, arm5, nodupN, i_join1, i_join2, meet_cons, meet_same, meet_undef, undef_meet, meet_nil, Tryz.f152, Tryz.ti3, Tryz.ti4, Tryz.ti9, Tryz.ti22, Tryz.ti23, Tryz.ti24, Tryz.ti25, Tryz.ti26, Tryz.ti28, Tryz.ti44, Tryz.ti46, Tryz.ti80, Tryz.ti84, Tryz.ti94, Tryz.ti100, Tryz.ti125, hi, RC.cells, ruF, ruS, actsV, actsT, gc, reach, reachFuel, shut, nodup, List.idxOf, List.findIdx, List.findIdx.go, backR, List.range, List.range.loop, -List.map_tail, hq, faultV]
                   | some o =>
                    rw [prC_some] at ha
                    cases o with
                    | none =>
                     rw [loopD_fail (.inr hA)]
                     obtain ⟨t, q, rfl⟩ := ends_cons era
                     have hn := ev_no t q
                     simp only [actV, actC, stZ, Option.isSome, faultV, topAt, List.map_cons] at ha hn ⊢
                     generalize hte : t.enc = te at *
                     generalize hqs : q.map Tok.enc = qs at *
                     simp [i_again, roundEnd, dropT, cleanV, coinW, coinL, coin4, coinV, coinS, afterB, Region.binds, k_some, k_coin, coinT, c_tip, t_arm, t_some, k_arm, i_arm, armV, aggT, isFull1, arm5, nodupN, i_join1, i_join2, meet_cons, meet_same, meet_undef, undef_meet, meet_nil, Tryz.f152, Tryz.ti3, Tryz.ti4, Tryz.ti9, Tryz.ti22, Tryz.ti23, Tryz.ti24, Tryz.ti25, Tryz.ti26, Tryz.ti28, Tryz.ti44, Tryz.ti46, Tryz.ti80, Tryz.ti84, Tryz.ti94, Tryz.ti100, Tryz.ti125, hi, RC.cells, ruF, ruS, actsV, actsT, gc, reach, reachFuel, shut, nodup, List.idxOf, List.findIdx, List.findIdx.go, backR, List.range, List.range.loop, -List.map_tail, ha, hn, hte, hqs, faultV, topAt]
                    | some b =>
                     rw [loopD_step hA]
                     have hm := ev_maybe [59] ra era
                     have km := maybe_keep [59] ra
                     have klt : (maybeP [59] ra).1 = true → (maybeP [59] ra).2.length < ra.length := by
                      unfold maybeP
                      cases hi : isT [59] ra
                      ·simp
                      ·intro _; exact tail_len hi
                     cases hM : maybeP [59] ra with
                     | mk g rb =>
                      rw [hM] at hm km klt
                      dsimp only at klt
                      have erb : Ends rb := km.2 era
                      have hl1 : ra.length ≤ r9.length := ka.1
                      have hl2 : rb.length ≤ ra.length := km.1
                      simp only [actV, actC, StB.head, List.cons_append, List.nil_append, Option.isSome, rdS] at ha hm
                      obtain ⟨kind, name, table, col, cols, values, items, wher, sets, src, prio, event, deferred, rolls⟩ := b
                      dsimp only at ha ⊢
                      simp only [List.nil_append]
                      generalize hR : ruF _ _ _ = R
                      simp [i_again, roundEnd, dropT, cleanV, coinW, coinL, coin4, coinV, coinS, afterB, Region.binds, k_some, k_coin, coinT, c_tip, t_arm, t_some, k_arm, i_arm, armV, aggT, isFull1, arm5, nodupN, i_join1, i_join2, meet_cons, meet_same, meet_undef, undef_meet, meet_nil, Tryz.f152, Tryz.ti3, Tryz.ti4, Tryz.ti9, Tryz.ti22, Tryz.ti23, Tryz.ti24, Tryz.ti25, Tryz.ti26, Tryz.ti28, Tryz.ti44, Tryz.ti46, Tryz.ti80, Tryz.ti84, Tryz.ti94, Tryz.ti100, Tryz.ti125, hi, RC.cells, gc, reach, reachFuel, shut, nodup, List.idxOf, List.findIdx, List.findIdx.go, backR, List.range, List.range.loop, -List.map_tail, ha, hm, appFp]
                      refine (if_pos (by decide +kernel)).trans ?_
                      refine i_at2 (fun x : RSt => 2 * x.l.length + (if x.ag = true then 1 else 0)) (fun x env => setV env 4 (.bool x.ag)) (fun x _ => ruS ⟨n, a5, .slice .full [], .slice .full [], tn, a3, df⟩ [] x.done x.l) (fun x => ruF ⟨n, a5, .slice .full [], .slice .full [], tn, a3, df⟩ [] (loopD x.done x.l x.ag)) ⟨[.mk ⟨kind, name, table, col, cols, values, items, wher, sets, src, prio, event, deferred, rolls⟩ []], rb, g, by simp, erb, by omega, by intro hg; have := klt hg; simp only [List.length_singleton]; omega⟩ (by simp [s_zero, s_succ]) (by simp [ruS, actsV, actsT, RC.cells, senc_mk]) hR ?_
                      clear hR ha hm hA hM
                      intro ⟨done, l, ag, ne, he, hn, hd⟩ ih
                      dsimp only at ih ⊢
                      cases ag
                      ·rw [loopD_out]
                       have hx := ev_must1 [69, 78, 68] l he
                       cases hP : needP [69, 78, 68] l with
                       | mk o r =>
                        rw [hP] at hx
                        cases o with
                        | none =>
                         simp only [prO_none, faultV, rdS] at hx
                         simp [i_again, roundEnd, dropT, cleanV, coinW, coinL, coin4, coinV, coinS, afterB, Region.binds, k_some, k_coin, coinT, c_tip, t_arm, t_some, k_arm, i_arm, armV, aggT, isFull1, arm5, nodupN, i_join1, i_join2, meet_cons, meet_same, meet_undef, undef_meet, meet_nil, Tryz.f152, Tryz.ti3, Tryz.ti4, Tryz.ti9, Tryz.ti22, Tryz.ti23, Tryz.ti24, Tryz.ti25, Tryz.ti26, Tryz.ti28, Tryz.ti44, Tryz.ti46, Tryz.ti80, Tryz.ti84, Tryz.ti94, Tryz.ti100, Tryz.ti125, hi, RC.cells, ruF, ruS, actsV, actsT, gc, reach, reachFuel, shut, nodup, List.idxOf, List.findIdx, List.findIdx.go, backR, List.range, List.range.loop, -List.map_tail, ne, hP, hx, faultV, s_zero, s_succ]
                        | some a =>
                         simp only [prO_some, faultV, rdS] at hx
                         simp [i_again, roundEnd, dropT, cleanV, coinW, coinL, coin4, coinV, coinS, afterB, Region.binds, k_some, k_coin, coinT, c_tip, t_arm, t_some, k_arm, i_arm, armV, aggT, isFull1, arm5, nodupN, i_join1, i_join2, meet_cons, meet_same, meet_undef, undef_meet, meet_nil, Tryz.f152, Tryz.ti3, Tryz.ti4, Tryz.ti9, Tryz.ti22, Tryz.ti23, Tryz.ti24, Tryz.ti25, Tryz.ti26, Tryz.ti28, Tryz.ti44, Tryz.ti46, Tryz.ti80, Tryz.ti84, Tryz.ti94, Tryz.ti100, Tryz.ti125, hi, RC.cells, ruF, ruS, actsV, actsT, gc, reach, reachFuel, shut, nodup, List.idxOf, List.findIdx, List.findIdx.go, backR, List.range, List.range.loop, -List.map_tail, ne, hP, hx, faultV, s_zero, s_succ]
                      ·skip
                       have ha := ev_pact l he hn
                       have ka := kp_act l
                       unfold stZ at ha
                       cases hA : actP l with
                       | mk o ra =>
                        rw [hA] at ha ka
                        have era : Ends ra := ka.2 he
                        cases o with
                        | none =>
                         rw [prC_none] at ha
                         obtain ⟨q, hq⟩ := ha
                         simp only [PC.cells, faultV] at hq
                         rw [loopD_fail (.inl hA)]
                         simp [i_again, roundEnd, dropT, cleanV, coinW, coinL, coin4, coinV, coinS, afterB, Region.binds, k_some, k_coin, coinT, c_tip, t_arm, t_some, k_arm, i_arm, armV, aggT, isFull1, arm5, nodupN, i_join1, i_join2, meet_cons, meet_same, meet_undef, undef_meet, meet_nil, Tryz.f152, Tryz.ti3, Tryz.ti4, Tryz.ti9, Tryz.ti22, Tryz.ti23, Tryz.ti24, Tryz.ti25, Tryz.ti26, Tryz.ti28, Tryz.ti44, Tryz.ti46, Tryz.ti80, Tryz.ti84, Tryz.ti94, Tryz.ti100, Tryz.ti125, hi, RC.cells, ruF, ruS, actsV, actsT, gc, reach, reachFuel, shut, nodup, List.idxOf, List.findIdx, List.findIdx.go, backR, List.range, List.range.loop, -List.map_tail, hq, faultV, ne, s_zero, s_succ]
                        | some o =>
                         rw [prC_some] at ha
                         cases o with
                         | none =>
                          rw [loopD_fail (.inr hA)]
                          obtain ⟨t, q, rfl⟩ := ends_cons era
                          have hn := ev_no t q
                          simp only [actV, actC, stZ, Option.isSome, faultV, topAt, List.map_cons] at ha hn ⊢
                          generalize hte : t.enc = te at *
                          generalize hqs : q.map Tok.enc = qs at *
                          simp [i_again, roundEnd, dropT, cleanV, coinW, coinL, coin4, coinV, coinS, afterB, Region.binds, k_some, k_coin, coinT, c_tip, t_arm, t_some, k_arm, i_arm, armV, aggT, isFull1, arm5, nodupN, i_join1, i_join2, meet_cons, meet_same, meet_undef, undef_meet, meet_nil, Tryz.f152, Tryz.ti3, Tryz.ti4, Tryz.ti9, Tryz.ti22, Tryz.ti23, Tryz.ti24, Tryz.ti25, Tryz.ti26, Tryz.ti28, Tryz.ti44, Tryz.ti46, Tryz.ti80, Tryz.ti84, Tryz.ti94, Tryz.ti100, Tryz.ti125, hi, RC.cells, ruF, ruS, actsV, actsT, gc, reach, reachFuel, shut, nodup, List.idxOf, List.findIdx, List.findIdx.go, backR, List.range, List.range.loop, -List.map_tail, ha, hn, hte, hqs, faultV, topAt, ne, s_zero, s_succ]
                         | some b =>
                          rw [loopD_step hA]
                          have hm := ev_maybe [59] ra era
                          have km := maybe_keep [59] ra
                          have klt : (maybeP [59] ra).1 = true → (maybeP [59] ra).2.length < ra.length := by
                           unfold maybeP
                           cases hi : isT [59] ra
                           ·simp
                           ·intro _; exact tail_len hi
                          cases hM : maybeP [59] ra with
                          | mk g rb =>
                           rw [hM] at hm km klt
                           dsimp only at klt
                           have erb : Ends rb := km.2 era
                           have hl1 : ra.length ≤ l.length := ka.1
                           have hl2 : rb.length ≤ ra.length := km.1
                           simp only [actV, actC, StB.head, List.cons_append, List.nil_append, Option.isSome, rdS] at ha hm
                           obtain ⟨kind, name, table, col, cols, values, items, wher, sets, src, prio, event, deferred, rolls⟩ := b
                           dsimp only at ha ⊢
                           have ih := ih ⟨done ++ [.mk ⟨kind, name, table, col, cols, values, items, wher, sets, src, prio, event, deferred, rolls⟩ []], rb, g, by simp, erb, by omega, by
                            intro hg; have := klt hg; have := hd rfl; simp only [List.length_append, List.length_singleton]; omega⟩ (by
                            cases g
                            ·simp only [reduceIte, Bool.false_eq_true]; omega
                            ·have := klt rfl; simp only [reduceIte]; omega)
                           have hdl := hd rfl
                           generalize ruF _ _ _ = R at ih ⊢
                           simp only [ruS, actsV, actsT, RC.cells, List.map_append, List.map_cons, List.map_nil, senc_mk, List.length_append, List.length_singleton, if_neg (show ¬ (done ++ [Stm.mk ⟨kind, name, table, col, cols, values, items, wher, sets, src, prio, event, deferred, rolls⟩ []] = []) by simp), if_neg ne, List.cons_append, List.nil_append, List.length_nil, List.length_cons] at ih
                           simp only [s_zero, s_succ] at ih
                           simp only [ruS, actsV, actsT, RC.cells, if_neg ne, List.cons_append, List.nil_append, List.length_nil, List.length_cons]
                           have hlen : (done.map Stm.enc).length = done.length := by simp
                           have hff : ∀ x ∈ done.map Stm.enc, (vcells x).length = 15 := fun x hx => by obtain ⟨y, _, rfl⟩ := List.mem_map.1 hx; exact stm15 y
                           generalize done.map Stm.enc = xs at *
                           simp only [vcells] at hff
                           have hbb : (done.length + 1) * 248 ≤ 70368744177664 := by omega
                           have hbc : done.length + 1 ≤ 70368744177664 := by omega
                           simp +contextual [i_again, roundEnd, dropT, cleanV, coinW, coinL, coin4, coinV, coinS, afterB, Region.binds, k_some, k_coin, coinT, c_tip, t_arm, t_some, k_arm, i_arm, armV, aggT, isFull1, arm5, nodupN, i_join1, i_join2, meet_cons, meet_same, meet_undef, undef_meet, meet_nil, Tryz.f152, Tryz.ti3, Tryz.ti4, Tryz.ti9, Tryz.ti22, Tryz.ti23, Tryz.ti24, Tryz.ti25, Tryz.ti26, Tryz.ti28, Tryz.ti44, Tryz.ti46, Tryz.ti80, Tryz.ti84, Tryz.ti94, Tryz.ti100, Tryz.ti125, hi, RC.cells, gc, reach, reachFuel, shut, nodup, List.idxOf, List.findIdx, List.findIdx.go, backR, List.range, List.range.loop, -List.map_tail, ne, hlen, hff, hbb, hbc, ha, hm, appFp, s_zero, s_succ]
                           refine (if_pos (by decide +kernel)).trans ?_
                           exact ih
                 ·rw [actsP_eq]
                  simp only [loopD, if_true, List.nil_append, ruF]
                  generalize actsD (r9.length + 1) r9 = D
                  obtain ⟨ac, ok, rr⟩ := D
                  dsimp only
                  cases ok
                  ·simp only [Bool.false_eq_true, if_false, prC_none]
                   by_cases hac : ac = [] <;> simp [iceO, iceF, keepI, ruS, actsV, actsT, RC.cells, hac, faultV, nilV, stmC, StB.head, StB.zero, Stm.b, Stm.acts, refsL, refs, ownRefs, frz, frzL, Option.isNone, Option.getD, gc, reach, reachFuel, shut, nodup, List.idxOf, List.findIdx, List.findIdx.go, backR, List.range, List.range.loop, -List.map_tail] <;> exact ⟨⟨_, _, _, _, _, _, _, _, _, _, _, _, _, _, _⟩, rfl⟩
                  simp only [if_true]
                  cases hP : needP [69, 78, 68] rr with
                  | mk o rx =>
                   cases o with
                   | none =>
                    simp only [prC_none]
                    by_cases hac : ac = [] <;> simp [iceO, iceF, keepI, ruS, actsV, actsT, RC.cells, hac, faultV, nilV, stmC, StB.head, StB.zero, Stm.b, Stm.acts, refsL, refs, ownRefs, frz, frzL, Option.isNone, Option.getD, gc, reach, reachFuel, shut, nodup, List.idxOf, List.findIdx, List.findIdx.go, backR, List.range, List.range.loop, -List.map_tail] <;> exact ⟨⟨_, _, _, _, _, _, _, _, _, _, _, _, _, _, _⟩, rfl⟩
                   | some x =>
                    simp only [prC_some]
                    by_cases hac : ac = [] <;> simp [iceO, iceF, keepI, ruS, actsV, actsT, RC.cells, hac, faultV, nilV, stmC, StB.head, StB.zero, Stm.b, Stm.acts, refsL, refs, ownRefs, frz, frzL, Option.isNone, Option.getD, gc, reach, reachFuel, shut, nodup, List.idxOf, List.findIdx, List.findIdx.go, backR, List.range, List.range.loop, -List.map_tail]
end Go.Abs
