/- The program's reader: how expressions are read. -/
import Derived.Test.YtpmeklllgnnffaaGreatDoorR18
set_option linter.unusedSimpArgs false
set_option linter.unusedVariables false

namespace Go.Abs
set_option linter.unusedSimpArgs false
set_option linter.unusedVariables false
open Go Go.Proofs
attribute [local simp] i_nil i_blk i_skip i_ret i_exit i_seq i_block i_cond i_region' i_ops_nil i_ops i_drawn' k_none k_0 k_1 k_2 k_3 k_4 k_5 d_in a_nil a_cons alt1 h_nil h_one h_two z_nil z_cons z_cells zeqL zeq q_alloc q_some nxtN i_drh d_hi i_drw_nil i_drw u_nil u_code u_ops u_drw u_lp u_again u_exit u_ret u_panic c_bool o_some o_val o_panic d_some d_val d_panic w_none w_fast wantG q_nil q_zero q_succ t_zero t_succ g_zero g_succ s_zero s_succ s_some s_none v_tmp v_const v_func f_quiet gc_none gc_pure wrap_i64 p_move p_assign p_pick p_alloc p_box p_build p_buildSlice p_load p_store p_nilCheck p_binOp n_tmp n_int n_bool n_str n_ptr n_fun n_iface nilCmp p_unOp p_convert p_makeSlice p_makeInterface p_makeFunc p_slice p_fieldAddr p_field p_indexAddr p_index p_extract p_callv p_callb p_panic quiet_val new_val e_assign e_call e_load e_store e_alloc e_box e_move e_pick e_build e_buildSlice e_nilCheck e_binOp e_unOp e_convert e_makeSlice e_makeInterface e_makeFunc e_slice e_fieldAddr e_field e_indexAddr e_index e_extract e_panic callD fpRead adoptZ fulls adopt adoptL ofValue ofScalar binOpV unOpV intBin strBin eqRes veq veqF eqDepth val? finish resL r_tmp r_cell normL normTop tipIs refsL refs ownRefs single frz frzL ren renL renOwn callOp doCall backR writeBack builtinV loadV storeV storeW iceT cellsAt takeV D.isAgg overlay vcells cellOk fieldAddrV indexAddrV fieldV partV indexV buildV fillV buildSliceV litElems appendV appElems elemOk convertV convV winStr makeSliceV sliceV natOf
attribute [local simp ↓] brB_true brB_false brB_dec brB_not brB_and brB_or brB_beq brB_bne
section
variable (n : Nat) (hor : ∀ l, Ends l → l.length ≤ n → EV 79 [.box 0 0] (rdS l) = prO Xp.enc (orP n l))
include hor
set_option maxRecDepth 100000 in
set_option maxHeartbeats 4000000 in
theorem ev_atom (l : List Tok) (he : Ends l) (hn : l.length ≤ n + 1) : EV 223 [.box 0 0] (rdS l) = prO Xp.enc (atomP (orP n) l) := by
 obtain ⟨t, r, rfl⟩ := ends_cons he
 have h1 := ev_top t r
 rw [EV_mki rfl Tryz.func223 rfl (by kernel_rfl) rfl]
 by_cases k3 : t.kind = 3
 ·have h2 := ev_take t r (by omega) (tok_cells r)
  have hv := ev_value 2 t.n []
  have e : atomP (orP n) (t :: r) = (some (xval ⟨2, t.n, []⟩), r) := by simp [atomP, k3]
  rw [e, prO_some]
  simp only [rdS, List.map_cons] at h2 ⊢
  rw [xval, xenc_mk] at hv ⊢
  obtain ⟨k, m, p, w⟩ := t
  dsimp only at k3 hv h1 h2 ⊢
  subst k3
  rw [Tok.enc_eq] at h1 h2 ⊢
  generalize r.map Tok.enc = xs at *
  simp [Tryz.f223, Tryz.ti3, Tryz.ti9, Tryz.ti23, Tryz.ti44, Tryz.ti46, Tryz.ti100, Tryz.ti125, h1, h2, hv, gc, reach, reachFuel, shut, nodup, List.idxOf, List.findIdx, List.findIdx.go, backR, List.range, List.range.loop, -List.map_tail]
 by_cases k4 : t.kind = 4
 ·have h2 := ev_take t r (by omega) (tok_cells r)
  have hv := ev_value 3 0 t.s
  have e : atomP (orP n) (t :: r) = (some (xval ⟨3, 0, t.s⟩), r) := by simp [atomP, k4]
  rw [e, prO_some]
  simp only [rdS, List.map_cons] at h2 ⊢
  rw [xval, xenc_mk] at hv ⊢
  obtain ⟨k, m, p, w⟩ := t
  dsimp only at k4 hv h1 h2 ⊢
  subst k4
  rw [Tok.enc_eq] at h1 h2 ⊢
  generalize r.map Tok.enc = xs at *
  simp [Tryz.f223, Tryz.ti3, Tryz.ti9, Tryz.ti23, Tryz.ti44, Tryz.ti46, Tryz.ti100, Tryz.ti125, h1, h2, hv, gc, reach, reachFuel, shut, nodup, List.idxOf, List.findIdx, List.findIdx.go, backR, List.range, List.range.loop, -List.map_tail]
 by_cases k2 : t.kind = 2
 ·have h2 := ev_pname (t :: r) he
  have her := ends_next he (by omega)
  have h3 := ev_maybe [46] r her
  have en : nameP (t :: r) = (some t.s, r) := by simp [nameP, k2]
  rw [en, prO_some] at h2
  unfold maybeP at h3
  cases hi : isT [46] r
  ·have e : atomP (orP n) (t :: r) = (some (.mk oColumn Val.zero [] t.s []), r) := by simp [atomP, k2, hi]
   rw [e, prO_some, xenc_mk]
   rw [hi] at h3
   simp only [Bool.false_eq_true, if_false] at h3
   simp only [rdS, List.map_cons] at h2 h3 ⊢
   obtain ⟨k, m, p, w⟩ := t
   dsimp only at k2 h1 h2 ⊢
   subst k2
   rw [Tok.enc_eq] at h1 h2 ⊢
   generalize r.map Tok.enc = xs at *
   simp [Tryz.f223, Tryz.ti3, Tryz.ti9, Tryz.ti23, Tryz.ti44, Tryz.ti46, Tryz.ti100, Tryz.ti125, h1, h2, h3, oColumn, Val.zero, gc, reach, reachFuel, shut, nodup, List.idxOf, List.findIdx, List.findIdx.go, backR, List.range, List.range.loop, -List.map_tail]
  ·have hp := ev_pname r.tail (ends_tail her hi)
   have e : atomP (orP n) (t :: r) = thenP (nameP r.tail) fun c r' => (some (.mk oColumn Val.zero t.s c []), r') := by simp [atomP, k2, hi]
   rw [e]
   rw [hi] at h3
   simp only [if_true] at h3
   cases hc : nameP r.tail with
   | mk o r' =>
    rw [hc] at hp
    obtain ⟨k, m, p, w⟩ := t
    dsimp only at k2 h1 h2 ⊢
    subst k2
    cases o with
    | none =>
     simp only [thenP, prO_none, faultV, rdS, List.map_cons] at h1 h2 h3 hp ⊢
     rw [Tok.enc_eq] at h1 h2 ⊢
     generalize r.tail.map Tok.enc = ys at *
     generalize r.map Tok.enc = xs at *
     simp [Tryz.f223, Tryz.ti3, Tryz.ti9, Tryz.ti23, Tryz.ti44, Tryz.ti46, Tryz.ti100, Tryz.ti125, h1, h2, h3, hp, gc, reach, reachFuel, shut, nodup, List.idxOf, List.findIdx, List.findIdx.go, backR, List.range, List.range.loop, -List.map_tail] <;> exact panQ_with [4, 6] (by decide +kernel) (by
      intro j hj
      simp only [List.mem_cons, List.not_mem_nil, or_false] at hj
      rcases hj with rfl | rfl <;> kernel_rfl)
    | some c =>
     simp only [thenP, prO_some, rdS, List.map_cons, xenc_mk] at h1 h2 h3 hp ⊢
     rw [Tok.enc_eq] at h1 h2 ⊢
     generalize r.tail.map Tok.enc = ys at *
     generalize r.map Tok.enc = xs at *
     simp [Tryz.f223, Tryz.ti3, Tryz.ti9, Tryz.ti23, Tryz.ti44, Tryz.ti46, Tryz.ti100, Tryz.ti125, h1, h2, h3, hp, oColumn, Val.zero, gc, reach, reachFuel, shut, nodup, List.idxOf, List.findIdx, List.findIdx.go, backR, List.range, List.range.loop, -List.map_tail] <;> first | (refine panQ_of ?_; decide +kernel) | (change _ = true; decide +kernel) | kernel_rfl | (refine ⟨?_, ?_⟩ <;> first | (change _ = true; decide +kernel) | kernel_rfl)
 have h4 := ev_oneOf [[78, 85, 76, 76], [70, 65, 76, 83, 69], [84, 82, 85, 69], [40]] (by simp) (t :: r) he
 simp only [List.map_cons, List.map_nil] at h4
 cases i1 : isT [78, 85, 76, 76] (t :: r)
 rotate_left
 ·have hv := ev_value 0 0 []
  have e : atomP (orP n) (t :: r) = (some (xval Val.zero), r) := by simp [atomP, k2, k3, k4, i1]
  have e2 : oneOfP [[78, 85, 76, 76], [70, 65, 76, 83, 69], [84, 82, 85, 69], [40]] (t :: r) = (some 1, r) := by simp [oneOfP, oneP, i1]
  rw [e2, prO_some] at h4
  rw [e, prO_some]
  simp only [rdS, List.map_cons] at h1 h4 ⊢
  rw [xval, xenc_mk] at hv ⊢
  rw [Tok.enc_eq t] at h1 h4 ⊢
  generalize r.map Tok.enc = xs at *
  simp [Tryz.f223, Tryz.ti3, Tryz.ti9, Tryz.ti23, Tryz.ti44, Tryz.ti46, Tryz.ti100, Tryz.ti125, h1, h4, hv, k2, k3, k4, Val.zero, gc, reach, reachFuel, shut, nodup, List.idxOf, List.findIdx, List.findIdx.go, backR, List.range, List.range.loop, -List.map_tail]
 cases i2 : isT [70, 65, 76, 83, 69] (t :: r)
 rotate_left
 ·have hv := ev_value 1 0 []
  have e : atomP (orP n) (t :: r) = (some (xval ⟨1, 0, []⟩), r) := by simp [atomP, k2, k3, k4, i1, i2]
  have e2 : oneOfP [[78, 85, 76, 76], [70, 65, 76, 83, 69], [84, 82, 85, 69], [40]] (t :: r) = (some 2, r) := by simp [oneOfP, oneP, i1, i2]
  rw [e2, prO_some] at h4
  rw [e, prO_some]
  simp only [rdS, List.map_cons] at h1 h4 ⊢
  rw [xval, xenc_mk] at hv ⊢
  rw [Tok.enc_eq t] at h1 h4 ⊢
  generalize r.map Tok.enc = xs at *
  simp [Tryz.f223, Tryz.ti3, Tryz.ti9, Tryz.ti23, Tryz.ti44, Tryz.ti46, Tryz.ti100, Tryz.ti125, h1, h4, hv, k2, k3, k4, gc, reach, reachFuel, shut, nodup, List.idxOf, List.findIdx, List.findIdx.go, backR, List.range, List.range.loop, -List.map_tail]
 cases i3 : isT [84, 82, 85, 69] (t :: r)
 rotate_left
 ·have hv := ev_value 1 1 []
  have e : atomP (orP n) (t :: r) = (some (xval ⟨1, 1, []⟩), r) := by simp [atomP, k2, k3, k4, i1, i2, i3]
  have e2 : oneOfP [[78, 85, 76, 76], [70, 65, 76, 83, 69], [84, 82, 85, 69], [40]] (t :: r) = (some 3, r) := by simp [oneOfP, oneP, i1, i2, i3]
  rw [e2, prO_some] at h4
  rw [e, prO_some]
  simp only [rdS, List.map_cons] at h1 h4 ⊢
  rw [xval, xenc_mk] at hv ⊢
  rw [Tok.enc_eq t] at h1 h4 ⊢
  generalize r.map Tok.enc = xs at *
  simp [Tryz.f223, Tryz.ti3, Tryz.ti9, Tryz.ti23, Tryz.ti44, Tryz.ti46, Tryz.ti100, Tryz.ti125, h1, h4, hv, k2, k3, k4, gc, reach, reachFuel, shut, nodup, List.idxOf, List.findIdx, List.findIdx.go, backR, List.range, List.range.loop, -List.map_tail]
 cases i5 : isT [40] (t :: r)
 ·have e : atomP (orP n) (t :: r) = (none, t :: r) := by simp [atomP, k2, k3, k4, i1, i2, i3, i5]
  have e2 : oneOfP [[78, 85, 76, 76], [70, 65, 76, 83, 69], [84, 82, 85, 69], [40]] (t :: r) = (none, t :: r) := by simp [oneOfP, oneP, i1, i2, i3, i5]
  rw [e2] at h4
  rw [e]
  simp only [prO_none, faultV, rdS, List.map_cons] at h1 h4 ⊢
  rw [Tok.enc_eq t] at h1 h4 ⊢
  generalize r.map Tok.enc = xs at *
  simp [Tryz.f223, Tryz.ti3, Tryz.ti9, Tryz.ti23, Tryz.ti44, Tryz.ti46, Tryz.ti100, Tryz.ti125, h1, h4, k2, k3, k4, gc, reach, reachFuel, shut, nodup, List.idxOf, List.findIdx, List.findIdx.go, backR, List.range, List.range.loop, -List.map_tail]
 have her : Ends r := ends_tail (l := t :: r) he i5
 have ho := hor r her (by simp at hn; omega)
 have e : atomP (orP n) (t :: r) = parenP (orP n) r := by simp [atomP, k2, k3, k4, i1, i2, i3, i5]
 have e2 : oneOfP [[78, 85, 76, 76], [70, 65, 76, 83, 69], [84, 82, 85, 69], [40]] (t :: r) = (some 4, r) := by simp [oneOfP, oneP, i1, i2, i3, i5]
 rw [e2, prO_some] at h4
 rw [e]
 unfold parenP
 have kr := kp_or n r
 cases hc : orP n r with
 | mk o r1 =>
  rw [hc] at ho kr
  cases o with
  | none =>
   simp only [thenP, prO_none, faultV, rdS, List.map_cons] at h1 h4 ho ⊢
   rw [Tok.enc_eq t] at h1 h4 ⊢
   generalize r.map Tok.enc = xs at *
   simp [Tryz.f223, Tryz.ti3, Tryz.ti9, Tryz.ti23, Tryz.ti44, Tryz.ti46, Tryz.ti100, Tryz.ti125, h1, h4, ho, k2, k3, k4, gc, reach, reachFuel, shut, nodup, List.idxOf, List.findIdx, List.findIdx.go, backR, List.range, List.range.loop, -List.map_tail]
  | some e =>
   have hm := ev_must1 [41] r1 (kr.2 her)
   unfold needP at hm
   obtain ⟨op, v, var, col, kids⟩ := e
   simp only [thenP]
   cases i6 : isT [41] r1
   ·rw [i6] at hm
    simp only [Bool.false_eq_true, if_false, prO_none, prO_some, faultV, rdS, List.map_cons, xenc_mk] at h1 h4 ho hm ⊢
    rw [Tok.enc_eq t] at h1 h4 ⊢
    generalize r.map Tok.enc = xs at *
    simp [Tryz.f223, Tryz.ti3, Tryz.ti9, Tryz.ti23, Tryz.ti44, Tryz.ti46, Tryz.ti100, Tryz.ti125, h1, h4, ho, hm, k2, k3, k4, gc, reach, reachFuel, shut, nodup, List.idxOf, List.findIdx, List.findIdx.go, backR, List.range, List.range.loop, -List.map_tail]
   ·rw [i6] at hm
    simp only [if_true, prO_some, rdS, List.map_cons, xenc_mk] at h1 h4 ho hm ⊢
    rw [Tok.enc_eq t] at h1 h4 ⊢
    generalize r.map Tok.enc = xs at *
    simp [Tryz.f223, Tryz.ti3, Tryz.ti9, Tryz.ti23, Tryz.ti44, Tryz.ti46, Tryz.ti100, Tryz.ti125, h1, h4, ho, hm, k2, k3, k4, gc, reach, reachFuel, shut, nodup, List.idxOf, List.findIdx, List.findIdx.go, backR, List.range, List.range.loop, -List.map_tail]
theorem ev_unary : ∀ (k : Nat) (l : List Tok), Ends l → l.length ≤ n + 1 → l.length < k → EV 219 [.box 0 0] (rdS l) = prO Xp.enc (unaryP (orP n) k l)
 | 0, l, _, _, h => by omega
 | k + 1, l, he, hn, hk => by
  have hm := ev_maybe [45] l he
  unfold maybeP at hm
  rw [EV_mki rfl Tryz.func219 rfl (by kernel_rfl) rfl, unaryP]
  cases hi : isT [45] l
  ·have ha := ev_atom n hor l he hn
   rw [hi] at hm
   simp only [Bool.false_eq_true, if_false] at hm ⊢
   cases hc : atomP (orP n) l with
   | mk o r =>
    rw [hc] at ha
    cases o with
    | none =>
     simp only [prO_none, faultV, rdS] at hm ha ⊢
     simp [Tryz.f219, Tryz.ti3, Tryz.ti9, Tryz.ti23, Tryz.ti44, Tryz.ti46, hm, ha, gc, reach, reachFuel, shut, nodup, List.idxOf, List.findIdx, List.findIdx.go, backR, List.range, List.range.loop, -List.map_tail]
    | some e =>
     obtain ⟨op, v, var, col, kids⟩ := e
     simp only [prO_some, rdS, xenc_mk] at hm ha ⊢
     simp [Tryz.f219, Tryz.ti3, Tryz.ti9, Tryz.ti23, Tryz.ti44, Tryz.ti46, hm, ha, gc, reach, reachFuel, shut, nodup, List.idxOf, List.findIdx, List.findIdx.go, backR, List.range, List.range.loop, -List.map_tail]
  ·have htl := tail_len hi
   have ha := ev_unary k l.tail (ends_tail he hi) (by omega) (by omega)
   rw [hi] at hm
   simp only [if_true] at hm ⊢
   cases hc : unaryP (orP n) k l.tail with
   | mk o r =>
    rw [hc] at ha
    cases o with
    | none =>
     simp only [thenP, prO_none, faultV, rdS] at hm ha ⊢
     simp [Tryz.f219, Tryz.ti3, Tryz.ti9, Tryz.ti23, Tryz.ti44, Tryz.ti46, hm, ha, gc, reach, reachFuel, shut, nodup, List.idxOf, List.findIdx, List.findIdx.go, backR, List.range, List.range.loop, -List.map_tail]
    | some e =>
     have hop := ev_op oNeg [e.enc]
     obtain ⟨op, v, var, col, kids⟩ := e
     simp only [thenP, prO_some, rdS, xop, xenc_mk, List.map_cons, List.map_nil, oNeg] at hm ha hop ⊢
     simp [Tryz.f219, Tryz.ti3, Tryz.ti9, Tryz.ti23, Tryz.ti44, Tryz.ti46, hm, ha, hop, Val.zero, gc, reach, reachFuel, shut, nodup, List.idxOf, List.findIdx, List.findIdx.go, backR, List.range, List.range.loop, -List.map_tail]
theorem ev_term (l : List Tok) (he : Ends l) (hn : l.length ≤ n + 1) : EV 211 [.box 0 0] (rdS l) = prO Xp.enc (termP (orP n) l) := by
 have h := ev_chain 219 (unaryL (orP n)) (kp_unaryL (kp_or n)) termTbl (by simp [termTbl]) (n + 1) (fun l h1 h2 => ev_unary n hor (l.length + 1) l h1 h2 (by omega)) l he hn
 have e : termP (orP n) l = chainP (unaryL (orP n)) termTbl l := rfl
 rw [e]
 rw [EV_mki rfl Tryz.func211 rfl (by kernel_rfl) rfl]
 cases hc : chainP (unaryL (orP n)) termTbl l with
 | mk o r =>
  rw [hc] at h
  simp only [termTbl, oAnd, oOr, List.map_cons, List.map_nil] at h
  cases o with
  | none =>
   simp only [prO_none, faultV, rdS] at h ⊢
   simp [Tryz.f211, Tryz.ti3, Tryz.ti9, Tryz.ti23, Tryz.ti44, Tryz.ti46, Tryz.ti100, h, gc, reach, reachFuel, shut, nodup, List.idxOf, List.findIdx, List.findIdx.go, backR, List.range, List.range.loop, -List.map_tail]
  | some e =>
   obtain ⟨op, v, var, col, kids⟩ := e
   simp only [prO_some, rdS, xenc_mk] at h ⊢
   simp [Tryz.f211, Tryz.ti3, Tryz.ti9, Tryz.ti23, Tryz.ti44, Tryz.ti46, Tryz.ti100, h, gc, reach, reachFuel, shut, nodup, List.idxOf, List.findIdx, List.findIdx.go, backR, List.range, List.range.loop, -List.map_tail]
theorem ev_sum (l : List Tok) (he : Ends l) (hn : l.length ≤ n + 1) : EV 194 [.box 0 0] (rdS l) = prO Xp.enc (sumP (orP n) l) := by
 have h := ev_chain 211 (termP (orP n)) (kp_term (kp_or n)) sumTbl (by simp [sumTbl]) (n + 1) (fun l h1 h2 => ev_term n hor l h1 h2) l he hn
 have e : sumP (orP n) l = chainP (termP (orP n)) sumTbl l := rfl
 rw [e]
 rw [EV_mki rfl Tryz.func194 rfl (by kernel_rfl) rfl]
 cases hc : chainP (termP (orP n)) sumTbl l with
 | mk o r =>
  rw [hc] at h
  simp only [sumTbl, oAnd, oOr, List.map_cons, List.map_nil] at h
  cases o with
  | none =>
   simp only [prO_none, faultV, rdS] at h ⊢
   simp [Tryz.f194, Tryz.ti3, Tryz.ti9, Tryz.ti23, Tryz.ti44, Tryz.ti46, Tryz.ti100, h, gc, reach, reachFuel, shut, nodup, List.idxOf, List.findIdx, List.findIdx.go, backR, List.range, List.range.loop, -List.map_tail]
  | some e =>
   obtain ⟨op, v, var, col, kids⟩ := e
   simp only [prO_some, rdS, xenc_mk] at h ⊢
   simp [Tryz.f194, Tryz.ti3, Tryz.ti9, Tryz.ti23, Tryz.ti44, Tryz.ti46, Tryz.ti100, h, gc, reach, reachFuel, shut, nodup, List.idxOf, List.findIdx, List.findIdx.go, backR, List.range, List.range.loop, -List.map_tail]
set_option maxHeartbeats 4000000 in
theorem ev_cmp (l : List Tok) (he : Ends l) (hn : l.length ≤ n + 1) : EV 176 [.box 0 0] (rdS l) = prO Xp.enc (cmpP (sumP (orP n)) l) := by
 have hs := ev_sum n hor l he hn
 have ks := kp_sum (kp_or n) l
 rw [EV_mki rfl Tryz.func176 rfl (by kernel_rfl) rfl]
 unfold cmpP
 cases hc : sumP (orP n) l with
 | mk o r =>
  rw [hc] at hs ks
  have kl : r.length ≤ l.length := ks.1
  have ke : Ends r := ks.2 he
  cases o with
  | none =>
   simp only [thenP, prO_none, faultV, rdS] at hs ⊢
   simp [Tryz.f176, Tryz.ti3, Tryz.ti9, Tryz.ti23, Tryz.ti44, Tryz.ti46, Tryz.ti100, hs, gc, reach, reachFuel, shut, nodup, List.idxOf, List.findIdx, List.findIdx.go, backR, List.range, List.range.loop, -List.map_tail]
  | some e =>
   have h1 := ev_one [[61], [60, 62], [60], [60, 61], [62], [62, 61]] (by simp) r ke
   have ho := one_op cmpTbl r
   have em : cmpTbl.map Prod.fst = [[61], [60, 62], [60], [60, 61], [62], [62, 61]] := rfl
   have em2 : cmpTbl.map Prod.snd = [[61], [60, 62], [60], [60, 61], [62], [62, 61]] := rfl
   rw [em, em2] at ho
   simp only [thenP]
   cases hop : opAt cmpTbl r with
   | some oo =>
    rw [hop] at ho
    obtain ⟨j, ho1, ho2⟩ := ho
    rw [ho1] at h1
    have h3 := opAt_tail hop
    have hs2 := ev_sum n hor r.tail (h3.2 ke) (by omega)
    have hopp := fun f : Xp => ev_op oo [e.enc, f.enc]
    have hj : j < 6 := by
     rcases Nat.lt_or_ge j 6 with h | h
     ·exact h
     ·rw [List.getElem?_eq_none (by simpa using h)] at ho2; cases ho2
    simp only
    cases hc2 : sumP (orP n) r.tail with
    | mk o2 r2 =>
     rw [hc2] at hs2
     obtain ⟨op, v, var, col, kids⟩ := e
     have hw : IntKind.i64.wrap ((j : Int) + 1 - 1) = j := by rw [show (j : Int) + 1 - 1 = j by omega]; exact wrap_i64 (by omega)
     have hw2 : IntKind.i64.wrap (j : Int) = j := wrap_i64 (by omega)
     have hj2 : (j : Int) < 6 := by omega
     have hj3 : (0 : Int) < (j : Int) + 1 := by omega
     cases o2 with
     | none =>
      simp only [thenP, prO_none, prO_some, faultV, rdS, xenc_mk, List.map_cons, List.map_nil] at hs hs2 h1 ⊢
      obtain rfl | rfl | rfl | rfl | rfl | rfl : j = 0 ∨ j = 1 ∨ j = 2 ∨ j = 3 ∨ j = 4 ∨ j = 5 := by omega
      all_goals
       simp [-List.map_tail] at h1
       simp [Tryz.f176, Tryz.ti3, Tryz.ti9, Tryz.ti23, Tryz.ti44, Tryz.ti46, Tryz.ti100, hs, hs2, h1, gc, reach, reachFuel, shut, nodup, List.idxOf, List.findIdx, List.findIdx.go, backR, List.range, List.range.loop, -List.map_tail] <;> first | (refine panQ_of ?_; decide +kernel) | (change _ = true; decide +kernel) | kernel_rfl | (refine ⟨?_, ?_⟩ <;> first | (change _ = true; decide +kernel) | kernel_rfl)
     | some f =>
      have hopp := hopp f
      obtain ⟨fop, fv, fvar, fcol, fkids⟩ := f
      simp only [thenP, prO_some, rdS, xop, xenc_mk, List.map_cons, List.map_nil] at hs hs2 h1 hopp ⊢
      obtain rfl | rfl | rfl | rfl | rfl | rfl : j = 0 ∨ j = 1 ∨ j = 2 ∨ j = 3 ∨ j = 4 ∨ j = 5 := by omega
      all_goals
       simp [-List.map_tail] at h1 ho2
       subst ho2
       simp [Tryz.f176, Tryz.ti3, Tryz.ti9, Tryz.ti23, Tryz.ti44, Tryz.ti46, Tryz.ti100, hs, hs2, h1, hopp, Val.zero, gc, reach, reachFuel, shut, nodup, List.idxOf, List.findIdx, List.findIdx.go, backR, List.range, List.range.loop, -List.map_tail] <;> first | (refine panQ_of ?_; decide +kernel) | (change _ = true; decide +kernel) | kernel_rfl | (refine ⟨?_, ?_⟩ <;> first | (change _ = true; decide +kernel) | kernel_rfl)
   | none =>
    rw [hop] at ho
    simp only at ho
    rw [ho] at h1
    have h2 := ev_maybe [73, 83] r ke
    unfold maybeP at h2
    unfold isP
    simp only
    cases i1 : isT [73, 83] r
    ·rw [i1] at h2
     obtain ⟨op, v, var, col, kids⟩ := e
     simp only [Bool.false_eq_true, if_false, prO_some, rdS, xenc_mk, List.map_cons, List.map_nil] at hs h1 h2 ⊢
     simp [-List.map_tail] at h1
     simp [Tryz.f176, Tryz.ti3, Tryz.ti9, Tryz.ti23, Tryz.ti44, Tryz.ti46, Tryz.ti100, hs, h1, h2, gc, reach, reachFuel, shut, nodup, List.idxOf, List.findIdx, List.findIdx.go, backR, List.range, List.range.loop, -List.map_tail]
    ·rw [i1] at h2
     have ke2 := ends_tail ke i1
     have h3 := ev_maybe [78, 79, 84] r.tail ke2
     have km := maybe_keep [78, 79, 84] r.tail
     simp only [if_true] at h2 ⊢
     cases hm : maybeP [78, 79, 84] r.tail with
     | mk b r2 =>
      rw [hm] at h3 km
      have h4 := ev_must1 [78, 85, 76, 76] r2 (km.2 ke2)
      have hop1 := ev_op oNull [e.enc]
      have hop2 := ev_op oNot [(xop oNull [e]).enc]
      obtain ⟨op, v, var, col, kids⟩ := e
      simp only
      cases hq : needP [78, 85, 76, 76] r2 with
      | mk o3 r3 =>
       rw [hq] at h4
       cases o3 with
       | none =>
        simp only [thenP, prO_none, prO_some, faultV, rdS, xenc_mk, List.map_cons, List.map_nil] at hs h1 h2 h3 h4 ⊢
        simp [-List.map_tail] at h1
        simp [Tryz.f176, Tryz.ti3, Tryz.ti9, Tryz.ti23, Tryz.ti44, Tryz.ti46, Tryz.ti100, hs, h1, h2, h3, h4, gc, reach, reachFuel, shut, nodup, List.idxOf, List.findIdx, List.findIdx.go, backR, List.range, List.range.loop, -List.map_tail]
       | some u =>
        cases b
        ·simp only [thenP, prO_some, rdS, xop, xenc_mk, List.map_cons, List.map_nil, oNull, oNot, Bool.false_eq_true, if_false] at hs h1 h2 h3 h4 hop1 hop2 ⊢
         simp [-List.map_tail] at h1
         simp [Tryz.f176, Tryz.ti3, Tryz.ti9, Tryz.ti23, Tryz.ti44, Tryz.ti46, Tryz.ti100, hs, h1, h2, h3, h4, hop1, Val.zero, gc, reach, reachFuel, shut, nodup, List.idxOf, List.findIdx, List.findIdx.go, backR, List.range, List.range.loop, -List.map_tail]
        ·simp only [thenP, prO_some, rdS, xop, xenc_mk, List.map_cons, List.map_nil, oNull, oNot, if_true, Val.zero] at hs h1 h2 h3 h4 hop1 hop2 ⊢
         simp [-List.map_tail] at h1
         simp [Tryz.f176, Tryz.ti3, Tryz.ti9, Tryz.ti23, Tryz.ti44, Tryz.ti46, Tryz.ti100, hs, h1, h2, h3, h4, hop1, hop2, gc, reach, reachFuel, shut, nodup, List.idxOf, List.findIdx, List.findIdx.go, backR, List.range, List.range.loop, -List.map_tail]
theorem ev_not : ∀ (k : Nat) (l : List Tok), Ends l → l.length ≤ n + 1 → l.length < k → EV 162 [.box 0 0] (rdS l) = prO Xp.enc (notP (cmpP (sumP (orP n))) k l)
 | 0, l, _, _, h => by omega
 | k + 1, l, he, hn, hk => by
  have hm := ev_maybe [78, 79, 84] l he
  unfold maybeP at hm
  rw [EV_mki rfl Tryz.func162 rfl (by kernel_rfl) rfl, notP]
  cases hi : isT [78, 79, 84] l
  ·have ha := ev_cmp n hor l he hn
   rw [hi] at hm
   simp only [Bool.false_eq_true, if_false] at hm ⊢
   cases hc : cmpP (sumP (orP n)) l with
   | mk o r =>
    rw [hc] at ha
    cases o with
    | none =>
     simp only [prO_none, faultV, rdS] at hm ha ⊢
     simp [Tryz.f162, Tryz.ti3, Tryz.ti9, Tryz.ti23, Tryz.ti44, Tryz.ti46, hm, ha, gc, reach, reachFuel, shut, nodup, List.idxOf, List.findIdx, List.findIdx.go, backR, List.range, List.range.loop, -List.map_tail]
    | some e =>
     obtain ⟨op, v, var, col, kids⟩ := e
     simp only [prO_some, rdS, xenc_mk] at hm ha ⊢
     simp [Tryz.f162, Tryz.ti3, Tryz.ti9, Tryz.ti23, Tryz.ti44, Tryz.ti46, hm, ha, gc, reach, reachFuel, shut, nodup, List.idxOf, List.findIdx, List.findIdx.go, backR, List.range, List.range.loop, -List.map_tail]
  ·have htl := tail_len hi
   have ha := ev_not k l.tail (ends_tail he hi) (by omega) (by omega)
   rw [hi] at hm
   simp only [if_true] at hm ⊢
   cases hc : notP (cmpP (sumP (orP n))) k l.tail with
   | mk o r =>
    rw [hc] at ha
    cases o with
    | none =>
     simp only [thenP, prO_none, faultV, rdS] at hm ha ⊢
     simp [Tryz.f162, Tryz.ti3, Tryz.ti9, Tryz.ti23, Tryz.ti44, Tryz.ti46, hm, ha, gc, reach, reachFuel, shut, nodup, List.idxOf, List.findIdx, List.findIdx.go, backR, List.range, List.range.loop, -List.map_tail]
    | some e =>
     have hop := ev_op oNot [e.enc]
     obtain ⟨op, v, var, col, kids⟩ := e
     simp only [thenP, prO_some, rdS, xop, xenc_mk, List.map_cons, List.map_nil, oNot] at hm ha hop ⊢
     simp [Tryz.f162, Tryz.ti3, Tryz.ti9, Tryz.ti23, Tryz.ti44, Tryz.ti46, hm, ha, hop, Val.zero, gc, reach, reachFuel, shut, nodup, List.idxOf, List.findIdx, List.findIdx.go, backR, List.range, List.range.loop, -List.map_tail]
theorem ev_and (l : List Tok) (he : Ends l) (hn : l.length ≤ n + 1) : EV 129 [.box 0 0] (rdS l) = prO Xp.enc (andP (orP n) l) := by
 have h := ev_chain 162 (notL (orP n)) (kp_notL (kp_or n)) andTbl (by simp [andTbl]) (n + 1) (fun l h1 h2 => ev_not n hor (l.length + 1) l h1 h2 (by omega)) l he hn
 have e : andP (orP n) l = chainP (notL (orP n)) andTbl l := rfl
 rw [e]
 rw [EV_mki rfl Tryz.func129 rfl (by kernel_rfl) rfl]
 cases hc : chainP (notL (orP n)) andTbl l with
 | mk o r =>
  rw [hc] at h
  simp only [andTbl, oAnd, oOr, List.map_cons, List.map_nil] at h
  cases o with
  | none =>
   simp only [prO_none, faultV, rdS] at h ⊢
   simp [Tryz.f129, Tryz.ti3, Tryz.ti9, Tryz.ti23, Tryz.ti44, Tryz.ti46, Tryz.ti100, h, gc, reach, reachFuel, shut, nodup, List.idxOf, List.findIdx, List.findIdx.go, backR, List.range, List.range.loop, -List.map_tail]
  | some e =>
   obtain ⟨op, v, var, col, kids⟩ := e
   simp only [prO_some, rdS, xenc_mk] at h ⊢
   simp [Tryz.f129, Tryz.ti3, Tryz.ti9, Tryz.ti23, Tryz.ti44, Tryz.ti46, Tryz.ti100, h, gc, reach, reachFuel, shut, nodup, List.idxOf, List.findIdx, List.findIdx.go, backR, List.range, List.range.loop, -List.map_tail]
theorem ev_or1 (l : List Tok) (he : Ends l) (hn : l.length ≤ n + 1) : EV 79 [.box 0 0] (rdS l) = prO Xp.enc (orP (n + 1) l) := by
 have h := ev_chain 129 (andP (orP n)) (kp_and (kp_or n)) orTbl (by simp [orTbl]) (n + 1) (fun l h1 h2 => ev_and n hor l h1 h2) l he hn
 have e : orP (n + 1) l = chainP (andP (orP n)) orTbl l := rfl
 rw [e]
 rw [EV_mki rfl Tryz.func79 rfl (by kernel_rfl) rfl]
 cases hc : chainP (andP (orP n)) orTbl l with
 | mk o r =>
  rw [hc] at h
  simp only [orTbl, oAnd, oOr, List.map_cons, List.map_nil] at h
  cases o with
  | none =>
   simp only [prO_none, faultV, rdS] at h ⊢
   simp [Tryz.f79, Tryz.ti3, Tryz.ti9, Tryz.ti23, Tryz.ti44, Tryz.ti46, Tryz.ti100, h, gc, reach, reachFuel, shut, nodup, List.idxOf, List.findIdx, List.findIdx.go, backR, List.range, List.range.loop, -List.map_tail]
  | some e =>
   obtain ⟨op, v, var, col, kids⟩ := e
   simp only [prO_some, rdS, xenc_mk] at h ⊢
   simp [Tryz.f79, Tryz.ti3, Tryz.ti9, Tryz.ti23, Tryz.ti44, Tryz.ti46, Tryz.ti100, h, gc, reach, reachFuel, shut, nodup, List.idxOf, List.findIdx, List.findIdx.go, backR, List.range, List.range.loop, -List.map_tail]
end
theorem ev_orn : ∀ (n : Nat) (l : List Tok), Ends l → l.length ≤ n → EV 79 [.box 0 0] (rdS l) = prO Xp.enc (orP n l)
 | 0, l, he, hn => by
  obtain ⟨t, r, rfl⟩ := ends_cons he
  simp at hn
 | n + 1, l, he, hn => ev_or1 n (ev_orn n) l he hn
theorem ev_or (l : List Tok) (he : Ends l) : EV 79 [.box 0 0] (rdS l) = prO Xp.enc (exprP l) := ev_orn (l.length + 1) l he (by omega)
end Go.Abs
