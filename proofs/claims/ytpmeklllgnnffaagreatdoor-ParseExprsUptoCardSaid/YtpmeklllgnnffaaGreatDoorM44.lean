/- The program's reader of an expression's text. -/
import Derived.Test.YtpmeklllgnnffaaGreatDoorM43
import Derived.Test.YtpmeklllgnnffaaGreatDoorM39
set_option linter.unusedSimpArgs false
set_option linter.unusedVariables false

namespace Go.Abs
set_option linter.unusedSimpArgs false
set_option linter.unusedVariables false
open Go Go.Proofs
attribute [local simp] i_nil i_blk i_skip i_ret i_exit i_seq i_block i_cond i_region' i_ops_nil i_ops i_drawn' d_in a_nil a_cons alt1 h_nil h_one h_two z_nil z_cons z_cells zeqL zeq q_alloc q_some isAlO nxtN i_drh d_hi i_drw_nil i_drw u_nil u_code u_ops u_drw u_lp u_again u_exit u_ret u_panic c_bool o_some o_val o_panic d_some d_val d_panic w_none w_fast wantG q_nil q_zero q_succ t_zero t_succ g_zero g_succ s_zero s_succ s_some s_none v_tmp v_const v_func f_quiet gc_none gc_pure wrap_i64 p_move p_assign p_pick p_alloc p_box p_build p_buildSlice p_load p_store p_nilCheck p_binOp n_tmp n_int n_bool n_str n_ptr n_fun n_iface nilCmp p_unOp p_convert p_makeSlice p_makeInterface p_makeFunc p_slice p_fieldAddr p_field p_indexAddr p_index p_extract p_callv p_callb p_panic quiet_val new_val e_assign e_call e_load e_store e_alloc e_box e_move e_pick e_build e_buildSlice e_nilCheck e_binOp e_unOp e_convert e_makeSlice e_makeInterface e_makeFunc e_slice e_fieldAddr e_field e_indexAddr e_index e_extract e_panic callD fpRead adoptZ fulls adopt adoptL ofValue ofScalar binOpV unOpV intBin strBin eqRes veq veqF eqDepth val? finish resL r_tmp r_cell normL normTop tipIs refsL refs ownRefs single frz frzL ren renL renOwn callOp doCall backR writeBack builtinV loadV storeV storeW iceT cellsAt takeV D.isAgg overlay vcells cellOk fieldAddrV indexAddrV fieldV partV indexV buildV fillV buildSliceV litElems appendV appElems elemOk convertV convV winStr makeSliceV sliceV natOf
attribute [local simp ↓] brB_true brB_false brB_dec brB_not brB_and brB_or brB_beq brB_bne

def xZ (o : Own) : List V := [.str [], .int .i64 0, .int .i64 0, .str [], .str [], .str [], .slice o []]
def xzV : V := .agg [.str [], .int .i64 0, .int .i64 0, .str [], .str [], .str [], .slice .froz []]
def errV (k q : Int) : V := .agg [.int .i64 k, .int .i64 q]
/- what is in the parser's cell behind the reading -/
def exX (s : List UInt8) : V × Int × Int := let r := parseXS s; (r.1.enc, r.2.1, r.2.2)

set_option maxRecDepth 100000 in
theorem ev_expr1 (l : List Tok) (he : Ends l) : EV 78 [.box 0 0, .box 1 0] [[.slice .froz (l.map Tok.enc)], xZ (.own 2), [.tip 0]] =
    match exprP l with
    | (some e, r) => some (.ret (.tup []), [[.slice .froz (r.map Tok.enc)], vcells e.enc, [.tip 0]])
    | (none, r) => some (.panic (faultV (topAt r)), [[.slice .froz (r.map Tok.enc)], xZ (.own 2), [.tip 0]]) := by
  have h0 := ev_or l he
  rw [EV_mki rfl Tryz.func78 rfl (by kernel_rfl) rfl]
  unfold xZ
  cases hP : exprP l with
  | mk o r =>
    rw [hP] at h0
    cases o with
    | none =>
      simp only [prO_none, faultV, rdS] at h0 ⊢
      simp [Tryz.f78, Tryz.ti3, Tryz.ti9, Tryz.ti23, Tryz.ti44, Tryz.ti46, h0, gc, reach, reachFuel, shut, nodup, List.idxOf, List.findIdx, List.findIdx.go, backR, List.range, List.range.loop, -List.map_tail]
    | some e =>
      obtain ⟨op, v, var, col, kids⟩ := e
      simp only [prO_some, rdS, xenc_mk, vcells] at h0 ⊢
      simp [Tryz.f78, Tryz.ti3, Tryz.ti9, Tryz.ti23, Tryz.ti44, Tryz.ti46, h0, gc, reach, reachFuel, shut, nodup, List.idxOf, List.findIdx, List.findIdx.go, backR, List.range, List.range.loop, -List.map_tail]
theorem ev_expr2 (e : Xp) (ho : e.ok) : EV 80 [.box 0 0] [vcells e.enc] = some (.ret (.bool (rightE 20 e)), [vcells e.enc]) := by
  have h0 := ev_rightexpr e ho
  rw [EV_mki rfl Tryz.func80 rfl (by kernel_rfl) rfl]
  obtain ⟨op, v, var, col, kids⟩ := e
  simp only [xenc_mk, vcells] at h0 ⊢
  simp [Tryz.f80, Tryz.ti3, Tryz.ti9, Tryz.ti23, Tryz.ti44, Tryz.ti46, h0, gc, reach, reachFuel, shut, nodup, List.idxOf, List.findIdx, List.findIdx.go, backR, List.range, List.range.loop, -List.map_tail]

/- the boxes of a reading -/
def rdX (x : List V) (l : List Tok) : St := [[.func 78 [] [.box 1 0]], x, [.tip 0], [.box 4 0], [.slice .froz (l.map Tok.enc)], [.func 80 [] [.box 1 0]]]
def kindV (k q : Int) : V := .iface 58 (.agg [.int .i64 k, .int .i64 q])
def rdXO (l : List Tok) : Option (Out × St) :=
  match exprP l with
  | (none, r) => some (.panic (kindV 1 (topAt r)), rdX (xZ (.own 2)) r)
  | (some e, r) => if topK r = 0 then (if rightE 20 e = true then some (.ret (.tup []), rdX (vcells e.enc) r) else some (.panic (kindV 8 0), rdX (vcells e.enc) r)) else some (.panic (kindV 1 (topAt r)), rdX (vcells e.enc) r)
set_option maxRecDepth 100000 in
theorem ev_read1 (l : List Tok) (he : Ends l) (hok : ∀ e r, exprP l = (some e, r) → e.ok) : EV 96 [.box 0 0, .box 3 0, .box 5 0] (rdX (xZ (.own 2)) l) = rdXO l := by
  have h1 := ev_expr1 l he
  have k0 := kp_expr l
  rw [EV_mki rfl Tryz.func96 rfl (by kernel_rfl) rfl]
  unfold rdXO rdX xZ at *
  cases hP : exprP l with
  | mk o r =>
    rw [hP] at h1 k0
    cases o with
    | none =>
      simp only [faultV] at h1
      simp [Tryz.f96, Tryz.ti3, Tryz.ti9, Tryz.ti29, Tryz.ti64, Tryz.ti109, Tryz.ti111, Tryz.ti125, Tryz.ti141, h1, kindV, gc, reach, reachFuel, shut, nodup, List.idxOf, List.findIdx, List.findIdx.go, backR, List.range, List.range.loop, -List.map_tail]
    | some e =>
      have e1 : Ends r := k0.2 he
      obtain ⟨t, q, rfl⟩ := ends_cons e1
      have h2 := ev_top t q
      have h3 := ev_no t q
      have h4 := ev_expr2 e (hok e _ hP)
      have h5 := ev_check 8
      obtain ⟨op, v, var, col, kids⟩ := e
      obtain ⟨tk, tn, tp, tw⟩ := t
      simp only [faultV] at h3
      simp at h5
      simp only [xenc_mk, vcells] at h1 h4 ⊢
      simp only [topK, topAt, List.map_cons, Tok.enc_eq] at h1 h2 h3 ⊢
      generalize q.map Tok.enc = xs at *
      by_cases hk : tk = 0
      · subst hk
        cases hR : rightE 20 (.mk op v var col kids)
        · rw [hR] at h4
          simp [Tryz.f96, Tryz.ti3, Tryz.ti9, Tryz.ti29, Tryz.ti64, Tryz.ti109, Tryz.ti111, Tryz.ti125, Tryz.ti141, h1, h2, h3, h4, h5, kindV, gc, reach, reachFuel, shut, nodup, List.idxOf, List.findIdx, List.findIdx.go, backR, List.range, List.range.loop, -List.map_tail]
        · rw [hR] at h4
          simp [Tryz.f96, Tryz.ti3, Tryz.ti9, Tryz.ti29, Tryz.ti64, Tryz.ti109, Tryz.ti111, Tryz.ti125, Tryz.ti141, h1, h2, h3, h4, kindV, gc, reach, reachFuel, shut, nodup, List.idxOf, List.findIdx, List.findIdx.go, backR, List.range, List.range.loop, -List.map_tail]
      · simp [Tryz.f96, Tryz.ti3, Tryz.ti9, Tryz.ti29, Tryz.ti64, Tryz.ti109, Tryz.ti111, Tryz.ti125, Tryz.ti141, h1, h2, h3, hk, kindV, gc, reach, reachFuel, shut, nodup, List.idxOf, List.findIdx, List.findIdx.go, backR, List.range, List.range.loop, -List.map_tail]

/- what a reading comes to: what is in the cell, the fault -/
def readXS (s : List UInt8) : Option Xp × Int × Int :=
  if 2000 < s.length then (none, 8, 0) else match toksS (s.length + 1) 0 s with
    | .error e => (none, 1, e)
    | .ok l => match exprP l with
      | (none, r) => (none, 1, topAt r)
      | (some e, r) => if topK r = 0 then (if rightE 20 e = true then (some e, 0, 0) else (some e, 8, 0)) else (some e, 1, topAt r)
def cellX (o : Option Xp) (z : List V) : List V := o.elim z fun e => vcells e.enc
def catX (l : List Tok) : Option (Out × St) :=
  match exprP l with
  | (none, r) => some (.ret (errV 1 (topAt r)), rdX (xZ (.own 2)) r)
  | (some e, r) => if topK r = 0 then (if rightE 20 e = true then some (.ret (errV 0 0), rdX (vcells e.enc) r) else some (.ret (errV 8 0), rdX (vcells e.enc) r)) else some (.ret (errV 1 (topAt r)), rdX (vcells e.enc) r)
set_option maxRecDepth 100000 in
theorem ev_catchX (l : List Tok) (he : Ends l) (ht : TSs l) : EV 75 [.func 96 [] [.box 0 0, .box 3 0, .box 5 0]] (rdX (xZ (.own 2)) l) = catX l := by
  have h := ev_read1 l he (fun e r hx => ((op_expr l ht).2 e (by rw [hx])))
  rw [ev_grab]
  unfold rdXO kindV at h
  unfold catX errV
  cases hP : exprP l with
  | mk o r =>
    rw [hP] at h
    cases o with
    | none =>
      unfold rdX xZ at *
      simp only at h ⊢
      simp [primRun, reach, reachFuel, shut, nodup, List.idxOf, List.findIdx, List.findIdx.go, h, catchRes, gc, List.range, List.range.loop, backR]
    | some e =>
      obtain ⟨op, v, var, col, kids⟩ := e
      unfold rdX xZ at *
      simp only [xenc_mk, vcells] at h ⊢
      split at h <;> rename_i hk
      · rw [if_pos hk]
        split at h <;> rename_i hR
        · rw [if_pos hR]
          simp [primRun, reach, reachFuel, shut, nodup, List.idxOf, List.findIdx, List.findIdx.go, h, catchRes, gc, List.range, List.range.loop, backR]
        · rw [if_neg hR]
          simp [primRun, reach, reachFuel, shut, nodup, List.idxOf, List.findIdx, List.findIdx.go, h, catchRes, gc, List.range, List.range.loop, backR]
      · rw [if_neg hk]
        simp [primRun, reach, reachFuel, shut, nodup, List.idxOf, List.findIdx, List.findIdx.go, h, catchRes, gc, List.range, List.range.loop, backR]
/- read, at an expression's cell -/
set_option maxRecDepth 100000 in
theorem ev_readX (s : List UInt8) (hs : s.length ≤ 1048576) : EV 69 [.str s, .func 78 [] [.box 0 0], .func 80 [] [.box 0 0]] [xZ (.own 1), [.tip 0]] =
    some (.ret (errV (readXS s).2.1 (readXS s).2.2), [cellX (readXS s).1 (xZ (.own 1)), [.tip 0]]) := by
  have h1 := ev_tokens s hs
  rw [EV_mki rfl Tryz.func69 rfl (by kernel_rfl) rfl]
  unfold readXS
  by_cases hl : 2000 < s.length
  · have hl' : 2000 < (s.length : Int) := by omega
    simp only [hl, if_true, cellX, Option.elim, errV, xZ]
    simp [Tryz.f69, Tryz.ti3, Tryz.ti9, Tryz.ti29, Tryz.ti56, Tryz.ti58, Tryz.ti64, Tryz.ti109, Tryz.ti111, Tryz.ti125, Tryz.ti141, hl', gc, reach, reachFuel, shut, nodup, List.idxOf, List.findIdx, List.findIdx.go, backR, List.range, List.range.loop, -List.map_tail]
  · have hl' : ¬ 2000 < (s.length : Int) := by omega
    simp only [hl, if_false]
    cases ht : toksS (s.length + 1) 0 s with
    | error e =>
      rw [ht] at h1
      simp only [toksO] at h1
      simp only [cellX, Option.elim, errV, xZ]
      simp [Tryz.f69, Tryz.ti3, Tryz.ti9, Tryz.ti29, Tryz.ti56, Tryz.ti58, Tryz.ti64, Tryz.ti109, Tryz.ti111, Tryz.ti125, Tryz.ti141, h1, hl', gc, reach, reachFuel, shut, nodup, List.idxOf, List.findIdx, List.findIdx.go, backR, List.range, List.range.loop, -List.map_tail]
    | ok l =>
      rw [ht] at h1
      have hc := ev_catchX l (toks_ends ht) (toks_tsm (by omega) ht)
      simp only [toksO] at h1
      unfold catX at hc
      simp only
      cases hP : exprP l with
      | mk o r =>
        rw [hP] at hc
        cases o with
        | none =>
          unfold rdX xZ errV at *
          simp only [cellX, Option.elim] at hc ⊢
          simp [Tryz.f69, Tryz.ti3, Tryz.ti9, Tryz.ti29, Tryz.ti56, Tryz.ti58, Tryz.ti64, Tryz.ti109, Tryz.ti111, Tryz.ti125, Tryz.ti141, h1, hl', hc, gc, reach, reachFuel, shut, nodup, List.idxOf, List.findIdx, List.findIdx.go, backR, List.range, List.range.loop, -List.map_tail]
        | some e =>
          obtain ⟨op, v, var, col, kids⟩ := e
          unfold rdX xZ errV at *
          simp only [xenc_mk, vcells] at hc ⊢
          split at hc <;> rename_i hk
          · rw [if_pos hk]
            split at hc <;> rename_i hR
            · rw [if_pos hR]
              simp only [cellX, Option.elim, xenc_mk, vcells]
              simp [Tryz.f69, Tryz.ti3, Tryz.ti9, Tryz.ti29, Tryz.ti56, Tryz.ti58, Tryz.ti64, Tryz.ti109, Tryz.ti111, Tryz.ti125, Tryz.ti141, h1, hl', hc, gc, reach, reachFuel, shut, nodup, List.idxOf, List.findIdx, List.findIdx.go, backR, List.range, List.range.loop, -List.map_tail]
            · rw [if_neg hR]
              simp only [cellX, Option.elim, xenc_mk, vcells]
              simp [Tryz.f69, Tryz.ti3, Tryz.ti9, Tryz.ti29, Tryz.ti56, Tryz.ti58, Tryz.ti64, Tryz.ti109, Tryz.ti111, Tryz.ti125, Tryz.ti141, h1, hl', hc, gc, reach, reachFuel, shut, nodup, List.idxOf, List.findIdx, List.findIdx.go, backR, List.range, List.range.loop, -List.map_tail]
          · rw [if_neg hk]
            simp only [cellX, Option.elim, xenc_mk, vcells]
            simp [Tryz.f69, Tryz.ti3, Tryz.ti9, Tryz.ti29, Tryz.ti56, Tryz.ti58, Tryz.ti64, Tryz.ti109, Tryz.ti111, Tryz.ti125, Tryz.ti141, h1, hl', hc, gc, reach, reachFuel, shut, nodup, List.idxOf, List.findIdx, List.findIdx.go, backR, List.range, List.range.loop, -List.map_tail]
theorem readX_parse (s : List UInt8) : (∃ e, readXS s = (some e, 0, 0) ∧ parseXS s = (e, 0, 0)) ∨ (∃ o k q, readXS s = (o, k, q) ∧ k ≠ 0 ∧ parseXS s = (Xp.zero, k, q)) := by
  unfold readXS parseXS readP
  by_cases hl : 2000 < s.length
  · exact .inr ⟨none, 8, 0, by simp [hl], by decide, by simp [hl]⟩
  · simp only [hl, if_false]
    cases toksS (s.length + 1) 0 s with
    | error e => exact .inr ⟨none, 1, e, rfl, by decide, rfl⟩
    | ok l =>
      simp only
      cases exprP l with
      | mk o r =>
        cases o with
        | none => exact .inr ⟨none, 1, topAt r, rfl, by decide, rfl⟩
        | some e =>
          simp only
          by_cases hk : topK r = 0
          · by_cases hR : rightE 20 e = true
            · exact .inl ⟨e, by simp [hk, hR], by simp [hk, hR]⟩
            · exact .inr ⟨some e, 8, 0, by simp [hk, hR], by decide, by simp [hk, hR]⟩
          · exact .inr ⟨some e, 1, topAt r, by simp [hk], by decide, by simp [hk]⟩
/- parse.Expr -/
def exprO (s : List UInt8) : Option (Out × St) := some (.ret (.tup [(parseXS s).1.enc, errV (parseXS s).2.1 (parseXS s).2.2]), [])
set_option maxRecDepth 100000 in
theorem ev_pexpr (s : List UInt8) (hs : s.length ≤ 1048576) : EV 31 [.str s] [] = exprO s := by
  have h1 := ev_readX s hs
  rw [EV_mki rfl Tryz.func31 rfl (by kernel_rfl) rfl]
  unfold exprO
  rcases readX_parse s with ⟨e, hr, hp⟩ | ⟨o, k, q, hr, hk, hp⟩
  · rw [hr] at h1
    rw [hp]
    obtain ⟨op, v, var, col, kids⟩ := e
    simp only [cellX, Option.elim, xenc_mk, vcells, errV, xZ] at h1 ⊢
    simp [Tryz.f31, Tryz.ti3, Tryz.ti9, Tryz.ti23, Tryz.ti44, Tryz.ti46, Tryz.ti56, Tryz.ti58, h1, gc, reach, reachFuel, shut, nodup, List.idxOf, List.findIdx, List.findIdx.go, backR, List.range, List.range.loop, -List.map_tail] <;> first | (refine panQ_of ?_; decide +kernel) | (change _ = true; decide +kernel) | kernel_rfl | (refine ⟨?_, ?_⟩ <;> first | (change _ = true; decide +kernel) | kernel_rfl)
  · rw [hr] at h1
    rw [hp]
    cases o with
    | none =>
      simp only [cellX, Option.elim, xenc_mk, vcells, errV, xZ, Xp.zero, Val.zero, List.map_nil] at h1 ⊢
      simp [Tryz.f31, Tryz.ti3, Tryz.ti9, Tryz.ti23, Tryz.ti44, Tryz.ti46, Tryz.ti56, Tryz.ti58, h1, hk, gc, reach, reachFuel, shut, nodup, List.idxOf, List.findIdx, List.findIdx.go, backR, List.range, List.range.loop, -List.map_tail] <;> first | (refine panQ_of ?_; decide +kernel) | (change _ = true; decide +kernel) | kernel_rfl | (refine ⟨?_, ?_⟩ <;> first | (change _ = true; decide +kernel) | kernel_rfl)
    | some e =>
      obtain ⟨op, v, var, col, kids⟩ := e
      simp only [cellX, Option.elim, xenc_mk, vcells, errV, xZ, Xp.zero, Val.zero, List.map_nil] at h1 ⊢
      simp [Tryz.f31, Tryz.ti3, Tryz.ti9, Tryz.ti23, Tryz.ti44, Tryz.ti46, Tryz.ti56, Tryz.ti58, h1, hk, gc, reach, reachFuel, shut, nodup, List.idxOf, List.findIdx, List.findIdx.go, backR, List.range, List.range.loop, -List.map_tail] <;> first | (refine panQ_of ?_; decide +kernel) | (change _ = true; decide +kernel) | kernel_rfl | (refine ⟨?_, ?_⟩ <;> first | (change _ = true; decide +kernel) | kernel_rfl)
end Go.Abs

