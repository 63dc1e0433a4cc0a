/- The reference's reader: kind, atom. -/
import Derived.Test.YtpmeklllgnnffaaGreatDoorM34
import Derived.Test.YtpmeklllgnnffaaGreatDoorM25
set_option linter.unusedSimpArgs false
set_option linter.unusedVariables false

namespace Go.Abs
set_option linter.unusedSimpArgs false
set_option linter.unusedVariables false
open Go Go.Proofs
attribute [local simp] i_nil i_blk i_skip i_ret i_exit i_seq i_block i_cond i_region' i_ops_nil i_ops i_drawn' d_in a_nil a_cons alt1 h_nil h_one h_two z_nil z_cons z_cells zeqL zeq q_alloc q_some isAlO nxtN i_drh d_hi i_drw_nil i_drw u_nil u_code u_ops u_drw u_lp u_again u_exit u_ret u_panic c_bool o_some o_val o_panic d_some d_val d_panic w_none w_fast wantG q_nil q_zero q_succ t_zero t_succ g_zero g_succ s_zero s_succ s_some s_none v_tmp v_const v_func f_quiet gc_none gc_pure wrap_i64 p_move p_assign p_pick p_alloc p_box p_build p_buildSlice p_load p_store p_nilCheck p_binOp n_tmp n_int n_bool n_str n_ptr n_fun n_iface nilCmp p_unOp p_convert p_makeSlice p_makeInterface p_makeFunc p_slice p_fieldAddr p_field p_indexAddr p_index p_extract p_callv p_callb p_panic quiet_val new_val e_assign e_call e_load e_store e_alloc e_box e_move e_pick e_build e_buildSlice e_nilCheck e_binOp e_unOp e_convert e_makeSlice e_makeInterface e_makeFunc e_slice e_fieldAddr e_field e_indexAddr e_index e_extract e_panic callD fpRead adoptZ fulls adopt adoptL ofValue ofScalar binOpV unOpV intBin strBin eqRes veq veqF eqDepth val? finish resL r_tmp r_cell normL normTop tipIs refsL refs ownRefs single frz frzL ren renL renOwn callOp doCall backR writeBack builtinV loadV storeV storeW iceT cellsAt takeV D.isAgg overlay vcells cellOk fieldAddrV indexAddrV fieldV partV indexV buildV fillV buildSliceV litElems appendV appElems elemOk convertV convV winStr makeSliceV sliceV natOf
attribute [local simp ↓] brB_true brB_false brB_dec brB_not brB_and brB_or brB_beq brB_bne

theorem ev_rkind (L : List Tok) (i : Nat) (b : Bool) (he : Ends (L.drop i)) (hL : L.length ≤ 100000) : ∃ t : Tok, t.s = (kindR L i b 2).1 ∧ EV 117 [.box 0 0, .int .i64 2] (rpS L i b) = some (.ret t.enc, rpS L (kindR L i b 2).2.1 (kindR L i b 2).2.2) := by
  obtain ⟨t, q, hq⟩ := ends_cons he
  obtain ⟨h1, h2, h3⟩ := at_cons hq
  rw [EV_mki rfl Tryz.func117 rfl (by kernel_rfl) rfl]
  unfold kindR rpS
  rw [hq]
  obtain ⟨k, n, p, w⟩ := t
  rw [Tok.enc_eq] at h1
  have hlen : (L.map Tok.enc).length = L.length := by simp
  generalize L.map Tok.enc = xs at *
  have h2' : i < xs.length := by omega
  have hw : IntKind.i64.wrap ((i : Int) + 1) = (i : Int) + 1 := wrap_i64 (by omega)
  have hget : xs[i] = .agg [.int .i64 k, .int .i64 n, .int .i64 p, .str w] := by
    rw [List.getElem?_eq_getElem h2'] at h1
    exact Option.some.inj h1
  cases b
  · by_cases k2 : k = 2
    · subst k2
      refine ⟨⟨2, n, p, w⟩, by simp, ?_⟩
      rw [Tok.enc_eq]
      simp [Tryz.f117, Tryz.ti3, Tryz.ti4, Tryz.ti9, Tryz.ti112, Tryz.ti117, Tryz.ti120, hget, h2', hw, gc, reach, reachFuel, shut, nodup, List.idxOf, List.findIdx, List.findIdx.go, backR, List.range, List.range.loop] <;> first | (refine panQ_of ?_; decide +kernel) | (change _ = true; decide +kernel) | kernel_rfl | (refine ⟨?_, ?_⟩ <;> first | (change _ = true; decide +kernel) | kernel_rfl)
    · refine ⟨⟨0, 0, 0, []⟩, by simp [k2], ?_⟩
      rw [Tok.enc_eq]
      simp [Tryz.f117, Tryz.ti3, Tryz.ti4, Tryz.ti9, Tryz.ti112, Tryz.ti117, Tryz.ti120, hget, k2, h2', hw, gc, reach, reachFuel, shut, nodup, List.idxOf, List.findIdx, List.findIdx.go, backR, List.range, List.range.loop] <;> first | (refine panQ_of ?_; decide +kernel) | (change _ = true; decide +kernel) | kernel_rfl | (refine ⟨?_, ?_⟩ <;> first | (change _ = true; decide +kernel) | kernel_rfl)
  · refine ⟨⟨0, 0, 0, []⟩, by simp, ?_⟩
    rw [Tok.enc_eq]
    simp [Tryz.f117, Tryz.ti3, Tryz.ti4, Tryz.ti9, Tryz.ti112, Tryz.ti117, Tryz.ti120, hget, h2', hw, gc, reach, reachFuel, shut, nodup, List.idxOf, List.findIdx, List.findIdx.go, backR, List.range, List.range.loop] <;> first | (refine panQ_of ?_; decide +kernel) | (change _ = true; decide +kernel) | kernel_rfl | (refine ⟨?_, ?_⟩ <;> first | (change _ = true; decide +kernel) | kernel_rfl)
/- what a part of the reader comes to -/
def rxO (L : List Tok) (x : RX) : Option (Out × St) := some (.ret x.1.enc, rpS L x.2.1 x.2.2)
set_option maxRecDepth 100000 in
set_option maxHeartbeats 4000000 in
theorem ev_ratom (L : List Tok) (hL : L.length ≤ 100000) (R : Nat → Bool → RX) (i : Nat) (b : Bool) (he : Ends (L.drop i)) (hor : Ends (L.drop (i + 1)) → EV 81 [.box 0 0] (rpS L (i + 1) false) = rxO L (R (i + 1) false) ∧ Ends (L.drop (R (i + 1) false).2.1)) :
    EV 224 [.box 0 0] (rpS L i b) = rxO L (atomR L R i b) := by
  obtain ⟨t, q, hq⟩ := ends_cons he
  obtain ⟨h1, h2, h3⟩ := at_cons hq
  have hh := fun s => ev_has L i false s he hL
  rw [EV_mki rfl Tryz.func224 rfl (by kernel_rfl) rfl]
  have hn : t.kind ≠ 0 → Ends (L.drop (i + 1)) := fun hk => by rw [h3]; rw [hq] at he; exact ends_next he hk
  unfold atomR rxO
  rw [hq]
  obtain ⟨k, n, p, w⟩ := t
  rw [Tok.enc_eq] at h1
  have hlen : (L.map Tok.enc).length = L.length := by simp
  have hw : IntKind.i64.wrap ((i : Int) + 1) = (i : Int) + 1 := wrap_i64 (by omega)
  cases b
  rotate_left
  · simp only [if_true, Xp.zero, xenc_mk, Val.zero, List.map_nil]
    unfold rpS
    generalize L.map Tok.enc = xs at *
    have h2' : i < xs.length := by omega
    have hget : xs[i] = .agg [.int .i64 k, .int .i64 n, .int .i64 p, .str w] := by
      rw [List.getElem?_eq_getElem h2'] at h1
      exact Option.some.inj h1
    simp [Tryz.f224, Tryz.ti3, Tryz.ti4, Tryz.ti9, Tryz.ti31, Tryz.ti44, Tryz.ti50, Tryz.ti112, Tryz.ti117, Tryz.ti120, hget, h2', gc, reach, reachFuel, shut, nodup, List.idxOf, List.findIdx, List.findIdx.go, backR, List.range, List.range.loop] <;> first | (refine panQ_of ?_; decide +kernel) | (change _ = true; decide +kernel) | kernel_rfl | (refine ⟨?_, ?_⟩ <;> first | (change _ = true; decide +kernel) | kernel_rfl)
  simp only [Bool.false_eq_true, if_false] at hn ⊢
  by_cases k3 : k = 3
  · subst k3
    have hm := ev_num14 n
    simp only [if_true, xval, xenc_mk, List.map_nil] at hm ⊢
    unfold rpS
    generalize L.map Tok.enc = xs at *
    have h2' : i < xs.length := by omega
    have hget : xs[i] = .agg [.int .i64 3, .int .i64 n, .int .i64 p, .str w] := by
      rw [List.getElem?_eq_getElem h2'] at h1
      exact Option.some.inj h1
    simp [Tryz.f224, Tryz.ti3, Tryz.ti4, Tryz.ti9, Tryz.ti31, Tryz.ti44, Tryz.ti50, Tryz.ti112, Tryz.ti117, Tryz.ti120, hget, h2', hm, hw, gc, reach, reachFuel, shut, nodup, List.idxOf, List.findIdx, List.findIdx.go, backR, List.range, List.range.loop] <;> first | (refine panQ_of ?_; decide +kernel) | (change _ = true; decide +kernel) | kernel_rfl | (refine ⟨?_, ?_⟩ <;> first | (change _ = true; decide +kernel) | kernel_rfl)
  by_cases k4 : k = 4
  · subst k4
    simp only [show ¬ ((4 : Int) = 3) by decide, if_true, if_false, xval, xenc_mk, List.map_nil]
    clear hh
    unfold rpS at *
    try simp only [Int.natCast_add, Int.natCast_one, Int.cast_ofNat_Int] at *
    generalize L.map Tok.enc = xs at *
    have h2' : i < xs.length := by omega
    have hget : xs[i] = .agg [.int .i64 4, .int .i64 n, .int .i64 p, .str w] := by
      rw [List.getElem?_eq_getElem h2'] at h1
      exact Option.some.inj h1
    simp [Tryz.f224, Tryz.ti3, Tryz.ti4, Tryz.ti9, Tryz.ti31, Tryz.ti44, Tryz.ti50, Tryz.ti112, Tryz.ti117, Tryz.ti120, oValue, hget, h2', hw, gc, reach, reachFuel, shut, nodup, List.idxOf, List.findIdx, List.findIdx.go, backR, List.range, List.range.loop] <;> first | (refine panQ_of ?_; decide +kernel) | (change _ = true; decide +kernel) | kernel_rfl | (refine ⟨?_, ?_⟩ <;> first | (change _ = true; decide +kernel) | kernel_rfl)
  have hne : k ≠ 0 → Ends (L.drop (i + 1)) := hn
  by_cases k2 : k = 2
  · subst k2
    have he1 := hne (by decide)
    have hd := ev_has L (i + 1) false [46] he1 hL
    rw [hasR_false, h3] at hd
    clear hh
    simp only [show ¬ ((2 : Int) = 3) by decide, show ¬ ((2 : Int) = 4) by decide, if_true, if_false]
    cases hdot : isT [46] q
    · rw [hdot] at hd
      simp only [Bool.false_eq_true, if_false, xenc_mk, Val.zero, List.map_nil] at hd ⊢
      clear hne hn
      unfold rpS at *
      try simp only [Int.natCast_add, Int.natCast_one, Int.cast_ofNat_Int] at *
      generalize L.map Tok.enc = xs at *
      have h2' : i < xs.length := by omega
      have hget : xs[i] = .agg [.int .i64 2, .int .i64 n, .int .i64 p, .str w] := by
        rw [List.getElem?_eq_getElem h2'] at h1
        exact Option.some.inj h1
      simp [Tryz.f224, Tryz.ti3, Tryz.ti4, Tryz.ti9, Tryz.ti31, Tryz.ti44, Tryz.ti50, Tryz.ti112, Tryz.ti117, Tryz.ti120, oColumn, hget, h2', hw, hd, gc, reach, reachFuel, shut, nodup, List.idxOf, List.findIdx, List.findIdx.go, backR, List.range, List.range.loop] <;> first | (refine panQ_of ?_; decide +kernel) | (change _ = true; decide +kernel) | kernel_rfl | (refine ⟨?_, ?_⟩ <;> first | (change _ = true; decide +kernel) | kernel_rfl)
    · have he2 : Ends (L.drop (i + 2)) := by
        have : L.drop (i + 2) = q.tail := by rw [← h3]; simp
        rw [this]
        rw [h3] at he1
        exact ends_tail he1 hdot
      obtain ⟨u, hu, hk⟩ := ev_rkind L (i + 2) false he2 hL
      rw [hdot] at hd
      simp only [if_true, xenc_mk, Val.zero, List.map_nil] at hd ⊢
      rw [← hu]
      clear hne hn
      generalize (kindR L (i + 2) false 2).2 = jc at *
      obtain ⟨uk, un, up, uw⟩ := u
      rw [Tok.enc_eq] at hk
      rw [show i + 1 + 1 = i + 2 from rfl] at hd
      unfold rpS at *
      try simp only [Int.natCast_add, Int.natCast_one, Int.cast_ofNat_Int] at *
      generalize L.map Tok.enc = xs at *
      have h2' : i < xs.length := by omega
      have hget : xs[i] = .agg [.int .i64 2, .int .i64 n, .int .i64 p, .str w] := by
        rw [List.getElem?_eq_getElem h2'] at h1
        exact Option.some.inj h1
      simp [Tryz.f224, Tryz.ti3, Tryz.ti4, Tryz.ti9, Tryz.ti31, Tryz.ti44, Tryz.ti50, Tryz.ti112, Tryz.ti117, Tryz.ti120, oColumn, hget, h2', hw, hd, hk, gc, reach, reachFuel, shut, nodup, List.idxOf, List.findIdx, List.findIdx.go, backR, List.range, List.range.loop] <;> first | (refine panQ_of ?_; decide +kernel) | (change _ = true; decide +kernel) | kernel_rfl | (refine ⟨?_, ?_⟩ <;> first | (change _ = true; decide +kernel) | kernel_rfl)
  simp only [k2, k3, k4, if_false]
  have hN := hh [78, 85, 76, 76]
  have hT := hh [84, 82, 85, 69]
  have hF := hh [70, 65, 76, 83, 69]
  have hP := ev_rneed L i false [40] he hL
  clear hh
  simp only [hasR_false, hq] at hN hT hF hP
  cases iN : isT [78, 85, 76, 76] (⟨k, n, p, w⟩ :: q)
  rotate_left
  · rw [iN] at hN
    simp only [if_true, xval, xenc_mk, List.map_nil, Val.zero] at hN ⊢
    unfold rpS at *
    try simp only [Int.natCast_add, Int.natCast_one, Int.cast_ofNat_Int] at *
    generalize L.map Tok.enc = xs at *
    have h2' : i < xs.length := by omega
    have hget : xs[i] = .agg [.int .i64 k, .int .i64 n, .int .i64 p, .str w] := by
      rw [List.getElem?_eq_getElem h2'] at h1
      exact Option.some.inj h1
    simp [Tryz.f224, Tryz.ti3, Tryz.ti4, Tryz.ti9, Tryz.ti31, Tryz.ti44, Tryz.ti50, Tryz.ti112, Tryz.ti117, Tryz.ti120, oValue, k2, k3, k4, hget, h2', hN, gc, reach, reachFuel, shut, nodup, List.idxOf, List.findIdx, List.findIdx.go, backR, List.range, List.range.loop] <;> first | (refine panQ_of ?_; decide +kernel) | (change _ = true; decide +kernel) | kernel_rfl | (refine ⟨?_, ?_⟩ <;> first | (change _ = true; decide +kernel) | kernel_rfl)
  rw [iN] at hN
  cases iT : isT [84, 82, 85, 69] (⟨k, n, p, w⟩ :: q)
  rotate_left
  · rw [iT] at hT
    simp only [if_true, Bool.false_eq_true, if_false, xval, xenc_mk, List.map_nil, Val.zero] at hN hT ⊢
    unfold rpS at *
    try simp only [Int.natCast_add, Int.natCast_one, Int.cast_ofNat_Int] at *
    generalize L.map Tok.enc = xs at *
    have h2' : i < xs.length := by omega
    have hget : xs[i] = .agg [.int .i64 k, .int .i64 n, .int .i64 p, .str w] := by
      rw [List.getElem?_eq_getElem h2'] at h1
      exact Option.some.inj h1
    simp [Tryz.f224, Tryz.ti3, Tryz.ti4, Tryz.ti9, Tryz.ti31, Tryz.ti44, Tryz.ti50, Tryz.ti112, Tryz.ti117, Tryz.ti120, oValue, k2, k3, k4, hget, h2', hN, hT, gc, reach, reachFuel, shut, nodup, List.idxOf, List.findIdx, List.findIdx.go, backR, List.range, List.range.loop] <;> first | (refine panQ_of ?_; decide +kernel) | (change _ = true; decide +kernel) | kernel_rfl | (refine ⟨?_, ?_⟩ <;> first | (change _ = true; decide +kernel) | kernel_rfl)
  rw [iT] at hT
  cases iF : isT [70, 65, 76, 83, 69] (⟨k, n, p, w⟩ :: q)
  rotate_left
  · rw [iF] at hF
    simp only [if_true, Bool.false_eq_true, if_false, xval, xenc_mk, List.map_nil, Val.zero] at hN hT hF ⊢
    unfold rpS at *
    try simp only [Int.natCast_add, Int.natCast_one, Int.cast_ofNat_Int] at *
    generalize L.map Tok.enc = xs at *
    have h2' : i < xs.length := by omega
    have hget : xs[i] = .agg [.int .i64 k, .int .i64 n, .int .i64 p, .str w] := by
      rw [List.getElem?_eq_getElem h2'] at h1
      exact Option.some.inj h1
    simp [Tryz.f224, Tryz.ti3, Tryz.ti4, Tryz.ti9, Tryz.ti31, Tryz.ti44, Tryz.ti50, Tryz.ti112, Tryz.ti117, Tryz.ti120, oValue, k2, k3, k4, hget, h2', hN, hT, hF, gc, reach, reachFuel, shut, nodup, List.idxOf, List.findIdx, List.findIdx.go, backR, List.range, List.range.loop] <;> first | (refine panQ_of ?_; decide +kernel) | (change _ = true; decide +kernel) | kernel_rfl | (refine ⟨?_, ?_⟩ <;> first | (change _ = true; decide +kernel) | kernel_rfl)
  rw [iF] at hF
  cases iP : isT [40] (⟨k, n, p, w⟩ :: q)
  · rw [iP] at hP
    simp only [Bool.false_eq_true, if_false, Bool.not_false, Bool.or_true, Xp.zero, xenc_mk, List.map_nil, Val.zero] at hN hT hF hP ⊢
    unfold rpS at *
    try simp only [Int.natCast_add, Int.natCast_one, Int.cast_ofNat_Int] at *
    generalize L.map Tok.enc = xs at *
    have h2' : i < xs.length := by omega
    have hget : xs[i] = .agg [.int .i64 k, .int .i64 n, .int .i64 p, .str w] := by
      rw [List.getElem?_eq_getElem h2'] at h1
      exact Option.some.inj h1
    simp [Tryz.f224, Tryz.ti3, Tryz.ti4, Tryz.ti9, Tryz.ti31, Tryz.ti44, Tryz.ti50, Tryz.ti112, Tryz.ti117, Tryz.ti120, k2, k3, k4, hget, h2', hN, hT, hF, hP, gc, reach, reachFuel, shut, nodup, List.idxOf, List.findIdx, List.findIdx.go, backR, List.range, List.range.loop] <;> first | (refine panQ_of ?_; decide +kernel) | (change _ = true; decide +kernel) | kernel_rfl | (refine ⟨?_, ?_⟩ <;> first | (change _ = true; decide +kernel) | kernel_rfl)
  · have he1 : Ends (L.drop (i + 1)) := by
      rw [h3]
      rw [hq] at he
      exact ends_tail he iP
    obtain ⟨ho, heo⟩ := hor he1
    rw [iP] at hP
    unfold rxO at ho
    generalize R (i + 1) false = rx at *
    obtain ⟨e, j, c⟩ := rx
    have hc := ev_rneed L j c [41] heo hL
    unfold needR
    generalize hasR L j c [41] = hx at *
    obtain ⟨h5, h6⟩ := hx
    obtain ⟨op, v, var, col, kids⟩ := e
    simp only [if_true, Bool.false_eq_true, if_false, Bool.not_true, Bool.or_false, xenc_mk] at hN hT hF hP ho hc ⊢
    unfold rpS at *
    try simp only [Int.natCast_add, Int.natCast_one, Int.cast_ofNat_Int] at *
    generalize L.map Tok.enc = xs at *
    have h2' : i < xs.length := by omega
    have hget : xs[i] = .agg [.int .i64 k, .int .i64 n, .int .i64 p, .str w] := by
      rw [List.getElem?_eq_getElem h2'] at h1
      exact Option.some.inj h1
    simp [Tryz.f224, Tryz.ti3, Tryz.ti4, Tryz.ti9, Tryz.ti31, Tryz.ti44, Tryz.ti50, Tryz.ti112, Tryz.ti117, Tryz.ti120, k2, k3, k4, hget, h2', hN, hT, hF, hP, ho, hc, gc, reach, reachFuel, shut, nodup, List.idxOf, List.findIdx, List.findIdx.go, backR, List.range, List.range.loop] <;> first | (refine panQ_of ?_; decide +kernel) | (change _ = true; decide +kernel) | kernel_rfl | (refine ⟨?_, ?_⟩ <;> first | (change _ = true; decide +kernel) | kernel_rfl)
end Go.Abs

