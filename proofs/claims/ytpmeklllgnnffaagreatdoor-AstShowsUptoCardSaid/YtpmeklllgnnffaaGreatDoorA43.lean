/- A statement's text by the reference: tables and updates. -/
import Derived.Test.YtpmeklllgnnffaaGreatDoorA40
import Derived.Test.YtpmeklllgnnffaaGreatDoorA42
import Derived.Test.YtpmeklllgnnffaaGreatDoorA39

namespace Go.Abs
set_option linter.unusedSimpArgs false
set_option linter.unusedVariables false
open Go Go.Proofs
attribute [local simp] i_nil i_blk i_skip i_ret i_exit i_seq i_block i_cond i_region' i_ops_nil i_ops i_drawn' d_in a_nil a_cons alt1 h_nil h_one h_two z_nil z_cons z_cells zeqL zeq q_alloc q_some isAlO nxtN i_drh d_hi i_drw_nil i_drw u_nil u_code u_ops u_drw u_lp u_again u_exit u_ret u_panic c_bool o_some o_val o_panic d_some d_val d_panic w_none w_fast wantG q_nil q_zero q_succ t_zero t_succ g_zero g_succ s_zero s_succ s_some s_none v_tmp v_const v_func f_quiet gc_none gc_pure wrap_i64 p_move p_assign p_pick p_alloc p_box p_build p_buildSlice p_load p_store p_nilCheck p_binOp n_tmp n_int n_bool n_str n_ptr n_fun n_iface nilCmp p_unOp p_convert p_makeSlice p_makeInterface p_makeFunc p_slice p_fieldAddr p_field p_indexAddr p_index p_extract p_callv p_callb p_panic quiet_val new_val e_assign e_call e_load e_store e_alloc e_box e_move e_pick e_build e_buildSlice e_nilCheck e_binOp e_unOp e_convert e_makeSlice e_makeInterface e_makeFunc e_slice e_fieldAddr e_field e_indexAddr e_index e_extract e_panic callD fpRead adopt adoptL ofValue ofScalar binOpV unOpV intBin strBin eqRes veq veqF eqDepth val? finish resL r_tmp r_cell normL normTop tipIs refsL refs ownRefs single frz frzL ren renL renOwn callOp doCall backR writeBack builtinV loadV storeV cellsAt takeV D.isAgg overlay vcells cellOk fieldAddrV indexAddrV fieldV partV indexV buildV fillV buildSliceV litElems appendV appElems elemOk convertV convV winStr makeSliceV sliceV natOf
attribute [local simp ↓] brB_true brB_false brB_dec brB_not brB_and brB_or brB_beq brB_bne
attribute [local irreducible] fpsQ panQ

set_option maxRecDepth 100000 in
set_option maxHeartbeats 16000000 in
theorem ev_rshow6 (b : StB) (acts : List Stm) (h : b.ok) (hr : rightStm (.mk b acts) = true) (hk : b.kind = 6) : EV 18 [(Stm.mk b acts).enc] [] = some (.ret (.str (showStm (.mk b acts))), []) := by
  have hr2 : nameS b.name = true ∧ colsS b.cols = 0 := by simpa [rightK, nameK, hk] using rightK_of b acts hr
  have n1 := name_len hr2.1
  obtain ⟨hco, hcl⟩ := cols_ok hr2.2
  have hj := ev_rcomma (b.cols.map showColS) (by simp; omega) (fun x hx => by obtain ⟨y, hy, rfl⟩ := List.mem_map.1 hx; have := (ev_showcolumn y (hco y hy)).2; omega)
  have hll := comma_len (b.cols.map showColS) (by simp; omega) (fun x hx => by obtain ⟨y, hy, rfl⟩ := List.mem_map.1 hx; have := (ev_showcolumn y (hco y hy)).2; omega)
  have hsh : showStm (.mk b acts) = [67, 82, 69, 65, 84, 69, 32, 84, 65, 66, 76, 69, 32] ++ (b.name ++ ([32, 40] ++ (commaS (b.cols.map showColS) ++ [41]))) := by simp [showStm, hk]
  rw [hsh, EV_mki rfl Tryz.func18 rfl (by kernel_rfl), senc_mk]
  obtain ⟨kind, name, table, col, l, values, items, wher, sets, src, prio, event, deferred, rolls⟩ := b
  dsimp only at hk n1 hj hll hco hcl ⊢
  subst hk
  obtain ⟨R, hR⟩ : ∃ R, [67, 82, 69, 65, 84, 69, 32, 84, 65, 66, 76, 69, 32] ++ (name ++ ([32, 40] ++ (commaS (l.map showColS) ++ [41]))) = R := ⟨_, rfl⟩
  rw [hR]
  simp (disch := first | ((try simp only [List.length_cons, List.length_append, List.length_nil]); omega) | simp [refsL, refs]) [-strBin, sb_add, sb_eql, sb_neq, sb_lss, Tryz.f18, Tryz.ti3, Tryz.ti4, Tryz.ti9, Tryz.ti22, Tryz.ti31, Tryz.ti32, Tryz.ti33, Tryz.ti34, Tryz.ti36, Tryz.ti44, Tryz.ti50, Tryz.ti82, Tryz.ti85, Tryz.ti94, Tryz.ti100]
  rw [i_loop (ts := [41, 42, 43, 44, 45, 48, 49, 50, 51, 52, 53, 54, 55, 56, 57, 58, 59, 60, 61, 62, 63, 8, 64, 65, 66, 67, 68, 69, 70, 71, 8, 72, 73, 74, 75, 76, 77, 78, 79, 8, 80, 81, 82, 83, 46, 47])]
  rotate_left
  · kernel_rfl
  refine i_at2 (fun i : {i : Nat // i ≤ l.length} => l.length - i.1) (fun i env => setV (setV env 7 (.int .i64 i.1)) 6 (.slice (.own 3) (((l.take i.1).map showColS).map V.str))) (fun i st => st.set 3 [.tip i.1]) (fun i => some (.ret (.str R), [])) ⟨0, by omega⟩ (by simp [s_zero, s_succ]) rfl rfl ?_
  intro ⟨i, hil⟩ ih
  dsimp only at hil ⊢
  by_cases hi : i < l.length
  · have ih := ih ⟨i + 1, by omega⟩ (by simp only; omega)
    have hwi : IntKind.i64.wrap ((i : Int) + 1) = (i : Int) + 1 := wrap_i64 (by omega)
    have hlen : (((l.take i).map showColS).map V.str).length = i := by simp; omega
    have hcx := hco _ (List.getElem_mem hi)
    obtain ⟨t, hk⟩ : ∃ m, l[i] = m := ⟨_, rfl⟩
    have hkk : l[i]? = some t := by rw [List.getElem?_eq_getElem hi, hk]
    have ht : ((l.take (i + 1)).map showColS).map V.str = ((l.take i).map showColS).map V.str ++ [V.str (showColS t)] := by rw [List.take_succ_eq_append_getElem hi, hk]; simp
    have hf : ∀ x ∈ ((l.take i).map showColS).map V.str, (vcells x).length = 1 := fun x hx => by obtain ⟨y, _, rfl⟩ := List.mem_map.1 hx; rfl
    rw [hk] at hcx
    simp only at ih
    rw [ht] at ih
    clear ht hR
    generalize ((l.take i).map showColS).map V.str = xs at *
    obtain ⟨n', t', a', u'⟩ := t
    simp only [colOk, Bool.and_eq_true, decide_eq_true_eq] at hcx
    have hn' := name_len hcx.1
    simp only [s_zero, s_succ, Int.natCast_add, Int.natCast_one, Int.cast_ofNat_Int, showColS, List.set_cons_succ, List.set_cons_zero] at ih
    simp only [vcells] at hf
    have hbb : (i + 1) * 16 ≤ 70368744177664 := by omega
    have hbc : i + 1 ≤ 70368744177664 := by omega
    obtain rfl | rfl | rfl : t' = 1 ∨ t' = 2 ∨ t' = 3 := by omega
    all_goals cases a' <;> cases u' <;> simp [typeW] at ih <;> simp +contextual (disch := first | ((try simp only [List.length_cons, List.length_append, List.length_nil]); omega) | simp [refsL, refs]) [-strBin, sb_add, sb_eql, sb_neq, sb_lss, Tryz.f18, Tryz.ti3, Tryz.ti4, Tryz.ti9, Tryz.ti22, Tryz.ti31, Tryz.ti32, Tryz.ti33, Tryz.ti34, Tryz.ti36, Tryz.ti44, Tryz.ti50, Tryz.ti82, Tryz.ti85, Tryz.ti94, Tryz.ti100, i_again, roundEnd, dropT, cleanV, hi, hk, hkk, Col.enc, Col.cells, hwi, hlen, hbb, hbc, hf, ih, appFp] <;> first | (change _ = true; decide +kernel) | (refine ⟨?_, ?_⟩ <;> (change _ = true; decide +kernel))
  · have ht : l.take i = l := List.take_of_length_le (by omega)
    obtain rfl : i = l.length := by omega
    rw [ht]
    clear ih
    rw [← hR]
    generalize (l.map showColS).map V.str = xs at hj
    generalize commaS (l.map showColS) = C at hj hll ⊢
    simp (disch := first | ((try simp only [List.length_cons, List.length_append, List.length_nil]); omega) | simp [refsL, refs]) [-strBin, sb_add, sb_eql, sb_neq, sb_lss, Tryz.f18, Tryz.ti3, Tryz.ti4, Tryz.ti9, Tryz.ti22, Tryz.ti31, Tryz.ti32, Tryz.ti33, Tryz.ti34, Tryz.ti36, Tryz.ti44, Tryz.ti50, Tryz.ti82, Tryz.ti85, Tryz.ti94, Tryz.ti100, i_again, roundEnd, dropT, cleanV, hi, hj] <;> first | (change _ = true; decide +kernel) | (refine ⟨?_, ?_⟩ <;> (change _ = true; decide +kernel))
set_option maxRecDepth 100000 in
set_option maxHeartbeats 16000000 in
theorem ev_rshow13 (b : StB) (acts : List Stm) (h : b.ok) (hr : rightStm (.mk b acts) = true) (hk : b.kind = 13) : EV 18 [(Stm.mk b acts).enc] [] = some (.ret (.str (showStm (.mk b acts))), []) := by
  have hr2 : nameS b.table = true ∧ rightSetsS b.sets = true ∧ rightsE b.wher 0 1 = true := by simpa [rightK, nameK, hk] using rightK_of b acts hr
  have n2 := name_len hr2.1
  have hso : ∀ x ∈ b.sets, nameS x.col = true ∧ rightE 20 x.e = true := by
    have := hr2.2.1
    simp [rightSetsS] at this
    exact this.1
  have hsl : b.sets.length ≤ 6 := by
    have := hr2.2.1
    simp [rightSetsS] at this
    omega
  have hss : ∀ x ∈ b.sets, (showSetS x).length ≤ 67108900 := fun x hx => (ev_showset x (hso x hx).1 (hso x hx).2 (h.sets.2 x hx).2).2
  have hw := ev_rwhere b acts hr2.2.2 h.wher.2
  have hwl := (ev_where b acts hr2.2.2 h.wher.2).2
  have hj := ev_rcomma (b.sets.map showSetS) (by simp; omega) (fun x hx => by obtain ⟨y, hy, rfl⟩ := List.mem_map.1 hx; have := hss y hy; omega)
  have hll := comma_len (b.sets.map showSetS) (by simp; omega) (fun x hx => by obtain ⟨y, hy, rfl⟩ := List.mem_map.1 hx; have := hss y hy; omega)
  have hsh : showStm (.mk b acts) = [85, 80, 68, 65, 84, 69, 32] ++ (b.table ++ ([32, 83, 69, 84, 32] ++ (commaS (b.sets.map showSetS) ++ whereS b.wher))) := by simp [showStm, hk]
  have hok := h.sets.2
  rw [hsh, EV_mki rfl Tryz.func18 rfl (by kernel_rfl), senc_mk]
  rw [senc_mk] at hw
  obtain ⟨kind, name, table, col, cols, values, items, wher, l, src, prio, event, deferred, rolls⟩ := b
  dsimp only at hk n2 hj hll hso hsl hss hw hwl hok ⊢
  subst hk
  obtain ⟨R, hR⟩ : ∃ R, [85, 80, 68, 65, 84, 69, 32] ++ (table ++ ([32, 83, 69, 84, 32] ++ (commaS (l.map showSetS) ++ whereS wher))) = R := ⟨_, rfl⟩
  rw [hR]
  simp (disch := first | ((try simp only [List.length_cons, List.length_append, List.length_nil]); omega) | simp [refsL, refs]) [-strBin, sb_add, sb_eql, sb_neq, sb_lss, Tryz.f18, Tryz.ti3, Tryz.ti4, Tryz.ti9, Tryz.ti22, Tryz.ti31, Tryz.ti32, Tryz.ti33, Tryz.ti34, Tryz.ti36, Tryz.ti44, Tryz.ti50, Tryz.ti82, Tryz.ti85, Tryz.ti94, Tryz.ti100]
  rw [i_loop (ts := [126, 127, 128, 129, 130, 133, 134, 135, 136, 137, 138, 139, 140, 141, 142, 143, 144, 145, 146, 147, 148, 149, 150, 131, 132])]
  rotate_left
  · kernel_rfl
  refine i_at2 (fun i : {i : Nat // i ≤ l.length} => l.length - i.1) (fun i env => setV (setV env 10 (.int .i64 i.1)) 9 (.slice (.own 2) (((l.take i.1).map showSetS).map V.str))) (fun i st => st.set 2 [.tip i.1]) (fun i => some (.ret (.str R), [])) ⟨0, by omega⟩ (by simp [s_zero, s_succ]) rfl rfl ?_
  intro ⟨i, hil⟩ ih
  dsimp only at hil ⊢
  by_cases hi : i < l.length
  · have ih := ih ⟨i + 1, by omega⟩ (by simp only; omega)
    have hwi : IntKind.i64.wrap ((i : Int) + 1) = (i : Int) + 1 := wrap_i64 (by omega)
    have hlen : (((l.take i).map showSetS).map V.str).length = i := by simp; omega
    have hcx := hso _ (List.getElem_mem hi)
    have hox := hok _ (List.getElem_mem hi)
    obtain ⟨t, hk⟩ : ∃ m, l[i] = m := ⟨_, rfl⟩
    have hkk : l[i]? = some t := by rw [List.getElem?_eq_getElem hi, hk]
    have ht : ((l.take (i + 1)).map showSetS).map V.str = ((l.take i).map showSetS).map V.str ++ [V.str (showSetS t)] := by rw [List.take_succ_eq_append_getElem hi, hk]; simp
    have hf : ∀ x ∈ ((l.take i).map showSetS).map V.str, (vcells x).length = 1 := fun x hx => by obtain ⟨y, _, rfl⟩ := List.mem_map.1 hx; rfl
    rw [hk] at hcx hox
    simp only at ih
    rw [ht] at ih
    clear ht hR
    generalize ((l.take i).map showSetS).map V.str = xs at *
    obtain ⟨c', e'⟩ := t
    dsimp only at hcx
    have hn' := name_len hcx.1
    have hs' := ev_rshowx 20 e' (by omega) hcx.2 hox.2
    have hl' := (right_shows hcx.2 hox.2).2
    simp only [s_zero, s_succ, Int.natCast_add, Int.natCast_one, Int.cast_ofNat_Int, showSetS, List.set_cons_succ, List.set_cons_zero] at ih
    generalize showE e' = E at hs' hl' ih
    obtain ⟨op', v', var', col', kids'⟩ := e'
    rw [xenc_mk] at hs'
    simp only [vcells] at hf
    have hbb : (i + 1) * 16 ≤ 70368744177664 := by omega
    have hbc : i + 1 ≤ 70368744177664 := by omega
    simp at ih
    simp +contextual (disch := first | ((try simp only [List.length_cons, List.length_append, List.length_nil]); omega) | simp [refsL, refs]) [-strBin, sb_add, sb_eql, sb_neq, sb_lss, Tryz.f18, Tryz.ti3, Tryz.ti4, Tryz.ti9, Tryz.ti22, Tryz.ti31, Tryz.ti32, Tryz.ti33, Tryz.ti34, Tryz.ti36, Tryz.ti44, Tryz.ti50, Tryz.ti82, Tryz.ti85, Tryz.ti94, Tryz.ti100, i_again, roundEnd, dropT, cleanV, hi, hk, hkk, SetE.enc, xenc_mk, hwi, hlen, hbb, hbc, hf, hs', ih, appFp] <;> first | (change _ = true; decide +kernel) | (refine ⟨?_, ?_⟩ <;> (change _ = true; decide +kernel))
  · have ht : l.take i = l := List.take_of_length_le (by omega)
    obtain rfl : i = l.length := by omega
    rw [ht]
    clear ih
    rw [← hR]
    generalize (l.map showSetS).map V.str = xs at hj
    generalize commaS (l.map showSetS) = C at hj hll ⊢
    generalize whereS wher = W at hw hwl ⊢
    simp (disch := first | ((try simp only [List.length_cons, List.length_append, List.length_nil]); omega) | simp [refsL, refs]) [-strBin, sb_add, sb_eql, sb_neq, sb_lss, Tryz.f18, Tryz.ti3, Tryz.ti4, Tryz.ti9, Tryz.ti22, Tryz.ti31, Tryz.ti32, Tryz.ti33, Tryz.ti34, Tryz.ti36, Tryz.ti44, Tryz.ti50, Tryz.ti82, Tryz.ti85, Tryz.ti94, Tryz.ti100, i_again, roundEnd, dropT, cleanV, hi, hj, hw] <;> first | (change _ = true; decide +kernel) | (refine ⟨?_, ?_⟩ <;> (change _ = true; decide +kernel))
end Go.Abs

