/- A statement's text by the reference: rules. -/
import Derived.Test.YtpmeklllgnnffaaGreatDoorA40
import Derived.Test.YtpmeklllgnnffaaGreatDoorA42
import Derived.Test.YtpmeklllgnnffaaGreatDoorA39
import Derived.Test.YtpmeklllgnnffaaGreatDoorA44

namespace Go.Abs
set_option linter.unusedSimpArgs false
set_option linter.unusedVariables false
open Go Go.Proofs
attribute [local simp] i_nil i_blk i_skip i_ret i_exit i_seq i_block i_cond i_region' i_ops_nil i_ops i_drawn' d_in a_nil a_cons alt1 h_nil h_one h_two z_nil z_cons z_cells zeqL zeq q_alloc q_some isAlO nxtN i_drh d_hi i_drw_nil i_drw u_nil u_code u_ops u_drw u_lp u_again u_exit u_ret u_panic c_bool o_some o_val o_panic d_some d_val d_panic w_none w_fast wantG q_nil q_zero q_succ t_zero t_succ g_zero g_succ s_zero s_succ s_some s_none v_tmp v_const v_func f_quiet gc_none gc_pure wrap_i64 p_move p_assign p_pick p_alloc p_box p_build p_buildSlice p_load p_store p_nilCheck p_binOp n_tmp n_int n_bool n_str n_ptr n_fun n_iface nilCmp p_unOp p_convert p_makeSlice p_makeInterface p_makeFunc p_slice p_fieldAddr p_field p_indexAddr p_index p_extract p_callv p_callb p_panic quiet_val new_val e_assign e_call e_load e_store e_alloc e_box e_move e_pick e_build e_buildSlice e_nilCheck e_binOp e_unOp e_convert e_makeSlice e_makeInterface e_makeFunc e_slice e_fieldAddr e_field e_indexAddr e_index e_extract e_panic callD fpRead adopt adoptL ofValue ofScalar binOpV unOpV intBin strBin eqRes veq veqF eqDepth val? finish resL r_tmp r_cell normL normTop tipIs refsL refs ownRefs single frz frzL ren renL renOwn callOp doCall backR writeBack builtinV loadV storeV cellsAt takeV D.isAgg overlay vcells cellOk fieldAddrV indexAddrV fieldV partV indexV buildV fillV buildSliceV litElems appendV appElems elemOk convertV convV winStr makeSliceV sliceV natOf
attribute [local simp ↓] brB_true brB_false brB_dec brB_not brB_and brB_or brB_beq brB_bne
attribute [local irreducible] fpsQ panQ

set_option maxRecDepth 100000 in
set_option maxHeartbeats 16000000 in
theorem ev_rshow8 (b : StB) (acts : List Stm) (h : b.ok) (hr : rightStm (.mk b acts) = true) (hk : b.kind = 8) (hal : acts.length ≤ 4) (ihk : ∀ a ∈ acts, EV 18 [a.enc] [] = some (.ret (.str (showStm a)), [])) (hg : ∀ a ∈ acts, (showStm a).length ≤ 10000000000000) :
    EV 18 [(Stm.mk b acts).enc] [] = some (.ret (.str (showStm (.mk b acts))), []) := by
  have hr2 : nameS b.name = true ∧ nameS b.table = true ∧ rightRuleS b acts.length (rightActs acts) = true := by simpa [rightK, nameK, hk] using rightK_of b acts hr
  obtain ⟨hr1, hr3, hru⟩ := hr2
  have n1 := name_len hr1
  have n2 := name_len hr3
  simp only [rightRuleS, Bool.and_eq_true, decide_eq_true_eq] at hru
  obtain ⟨_, p1, p2, e1, e2, hfr, hro, _⟩ := hru
  have hfp : srcsOk b.src ∧ rightsE b.wher 0 1 = true := src_where hfr
  have hs := ev_rshowsources b.src (by have := hfp.1.2; omega) hfp.1.1
  have hsl := comma_len (b.src.map showSrcS) (by simp; have := hfp.1.2; omega) (fun x hx => by obtain ⟨y, hy, rfl⟩ := List.mem_map.1 hx; have := (ev_showsource y (hfp.1.1 y hy)).2; omega)
  have hw := ev_rwhere b acts hfp.2 h.wher.2
  have hwl := (ev_where b acts hfp.2 h.wher.2).2
  have hd := ev_digits b.prio h.prio
  have hdl : (Lib.itoa b.prio).length ≤ 21 := itoa_len b.prio h.prio
  have hj := ev_joined (acts.map showStm) [59, 32] (by simp; omega) (by simp) (fun x hx => by obtain ⟨y, hy, rfl⟩ := List.mem_map.1 hx; exact hg y hy)
  have hjl : (Lib.join (acts.map showStm) [59, 32]).length ≤ 1000000000000000 := by
    have := join_len (acts.map showStm) [59, 32] 10000000000000 (fun x hx => by obtain ⟨y, hy, rfl⟩ := List.mem_map.1 hx; exact hg y hy)
    have h3 : (acts.map showStm).length * (10000000000000 + 2) ≤ 4 * 10000000000002 := Nat.mul_le_mul (by simpa using hal) (by omega)
    simp only [List.length_cons, List.length_nil] at this
    omega
  have hsh : showStm (.mk b acts) = (if b.rolls = true then ruleHead b ++ [32, 68, 79, 32, 82, 79, 76, 76, 66, 65, 67, 75] else ruleHead b ++ ([32, 68, 79, 32] ++ (Lib.join (acts.map showStm) [59, 32] ++ [32, 69, 78, 68]))) := by simp [showStm, hk, showStms_eq]
  rw [hsh]
  simp only [ruleHead]
  rw [EV_mki rfl Tryz.func18 rfl (by kernel_rfl), senc_mk]
  rw [senc_mk] at hw
  generalize whereS b.wher = W at hw hwl ⊢
  generalize commaS (b.src.map showSrcS) = C at hs hsl ⊢
  generalize Lib.itoa b.prio = I at hd hdl ⊢
  obtain ⟨kind, name, table, col, cols, values, items, wher, sets, src, prio, event, deferred, rolls⟩ := b
  dsimp only at hk hw n1 n2 hs hd e1 e2 hro ⊢
  subst hk
  obtain ⟨R, hR⟩ : ∃ R, (if rolls = true then [67, 82, 69, 65, 84, 69, 32, 82, 85, 76, 69, 32] ++ (name ++ ([32, 80, 82, 73, 79, 82, 73, 84, 89, 32] ++ (I ++ ([32, 79, 78, 32] ++ (eventW event ++ ([32, 84, 79, 32] ++ (table ++ ((if deferred = true then [32, 68, 69, 70, 69, 82, 82, 69, 68] else []) ++ (if src = [] then [32, 65, 76, 87, 65, 89, 83] else [32, 87, 72, 69, 78, 32] ++ (C ++ W)))))))))) ++ [32, 68, 79, 32, 82, 79, 76, 76, 66, 65, 67, 75] else [67, 82, 69, 65, 84, 69, 32, 82, 85, 76, 69, 32] ++ (name ++ ([32, 80, 82, 73, 79, 82, 73, 84, 89, 32] ++ (I ++ ([32, 79, 78, 32] ++ (eventW event ++ ([32, 84, 79, 32] ++ (table ++ ((if deferred = true then [32, 68, 69, 70, 69, 82, 82, 69, 68] else []) ++ (if src = [] then [32, 65, 76, 87, 65, 89, 83] else [32, 87, 72, 69, 78, 32] ++ (C ++ W)))))))))) ++ ([32, 68, 79, 32] ++ (Lib.join (acts.map showStm) [59, 32] ++ [32, 69, 78, 68]))) = R := ⟨_, rfl⟩
  rw [hR]
  cases hrl : rolls
  rotate_left
  · subst hrl
    simp only [if_true] at hR
    rw [← hR]
    by_cases s0 : src = []
    · subst s0
      simp only [List.map_nil] at hw
      obtain rfl | rfl | rfl : event = 1 ∨ event = 2 ∨ event = 3 := by omega
      all_goals cases deferred <;> simp [eventW] <;> simp (disch := first | ((try simp only [List.length_cons, List.length_append, List.length_nil]); omega) | simp [refsL, refs]) [-strBin, sb_add, sb_eql, sb_neq, sb_lss, Tryz.f18, Tryz.ti3, Tryz.ti4, Tryz.ti9, Tryz.ti22, Tryz.ti31, Tryz.ti32, Tryz.ti33, Tryz.ti34, Tryz.ti36, Tryz.ti44, Tryz.ti50, Tryz.ti82, Tryz.ti85, Tryz.ti94, Tryz.ti100, hd] <;> first | (change _ = true; decide +kernel) | (refine ⟨?_, ?_⟩ <;> (change _ = true; decide +kernel))
    · have s1 : 0 < src.length := List.length_pos_iff.2 s0
      have s2 : (0 : Int) < src.length := by omega
      obtain rfl | rfl | rfl : event = 1 ∨ event = 2 ∨ event = 3 := by omega
      all_goals cases deferred <;> simp [eventW, s0] <;> simp (disch := first | ((try simp only [List.length_cons, List.length_append, List.length_nil]); omega) | simp [refsL, refs]) [-strBin, sb_add, sb_eql, sb_neq, sb_lss, Tryz.f18, Tryz.ti3, Tryz.ti4, Tryz.ti9, Tryz.ti22, Tryz.ti31, Tryz.ti32, Tryz.ti33, Tryz.ti34, Tryz.ti36, Tryz.ti44, Tryz.ti50, Tryz.ti82, Tryz.ti85, Tryz.ti94, Tryz.ti100, hd, hw, hs, s0, s1, s2] <;> first | (change _ = true; decide +kernel) | (refine ⟨?_, ?_⟩ <;> (change _ = true; decide +kernel))
  subst hrl
  simp only [Bool.false_eq_true, if_false] at hR
  have fin : ∀ (i : Nat) (hil : i ≤ acts.length), i < acts.length → (((acts.take i).map showStm).map V.str).length = i := fun i _ _ => by simp; omega
  by_cases s0 : src = []
  · subst s0
    simp only [List.map_nil] at hw
    obtain rfl | rfl | rfl : event = 1 ∨ event = 2 ∨ event = 3 := by omega
    all_goals
      cases deferred
      all_goals
        simp [eventW] at hR
        simp (disch := first | ((try simp only [List.length_cons, List.length_append, List.length_nil]); omega) | simp [refsL, refs]) [-strBin, sb_add, sb_eql, sb_neq, sb_lss, Tryz.f18, Tryz.ti3, Tryz.ti4, Tryz.ti9, Tryz.ti22, Tryz.ti31, Tryz.ti32, Tryz.ti33, Tryz.ti34, Tryz.ti36, Tryz.ti44, Tryz.ti50, Tryz.ti82, Tryz.ti85, Tryz.ti94, Tryz.ti100, hd]
        rw [i_loop (ts := [245, 246, 247, 248, 249, 252, 253, 254, 255, 256, 257, 258, 259, 260, 250, 251])]
        rotate_left
        · kernel_rfl
        refine i_at2 (fun i : {i : Nat // i ≤ acts.length} => acts.length - i.1) (fun i env => setV (setV env 16 (.int .i64 i.1)) 15 (.slice (.own 3) (((acts.take i.1).map showStm).map V.str))) (fun i st => st.set 3 [.tip i.1]) (fun i => some (.ret (.str R), [])) ⟨0, by omega⟩ (by simp [s_zero, s_succ]) rfl rfl ?_
        intro ⟨i, hil⟩ ih
        dsimp only at hil ⊢
        by_cases hi : i < acts.length
        · have ih := ih ⟨i + 1, by omega⟩ (by simp only; omega)
          have hwi : IntKind.i64.wrap ((i : Int) + 1) = (i : Int) + 1 := wrap_i64 (by omega)
          have hlen : (((acts.take i).map showStm).map V.str).length = i := by simp; omega
          have hc := ihk acts[i] (List.getElem_mem hi)
          obtain ⟨t, hk⟩ : ∃ m, acts[i] = m := ⟨_, rfl⟩
          have hkk : acts[i]? = some t := by rw [List.getElem?_eq_getElem hi, hk]
          have ht : ((acts.take (i + 1)).map showStm).map V.str = ((acts.take i).map showStm).map V.str ++ [V.str (showStm t)] := by rw [List.take_succ_eq_append_getElem hi, hk]; simp
          have hf : ∀ x ∈ ((acts.take i).map showStm).map V.str, (vcells x).length = 1 := fun x hx => by obtain ⟨y, _, rfl⟩ := List.mem_map.1 hx; rfl
          rw [hk] at hc
          simp only at ih
          rw [ht] at ih
          clear ht hR
          generalize ((acts.take i).map showStm).map V.str = xs at *
          generalize showStm t = T at hc ih
          obtain ⟨tb, ta⟩ := t
          rw [senc_mk] at hc
          simp only [s_zero, s_succ, Int.natCast_add, Int.natCast_one, Int.cast_ofNat_Int, List.set_cons_succ, List.set_cons_zero] at ih
          simp only [vcells] at hf
          have hbb : (i + 1) * 16 ≤ 70368744177664 := by omega
          have hbc : i + 1 ≤ 70368744177664 := by omega
          simp +contextual (disch := first | ((try simp only [List.length_cons, List.length_append, List.length_nil]); omega) | simp [refsL, refs]) [-strBin, sb_add, sb_eql, sb_neq, sb_lss, Tryz.f18, Tryz.ti3, Tryz.ti4, Tryz.ti9, Tryz.ti22, Tryz.ti31, Tryz.ti32, Tryz.ti33, Tryz.ti34, Tryz.ti36, Tryz.ti44, Tryz.ti50, Tryz.ti82, Tryz.ti85, Tryz.ti94, Tryz.ti100, i_again, roundEnd, dropT, cleanV, hi, hk, hkk, senc_mk, hwi, hlen, hbb, hbc, hf, ih, hc, appFp] <;> first | (change _ = true; decide +kernel) | (refine ⟨?_, ?_⟩ <;> (change _ = true; decide +kernel))
        · have ht : acts.take i = acts := List.take_of_length_le (by omega)
          obtain rfl : i = acts.length := by omega
          rw [ht]
          clear ih
          rw [← hR]
          generalize (acts.map showStm).map V.str = xs at hj
          generalize Lib.join (acts.map showStm) [59, 32] = J at hj hjl ⊢
          simp (disch := first | ((try simp only [List.length_cons, List.length_append, List.length_nil]); omega) | simp [refsL, refs]) [-strBin, sb_add, sb_eql, sb_neq, sb_lss, Tryz.f18, Tryz.ti3, Tryz.ti4, Tryz.ti9, Tryz.ti22, Tryz.ti31, Tryz.ti32, Tryz.ti33, Tryz.ti34, Tryz.ti36, Tryz.ti44, Tryz.ti50, Tryz.ti82, Tryz.ti85, Tryz.ti94, Tryz.ti100, i_again, roundEnd, dropT, cleanV, hi, hj] <;> first | (change _ = true; decide +kernel) | (refine ⟨?_, ?_⟩ <;> (change _ = true; decide +kernel))
  · have s1 : 0 < src.length := List.length_pos_iff.2 s0
    have s2 : (0 : Int) < src.length := by omega
    obtain rfl | rfl | rfl : event = 1 ∨ event = 2 ∨ event = 3 := by omega
    all_goals
      cases deferred
      all_goals
        simp [eventW, s0] at hR
        simp (disch := first | ((try simp only [List.length_cons, List.length_append, List.length_nil]); omega) | simp [refsL, refs]) [-strBin, sb_add, sb_eql, sb_neq, sb_lss, Tryz.f18, Tryz.ti3, Tryz.ti4, Tryz.ti9, Tryz.ti22, Tryz.ti31, Tryz.ti32, Tryz.ti33, Tryz.ti34, Tryz.ti36, Tryz.ti44, Tryz.ti50, Tryz.ti82, Tryz.ti85, Tryz.ti94, Tryz.ti100, hd, hw, hs, s0, s1, s2]
        rw [i_loop (ts := [245, 246, 247, 248, 249, 252, 253, 254, 255, 256, 257, 258, 259, 260, 250, 251])]
        rotate_left
        · kernel_rfl
        refine i_at2 (fun i : {i : Nat // i ≤ acts.length} => acts.length - i.1) (fun i env => setV (setV env 16 (.int .i64 i.1)) 15 (.slice (.own 3) (((acts.take i.1).map showStm).map V.str))) (fun i st => st.set 3 [.tip i.1]) (fun i => some (.ret (.str R), [])) ⟨0, by omega⟩ (by simp [s_zero, s_succ]) rfl rfl ?_
        intro ⟨i, hil⟩ ih
        dsimp only at hil ⊢
        by_cases hi : i < acts.length
        · have ih := ih ⟨i + 1, by omega⟩ (by simp only; omega)
          have hwi : IntKind.i64.wrap ((i : Int) + 1) = (i : Int) + 1 := wrap_i64 (by omega)
          have hlen : (((acts.take i).map showStm).map V.str).length = i := by simp; omega
          have hc := ihk acts[i] (List.getElem_mem hi)
          obtain ⟨t, hk⟩ : ∃ m, acts[i] = m := ⟨_, rfl⟩
          have hkk : acts[i]? = some t := by rw [List.getElem?_eq_getElem hi, hk]
          have ht : ((acts.take (i + 1)).map showStm).map V.str = ((acts.take i).map showStm).map V.str ++ [V.str (showStm t)] := by rw [List.take_succ_eq_append_getElem hi, hk]; simp
          have hf : ∀ x ∈ ((acts.take i).map showStm).map V.str, (vcells x).length = 1 := fun x hx => by obtain ⟨y, _, rfl⟩ := List.mem_map.1 hx; rfl
          rw [hk] at hc
          simp only at ih
          rw [ht] at ih
          clear ht hR
          generalize ((acts.take i).map showStm).map V.str = xs at *
          generalize showStm t = T at hc ih
          obtain ⟨tb, ta⟩ := t
          rw [senc_mk] at hc
          simp only [s_zero, s_succ, Int.natCast_add, Int.natCast_one, Int.cast_ofNat_Int, List.set_cons_succ, List.set_cons_zero] at ih
          simp only [vcells] at hf
          have hbb : (i + 1) * 16 ≤ 70368744177664 := by omega
          have hbc : i + 1 ≤ 70368744177664 := by omega
          simp +contextual (disch := first | ((try simp only [List.length_cons, List.length_append, List.length_nil]); omega) | simp [refsL, refs]) [-strBin, sb_add, sb_eql, sb_neq, sb_lss, Tryz.f18, Tryz.ti3, Tryz.ti4, Tryz.ti9, Tryz.ti22, Tryz.ti31, Tryz.ti32, Tryz.ti33, Tryz.ti34, Tryz.ti36, Tryz.ti44, Tryz.ti50, Tryz.ti82, Tryz.ti85, Tryz.ti94, Tryz.ti100, i_again, roundEnd, dropT, cleanV, hi, hk, hkk, senc_mk, hwi, hlen, hbb, hbc, hf, ih, hc, appFp] <;> first | (change _ = true; decide +kernel) | (refine ⟨?_, ?_⟩ <;> (change _ = true; decide +kernel))
        · have ht : acts.take i = acts := List.take_of_length_le (by omega)
          obtain rfl : i = acts.length := by omega
          rw [ht]
          clear ih
          rw [← hR]
          generalize (acts.map showStm).map V.str = xs at hj
          generalize Lib.join (acts.map showStm) [59, 32] = J at hj hjl ⊢
          simp (disch := first | ((try simp only [List.length_cons, List.length_append, List.length_nil]); omega) | simp [refsL, refs]) [-strBin, sb_add, sb_eql, sb_neq, sb_lss, Tryz.f18, Tryz.ti3, Tryz.ti4, Tryz.ti9, Tryz.ti22, Tryz.ti31, Tryz.ti32, Tryz.ti33, Tryz.ti34, Tryz.ti36, Tryz.ti44, Tryz.ti50, Tryz.ti82, Tryz.ti85, Tryz.ti94, Tryz.ti100, i_again, roundEnd, dropT, cleanV, hi, hj, s0] <;> first | (change _ = true; decide +kernel) | (refine ⟨?_, ?_⟩ <;> (change _ = true; decide +kernel))
end Go.Abs

