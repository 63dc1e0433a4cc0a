/- Whether a statement has no fields that its kind doesn't have. -/
import Derived.Test.YtpmeklllgnnffaaGreatDoorP16
import Derived.Test.YtpmeklllgnnffaaGreatDoorP14
import Derived.Lib.Join
set_option linter.unusedSimpArgs false
set_option linter.unusedVariables false

namespace Go.Abs
set_option linter.unusedSimpArgs false
set_option linter.unusedVariables false
open Go Go.Proofs
attribute [local simp] i_nil i_blk i_skip i_ret i_exit i_seq i_block i_cond i_region' i_ops_nil i_ops i_drawn' k_none k_0 k_1 k_2 k_3 k_4 k_5 d_in a_nil a_cons alt1 h_nil h_one h_two z_nil z_cons z_cells zeqL zeq q_alloc q_some nxtN i_drh d_hi i_drw_nil i_drw u_nil u_code u_ops u_drw u_lp u_again u_exit u_ret u_panic c_bool o_some o_val o_panic d_some d_val d_panic w_none w_fast wantG q_nil q_zero q_succ t_zero t_succ g_zero g_succ s_zero s_succ s_some s_none v_tmp v_const v_func f_quiet gc_none gc_pure wrap_i64 p_move p_assign p_pick p_alloc p_box p_build p_buildSlice p_load p_store p_nilCheck p_binOp n_tmp n_int n_bool n_str n_ptr n_fun n_iface nilCmp p_unOp p_convert p_makeSlice p_makeInterface p_makeFunc p_slice p_fieldAddr p_field p_indexAddr p_index p_extract p_callv p_callb p_panic quiet_val new_val e_assign e_call e_load e_store e_alloc e_box e_move e_pick e_build e_buildSlice e_nilCheck e_binOp e_unOp e_convert e_makeSlice e_makeInterface e_makeFunc e_slice e_fieldAddr e_field e_indexAddr e_index e_extract e_panic callD fpRead adoptZ fulls adopt adoptL ofValue ofScalar binOpV unOpV intBin strBin eqRes veq veqF eqDepth val? finish resL r_tmp r_cell normL normTop tipIs refsL refs ownRefs single frz frzL ren renL renOwn callOp doCall backR writeBack builtinV loadV storeV storeW iceT cellsAt takeV D.isAgg overlay vcells cellOk fieldAddrV indexAddrV fieldV partV indexV buildV fillV buildSliceV litElems appendV appElems elemOk convertV convV winStr makeSliceV sliceV natOf
attribute [local simp ↓] brB_true brB_false brB_dec brB_not brB_and brB_or brB_beq brB_bne
def bareOf (x s : StB) (xa sa : List Stm) : Bool :=
  (decide (x.name = s.name) && (decide (x.table = s.table) && (decide (x.col = s.col) && (decide (x.prio = s.prio) && (decide (x.event = s.event) && (decide (x.deferred = s.deferred) && (decide (x.rolls = s.rolls)))))))) && ((decide (x.cols.length = s.cols.length) && (decide (x.values.length = s.values.length) && (decide (x.items.length = s.items.length) && (decide (x.wher.length = s.wher.length) && (decide (x.sets.length = s.sets.length) && (decide (x.src.length = s.src.length) && decide (xa.length = sa.length))))))))
def bareS (s : Stm) : Bool := bareOf (blankS s).b s.b (blankS s).acts s.acts
set_option maxRecDepth 100000 in
set_option maxHeartbeats 8000000 in
theorem ev_bare : ∀ s : Stm, EV 39 [s.enc] [] = some (.ret (.bool (bareS s)), []) := by
  intro s
  have hb := ev_blank s
  unfold bareS
  generalize blankS s = x at hb ⊢
  obtain ⟨b, acts⟩ := s
  obtain ⟨xb, xa⟩ := x
  simp only [Stm.b, Stm.acts]
  rw [senc_mk, senc_mk] at hb
  rw [EV_mki rfl Tryz.func39 rfl (by kernel_rfl) rfl, senc_mk]
  obtain ⟨kind, name, table, col, cols, values, items, wher, sets, src, prio, event, deferred, rolls⟩ := b
  obtain ⟨xkind, xname, xtable, xcol, xcols, xvalues, xitems, xwher, xsets, xsrc, xprio, xevent, xdeferred, xrolls⟩ := xb
  simp only [bareOf]
  dsimp only at hb
  by_cases h0 : xname = name
  rotate_left
  · simp [Tryz.f39, Tryz.ti3, Tryz.ti4, Tryz.ti9, Tryz.ti22, Tryz.ti23, Tryz.ti24, Tryz.ti25, Tryz.ti26, Tryz.ti28, Tryz.ti44, Tryz.ti46, Tryz.ti80, Tryz.ti84, Tryz.ti94, hb, h0] <;> first | (refine panQ_of ?_; decide +kernel) | (change _ = true; decide +kernel) | kernel_rfl | (refine ⟨?_, ?_⟩ <;> first | (change _ = true; decide +kernel) | kernel_rfl)
  by_cases h1 : xtable = table
  rotate_left
  · simp [Tryz.f39, Tryz.ti3, Tryz.ti4, Tryz.ti9, Tryz.ti22, Tryz.ti23, Tryz.ti24, Tryz.ti25, Tryz.ti26, Tryz.ti28, Tryz.ti44, Tryz.ti46, Tryz.ti80, Tryz.ti84, Tryz.ti94, hb, h0, h1] <;> first | (refine panQ_of ?_; decide +kernel) | (change _ = true; decide +kernel) | kernel_rfl | (refine ⟨?_, ?_⟩ <;> first | (change _ = true; decide +kernel) | kernel_rfl)
  by_cases h2 : xcol = col
  rotate_left
  · simp [Tryz.f39, Tryz.ti3, Tryz.ti4, Tryz.ti9, Tryz.ti22, Tryz.ti23, Tryz.ti24, Tryz.ti25, Tryz.ti26, Tryz.ti28, Tryz.ti44, Tryz.ti46, Tryz.ti80, Tryz.ti84, Tryz.ti94, hb, h0, h1, h2] <;> first | (refine panQ_of ?_; decide +kernel) | (change _ = true; decide +kernel) | kernel_rfl | (refine ⟨?_, ?_⟩ <;> first | (change _ = true; decide +kernel) | kernel_rfl)
  by_cases h3 : xprio = prio
  rotate_left
  · simp [Tryz.f39, Tryz.ti3, Tryz.ti4, Tryz.ti9, Tryz.ti22, Tryz.ti23, Tryz.ti24, Tryz.ti25, Tryz.ti26, Tryz.ti28, Tryz.ti44, Tryz.ti46, Tryz.ti80, Tryz.ti84, Tryz.ti94, hb, h0, h1, h2, h3] <;> first | (refine panQ_of ?_; decide +kernel) | (change _ = true; decide +kernel) | kernel_rfl | (refine ⟨?_, ?_⟩ <;> first | (change _ = true; decide +kernel) | kernel_rfl)
  by_cases h4 : xevent = event
  rotate_left
  · simp [Tryz.f39, Tryz.ti3, Tryz.ti4, Tryz.ti9, Tryz.ti22, Tryz.ti23, Tryz.ti24, Tryz.ti25, Tryz.ti26, Tryz.ti28, Tryz.ti44, Tryz.ti46, Tryz.ti80, Tryz.ti84, Tryz.ti94, hb, h0, h1, h2, h3, h4] <;> first | (refine panQ_of ?_; decide +kernel) | (change _ = true; decide +kernel) | kernel_rfl | (refine ⟨?_, ?_⟩ <;> first | (change _ = true; decide +kernel) | kernel_rfl)
  by_cases h5 : xdeferred = deferred
  rotate_left
  · simp [Tryz.f39, Tryz.ti3, Tryz.ti4, Tryz.ti9, Tryz.ti22, Tryz.ti23, Tryz.ti24, Tryz.ti25, Tryz.ti26, Tryz.ti28, Tryz.ti44, Tryz.ti46, Tryz.ti80, Tryz.ti84, Tryz.ti94, hb, h0, h1, h2, h3, h4, h5] <;> first | (refine panQ_of ?_; decide +kernel) | (change _ = true; decide +kernel) | kernel_rfl | (refine ⟨?_, ?_⟩ <;> first | (change _ = true; decide +kernel) | kernel_rfl)
  by_cases h6 : xrolls = rolls
  rotate_left
  · simp [Tryz.f39, Tryz.ti3, Tryz.ti4, Tryz.ti9, Tryz.ti22, Tryz.ti23, Tryz.ti24, Tryz.ti25, Tryz.ti26, Tryz.ti28, Tryz.ti44, Tryz.ti46, Tryz.ti80, Tryz.ti84, Tryz.ti94, hb, h0, h1, h2, h3, h4, h5, h6] <;> first | (refine panQ_of ?_; decide +kernel) | (change _ = true; decide +kernel) | kernel_rfl | (refine ⟨?_, ?_⟩ <;> first | (change _ = true; decide +kernel) | kernel_rfl)
  by_cases h7 : (xcols.length : Int) = cols.length
  rotate_left
  · have n7 : ¬ xcols.length = cols.length := by omega
    simp [Tryz.f39, Tryz.ti3, Tryz.ti4, Tryz.ti9, Tryz.ti22, Tryz.ti23, Tryz.ti24, Tryz.ti25, Tryz.ti26, Tryz.ti28, Tryz.ti44, Tryz.ti46, Tryz.ti80, Tryz.ti84, Tryz.ti94, hb, h0, h1, h2, h3, h4, h5, h6, h7, n7] <;> first | (refine panQ_of ?_; decide +kernel) | (change _ = true; decide +kernel) | kernel_rfl | (refine ⟨?_, ?_⟩ <;> first | (change _ = true; decide +kernel) | kernel_rfl)
  have n7 : xcols.length = cols.length := by omega
  by_cases h8 : (xvalues.length : Int) = values.length
  rotate_left
  · have n8 : ¬ xvalues.length = values.length := by omega
    simp [Tryz.f39, Tryz.ti3, Tryz.ti4, Tryz.ti9, Tryz.ti22, Tryz.ti23, Tryz.ti24, Tryz.ti25, Tryz.ti26, Tryz.ti28, Tryz.ti44, Tryz.ti46, Tryz.ti80, Tryz.ti84, Tryz.ti94, hb, h0, h1, h2, h3, h4, h5, h6, h7, n7, h8, n8] <;> first | (refine panQ_of ?_; decide +kernel) | (change _ = true; decide +kernel) | kernel_rfl | (refine ⟨?_, ?_⟩ <;> first | (change _ = true; decide +kernel) | kernel_rfl)
  have n8 : xvalues.length = values.length := by omega
  by_cases h9 : (xitems.length : Int) = items.length
  rotate_left
  · have n9 : ¬ xitems.length = items.length := by omega
    simp [Tryz.f39, Tryz.ti3, Tryz.ti4, Tryz.ti9, Tryz.ti22, Tryz.ti23, Tryz.ti24, Tryz.ti25, Tryz.ti26, Tryz.ti28, Tryz.ti44, Tryz.ti46, Tryz.ti80, Tryz.ti84, Tryz.ti94, hb, h0, h1, h2, h3, h4, h5, h6, h7, n7, h8, n8, h9, n9] <;> first | (refine panQ_of ?_; decide +kernel) | (change _ = true; decide +kernel) | kernel_rfl | (refine ⟨?_, ?_⟩ <;> first | (change _ = true; decide +kernel) | kernel_rfl)
  have n9 : xitems.length = items.length := by omega
  by_cases h10 : (xwher.length : Int) = wher.length
  rotate_left
  · have n10 : ¬ xwher.length = wher.length := by omega
    simp [Tryz.f39, Tryz.ti3, Tryz.ti4, Tryz.ti9, Tryz.ti22, Tryz.ti23, Tryz.ti24, Tryz.ti25, Tryz.ti26, Tryz.ti28, Tryz.ti44, Tryz.ti46, Tryz.ti80, Tryz.ti84, Tryz.ti94, hb, h0, h1, h2, h3, h4, h5, h6, h7, n7, h8, n8, h9, n9, h10, n10] <;> first | (refine panQ_of ?_; decide +kernel) | (change _ = true; decide +kernel) | kernel_rfl | (refine ⟨?_, ?_⟩ <;> first | (change _ = true; decide +kernel) | kernel_rfl)
  have n10 : xwher.length = wher.length := by omega
  by_cases h11 : (xsets.length : Int) = sets.length
  rotate_left
  · have n11 : ¬ xsets.length = sets.length := by omega
    simp [Tryz.f39, Tryz.ti3, Tryz.ti4, Tryz.ti9, Tryz.ti22, Tryz.ti23, Tryz.ti24, Tryz.ti25, Tryz.ti26, Tryz.ti28, Tryz.ti44, Tryz.ti46, Tryz.ti80, Tryz.ti84, Tryz.ti94, hb, h0, h1, h2, h3, h4, h5, h6, h7, n7, h8, n8, h9, n9, h10, n10, h11, n11] <;> first | (refine panQ_of ?_; decide +kernel) | (change _ = true; decide +kernel) | kernel_rfl | (refine ⟨?_, ?_⟩ <;> first | (change _ = true; decide +kernel) | kernel_rfl)
  have n11 : xsets.length = sets.length := by omega
  by_cases h12 : (xsrc.length : Int) = src.length
  rotate_left
  · have n12 : ¬ xsrc.length = src.length := by omega
    simp [Tryz.f39, Tryz.ti3, Tryz.ti4, Tryz.ti9, Tryz.ti22, Tryz.ti23, Tryz.ti24, Tryz.ti25, Tryz.ti26, Tryz.ti28, Tryz.ti44, Tryz.ti46, Tryz.ti80, Tryz.ti84, Tryz.ti94, hb, h0, h1, h2, h3, h4, h5, h6, h7, n7, h8, n8, h9, n9, h10, n10, h11, n11, h12, n12] <;> first | (refine panQ_of ?_; decide +kernel) | (change _ = true; decide +kernel) | kernel_rfl | (refine ⟨?_, ?_⟩ <;> first | (change _ = true; decide +kernel) | kernel_rfl)
  have n12 : xsrc.length = src.length := by omega
  by_cases h13 : (xa.length : Int) = acts.length
  rotate_left
  · have n13 : ¬ xa.length = acts.length := by omega
    simp [Tryz.f39, Tryz.ti3, Tryz.ti4, Tryz.ti9, Tryz.ti22, Tryz.ti23, Tryz.ti24, Tryz.ti25, Tryz.ti26, Tryz.ti28, Tryz.ti44, Tryz.ti46, Tryz.ti80, Tryz.ti84, Tryz.ti94, hb, h0, h1, h2, h3, h4, h5, h6, h7, n7, h8, n8, h9, n9, h10, n10, h11, n11, h12, n12, h13, n13] <;> first | (refine panQ_of ?_; decide +kernel) | (change _ = true; decide +kernel) | kernel_rfl | (refine ⟨?_, ?_⟩ <;> first | (change _ = true; decide +kernel) | kernel_rfl)
  have n13 : xa.length = acts.length := by omega
  simp [Tryz.f39, Tryz.ti3, Tryz.ti4, Tryz.ti9, Tryz.ti22, Tryz.ti23, Tryz.ti24, Tryz.ti25, Tryz.ti26, Tryz.ti28, Tryz.ti44, Tryz.ti46, Tryz.ti80, Tryz.ti84, Tryz.ti94, hb, h0, h1, h2, h3, h4, h5, h6, h7, n7, h8, n8, h9, n9, h10, n10, h11, n11, h12, n12, h13, n13] <;> first | (refine panQ_of ?_; decide +kernel) | (change _ = true; decide +kernel) | kernel_rfl | (refine ⟨?_, ?_⟩ <;> first | (change _ = true; decide +kernel) | kernel_rfl)
def rightRuleS (b : StB) (n : Nat) (ra : Bool) : Bool :=
  ra && (decide (0 ≤ b.prio) && (decide (b.prio ≤ 999) && (decide (1 ≤ b.event) && (decide (b.event ≤ 3) && (rightFromS b.src b.wher 0 && (decide (b.rolls = decide ((n : Int) = 0)) && decide ((n : Int) ≤ 4)))))))
def rightK (b : StB) (n : Nat) (ra : Bool) : Bool :=
  if b.kind = 1 ∨ b.kind = 2 ∨ b.kind = 3 then true
  else if nameK b.kind then nameS b.name
  else if b.kind = 6 then nameS b.name && decide (colsS b.cols = 0)
  else if b.kind = 7 then nameS b.name && (nameS b.table && nameS b.col)
  else if b.kind = 8 then nameS b.name && (nameS b.table && rightRuleS b n ra)
  else if b.kind = 12 then
    if (0 : Int) < b.values.length then nameS b.table && (rightsE b.values 1 6 && decide ((b.items.length : Int) + b.src.length + b.wher.length = 0))
    else nameS b.table && (rightsE b.items 0 40 && rightFromS b.src b.wher 1)
  else if b.kind = 13 then nameS b.table && (rightSetsS b.sets && rightsE b.wher 0 1)
  else if b.kind = 14 then nameS b.table && rightsE b.wher 0 1
  else if b.kind = 15 then rightsE b.items 0 40 && rightFromS b.src b.wher 1
  else false
mutual
def rightStm : Stm → Bool
  | .mk b acts => bareS (.mk b acts) && rightK b acts.length (rightActs acts)
def rightActs : List Stm → Bool
  | [] => true
  | a :: l => (decide (12 ≤ a.b.kind) && (decide (a.b.kind ≤ 14) && rightStm a)) && rightActs l
end
theorem ev_rightrule (b : StB) (acts : List Stm) (h : b.ok) (hl : acts.length ≤ 1048576) (ihk : ∀ a ∈ acts, EV 15 [a.enc] [] = some (.ret (.bool (rightStm a)), [])) :
    EV 42 [(Stm.mk b acts).enc] [] = some (.ret (.bool (rightRuleS b acts.length (rightActs acts))), []) := by
  have hf := ev_rightfrom b acts h 0
  rw [EV_mki rfl Tryz.func42 rfl (by kernel_rfl) rfl, senc_mk]
  rw [senc_mk] at hf
  obtain ⟨kind, name, table, col, cols, values, items, wher, sets, src, prio, event, deferred, rolls⟩ := b
  dsimp only at hf ⊢
  simp [Tryz.f42, Tryz.ti3, Tryz.ti4, Tryz.ti9, Tryz.ti22, Tryz.ti23, Tryz.ti24, Tryz.ti25, Tryz.ti26, Tryz.ti28, Tryz.ti44, Tryz.ti46, Tryz.ti80, Tryz.ti84, Tryz.ti94]
  rw [i_loop (ts := [9, 10, 11, 4, 12, 13, 14, 15, 16, 17, 18, 19, 20, 21, 22, 23, 24, 25])]
  rotate_left
  · kernel_rfl
  refine i_at (fun i : {i : Nat // i ≤ acts.length} => acts.length - i.1) (fun i env => setV env 8 (.int .i64 i.1)) (fun i => _) (fun i => some (.ret (.bool (rightRuleS ⟨kind, name, table, col, cols, values, items, wher, sets, src, prio, event, deferred, rolls⟩ acts.length (rightActs (acts.drop i.1)))), [])) ⟨0, by omega⟩ (by simp [s_zero, s_succ]) rfl (by simp) ?_
  intro ⟨i, hil⟩ ih
  dsimp only at hil ⊢
  by_cases hi : i < acts.length
  · have ih := ih ⟨i + 1, by omega⟩ (by simp only; omega)
    have hwi : IntKind.i64.wrap ((i : Int) + 1) = (i : Int) + 1 := wrap_i64 (by omega)
    have hc := ihk acts[i] (List.getElem_mem hi)
    obtain ⟨t, hk⟩ : ∃ m, acts[i] = m := ⟨_, rfl⟩
    rw [List.drop_eq_getElem_cons hi, rightActs, hk]
    rw [hk] at hc
    obtain ⟨tb, ta⟩ := t
    rw [senc_mk] at hc
    simp only [s_zero, s_succ, Int.natCast_add, Int.natCast_one, Int.cast_ofNat_Int] at ih
    simp only [Stm.b]
    by_cases h1 : 12 ≤ tb.kind
    · have h1' : ¬ tb.kind < 12 := by omega
      by_cases h2 : tb.kind ≤ 14
      · have h2' : ¬ 14 < tb.kind := by omega
        cases hd : rightStm (.mk tb ta) <;> rw [hd] at hc
        · simp [i_again, roundEnd, dropT, cleanV, Tryz.f42, Tryz.ti3, Tryz.ti4, Tryz.ti9, Tryz.ti22, Tryz.ti23, Tryz.ti24, Tryz.ti25, Tryz.ti26, Tryz.ti28, Tryz.ti44, Tryz.ti46, Tryz.ti80, Tryz.ti84, Tryz.ti94, hi, hk, senc_mk, h1, h1', h2, h2', hc, rightRuleS]
        · simp [i_again, roundEnd, dropT, cleanV, Tryz.f42, Tryz.ti3, Tryz.ti4, Tryz.ti9, Tryz.ti22, Tryz.ti23, Tryz.ti24, Tryz.ti25, Tryz.ti26, Tryz.ti28, Tryz.ti44, Tryz.ti46, Tryz.ti80, Tryz.ti84, Tryz.ti94, hi, hk, senc_mk, h1, h1', h2, h2', hc, hwi, ih]
      · have h2' : 14 < tb.kind := by omega
        simp [i_again, roundEnd, dropT, cleanV, Tryz.f42, Tryz.ti3, Tryz.ti4, Tryz.ti9, Tryz.ti22, Tryz.ti23, Tryz.ti24, Tryz.ti25, Tryz.ti26, Tryz.ti28, Tryz.ti44, Tryz.ti46, Tryz.ti80, Tryz.ti84, Tryz.ti94, hi, hk, senc_mk, h1, h1', h2, h2', rightRuleS]
    · have h1' : tb.kind < 12 := by omega
      simp [i_again, roundEnd, dropT, cleanV, Tryz.f42, Tryz.ti3, Tryz.ti4, Tryz.ti9, Tryz.ti22, Tryz.ti23, Tryz.ti24, Tryz.ti25, Tryz.ti26, Tryz.ti28, Tryz.ti44, Tryz.ti46, Tryz.ti80, Tryz.ti84, Tryz.ti94, hi, hk, senc_mk, h1, h1', rightRuleS]
  · rw [List.drop_of_length_le (by omega)]
    simp only [rightRuleS, rightActs]
    by_cases p1 : 0 ≤ prio
    · by_cases p2 : prio ≤ 999
      · by_cases e1 : 1 ≤ event
        · by_cases e2 : event ≤ 3
          · cases hr : rightFromS src wher 0 <;> rw [hr] at hf
            · simp [i_again, roundEnd, dropT, cleanV, Tryz.f42, Tryz.ti3, Tryz.ti4, Tryz.ti9, Tryz.ti22, Tryz.ti23, Tryz.ti24, Tryz.ti25, Tryz.ti26, Tryz.ti28, Tryz.ti44, Tryz.ti46, Tryz.ti80, Tryz.ti84, Tryz.ti94, hi, p1, p2, e1, e2, hf]
            · by_cases n0 : acts = []
              · subst n0
                simp only [List.map_nil] at hf
                have hi0 : ¬ (i : Int) < 0 := by omega
                cases rolls
                · simp [i_again, roundEnd, dropT, cleanV, Tryz.f42, Tryz.ti3, Tryz.ti4, Tryz.ti9, Tryz.ti22, Tryz.ti23, Tryz.ti24, Tryz.ti25, Tryz.ti26, Tryz.ti28, Tryz.ti44, Tryz.ti46, Tryz.ti80, Tryz.ti84, Tryz.ti94, hi0, p1, p2, e1, e2, hf]
                · simp [i_again, roundEnd, dropT, cleanV, Tryz.f42, Tryz.ti3, Tryz.ti4, Tryz.ti9, Tryz.ti22, Tryz.ti23, Tryz.ti24, Tryz.ti25, Tryz.ti26, Tryz.ti28, Tryz.ti44, Tryz.ti46, Tryz.ti80, Tryz.ti84, Tryz.ti94, hi0, p1, p2, e1, e2, hf]
              · have n1 : ¬ acts.length = 0 := fun e => n0 (List.eq_nil_of_length_eq_zero e)
                have n1' : ¬ (acts.length : Int) = 0 := by omega
                cases rolls
                · by_cases n4 : (acts.length : Int) ≤ 4
                  · have n4' : acts.length ≤ 4 := by omega
                    simp [i_again, roundEnd, dropT, cleanV, Tryz.f42, Tryz.ti3, Tryz.ti4, Tryz.ti9, Tryz.ti22, Tryz.ti23, Tryz.ti24, Tryz.ti25, Tryz.ti26, Tryz.ti28, Tryz.ti44, Tryz.ti46, Tryz.ti80, Tryz.ti84, Tryz.ti94, hi, p1, p2, e1, e2, hf, n0, n1, n1', n4, n4']
                  · have n4' : ¬ acts.length ≤ 4 := by omega
                    simp [i_again, roundEnd, dropT, cleanV, Tryz.f42, Tryz.ti3, Tryz.ti4, Tryz.ti9, Tryz.ti22, Tryz.ti23, Tryz.ti24, Tryz.ti25, Tryz.ti26, Tryz.ti28, Tryz.ti44, Tryz.ti46, Tryz.ti80, Tryz.ti84, Tryz.ti94, hi, p1, p2, e1, e2, hf, n0, n1, n1', n4, n4']
                · simp [i_again, roundEnd, dropT, cleanV, Tryz.f42, Tryz.ti3, Tryz.ti4, Tryz.ti9, Tryz.ti22, Tryz.ti23, Tryz.ti24, Tryz.ti25, Tryz.ti26, Tryz.ti28, Tryz.ti44, Tryz.ti46, Tryz.ti80, Tryz.ti84, Tryz.ti94, hi, p1, p2, e1, e2, hf, n0, n1, n1']
          · simp [i_again, roundEnd, dropT, cleanV, Tryz.f42, Tryz.ti3, Tryz.ti4, Tryz.ti9, Tryz.ti22, Tryz.ti23, Tryz.ti24, Tryz.ti25, Tryz.ti26, Tryz.ti28, Tryz.ti44, Tryz.ti46, Tryz.ti80, Tryz.ti84, Tryz.ti94, hi, p1, p2, e1, e2]
        · simp [i_again, roundEnd, dropT, cleanV, Tryz.f42, Tryz.ti3, Tryz.ti4, Tryz.ti9, Tryz.ti22, Tryz.ti23, Tryz.ti24, Tryz.ti25, Tryz.ti26, Tryz.ti28, Tryz.ti44, Tryz.ti46, Tryz.ti80, Tryz.ti84, Tryz.ti94, hi, p1, p2, e1]
      · simp [i_again, roundEnd, dropT, cleanV, Tryz.f42, Tryz.ti3, Tryz.ti4, Tryz.ti9, Tryz.ti22, Tryz.ti23, Tryz.ti24, Tryz.ti25, Tryz.ti26, Tryz.ti28, Tryz.ti44, Tryz.ti46, Tryz.ti80, Tryz.ti84, Tryz.ti94, hi, p1, p2]
    · simp [i_again, roundEnd, dropT, cleanV, Tryz.f42, Tryz.ti3, Tryz.ti4, Tryz.ti9, Tryz.ti22, Tryz.ti23, Tryz.ti24, Tryz.ti25, Tryz.ti26, Tryz.ti28, Tryz.ti44, Tryz.ti46, Tryz.ti80, Tryz.ti84, Tryz.ti94, hi, p1]
section
variable (b : StB) (acts : List Stm) (h : b.ok) (hl : acts.length ≤ 1048576)
set_option maxRecDepth 100000 in
set_option maxHeartbeats 4000000 in
theorem ev_right_notbare (hb : bareS (.mk b acts) = false) : EV 15 [(Stm.mk b acts).enc] [] = some (.ret (.bool (rightStm (.mk b acts))), []) := by
  have hbb := ev_bare (.mk b acts)
  rw [hb] at hbb
  simp only [rightStm, hb, Bool.false_and]
  rw [EV_mki rfl Tryz.func15 rfl (by kernel_rfl) rfl, senc_mk]
  rw [senc_mk] at hbb
  simp [Tryz.f15, Tryz.ti3, Tryz.ti4, Tryz.ti9, Tryz.ti22, Tryz.ti23, Tryz.ti24, Tryz.ti25, Tryz.ti26, Tryz.ti28, Tryz.ti44, Tryz.ti46, Tryz.ti56, Tryz.ti80, Tryz.ti84, Tryz.ti94, hbb]
include h
set_option maxRecDepth 100000 in
set_option maxHeartbeats 8000000 in
theorem ev_right_small (hb : bareS (.mk b acts) = true) (hk : ¬ b.kind = 8) (hk2 : ¬ b.kind = 12) (hk3 : ¬ b.kind = 13) (hk4 : ¬ b.kind = 14) (hk5 : ¬ b.kind = 15) : EV 15 [(Stm.mk b acts).enc] [] = some (.ret (.bool (rightStm (.mk b acts))), []) := by
  have hbb := ev_bare (.mk b acts)
  rw [hb] at hbb
  simp only [rightStm, hb, Bool.true_and]
  have n1 := ev_name b.name (by have := h.name; omega)
  have n2 := ev_name b.table (by have := h.table; omega)
  have n3 := ev_name b.col (by have := h.col; omega)
  have hc := ev_columns b.cols h.cols.1 h.cols.2
  generalize rightActs acts = ra
  rw [EV_mki rfl Tryz.func15 rfl (by kernel_rfl) rfl, senc_mk]
  rw [senc_mk] at hbb
  obtain ⟨kind, name, table, col, cols, values, items, wher, sets, src, prio, event, deferred, rolls⟩ := b
  dsimp only at hk hk2 hk3 hk4 hk5 n1 n2 n3 hc hbb ⊢
  simp only [rightK, nameK]
  by_cases k123 : kind = 1 ∨ kind = 2 ∨ kind = 3
  · rcases k123 with rfl | rfl | rfl <;> simp [Tryz.f15, Tryz.ti3, Tryz.ti4, Tryz.ti9, Tryz.ti22, Tryz.ti23, Tryz.ti24, Tryz.ti25, Tryz.ti26, Tryz.ti28, Tryz.ti44, Tryz.ti46, Tryz.ti56, Tryz.ti80, Tryz.ti84, Tryz.ti94, hbb]
  simp only [not_or] at k123
  obtain ⟨k1, k2, k3⟩ := k123
  by_cases kn : kind = 4 ∨ kind = 5 ∨ kind = 9 ∨ kind = 10 ∨ kind = 11
  · rcases kn with rfl | rfl | rfl | rfl | rfl <;> simp [Tryz.f15, Tryz.ti3, Tryz.ti4, Tryz.ti9, Tryz.ti22, Tryz.ti23, Tryz.ti24, Tryz.ti25, Tryz.ti26, Tryz.ti28, Tryz.ti44, Tryz.ti46, Tryz.ti56, Tryz.ti80, Tryz.ti84, Tryz.ti94, hbb, n1]
  simp only [not_or] at kn
  obtain ⟨k4, k5, k9, k10, k11⟩ := kn
  by_cases k6 : kind = 6
  · subst k6
    cases hn1 : nameS name <;> rw [hn1] at n1
    · simp [Tryz.f15, Tryz.ti3, Tryz.ti4, Tryz.ti9, Tryz.ti22, Tryz.ti23, Tryz.ti24, Tryz.ti25, Tryz.ti26, Tryz.ti28, Tryz.ti44, Tryz.ti46, Tryz.ti56, Tryz.ti80, Tryz.ti84, Tryz.ti94, hbb, n1]
    · simp [Tryz.f15, Tryz.ti3, Tryz.ti4, Tryz.ti9, Tryz.ti22, Tryz.ti23, Tryz.ti24, Tryz.ti25, Tryz.ti26, Tryz.ti28, Tryz.ti44, Tryz.ti46, Tryz.ti56, Tryz.ti80, Tryz.ti84, Tryz.ti94, hbb, n1, hc]
  by_cases k7 : kind = 7
  · subst k7
    cases hn1 : nameS name <;> rw [hn1] at n1
    · simp [Tryz.f15, Tryz.ti3, Tryz.ti4, Tryz.ti9, Tryz.ti22, Tryz.ti23, Tryz.ti24, Tryz.ti25, Tryz.ti26, Tryz.ti28, Tryz.ti44, Tryz.ti46, Tryz.ti56, Tryz.ti80, Tryz.ti84, Tryz.ti94, hbb, n1]
    · cases hn2 : nameS table <;> rw [hn2] at n2
      · simp [Tryz.f15, Tryz.ti3, Tryz.ti4, Tryz.ti9, Tryz.ti22, Tryz.ti23, Tryz.ti24, Tryz.ti25, Tryz.ti26, Tryz.ti28, Tryz.ti44, Tryz.ti46, Tryz.ti56, Tryz.ti80, Tryz.ti84, Tryz.ti94, hbb, n1, n2]
      · simp [Tryz.f15, Tryz.ti3, Tryz.ti4, Tryz.ti9, Tryz.ti22, Tryz.ti23, Tryz.ti24, Tryz.ti25, Tryz.ti26, Tryz.ti28, Tryz.ti44, Tryz.ti46, Tryz.ti56, Tryz.ti80, Tryz.ti84, Tryz.ti94, hbb, n1, n2, n3]
  simp [Tryz.f15, Tryz.ti3, Tryz.ti4, Tryz.ti9, Tryz.ti22, Tryz.ti23, Tryz.ti24, Tryz.ti25, Tryz.ti26, Tryz.ti28, Tryz.ti44, Tryz.ti46, Tryz.ti56, Tryz.ti80, Tryz.ti84, Tryz.ti94, hbb, k1, k2, k3, k4, k5, k6, k7, hk, k9, k10, k11, hk2, hk3, hk4, hk5]
set_option maxRecDepth 100000 in
set_option maxHeartbeats 8000000 in
theorem ev_right_rule (hb : bareS (.mk b acts) = true) (hk : b.kind = 8) (hl : acts.length ≤ 1048576) (ihk : ∀ a ∈ acts, EV 15 [a.enc] [] = some (.ret (.bool (rightStm a)), [])) : EV 15 [(Stm.mk b acts).enc] [] = some (.ret (.bool (rightStm (.mk b acts))), []) := by
  have hbb := ev_bare (.mk b acts)
  rw [hb] at hbb
  have hr := ev_rightrule b acts h hl ihk
  simp only [rightStm, hb, Bool.true_and]
  have n1 := ev_name b.name (by have := h.name; omega)
  have n2 := ev_name b.table (by have := h.table; omega)
  have hK : ∀ ra, rightK b acts.length ra = (nameS b.name && (nameS b.table && rightRuleS b acts.length ra)) := fun ra => by simp [rightK, nameK, hk]
  rw [hK]
  generalize rightRuleS b acts.length (rightActs acts) = rr at hr ⊢
  rw [EV_mki rfl Tryz.func15 rfl (by kernel_rfl) rfl, senc_mk]
  rw [senc_mk] at hbb hr
  obtain ⟨kind, name, table, col, cols, values, items, wher, sets, src, prio, event, deferred, rolls⟩ := b
  dsimp only at hk n1 n2 hbb hr ⊢
  subst hk
  cases hn1 : nameS name <;> rw [hn1] at n1
  · simp [Tryz.f15, Tryz.ti3, Tryz.ti4, Tryz.ti9, Tryz.ti22, Tryz.ti23, Tryz.ti24, Tryz.ti25, Tryz.ti26, Tryz.ti28, Tryz.ti44, Tryz.ti46, Tryz.ti56, Tryz.ti80, Tryz.ti84, Tryz.ti94, hbb, n1]
  · cases hn2 : nameS table <;> rw [hn2] at n2
    · simp [Tryz.f15, Tryz.ti3, Tryz.ti4, Tryz.ti9, Tryz.ti22, Tryz.ti23, Tryz.ti24, Tryz.ti25, Tryz.ti26, Tryz.ti28, Tryz.ti44, Tryz.ti46, Tryz.ti56, Tryz.ti80, Tryz.ti84, Tryz.ti94, hbb, n1, n2]
    · simp [Tryz.f15, Tryz.ti3, Tryz.ti4, Tryz.ti9, Tryz.ti22, Tryz.ti23, Tryz.ti24, Tryz.ti25, Tryz.ti26, Tryz.ti28, Tryz.ti44, Tryz.ti46, Tryz.ti56, Tryz.ti80, Tryz.ti84, Tryz.ti94, hbb, n1, n2, hr]
set_option maxRecDepth 100000 in
set_option maxHeartbeats 8000000 in
theorem ev_right_insert (hb : bareS (.mk b acts) = true) (hk : b.kind = 12) : EV 15 [(Stm.mk b acts).enc] [] = some (.ret (.bool (rightStm (.mk b acts))), []) := by
  have hbb := ev_bare (.mk b acts)
  rw [hb] at hbb
  simp only [rightStm, hb, Bool.true_and]
  have n2 := ev_name b.table (by have := h.table; omega)
  have hv := ev_rightall b.values h.values.1 h.values.2 1 6
  have hi := ev_rightall b.items h.items.1 h.items.2 0 40
  have hf := ev_rightfrom b acts h 1
  have hK : ∀ ra, rightK b acts.length ra = if (0 : Int) < b.values.length then nameS b.table && (rightsE b.values 1 6 && decide ((b.items.length : Int) + b.src.length + b.wher.length = 0)) else nameS b.table && (rightsE b.items 0 40 && rightFromS b.src b.wher 1) := fun ra => by simp [rightK, nameK, hk]
  rw [hK]
  have w1 : IntKind.i64.wrap ((b.items.length : Int) + b.src.length) = (b.items.length : Int) + b.src.length := wrap_i64 (by have := h.items.1; have := h.src.1; omega)
  have w2 : IntKind.i64.wrap ((b.items.length : Int) + b.src.length + b.wher.length) = (b.items.length : Int) + b.src.length + b.wher.length := wrap_i64 (by have := h.items.1; have := h.src.1; have := h.wher.1; omega)
  generalize rightFromS b.src b.wher 1 = rf at hf ⊢
  generalize rightsE b.values 1 6 = rv at hv ⊢
  generalize rightsE b.items 0 40 = ri at hi ⊢
  rw [EV_mki rfl Tryz.func15 rfl (by kernel_rfl) rfl, senc_mk]
  rw [senc_mk] at hbb hf
  obtain ⟨kind, name, table, col, cols, values, items, wher, sets, src, prio, event, deferred, rolls⟩ := b
  dsimp only at hk n2 hbb hf hv hi w1 w2 ⊢
  subst hk
  cases hn2 : nameS table <;> rw [hn2] at n2
  · by_cases h0 : 0 < values.length <;> simp [Tryz.f15, Tryz.ti3, Tryz.ti4, Tryz.ti9, Tryz.ti22, Tryz.ti23, Tryz.ti24, Tryz.ti25, Tryz.ti26, Tryz.ti28, Tryz.ti44, Tryz.ti46, Tryz.ti56, Tryz.ti80, Tryz.ti84, Tryz.ti94, hbb, n2, h0]
  · by_cases h0 : (0 : Int) < values.length
    · have h0' : 0 < values.length := by omega
      cases rv
      · simp [Tryz.f15, Tryz.ti3, Tryz.ti4, Tryz.ti9, Tryz.ti22, Tryz.ti23, Tryz.ti24, Tryz.ti25, Tryz.ti26, Tryz.ti28, Tryz.ti44, Tryz.ti46, Tryz.ti56, Tryz.ti80, Tryz.ti84, Tryz.ti94, hbb, n2, h0, h0', hv]
      · simp [Tryz.f15, Tryz.ti3, Tryz.ti4, Tryz.ti9, Tryz.ti22, Tryz.ti23, Tryz.ti24, Tryz.ti25, Tryz.ti26, Tryz.ti28, Tryz.ti44, Tryz.ti46, Tryz.ti56, Tryz.ti80, Tryz.ti84, Tryz.ti94, hbb, n2, h0, h0', hv, w1, w2]
    · have h0' : ¬ 0 < values.length := by omega
      cases ri
      · simp [Tryz.f15, Tryz.ti3, Tryz.ti4, Tryz.ti9, Tryz.ti22, Tryz.ti23, Tryz.ti24, Tryz.ti25, Tryz.ti26, Tryz.ti28, Tryz.ti44, Tryz.ti46, Tryz.ti56, Tryz.ti80, Tryz.ti84, Tryz.ti94, hbb, n2, h0, h0', hi]
      · simp [Tryz.f15, Tryz.ti3, Tryz.ti4, Tryz.ti9, Tryz.ti22, Tryz.ti23, Tryz.ti24, Tryz.ti25, Tryz.ti26, Tryz.ti28, Tryz.ti44, Tryz.ti46, Tryz.ti56, Tryz.ti80, Tryz.ti84, Tryz.ti94, hbb, n2, h0, h0', hi, hf]
set_option maxRecDepth 100000 in
set_option maxHeartbeats 8000000 in
theorem ev_right_update (hb : bareS (.mk b acts) = true) (hk : b.kind = 13) : EV 15 [(Stm.mk b acts).enc] [] = some (.ret (.bool (rightStm (.mk b acts))), []) := by
  have hbb := ev_bare (.mk b acts)
  rw [hb] at hbb
  simp only [rightStm, hb, Bool.true_and]
  have n2 := ev_name b.table (by have := h.table; omega)
  have hs := ev_rightsets b.sets h.sets.1 h.sets.2
  have hw := ev_rightall b.wher h.wher.1 h.wher.2 0 1
  have hK : ∀ ra, rightK b acts.length ra = (nameS b.table && (rightSetsS b.sets && rightsE b.wher 0 1)) := fun ra => by simp [rightK, nameK, hk]
  rw [hK]
  generalize rightSetsS b.sets = rs at hs ⊢
  generalize rightsE b.wher 0 1 = rw_ at hw ⊢
  rw [EV_mki rfl Tryz.func15 rfl (by kernel_rfl) rfl, senc_mk]
  rw [senc_mk] at hbb
  obtain ⟨kind, name, table, col, cols, values, items, wher, sets, src, prio, event, deferred, rolls⟩ := b
  dsimp only at hk n2 hbb hs hw ⊢
  subst hk
  cases hn2 : nameS table <;> rw [hn2] at n2
  · simp [Tryz.f15, Tryz.ti3, Tryz.ti4, Tryz.ti9, Tryz.ti22, Tryz.ti23, Tryz.ti24, Tryz.ti25, Tryz.ti26, Tryz.ti28, Tryz.ti44, Tryz.ti46, Tryz.ti56, Tryz.ti80, Tryz.ti84, Tryz.ti94, hbb, n2]
  · cases rs
    · simp [Tryz.f15, Tryz.ti3, Tryz.ti4, Tryz.ti9, Tryz.ti22, Tryz.ti23, Tryz.ti24, Tryz.ti25, Tryz.ti26, Tryz.ti28, Tryz.ti44, Tryz.ti46, Tryz.ti56, Tryz.ti80, Tryz.ti84, Tryz.ti94, hbb, n2, hs]
    · simp [Tryz.f15, Tryz.ti3, Tryz.ti4, Tryz.ti9, Tryz.ti22, Tryz.ti23, Tryz.ti24, Tryz.ti25, Tryz.ti26, Tryz.ti28, Tryz.ti44, Tryz.ti46, Tryz.ti56, Tryz.ti80, Tryz.ti84, Tryz.ti94, hbb, n2, hs, hw]
set_option maxRecDepth 100000 in
set_option maxHeartbeats 8000000 in
theorem ev_right_delete (hb : bareS (.mk b acts) = true) (hk : b.kind = 14) : EV 15 [(Stm.mk b acts).enc] [] = some (.ret (.bool (rightStm (.mk b acts))), []) := by
  have hbb := ev_bare (.mk b acts)
  rw [hb] at hbb
  simp only [rightStm, hb, Bool.true_and]
  have n2 := ev_name b.table (by have := h.table; omega)
  have hw := ev_rightall b.wher h.wher.1 h.wher.2 0 1
  have hK : ∀ ra, rightK b acts.length ra = (nameS b.table && rightsE b.wher 0 1) := fun ra => by simp [rightK, nameK, hk]
  rw [hK]
  generalize rightsE b.wher 0 1 = rw_ at hw ⊢
  rw [EV_mki rfl Tryz.func15 rfl (by kernel_rfl) rfl, senc_mk]
  rw [senc_mk] at hbb
  obtain ⟨kind, name, table, col, cols, values, items, wher, sets, src, prio, event, deferred, rolls⟩ := b
  dsimp only at hk n2 hbb hw ⊢
  subst hk
  cases hn2 : nameS table <;> rw [hn2] at n2
  · simp [Tryz.f15, Tryz.ti3, Tryz.ti4, Tryz.ti9, Tryz.ti22, Tryz.ti23, Tryz.ti24, Tryz.ti25, Tryz.ti26, Tryz.ti28, Tryz.ti44, Tryz.ti46, Tryz.ti56, Tryz.ti80, Tryz.ti84, Tryz.ti94, hbb, n2]
  · simp [Tryz.f15, Tryz.ti3, Tryz.ti4, Tryz.ti9, Tryz.ti22, Tryz.ti23, Tryz.ti24, Tryz.ti25, Tryz.ti26, Tryz.ti28, Tryz.ti44, Tryz.ti46, Tryz.ti56, Tryz.ti80, Tryz.ti84, Tryz.ti94, hbb, n2, hw]
set_option maxRecDepth 100000 in
set_option maxHeartbeats 8000000 in
theorem ev_right_select (hb : bareS (.mk b acts) = true) (hk : b.kind = 15) : EV 15 [(Stm.mk b acts).enc] [] = some (.ret (.bool (rightStm (.mk b acts))), []) := by
  have hbb := ev_bare (.mk b acts)
  rw [hb] at hbb
  simp only [rightStm, hb, Bool.true_and]
  have hi := ev_rightall b.items h.items.1 h.items.2 0 40
  have hf := ev_rightfrom b acts h 1
  have hK : ∀ ra, rightK b acts.length ra = (rightsE b.items 0 40 && rightFromS b.src b.wher 1) := fun ra => by simp [rightK, nameK, hk]
  rw [hK]
  generalize rightFromS b.src b.wher 1 = rf at hf ⊢
  generalize rightsE b.items 0 40 = ri at hi ⊢
  rw [EV_mki rfl Tryz.func15 rfl (by kernel_rfl) rfl, senc_mk]
  rw [senc_mk] at hbb hf
  obtain ⟨kind, name, table, col, cols, values, items, wher, sets, src, prio, event, deferred, rolls⟩ := b
  dsimp only at hk hbb hf hi ⊢
  subst hk
  cases ri
  · simp [Tryz.f15, Tryz.ti3, Tryz.ti4, Tryz.ti9, Tryz.ti22, Tryz.ti23, Tryz.ti24, Tryz.ti25, Tryz.ti26, Tryz.ti28, Tryz.ti44, Tryz.ti46, Tryz.ti56, Tryz.ti80, Tryz.ti84, Tryz.ti94, hbb, hi]
  · simp [Tryz.f15, Tryz.ti3, Tryz.ti4, Tryz.ti9, Tryz.ti22, Tryz.ti23, Tryz.ti24, Tryz.ti25, Tryz.ti26, Tryz.ti28, Tryz.ti44, Tryz.ti46, Tryz.ti56, Tryz.ti80, Tryz.ti84, Tryz.ti94, hbb, hi, hf]
end
mutual
theorem ev_rightstm : ∀ s : Stm, s.ok → EV 15 [s.enc] [] = some (.ret (.bool (rightStm s)), [])
  | .mk b acts, h => by
    have ihk := ev_rightstms acts h.2.2
    cases hb : bareS (.mk b acts)
    · exact ev_right_notbare b acts hb
    · by_cases k8 : b.kind = 8
      · exact ev_right_rule b acts h.1 hb k8 h.2.1 ihk
      by_cases k12 : b.kind = 12
      · exact ev_right_insert b acts h.1 hb k12
      by_cases k13 : b.kind = 13
      · exact ev_right_update b acts h.1 hb k13
      by_cases k14 : b.kind = 14
      · exact ev_right_delete b acts h.1 hb k14
      by_cases k15 : b.kind = 15
      · exact ev_right_select b acts h.1 hb k15
      exact ev_right_small b acts h.1 hb k8 k12 k13 k14 k15
theorem ev_rightstms : ∀ l : List Stm, Stm.oks l → ∀ a ∈ l, EV 15 [a.enc] [] = some (.ret (.bool (rightStm a)), [])
  | [], _, a, ha => by cases ha
  | s :: l, h, a, ha => by
    rcases List.mem_cons.1 ha with ha | ha
    · rw [ha]; exact ev_rightstm s h.1
    · exact ev_rightstms l h.2 a ha
end
def typeW (t : Int) : List UInt8 := if t = 1 then [66, 79, 79, 76] else if t = 2 then [73, 78, 84] else if t = 3 then [84, 69, 88, 84] else []
def showColS (c : Col) : List UInt8 := c.name ++ 32 :: (typeW c.type ++ ((if c.notNull = true then [32, 78, 79, 84, 32, 78, 85, 76, 76] else []) ++ (if c.unique = true then [32, 85, 78, 73, 81, 85, 69] else [])))
def srcW (k : Int) : List UInt8 := if k = 1 then [73, 78, 83, 69, 82, 84, 69, 68] else if k = 2 then [68, 69, 76, 69, 84, 69, 68] else if k = 3 then [79, 76, 68] else if k = 4 then [78, 69, 87] else []
def showSrcS (x : Src) : List UInt8 := (if 0 < x.kind then srcW x.kind else x.table) ++ (if x.var = [] then [] else 32 :: x.var)
def showSetS (x : SetE) : List UInt8 := x.col ++ ([32, 61, 32] ++ showE x.e)
def whereS : List Xp → List UInt8
  | [] => []
  | e :: _ => [32, 87, 72, 69, 82, 69, 32] ++ showE e
def commaS (l : List (List UInt8)) : List UInt8 := Lib.join l [44, 32]
def itemsS (l : List Xp) : List UInt8 := if l = [] then [42] else commaS (l.map showE)
def queryS (b : StB) : List UInt8 := [83, 69, 76, 69, 67, 84, 32] ++ (itemsS b.items ++ ([32, 70, 82, 79, 77, 32] ++ (commaS (b.src.map showSrcS) ++ whereS b.wher)))
def eventW (k : Int) : List UInt8 := if k = 1 then [73, 78, 83, 69, 82, 84] else if k = 2 then [68, 69, 76, 69, 84, 69] else if k = 3 then [85, 80, 68, 65, 84, 69] else []
def ruleHead (b : StB) : List UInt8 := [67, 82, 69, 65, 84, 69, 32, 82, 85, 76, 69, 32] ++ (b.name ++ ([32, 80, 82, 73, 79, 82, 73, 84, 89, 32] ++ (Lib.itoa b.prio ++ ([32, 79, 78, 32] ++ (eventW b.event ++ ([32, 84, 79, 32] ++ (b.table ++ ((if b.deferred = true then [32, 68, 69, 70, 69, 82, 82, 69, 68] else []) ++
  (if b.src = [] then [32, 65, 76, 87, 65, 89, 83] else [32, 87, 72, 69, 78, 32] ++ (commaS (b.src.map showSrcS) ++ whereS b.wher))))))))))
mutual
def showStm : Stm → List UInt8
  | .mk b acts =>
    if b.kind = 1 then [66, 69, 71, 73, 78] else if b.kind = 2 then [67, 79, 77, 77, 73, 84] else if b.kind = 3 then [65, 66, 79, 82, 84]
    else if b.kind = 4 then [83, 65, 86, 69, 80, 79, 73, 78, 84, 32] ++ b.name else if b.kind = 5 then [82, 79, 76, 76, 66, 65, 67, 75, 32, 84, 79, 32] ++ b.name
    else if b.kind = 6 then [67, 82, 69, 65, 84, 69, 32, 84, 65, 66, 76, 69, 32] ++ (b.name ++ ([32, 40] ++ (commaS (b.cols.map showColS) ++ [41])))
    else if b.kind = 7 then [67, 82, 69, 65, 84, 69, 32, 73, 78, 68, 69, 88, 32] ++ (b.name ++ ([32, 79, 78, 32] ++ (b.table ++ ([32, 40] ++ (b.col ++ [41])))))
    else if b.kind = 8 then (if b.rolls = true then ruleHead b ++ [32, 68, 79, 32, 82, 79, 76, 76, 66, 65, 67, 75] else ruleHead b ++ ([32, 68, 79, 32] ++ (Lib.join (showStms acts) [59, 32] ++ [32, 69, 78, 68])))
    else if b.kind = 9 then [68, 82, 79, 80, 32, 84, 65, 66, 76, 69, 32] ++ b.name else if b.kind = 10 then [68, 82, 79, 80, 32, 73, 78, 68, 69, 88, 32] ++ b.name else if b.kind = 11 then [68, 82, 79, 80, 32, 82, 85, 76, 69, 32] ++ b.name
    else if b.kind = 12 then (if b.values = [] then [73, 78, 83, 69, 82, 84, 32, 73, 78, 84, 79, 32] ++ (b.table ++ 32 :: queryS b) else [73, 78, 83, 69, 82, 84, 32, 73, 78, 84, 79, 32] ++ (b.table ++ ([32, 86, 65, 76, 85, 69, 83, 32, 40] ++ (commaS (b.values.map showE) ++ [41]))))
    else if b.kind = 13 then [85, 80, 68, 65, 84, 69, 32] ++ (b.table ++ ([32, 83, 69, 84, 32] ++ (commaS (b.sets.map showSetS) ++ whereS b.wher)))
    else if b.kind = 14 then [68, 69, 76, 69, 84, 69, 32, 70, 82, 79, 77, 32] ++ (b.table ++ whereS b.wher)
    else queryS b
def showStms : List Stm → List (List UInt8)
  | [] => []
  | e :: l => showStm e :: showStms l
end
theorem showStms_eq : ∀ l : List Stm, showStms l = l.map showStm
  | [] => rfl
  | n :: l => by simp [showStms, showStms_eq l]
theorem rights_all {l : List Xp} {least most : Int} (h : rightsE l least most = true) : (∀ x ∈ l, rightE 20 x = true) ∧ least ≤ (l.length : Int) ∧ (l.length : Int) ≤ most := by
  simpa [rightsE] using h
theorem right_shows {e : Xp} (h : rightE 20 e = true) (ho : e.ok) : EV 54 [e.enc] [] = some (.ret (.str (showE e)), []) ∧ (showE e).length ≤ 67108864 := by
  have := showE_len 20 e h ho
  exact ⟨ev_show 20 e (by omega) h ho, by omega⟩
theorem comma_len (l : List (List UInt8)) (hl : l.length ≤ 1000) (h : ∀ x ∈ l, x.length ≤ 1000000000) : (commaS l).length ≤ 1000000002000 := by
  have := join_len l [44, 32] 1000000000 h
  have h3 : l.length * (1000000000 + 2) ≤ 1000 * 1000000002 := Nat.mul_le_mul hl (by omega)
  simp only [List.length_cons, List.length_nil] at this
  unfold commaS
  omega
theorem typeW_len (t : Int) : (typeW t).length ≤ 4 := by unfold typeW; repeat' split
                                                         all_goals simp
theorem srcW_len (t : Int) : (srcW t).length ≤ 8 := by unfold srcW; repeat' split
                                                       all_goals simp
theorem ev_showtype (t : Int) (h : 1 ≤ t ∧ t ≤ 3) : EV 88 [.int .i64 t] [] = some (.ret (.str (typeW t)), []) := by
  rw [EV_mki rfl Tryz.func88 rfl (by kernel_rfl) rfl]
  obtain rfl | rfl | rfl : t = 1 ∨ t = 2 ∨ t = 3 := by omega
  · simp [Tryz.f88, Tryz.ti9, Tryz.ti100, typeW]
  · simp [Tryz.f88, Tryz.ti9, Tryz.ti100, typeW]
  · simp [Tryz.f88, Tryz.ti9, Tryz.ti100, typeW]
theorem ev_showcolumn (c : Col) (h : colOk c = true) : EV 51 [c.enc] [] = some (.ret (.str (showColS c)), []) ∧ (showColS c).length ≤ 64 := by
  obtain ⟨n, t, a, u⟩ := c
  simp only [colOk, Bool.and_eq_true, decide_eq_true_eq] at h
  have hn := name_len h.1
  have ht := ev_showtype t h.2
  have htl := typeW_len t
  constructor
  · rw [EV_mki rfl Tryz.func51 rfl (by kernel_rfl) rfl]
    simp only [showColS, Col.enc, Col.cells]
    generalize typeW t = T at ht htl ⊢
    cases a <;> cases u <;> simp (disch := first | ((try simp only [List.length_cons, List.length_append, List.length_nil]); omega) | simp [refsL, refs]) [-strBin, sb_add, sb_eql, sb_neq, sb_lss, Tryz.f51, Tryz.ti3, Tryz.ti4, Tryz.ti9, Tryz.ti94, ht] <;> first | (refine panQ_of ?_; decide +kernel) | (change _ = true; decide +kernel) | kernel_rfl | (refine ⟨?_, ?_⟩ <;> first | (change _ = true; decide +kernel) | kernel_rfl)
  · simp only [showColS]
    cases a <;> cases u <;> simp <;> omega
theorem ev_showsource (x : Src) (h : rightSrc x = true) : EV 91 [x.enc] [] = some (.ret (.str (showSrcS x)), []) ∧ (showSrcS x).length ≤ 64 := by
  obtain ⟨k, t, v⟩ := x
  simp only [rightSrc, Bool.and_eq_true, Bool.or_eq_true, decide_eq_true_eq] at h
  have hv : v.length ≤ 16 := by
    rcases h.1 with e | e
    · rw [e]; simp
    · exact name_len e
  have hk : k = 0 ∧ t.length ≤ 16 ∨ (k = 1 ∨ k = 2 ∨ k = 3 ∨ k = 4) ∧ t = [] := by
    have h2 := h.2
    split at h2
    · exact .inl ⟨by assumption, name_len h2⟩
    · simp only [Bool.and_eq_true, decide_eq_true_eq] at h2
      exact .inr ⟨by omega, h2.2.2⟩
  constructor
  · rw [EV_mki rfl Tryz.func91 rfl (by kernel_rfl) rfl]
    simp only [showSrcS, Src.enc, Src.cells]
    rcases hk with ⟨rfl, htl⟩ | ⟨rfl | rfl | rfl | rfl, rfl⟩ <;> by_cases hv0 : v = [] <;> simp (disch := first | ((try simp only [List.length_cons, List.length_append, List.length_nil]); omega) | simp [refsL, refs]) [-strBin, sb_add, sb_eql, sb_neq, sb_lss, Tryz.f91, Tryz.ti3, Tryz.ti9, Tryz.ti84, Tryz.ti100, hv0, srcW]
  · simp only [showSrcS]
    have hw := srcW_len k
    rcases hk with ⟨rfl, htl⟩ | ⟨hk, rfl⟩
    · by_cases hv0 : v = [] <;> simp [hv0] <;> omega
    · have : 0 < k := by omega
      by_cases hv0 : v = [] <;> simp [hv0, this] <;> omega
theorem ev_showset (x : SetE) (h : nameS x.col = true) (hr : rightE 20 x.e = true) (ho : x.e.ok) : EV 57 [x.enc] [] = some (.ret (.str (showSetS x)), []) ∧ (showSetS x).length ≤ 67108900 := by
  obtain ⟨c, e⟩ := x
  have hn := name_len h
  obtain ⟨hs, hl⟩ := right_shows hr ho
  simp only at hn hs hl hr
  constructor
  · rw [EV_mki rfl Tryz.func57 rfl (by kernel_rfl) rfl]
    simp only [showSetS, SetE.enc]
    generalize showE e = E at hs hl ⊢
    obtain ⟨op', v', var', col', kids'⟩ := e
    rw [xenc_mk] at hs ⊢
    simp (disch := first | ((try simp only [List.length_cons, List.length_append, List.length_nil]); omega) | simp [refsL, refs]) [-strBin, sb_add, sb_eql, sb_neq, sb_lss, Tryz.f57, Tryz.ti3, Tryz.ti9, Tryz.ti23, Tryz.ti44, Tryz.ti46, Tryz.ti80, hs] <;> first | (refine panQ_of ?_; decide +kernel) | (change _ = true; decide +kernel) | kernel_rfl | (refine ⟨?_, ?_⟩ <;> first | (change _ = true; decide +kernel) | kernel_rfl)
  · simp only [showSetS]
    simp; omega
theorem ev_where (b : StB) (acts : List Stm) (h : rightsE b.wher 0 1 = true) (ho : ∀ m ∈ b.wher, m.ok) : EV 58 [(Stm.mk b acts).enc] [] = some (.ret (.str (whereS b.wher)), []) ∧ (whereS b.wher).length ≤ 67108900 := by
  obtain ⟨h1, h2, h3⟩ := rights_all h
  obtain ⟨kind, name, table, col, cols, values, items, wher, sets, src, prio, event, deferred, rolls⟩ := b
  dsimp only at h1 h3 ho ⊢
  cases wher with
  | nil =>
    constructor
    · rw [EV_mki rfl Tryz.func58 rfl (by kernel_rfl) rfl, senc_mk]
      simp [Tryz.f58, Tryz.ti3, Tryz.ti4, Tryz.ti9, Tryz.ti22, Tryz.ti23, Tryz.ti24, Tryz.ti25, Tryz.ti26, Tryz.ti28, Tryz.ti44, Tryz.ti46, Tryz.ti80, Tryz.ti84, Tryz.ti94, whereS]
    · simp [whereS]
  | cons e r =>
    obtain ⟨hs, hl⟩ := right_shows (h1 e (by simp)) (ho e (by simp))
    constructor
    · rw [EV_mki rfl Tryz.func58 rfl (by kernel_rfl) rfl, senc_mk]
      simp only [whereS]
      generalize showE e = E at hs hl ⊢
      obtain ⟨op', v', var', col', kids'⟩ := e
      rw [xenc_mk] at hs
      have hne : ¬ ((r.length : Int) + 1 = 0) := by omega
      simp (disch := first | ((try simp only [List.length_cons, List.length_append, List.length_nil]); omega) | simp [refsL, refs]) [-strBin, sb_add, sb_eql, sb_neq, sb_lss, Tryz.f58, Tryz.ti3, Tryz.ti4, Tryz.ti9, Tryz.ti22, Tryz.ti23, Tryz.ti24, Tryz.ti25, Tryz.ti26, Tryz.ti28, Tryz.ti44, Tryz.ti46, Tryz.ti80, Tryz.ti84, Tryz.ti94, hs, xenc_mk, hne]
    · simp [whereS]; omega
end Go.Abs
namespace Go.Abs
set_option linter.unusedSimpArgs false
set_option linter.unusedVariables false
open Go
def showTok (t : Tok) : List UInt8 := if t.kind = 3 then Lib.itoa t.n else if t.kind = 4 then 39 :: (quoteE t.s ++ [39]) else t.s
inductive OkTok : Tok → Prop where
  | word (p : Int) (w : List UInt8) : allB isCap w = true → OkTok ⟨1, 0, p, w⟩
  | name (p : Int) (w : List UInt8) : nameS w = true → OkTok ⟨2, 0, p, w⟩
  | num (p : Int) (u : Nat) : u ≤ 9223372036854775807 → OkTok ⟨3, u, p, []⟩
  | str (p : Int) (a : List UInt8) : a.length ≤ 24 → OkTok ⟨4, 0, p, a⟩
  | sym1 (p : Int) (c : UInt8) : [60, 62, 61, 43, 45, 42, 40, 41, 44, 46, 59].contains c = true → OkTok ⟨5, 0, p, [c]⟩
  | sym2 (p : Int) (c d : UInt8) : (c = 60 ∧ d = 62 ∨ c = 60 ∧ d = 61 ∨ c = 62 ∧ d = 61) → OkTok ⟨5, 0, p, [c, d]⟩
theorem name_notcap {w : List UInt8} (h : nameS w = true) : allB isCap w = false := by
  cases w with
  | nil => rfl
  | cons c r =>
    simp only [nameS, Bool.and_eq_true, isLow, decide_eq_true_eq, UInt8.le_iff_toNat_le] at h
    have h1 : 97 ≤ c.toNat := h.1.1.1
    have : isCap c = false := by
      simp only [isCap, Bool.and_eq_false_iff, decide_eq_false_iff_not, UInt8.le_iff_toNat_le]
      right
      have : (90 : UInt8).toNat = 90 := rfl
      omega
    simp [allB, this]
theorem dig_notcap {w : List UInt8} (h : allB isDig w = true) : allB isCap w = false ∧ nameS w = false := by
  cases w with
  | nil => exact ⟨rfl, rfl⟩
  | cons c r =>
    simp only [allB, List.all_cons, Bool.and_eq_true, isDig, decide_eq_true_eq, UInt8.le_iff_toNat_le] at h
    have h1 : c.toNat ≤ 57 := h.1.1.2
    have e1 : (65 : UInt8).toNat = 65 := rfl
    have e2 : (97 : UInt8).toNat = 97 := rfl
    have a : isCap c = false := by
      simp only [isCap, Bool.and_eq_false_iff, decide_eq_false_iff_not, UInt8.le_iff_toNat_le]
      left; omega
    have b : isLow c = false := by
      simp only [isLow, Bool.and_eq_false_iff, decide_eq_false_iff_not, UInt8.le_iff_toNat_le]
      left; omega
    exact ⟨by simp [allB, a], by simp [nameS, b]⟩
theorem run_ok {p : Int} {w : List UInt8} {t : Tok} (h : runS p w = some t) : OkTok t := by
  unfold runS at h
  split at h
  · rename_i hc; cases h; exact .word p w hc
  · split at h
    · rename_i hc; cases h; exact .name p w hc
    · split at h
      · rename_i hc; cases h; exact .num p _ hc.2
      · cases h
theorem tok_ok {p : Nat} {r : List UInt8} {t : Tok} {u : List UInt8} (h : tokS p r = .ok (t, u)) : t.kind = 0 ∧ t = ⟨0, 0, p, []⟩ ∨ OkTok t := by
  cases r with
  | nil => simp only [tokS, Except.ok.injEq, Prod.mk.injEq] at h; left; rw [← h.1]; exact ⟨rfl, rfl⟩
  | cons c r =>
    right
    simp only [tokS] at h
    split at h
    · split at h
      · rename_i k hk
        simp only [Except.ok.injEq, Prod.mk.injEq] at h
        rw [← h.1]; exact run_ok hk
      · cases h
    · split at h
      · split at h
        · split at h
          · rename_i a u' _ hl
            simp only [Except.ok.injEq, Prod.mk.injEq] at h
            rw [← h.1]; exact .str _ _ hl
          · cases h
        · cases h
      · split at h
        · cases h
        · rename_i hs
          simp only [Except.ok.injEq, Prod.mk.injEq] at h
          rw [← h.1]
          match r, hs with
          | [], hs =>
            simp only [symS] at hs ⊢
            by_cases hc : [60, 62, 61, 43, 45, 42, 40, 41, 44, 46, 59].contains c = true
            · rw [if_pos hc]; exact .sym1 _ _ hc
            · rw [if_neg hc] at hs; exact absurd rfl hs
          | d :: r, hs =>
            simp only [symS] at hs ⊢
            by_cases h2 : c = 60 ∧ d = 62 ∨ c = 60 ∧ d = 61 ∨ c = 62 ∧ d = 61
            · rw [if_pos h2]; exact .sym2 _ _ _ h2
            · rw [if_neg h2] at hs ⊢
              by_cases hc : [60, 62, 61, 43, 45, 42, 40, 41, 44, 46, 59].contains c = true
              · rw [if_pos hc]; exact .sym1 _ _ hc
              · rw [if_neg hc] at hs; exact absurd rfl hs
theorem cap_run {w : List UInt8} (h : allB isCap w = true) : w.all isRun = true ∧ w ≠ [] := by
  simp only [allB, Bool.and_eq_true, Bool.not_eq_true', List.isEmpty_eq_false_iff] at h
  refine ⟨List.all_eq_true.2 fun c hc => ?_, h.2⟩
  have := List.all_eq_true.1 h.1 c hc
  simp [isRun, this]
theorem dig_run {w : List UInt8} (h : allB isDig w = true) : w.all isRun = true ∧ w ≠ [] := by
  simp only [allB, Bool.and_eq_true, Bool.not_eq_true', List.isEmpty_eq_false_iff] at h
  refine ⟨List.all_eq_true.2 fun c hc => ?_, h.2⟩
  have := List.all_eq_true.1 h.1 c hc
  simp [isRun, this]
theorem name_run {w : List UInt8} (h : nameS w = true) : w.all isRun = true ∧ w ≠ [] := by
  cases w with
  | nil => cases h
  | cons c r =>
    simp only [nameS, Bool.and_eq_true] at h
    refine ⟨?_, by simp⟩
    simp only [List.all_cons, Bool.and_eq_true]
    refine ⟨by simp [isRun, h.1.1], List.all_eq_true.2 fun d hd => ?_⟩
    have := List.all_eq_true.1 h.1.2 d hd
    simp only [Bool.or_eq_true] at this
    rcases this with (h | h) | h <;> simp [isRun, h]
def Tok.to (t : Tok) (p : Int) : Tok := { t with at_ := p }
theorem sym_not (c : UInt8) (h : [60, 62, 61, 43, 45, 42, 40, 41, 44, 46, 59].contains c = true) : isRun c = false ∧ ¬ c = 39 ∧ isBlk c = false := by
  simp only [List.contains_cons, List.contains_nil, Bool.or_false, Bool.or_eq_true, beq_iff_eq] at h
  rcases h with h | h | h | h | h | h | h | h | h | h | h <;> subst h <;> decide
theorem show_head {t : Tok} (h : OkTok t) : ∃ c u, showTok t = c :: u ∧ isBlk c = false := by
  have blk : ∀ {c : UInt8}, isRun c = true → isBlk c = false := fun {c} hc => by
    simp only [isBlk, Bool.or_eq_false_iff, beq_eq_false_iff_ne]
    refine ⟨⟨?_, ?_⟩, ?_⟩ <;> rintro rfl <;> revert hc <;> decide
  have run : ∀ {w : List UInt8}, w.all isRun = true → w ≠ [] → ∃ c u, w = c :: u ∧ isBlk c = false := fun {w} h1 h2 => by
    cases w with
    | nil => exact absurd rfl h2
    | cons c u => simp only [List.all_cons, Bool.and_eq_true] at h1; exact ⟨c, u, rfl, blk h1.1⟩
  cases h with
  | word q w hw => have ⟨h1, h2⟩ := cap_run hw; exact run h1 h2
  | name q w hw => have ⟨h1, h2⟩ := name_run hw; exact run h1 h2
  | num q u hu =>
    have ⟨h3, h4⟩ := dig_run (dec_digits u).1
    have e : showTok ⟨3, u, q, []⟩ = Lib.decDigits u := by
      simp only [showTok, if_true, Lib.itoa]
      rw [if_neg (by omega)]; rfl
    rw [e]; exact run h3 h4
  | str q a ha => exact ⟨39, _, by simp [showTok]; rfl, rfl⟩
  | sym1 q c hc => exact ⟨c, [], by simp [showTok], (sym_not c hc).2.2⟩
  | sym2 q c d hcd => exact ⟨c, [d], by simp [showTok], by rcases hcd with ⟨rfl, rfl⟩ | ⟨rfl, rfl⟩ | ⟨rfl, rfl⟩ <;> decide⟩
theorem next_blank {b : List UInt8} (hb : b.all isBlk = true) (p : Nat) {c : UInt8} {r : List UInt8} (hc : isBlk c = false) : nextTok p (b ++ c :: r) = tokS (p + b.length) (c :: r) := by
  have h : (b ++ c :: r).takeWhile isBlk = b ∧ (b ++ c :: r).dropWhile isBlk = c :: r := by
    induction b with
    | nil => simp [List.takeWhile_cons, List.dropWhile_cons, hc]
    | cons d b ih =>
      simp only [List.all_cons, Bool.and_eq_true] at hb
      have := ih hb.2
      simp [List.takeWhile_cons, List.dropWhile_cons, hb.1, this]
  unfold nextTok blanks unblank
  rw [h.1, h.2]
def Alike (a b : Tok) : Prop := a.kind = b.kind ∧ a.n = b.n ∧ a.s = b.s
def Alikes : List Tok → List Tok → Prop
  | [], [] => True
  | a :: l, b :: m => Alike a b ∧ Alikes l m
  | _, _ => False
theorem toks_ok : ∀ (f p : Nat) (r : List UInt8) (l : List Tok), toksS f p r = .ok l → ∃ m e, l = m ++ [e] ∧ e.kind = 0 ∧ e.n = 0 ∧ e.s = [] ∧ ∀ t ∈ m, OkTok t ∧ t.kind ≠ 0
  | 0, p, r, l, h => by simp [toksS] at h
  | f + 1, p, r, l, h => by
    rw [toksS] at h
    cases hn : nextTok p r with
    | error e => rw [hn] at h; cases h
    | ok q =>
      obtain ⟨t, u⟩ := q
      rw [hn] at h
      simp only at h
      have hk := tok_ok (p := p + blanks r) (r := unblank r) hn
      split at h
      · rename_i h0
        simp only [Except.ok.injEq] at h
        refine ⟨[], t, by rw [← h]; rfl, h0, ?_, ?_, by simp⟩
        · rcases hk with ⟨_, e⟩ | hk
          · rw [e]
          · cases hk <;> simp at h0
        · rcases hk with ⟨_, e⟩ | hk
          · rw [e]
          · cases hk <;> simp at h0
      · rename_i h0
        cases ht : toksS f (p + (r.length - u.length)) u with
        | error e => rw [ht] at h; cases h
        | ok l' =>
          rw [ht] at h
          simp only [Except.ok.injEq] at h
          obtain ⟨m, e, h1, h2, h3, h4, h5⟩ := toks_ok _ _ _ _ ht
          refine ⟨t :: m, e, by rw [← h, h1]; rfl, h2, h3, h4, fun x hx => ?_⟩
          rcases List.mem_cons.1 hx with rfl | hx
          · rcases hk with ⟨e, _⟩ | hk
            · exact absurd e h0
            · exact ⟨hk, h0⟩
          · exact h5 x hx
end Go.Abs
