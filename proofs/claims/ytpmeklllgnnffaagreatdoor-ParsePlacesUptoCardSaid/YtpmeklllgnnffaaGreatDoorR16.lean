/- Whether a statement has no fields that its kind doesn't have. -/
import Derived.Test.YtpmeklllgnnffaaGreatDoorR15
import Derived.Test.YtpmeklllgnnffaaGreatDoorR14
import Derived.Lib.Replace
import Derived.Lib.CountLaws
import Derived.Lib.Join
import Derived.Test.YtpmeklllgnnffaaGreatDoorR11
import Derived.Lib.ItoaLen
import Derived.Lib.ItoaMem
set_option linter.unusedSimpArgs false
set_option linter.unusedVariables false

namespace Go.Abs
set_option linter.unusedSimpArgs false
set_option linter.unusedVariables false
open Go Go.Proofs
attribute [local simp] i_nil i_blk i_skip i_ret i_exit i_seq i_block i_cond i_region' i_ops_nil i_ops i_drawn' k_none k_0 k_1 k_2 k_3 k_4 k_5 d_in a_nil a_cons alt1 h_nil h_one h_two z_nil z_cons z_cells zeqL zeq q_alloc q_some nxtN i_drh d_hi i_drw_nil i_drw u_nil u_code u_ops u_drw u_lp u_again u_exit u_ret u_panic c_bool o_some o_val o_panic d_some d_val d_panic w_none w_fast wantG q_nil q_zero q_succ t_zero t_succ g_zero g_succ s_zero s_succ s_some s_none v_tmp v_const v_func f_quiet gc_none gc_pure wrap_i64 p_move p_assign p_pick p_alloc p_box p_build p_buildSlice p_load p_store p_nilCheck p_binOp n_tmp n_int n_bool n_str n_ptr n_fun n_iface nilCmp p_unOp p_convert p_makeSlice p_makeInterface p_makeFunc p_slice p_fieldAddr p_field p_indexAddr p_index p_extract p_callv p_callb p_panic quiet_val new_val e_assign e_call e_load e_store e_alloc e_box e_move e_pick e_build e_buildSlice e_nilCheck e_binOp e_unOp e_convert e_makeSlice e_makeInterface e_makeFunc e_slice e_fieldAddr e_field e_indexAddr e_index e_extract e_panic callD fpRead adoptZ fulls adopt adoptL ofValue ofScalar binOpV unOpV intBin strBin eqRes veq veqF eqDepth val? finish resL r_tmp r_cell normL normTop tipIs refsL refs ownRefs single frz frzL ren renL renOwn callOp doCall backR writeBack builtinV loadV storeV storeW iceT cellsAt takeV D.isAgg overlay vcells cellOk fieldAddrV indexAddrV fieldV partV indexV buildV fillV buildSliceV litElems appendV appElems elemOk convertV convV winStr makeSliceV sliceV natOf
attribute [local simp ↓] brB_true brB_false brB_dec brB_not brB_and brB_or brB_beq brB_bne
def bareOf (x s : StB) (xa sa : List Stm) : Bool :=
  (decide (x.name = s.name) && (decide (x.table = s.table) && (decide (x.col = s.col) && (decide (x.prio = s.prio) && (decide (x.event = s.event) && (decide (x.deferred = s.deferred) && (decide (x.rolls = s.rolls)))))))) && ((decide (x.cols.length = s.cols.length) && (decide (x.values.length = s.values.length) && (decide (x.items.length = s.items.length) && (decide (x.wher.length = s.wher.length) && (decide (x.sets.length = s.sets.length) && (decide (x.src.length = s.src.length) && decide (xa.length = sa.length))))))))
def bareS (s : Stm) : Bool := bareOf (blankS s).b s.b (blankS s).acts s.acts
set_option maxRecDepth 100000 in
set_option maxHeartbeats 8000000 in
theorem ev_bare : ∀ s : Stm, EV 39 [s.enc] [] = some (.ret (.bool (bareS s)), []) := by
  intro s
  have hb := ev_blank s
  unfold bareS
  generalize blankS s = x at hb ⊢
  obtain ⟨b, acts⟩ := s
  obtain ⟨xb, xa⟩ := x
  simp only [Stm.b, Stm.acts]
  rw [senc_mk, senc_mk] at hb
  rw [EV_mki rfl Tryz.func39 rfl (by kernel_rfl) rfl, senc_mk]
  obtain ⟨kind, name, table, col, cols, values, items, wher, sets, src, prio, event, deferred, rolls⟩ := b
  obtain ⟨xkind, xname, xtable, xcol, xcols, xvalues, xitems, xwher, xsets, xsrc, xprio, xevent, xdeferred, xrolls⟩ := xb
  simp only [bareOf]
  dsimp only at hb
  by_cases h0 : xname = name
  rotate_left
  · simp [Tryz.f39, Tryz.ti3, Tryz.ti4, Tryz.ti9, Tryz.ti22, Tryz.ti23, Tryz.ti24, Tryz.ti25, Tryz.ti26, Tryz.ti28, Tryz.ti44, Tryz.ti46, Tryz.ti80, Tryz.ti84, Tryz.ti94, hb, h0] <;> first | (refine panQ_of ?_; decide +kernel) | (change _ = true; decide +kernel) | kernel_rfl | (refine ⟨?_, ?_⟩ <;> first | (change _ = true; decide +kernel) | kernel_rfl)
  by_cases h1 : xtable = table
  rotate_left
  · simp [Tryz.f39, Tryz.ti3, Tryz.ti4, Tryz.ti9, Tryz.ti22, Tryz.ti23, Tryz.ti24, Tryz.ti25, Tryz.ti26, Tryz.ti28, Tryz.ti44, Tryz.ti46, Tryz.ti80, Tryz.ti84, Tryz.ti94, hb, h0, h1] <;> first | (refine panQ_of ?_; decide +kernel) | (change _ = true; decide +kernel) | kernel_rfl | (refine ⟨?_, ?_⟩ <;> first | (change _ = true; decide +kernel) | kernel_rfl)
  by_cases h2 : xcol = col
  rotate_left
  · simp [Tryz.f39, Tryz.ti3, Tryz.ti4, Tryz.ti9, Tryz.ti22, Tryz.ti23, Tryz.ti24, Tryz.ti25, Tryz.ti26, Tryz.ti28, Tryz.ti44, Tryz.ti46, Tryz.ti80, Tryz.ti84, Tryz.ti94, hb, h0, h1, h2] <;> first | (refine panQ_of ?_; decide +kernel) | (change _ = true; decide +kernel) | kernel_rfl | (refine ⟨?_, ?_⟩ <;> first | (change _ = true; decide +kernel) | kernel_rfl)
  by_cases h3 : xprio = prio
  rotate_left
  · simp [Tryz.f39, Tryz.ti3, Tryz.ti4, Tryz.ti9, Tryz.ti22, Tryz.ti23, Tryz.ti24, Tryz.ti25, Tryz.ti26, Tryz.ti28, Tryz.ti44, Tryz.ti46, Tryz.ti80, Tryz.ti84, Tryz.ti94, hb, h0, h1, h2, h3] <;> first | (refine panQ_of ?_; decide +kernel) | (change _ = true; decide +kernel) | kernel_rfl | (refine ⟨?_, ?_⟩ <;> first | (change _ = true; decide +kernel) | kernel_rfl)
  by_cases h4 : xevent = event
  rotate_left
  · simp [Tryz.f39, Tryz.ti3, Tryz.ti4, Tryz.ti9, Tryz.ti22, Tryz.ti23, Tryz.ti24, Tryz.ti25, Tryz.ti26, Tryz.ti28, Tryz.ti44, Tryz.ti46, Tryz.ti80, Tryz.ti84, Tryz.ti94, hb, h0, h1, h2, h3, h4] <;> first | (refine panQ_of ?_; decide +kernel) | (change _ = true; decide +kernel) | kernel_rfl | (refine ⟨?_, ?_⟩ <;> first | (change _ = true; decide +kernel) | kernel_rfl)
  by_cases h5 : xdeferred = deferred
  rotate_left
  · simp [Tryz.f39, Tryz.ti3, Tryz.ti4, Tryz.ti9, Tryz.ti22, Tryz.ti23, Tryz.ti24, Tryz.ti25, Tryz.ti26, Tryz.ti28, Tryz.ti44, Tryz.ti46, Tryz.ti80, Tryz.ti84, Tryz.ti94, hb, h0, h1, h2, h3, h4, h5] <;> first | (refine panQ_of ?_; decide +kernel) | (change _ = true; decide +kernel) | kernel_rfl | (refine ⟨?_, ?_⟩ <;> first | (change _ = true; decide +kernel) | kernel_rfl)
  by_cases h6 : xrolls = rolls
  rotate_left
  · simp [Tryz.f39, Tryz.ti3, Tryz.ti4, Tryz.ti9, Tryz.ti22, Tryz.ti23, Tryz.ti24, Tryz.ti25, Tryz.ti26, Tryz.ti28, Tryz.ti44, Tryz.ti46, Tryz.ti80, Tryz.ti84, Tryz.ti94, hb, h0, h1, h2, h3, h4, h5, h6] <;> first | (refine panQ_of ?_; decide +kernel) | (change _ = true; decide +kernel) | kernel_rfl | (refine ⟨?_, ?_⟩ <;> first | (change _ = true; decide +kernel) | kernel_rfl)
  by_cases h7 : (xcols.length : Int) = cols.length
  rotate_left
  · have n7 : ¬ xcols.length = cols.length := by omega
    simp [Tryz.f39, Tryz.ti3, Tryz.ti4, Tryz.ti9, Tryz.ti22, Tryz.ti23, Tryz.ti24, Tryz.ti25, Tryz.ti26, Tryz.ti28, Tryz.ti44, Tryz.ti46, Tryz.ti80, Tryz.ti84, Tryz.ti94, hb, h0, h1, h2, h3, h4, h5, h6, h7, n7] <;> first | (refine panQ_of ?_; decide +kernel) | (change _ = true; decide +kernel) | kernel_rfl | (refine ⟨?_, ?_⟩ <;> first | (change _ = true; decide +kernel) | kernel_rfl)
  have n7 : xcols.length = cols.length := by omega
  by_cases h8 : (xvalues.length : Int) = values.length
  rotate_left
  · have n8 : ¬ xvalues.length = values.length := by omega
    simp [Tryz.f39, Tryz.ti3, Tryz.ti4, Tryz.ti9, Tryz.ti22, Tryz.ti23, Tryz.ti24, Tryz.ti25, Tryz.ti26, Tryz.ti28, Tryz.ti44, Tryz.ti46, Tryz.ti80, Tryz.ti84, Tryz.ti94, hb, h0, h1, h2, h3, h4, h5, h6, h7, n7, h8, n8] <;> first | (refine panQ_of ?_; decide +kernel) | (change _ = true; decide +kernel) | kernel_rfl | (refine ⟨?_, ?_⟩ <;> first | (change _ = true; decide +kernel) | kernel_rfl)
  have n8 : xvalues.length = values.length := by omega
  by_cases h9 : (xitems.length : Int) = items.length
  rotate_left
  · have n9 : ¬ xitems.length = items.length := by omega
    simp [Tryz.f39, Tryz.ti3, Tryz.ti4, Tryz.ti9, Tryz.ti22, Tryz.ti23, Tryz.ti24, Tryz.ti25, Tryz.ti26, Tryz.ti28, Tryz.ti44, Tryz.ti46, Tryz.ti80, Tryz.ti84, Tryz.ti94, hb, h0, h1, h2, h3, h4, h5, h6, h7, n7, h8, n8, h9, n9] <;> first | (refine panQ_of ?_; decide +kernel) | (change _ = true; decide +kernel) | kernel_rfl | (refine ⟨?_, ?_⟩ <;> first | (change _ = true; decide +kernel) | kernel_rfl)
  have n9 : xitems.length = items.length := by omega
  by_cases h10 : (xwher.length : Int) = wher.length
  rotate_left
  · have n10 : ¬ xwher.length = wher.length := by omega
    simp [Tryz.f39, Tryz.ti3, Tryz.ti4, Tryz.ti9, Tryz.ti22, Tryz.ti23, Tryz.ti24, Tryz.ti25, Tryz.ti26, Tryz.ti28, Tryz.ti44, Tryz.ti46, Tryz.ti80, Tryz.ti84, Tryz.ti94, hb, h0, h1, h2, h3, h4, h5, h6, h7, n7, h8, n8, h9, n9, h10, n10] <;> first | (refine panQ_of ?_; decide +kernel) | (change _ = true; decide +kernel) | kernel_rfl | (refine ⟨?_, ?_⟩ <;> first | (change _ = true; decide +kernel) | kernel_rfl)
  have n10 : xwher.length = wher.length := by omega
  by_cases h11 : (xsets.length : Int) = sets.length
  rotate_left
  · have n11 : ¬ xsets.length = sets.length := by omega
    simp [Tryz.f39, Tryz.ti3, Tryz.ti4, Tryz.ti9, Tryz.ti22, Tryz.ti23, Tryz.ti24, Tryz.ti25, Tryz.ti26, Tryz.ti28, Tryz.ti44, Tryz.ti46, Tryz.ti80, Tryz.ti84, Tryz.ti94, hb, h0, h1, h2, h3, h4, h5, h6, h7, n7, h8, n8, h9, n9, h10, n10, h11, n11] <;> first | (refine panQ_of ?_; decide +kernel) | (change _ = true; decide +kernel) | kernel_rfl | (refine ⟨?_, ?_⟩ <;> first | (change _ = true; decide +kernel) | kernel_rfl)
  have n11 : xsets.length = sets.length := by omega
  by_cases h12 : (xsrc.length : Int) = src.length
  rotate_left
  · have n12 : ¬ xsrc.length = src.length := by omega
    simp [Tryz.f39, Tryz.ti3, Tryz.ti4, Tryz.ti9, Tryz.ti22, Tryz.ti23, Tryz.ti24, Tryz.ti25, Tryz.ti26, Tryz.ti28, Tryz.ti44, Tryz.ti46, Tryz.ti80, Tryz.ti84, Tryz.ti94, hb, h0, h1, h2, h3, h4, h5, h6, h7, n7, h8, n8, h9, n9, h10, n10, h11, n11, h12, n12] <;> first | (refine panQ_of ?_; decide +kernel) | (change _ = true; decide +kernel) | kernel_rfl | (refine ⟨?_, ?_⟩ <;> first | (change _ = true; decide +kernel) | kernel_rfl)
  have n12 : xsrc.length = src.length := by omega
  by_cases h13 : (xa.length : Int) = acts.length
  rotate_left
  · have n13 : ¬ xa.length = acts.length := by omega
    simp [Tryz.f39, Tryz.ti3, Tryz.ti4, Tryz.ti9, Tryz.ti22, Tryz.ti23, Tryz.ti24, Tryz.ti25, Tryz.ti26, Tryz.ti28, Tryz.ti44, Tryz.ti46, Tryz.ti80, Tryz.ti84, Tryz.ti94, hb, h0, h1, h2, h3, h4, h5, h6, h7, n7, h8, n8, h9, n9, h10, n10, h11, n11, h12, n12, h13, n13] <;> first | (refine panQ_of ?_; decide +kernel) | (change _ = true; decide +kernel) | kernel_rfl | (refine ⟨?_, ?_⟩ <;> first | (change _ = true; decide +kernel) | kernel_rfl)
  have n13 : xa.length = acts.length := by omega
  simp [Tryz.f39, Tryz.ti3, Tryz.ti4, Tryz.ti9, Tryz.ti22, Tryz.ti23, Tryz.ti24, Tryz.ti25, Tryz.ti26, Tryz.ti28, Tryz.ti44, Tryz.ti46, Tryz.ti80, Tryz.ti84, Tryz.ti94, hb, h0, h1, h2, h3, h4, h5, h6, h7, n7, h8, n8, h9, n9, h10, n10, h11, n11, h12, n12, h13, n13] <;> first | (refine panQ_of ?_; decide +kernel) | (change _ = true; decide +kernel) | kernel_rfl | (refine ⟨?_, ?_⟩ <;> first | (change _ = true; decide +kernel) | kernel_rfl)
def rightRuleS (b : StB) (n : Nat) (ra : Bool) : Bool :=
  ra && (decide (0 ≤ b.prio) && (decide (b.prio ≤ 999) && (decide (1 ≤ b.event) && (decide (b.event ≤ 3) && (rightFromS b.src b.wher 0 && (decide (b.rolls = decide ((n : Int) = 0)) && decide ((n : Int) ≤ 4)))))))
def rightK (b : StB) (n : Nat) (ra : Bool) : Bool :=
  if b.kind = 1 ∨ b.kind = 2 ∨ b.kind = 3 then true
  else if nameK b.kind then nameS b.name
  else if b.kind = 6 then nameS b.name && decide (colsS b.cols = 0)
  else if b.kind = 7 then nameS b.name && (nameS b.table && nameS b.col)
  else if b.kind = 8 then nameS b.name && (nameS b.table && rightRuleS b n ra)
  else if b.kind = 12 then
    if (0 : Int) < b.values.length then nameS b.table && (rightsE b.values 1 6 && decide ((b.items.length : Int) + b.src.length + b.wher.length = 0))
    else nameS b.table && (rightsE b.items 0 40 && rightFromS b.src b.wher 1)
  else if b.kind = 13 then nameS b.table && (rightSetsS b.sets && rightsE b.wher 0 1)
  else if b.kind = 14 then nameS b.table && rightsE b.wher 0 1
  else if b.kind = 15 then rightsE b.items 0 40 && rightFromS b.src b.wher 1
  else false
mutual
def rightStm : Stm → Bool
  | .mk b acts => bareS (.mk b acts) && rightK b acts.length (rightActs acts)
def rightActs : List Stm → Bool
  | [] => true
  | a :: l => (decide (12 ≤ a.b.kind) && (decide (a.b.kind ≤ 14) && rightStm a)) && rightActs l
end
theorem ev_rightrule (b : StB) (acts : List Stm) (h : b.ok) (hl : acts.length ≤ 1048576) (ihk : ∀ a ∈ acts, EV 15 [a.enc] [] = some (.ret (.bool (rightStm a)), [])) :
    EV 42 [(Stm.mk b acts).enc] [] = some (.ret (.bool (rightRuleS b acts.length (rightActs acts))), []) := by
  have hf := ev_rightfrom b acts h 0
  rw [EV_mki rfl Tryz.func42 rfl (by kernel_rfl) rfl, senc_mk]
  rw [senc_mk] at hf
  obtain ⟨kind, name, table, col, cols, values, items, wher, sets, src, prio, event, deferred, rolls⟩ := b
  dsimp only at hf ⊢
  simp [Tryz.f42, Tryz.ti3, Tryz.ti4, Tryz.ti9, Tryz.ti22, Tryz.ti23, Tryz.ti24, Tryz.ti25, Tryz.ti26, Tryz.ti28, Tryz.ti44, Tryz.ti46, Tryz.ti80, Tryz.ti84, Tryz.ti94]
  rw [i_loop (ts := [9, 10, 11, 4, 12, 13, 14, 15, 16, 17, 18, 19, 20, 21, 22, 23, 24, 25])]
  rotate_left
  · kernel_rfl
  refine i_at (fun i : {i : Nat // i ≤ acts.length} => acts.length - i.1) (fun i env => setV env 8 (.int .i64 i.1)) (fun i => _) (fun i => some (.ret (.bool (rightRuleS ⟨kind, name, table, col, cols, values, items, wher, sets, src, prio, event, deferred, rolls⟩ acts.length (rightActs (acts.drop i.1)))), [])) ⟨0, by omega⟩ (by simp [s_zero, s_succ]) rfl (by simp) ?_
  intro ⟨i, hil⟩ ih
  dsimp only at hil ⊢
  by_cases hi : i < acts.length
  · have ih := ih ⟨i + 1, by omega⟩ (by simp only; omega)
    have hwi : IntKind.i64.wrap ((i : Int) + 1) = (i : Int) + 1 := wrap_i64 (by omega)
    have hc := ihk acts[i] (List.getElem_mem hi)
    obtain ⟨t, hk⟩ : ∃ m, acts[i] = m := ⟨_, rfl⟩
    rw [List.drop_eq_getElem_cons hi, rightActs, hk]
    rw [hk] at hc
    obtain ⟨tb, ta⟩ := t
    rw [senc_mk] at hc
    simp only [s_zero, s_succ, Int.natCast_add, Int.natCast_one, Int.cast_ofNat_Int] at ih
    simp only [Stm.b]
    by_cases h1 : 12 ≤ tb.kind
    · have h1' : ¬ tb.kind < 12 := by omega
      by_cases h2 : tb.kind ≤ 14
      · have h2' : ¬ 14 < tb.kind := by omega
        cases hd : rightStm (.mk tb ta) <;> rw [hd] at hc
        · simp [i_again, roundEnd, dropT, cleanV, Tryz.f42, Tryz.ti3, Tryz.ti4, Tryz.ti9, Tryz.ti22, Tryz.ti23, Tryz.ti24, Tryz.ti25, Tryz.ti26, Tryz.ti28, Tryz.ti44, Tryz.ti46, Tryz.ti80, Tryz.ti84, Tryz.ti94, hi, hk, senc_mk, h1, h1', h2, h2', hc, rightRuleS]
        · simp [i_again, roundEnd, dropT, cleanV, Tryz.f42, Tryz.ti3, Tryz.ti4, Tryz.ti9, Tryz.ti22, Tryz.ti23, Tryz.ti24, Tryz.ti25, Tryz.ti26, Tryz.ti28, Tryz.ti44, Tryz.ti46, Tryz.ti80, Tryz.ti84, Tryz.ti94, hi, hk, senc_mk, h1, h1', h2, h2', hc, hwi, ih]
      · have h2' : 14 < tb.kind := by omega
        simp [i_again, roundEnd, dropT, cleanV, Tryz.f42, Tryz.ti3, Tryz.ti4, Tryz.ti9, Tryz.ti22, Tryz.ti23, Tryz.ti24, Tryz.ti25, Tryz.ti26, Tryz.ti28, Tryz.ti44, Tryz.ti46, Tryz.ti80, Tryz.ti84, Tryz.ti94, hi, hk, senc_mk, h1, h1', h2, h2', rightRuleS]
    · have h1' : tb.kind < 12 := by omega
      simp [i_again, roundEnd, dropT, cleanV, Tryz.f42, Tryz.ti3, Tryz.ti4, Tryz.ti9, Tryz.ti22, Tryz.ti23, Tryz.ti24, Tryz.ti25, Tryz.ti26, Tryz.ti28, Tryz.ti44, Tryz.ti46, Tryz.ti80, Tryz.ti84, Tryz.ti94, hi, hk, senc_mk, h1, h1', rightRuleS]
  · rw [List.drop_of_length_le (by omega)]
    simp only [rightRuleS, rightActs]
    by_cases p1 : 0 ≤ prio
    · by_cases p2 : prio ≤ 999
      · by_cases e1 : 1 ≤ event
        · by_cases e2 : event ≤ 3
          · cases hr : rightFromS src wher 0 <;> rw [hr] at hf
            · simp [i_again, roundEnd, dropT, cleanV, Tryz.f42, Tryz.ti3, Tryz.ti4, Tryz.ti9, Tryz.ti22, Tryz.ti23, Tryz.ti24, Tryz.ti25, Tryz.ti26, Tryz.ti28, Tryz.ti44, Tryz.ti46, Tryz.ti80, Tryz.ti84, Tryz.ti94, hi, p1, p2, e1, e2, hf]
            · by_cases n0 : acts = []
              · subst n0
                simp only [List.map_nil] at hf
                have hi0 : ¬ (i : Int) < 0 := by omega
                cases rolls
                · simp [i_again, roundEnd, dropT, cleanV, Tryz.f42, Tryz.ti3, Tryz.ti4, Tryz.ti9, Tryz.ti22, Tryz.ti23, Tryz.ti24, Tryz.ti25, Tryz.ti26, Tryz.ti28, Tryz.ti44, Tryz.ti46, Tryz.ti80, Tryz.ti84, Tryz.ti94, hi0, p1, p2, e1, e2, hf]
                · simp [i_again, roundEnd, dropT, cleanV, Tryz.f42, Tryz.ti3, Tryz.ti4, Tryz.ti9, Tryz.ti22, Tryz.ti23, Tryz.ti24, Tryz.ti25, Tryz.ti26, Tryz.ti28, Tryz.ti44, Tryz.ti46, Tryz.ti80, Tryz.ti84, Tryz.ti94, hi0, p1, p2, e1, e2, hf]
              · have n1 : ¬ acts.length = 0 := fun e => n0 (List.eq_nil_of_length_eq_zero e)
                have n1' : ¬ (acts.length : Int) = 0 := by omega
                cases rolls
                · by_cases n4 : (acts.length : Int) ≤ 4
                  · have n4' : acts.length ≤ 4 := by omega
                    simp [i_again, roundEnd, dropT, cleanV, Tryz.f42, Tryz.ti3, Tryz.ti4, Tryz.ti9, Tryz.ti22, Tryz.ti23, Tryz.ti24, Tryz.ti25, Tryz.ti26, Tryz.ti28, Tryz.ti44, Tryz.ti46, Tryz.ti80, Tryz.ti84, Tryz.ti94, hi, p1, p2, e1, e2, hf, n0, n1, n1', n4, n4']
                  · have n4' : ¬ acts.length ≤ 4 := by omega
                    simp [i_again, roundEnd, dropT, cleanV, Tryz.f42, Tryz.ti3, Tryz.ti4, Tryz.ti9, Tryz.ti22, Tryz.ti23, Tryz.ti24, Tryz.ti25, Tryz.ti26, Tryz.ti28, Tryz.ti44, Tryz.ti46, Tryz.ti80, Tryz.ti84, Tryz.ti94, hi, p1, p2, e1, e2, hf, n0, n1, n1', n4, n4']
                · simp [i_again, roundEnd, dropT, cleanV, Tryz.f42, Tryz.ti3, Tryz.ti4, Tryz.ti9, Tryz.ti22, Tryz.ti23, Tryz.ti24, Tryz.ti25, Tryz.ti26, Tryz.ti28, Tryz.ti44, Tryz.ti46, Tryz.ti80, Tryz.ti84, Tryz.ti94, hi, p1, p2, e1, e2, hf, n0, n1, n1']
          · simp [i_again, roundEnd, dropT, cleanV, Tryz.f42, Tryz.ti3, Tryz.ti4, Tryz.ti9, Tryz.ti22, Tryz.ti23, Tryz.ti24, Tryz.ti25, Tryz.ti26, Tryz.ti28, Tryz.ti44, Tryz.ti46, Tryz.ti80, Tryz.ti84, Tryz.ti94, hi, p1, p2, e1, e2]
        · simp [i_again, roundEnd, dropT, cleanV, Tryz.f42, Tryz.ti3, Tryz.ti4, Tryz.ti9, Tryz.ti22, Tryz.ti23, Tryz.ti24, Tryz.ti25, Tryz.ti26, Tryz.ti28, Tryz.ti44, Tryz.ti46, Tryz.ti80, Tryz.ti84, Tryz.ti94, hi, p1, p2, e1]
      · simp [i_again, roundEnd, dropT, cleanV, Tryz.f42, Tryz.ti3, Tryz.ti4, Tryz.ti9, Tryz.ti22, Tryz.ti23, Tryz.ti24, Tryz.ti25, Tryz.ti26, Tryz.ti28, Tryz.ti44, Tryz.ti46, Tryz.ti80, Tryz.ti84, Tryz.ti94, hi, p1, p2]
    · simp [i_again, roundEnd, dropT, cleanV, Tryz.f42, Tryz.ti3, Tryz.ti4, Tryz.ti9, Tryz.ti22, Tryz.ti23, Tryz.ti24, Tryz.ti25, Tryz.ti26, Tryz.ti28, Tryz.ti44, Tryz.ti46, Tryz.ti80, Tryz.ti84, Tryz.ti94, hi, p1]
section
variable (b : StB) (acts : List Stm) (h : b.ok) (hl : acts.length ≤ 1048576)
set_option maxRecDepth 100000 in
set_option maxHeartbeats 4000000 in
theorem ev_right_notbare (hb : bareS (.mk b acts) = false) : EV 15 [(Stm.mk b acts).enc] [] = some (.ret (.bool (rightStm (.mk b acts))), []) := by
  have hbb := ev_bare (.mk b acts)
  rw [hb] at hbb
  simp only [rightStm, hb, Bool.false_and]
  rw [EV_mki rfl Tryz.func15 rfl (by kernel_rfl) rfl, senc_mk]
  rw [senc_mk] at hbb
  simp [Tryz.f15, Tryz.ti3, Tryz.ti4, Tryz.ti9, Tryz.ti22, Tryz.ti23, Tryz.ti24, Tryz.ti25, Tryz.ti26, Tryz.ti28, Tryz.ti44, Tryz.ti46, Tryz.ti56, Tryz.ti80, Tryz.ti84, Tryz.ti94, hbb]
include h
set_option maxRecDepth 100000 in
set_option maxHeartbeats 8000000 in
theorem ev_right_small (hb : bareS (.mk b acts) = true) (hk : ¬ b.kind = 8) (hk2 : ¬ b.kind = 12) (hk3 : ¬ b.kind = 13) (hk4 : ¬ b.kind = 14) (hk5 : ¬ b.kind = 15) : EV 15 [(Stm.mk b acts).enc] [] = some (.ret (.bool (rightStm (.mk b acts))), []) := by
  have hbb := ev_bare (.mk b acts)
  rw [hb] at hbb
  simp only [rightStm, hb, Bool.true_and]
  have n1 := ev_name b.name (by have := h.name; omega)
  have n2 := ev_name b.table (by have := h.table; omega)
  have n3 := ev_name b.col (by have := h.col; omega)
  have hc := ev_columns b.cols h.cols.1 h.cols.2
  generalize rightActs acts = ra
  rw [EV_mki rfl Tryz.func15 rfl (by kernel_rfl) rfl, senc_mk]
  rw [senc_mk] at hbb
  obtain ⟨kind, name, table, col, cols, values, items, wher, sets, src, prio, event, deferred, rolls⟩ := b
  dsimp only at hk hk2 hk3 hk4 hk5 n1 n2 n3 hc hbb ⊢
  simp only [rightK, nameK]
  by_cases k123 : kind = 1 ∨ kind = 2 ∨ kind = 3
  · rcases k123 with rfl | rfl | rfl <;> simp [Tryz.f15, Tryz.ti3, Tryz.ti4, Tryz.ti9, Tryz.ti22, Tryz.ti23, Tryz.ti24, Tryz.ti25, Tryz.ti26, Tryz.ti28, Tryz.ti44, Tryz.ti46, Tryz.ti56, Tryz.ti80, Tryz.ti84, Tryz.ti94, hbb]
  simp only [not_or] at k123
  obtain ⟨k1, k2, k3⟩ := k123
  by_cases kn : kind = 4 ∨ kind = 5 ∨ kind = 9 ∨ kind = 10 ∨ kind = 11
  · rcases kn with rfl | rfl | rfl | rfl | rfl <;> simp [Tryz.f15, Tryz.ti3, Tryz.ti4, Tryz.ti9, Tryz.ti22, Tryz.ti23, Tryz.ti24, Tryz.ti25, Tryz.ti26, Tryz.ti28, Tryz.ti44, Tryz.ti46, Tryz.ti56, Tryz.ti80, Tryz.ti84, Tryz.ti94, hbb, n1]
  simp only [not_or] at kn
  obtain ⟨k4, k5, k9, k10, k11⟩ := kn
  by_cases k6 : kind = 6
  · subst k6
    cases hn1 : nameS name <;> rw [hn1] at n1
    · simp [Tryz.f15, Tryz.ti3, Tryz.ti4, Tryz.ti9, Tryz.ti22, Tryz.ti23, Tryz.ti24, Tryz.ti25, Tryz.ti26, Tryz.ti28, Tryz.ti44, Tryz.ti46, Tryz.ti56, Tryz.ti80, Tryz.ti84, Tryz.ti94, hbb, n1]
    · simp [Tryz.f15, Tryz.ti3, Tryz.ti4, Tryz.ti9, Tryz.ti22, Tryz.ti23, Tryz.ti24, Tryz.ti25, Tryz.ti26, Tryz.ti28, Tryz.ti44, Tryz.ti46, Tryz.ti56, Tryz.ti80, Tryz.ti84, Tryz.ti94, hbb, n1, hc]
  by_cases k7 : kind = 7
  · subst k7
    cases hn1 : nameS name <;> rw [hn1] at n1
    · simp [Tryz.f15, Tryz.ti3, Tryz.ti4, Tryz.ti9, Tryz.ti22, Tryz.ti23, Tryz.ti24, Tryz.ti25, Tryz.ti26, Tryz.ti28, Tryz.ti44, Tryz.ti46, Tryz.ti56, Tryz.ti80, Tryz.ti84, Tryz.ti94, hbb, n1]
    · cases hn2 : nameS table <;> rw [hn2] at n2
      · simp [Tryz.f15, Tryz.ti3, Tryz.ti4, Tryz.ti9, Tryz.ti22, Tryz.ti23, Tryz.ti24, Tryz.ti25, Tryz.ti26, Tryz.ti28, Tryz.ti44, Tryz.ti46, Tryz.ti56, Tryz.ti80, Tryz.ti84, Tryz.ti94, hbb, n1, n2]
      · simp [Tryz.f15, Tryz.ti3, Tryz.ti4, Tryz.ti9, Tryz.ti22, Tryz.ti23, Tryz.ti24, Tryz.ti25, Tryz.ti26, Tryz.ti28, Tryz.ti44, Tryz.ti46, Tryz.ti56, Tryz.ti80, Tryz.ti84, Tryz.ti94, hbb, n1, n2, n3]
  simp [Tryz.f15, Tryz.ti3, Tryz.ti4, Tryz.ti9, Tryz.ti22, Tryz.ti23, Tryz.ti24, Tryz.ti25, Tryz.ti26, Tryz.ti28, Tryz.ti44, Tryz.ti46, Tryz.ti56, Tryz.ti80, Tryz.ti84, Tryz.ti94, hbb, k1, k2, k3, k4, k5, k6, k7, hk, k9, k10, k11, hk2, hk3, hk4, hk5]
set_option maxRecDepth 100000 in
set_option maxHeartbeats 8000000 in
theorem ev_right_rule (hb : bareS (.mk b acts) = true) (hk : b.kind = 8) (hl : acts.length ≤ 1048576) (ihk : ∀ a ∈ acts, EV 15 [a.enc] [] = some (.ret (.bool (rightStm a)), [])) : EV 15 [(Stm.mk b acts).enc] [] = some (.ret (.bool (rightStm (.mk b acts))), []) := by
  have hbb := ev_bare (.mk b acts)
  rw [hb] at hbb
  have hr := ev_rightrule b acts h hl ihk
  simp only [rightStm, hb, Bool.true_and]
  have n1 := ev_name b.name (by have := h.name; omega)
  have n2 := ev_name b.table (by have := h.table; omega)
  have hK : ∀ ra, rightK b acts.length ra = (nameS b.name && (nameS b.table && rightRuleS b acts.length ra)) := fun ra => by simp [rightK, nameK, hk]
  rw [hK]
  generalize rightRuleS b acts.length (rightActs acts) = rr at hr ⊢
  rw [EV_mki rfl Tryz.func15 rfl (by kernel_rfl) rfl, senc_mk]
  rw [senc_mk] at hbb hr
  obtain ⟨kind, name, table, col, cols, values, items, wher, sets, src, prio, event, deferred, rolls⟩ := b
  dsimp only at hk n1 n2 hbb hr ⊢
  subst hk
  cases hn1 : nameS name <;> rw [hn1] at n1
  · simp [Tryz.f15, Tryz.ti3, Tryz.ti4, Tryz.ti9, Tryz.ti22, Tryz.ti23, Tryz.ti24, Tryz.ti25, Tryz.ti26, Tryz.ti28, Tryz.ti44, Tryz.ti46, Tryz.ti56, Tryz.ti80, Tryz.ti84, Tryz.ti94, hbb, n1]
  · cases hn2 : nameS table <;> rw [hn2] at n2
    · simp [Tryz.f15, Tryz.ti3, Tryz.ti4, Tryz.ti9, Tryz.ti22, Tryz.ti23, Tryz.ti24, Tryz.ti25, Tryz.ti26, Tryz.ti28, Tryz.ti44, Tryz.ti46, Tryz.ti56, Tryz.ti80, Tryz.ti84, Tryz.ti94, hbb, n1, n2]
    · simp [Tryz.f15, Tryz.ti3, Tryz.ti4, Tryz.ti9, Tryz.ti22, Tryz.ti23, Tryz.ti24, Tryz.ti25, Tryz.ti26, Tryz.ti28, Tryz.ti44, Tryz.ti46, Tryz.ti56, Tryz.ti80, Tryz.ti84, Tryz.ti94, hbb, n1, n2, hr]
set_option maxRecDepth 100000 in
set_option maxHeartbeats 8000000 in
theorem ev_right_insert (hb : bareS (.mk b acts) = true) (hk : b.kind = 12) : EV 15 [(Stm.mk b acts).enc] [] = some (.ret (.bool (rightStm (.mk b acts))), []) := by
  have hbb := ev_bare (.mk b acts)
  rw [hb] at hbb
  simp only [rightStm, hb, Bool.true_and]
  have n2 := ev_name b.table (by have := h.table; omega)
  have hv := ev_rightall b.values h.values.1 h.values.2 1 6
  have hi := ev_rightall b.items h.items.1 h.items.2 0 40
  have hf := ev_rightfrom b acts h 1
  have hK : ∀ ra, rightK b acts.length ra = if (0 : Int) < b.values.length then nameS b.table && (rightsE b.values 1 6 && decide ((b.items.length : Int) + b.src.length + b.wher.length = 0)) else nameS b.table && (rightsE b.items 0 40 && rightFromS b.src b.wher 1) := fun ra => by simp [rightK, nameK, hk]
  rw [hK]
  have w1 : IntKind.i64.wrap ((b.items.length : Int) + b.src.length) = (b.items.length : Int) + b.src.length := wrap_i64 (by have := h.items.1; have := h.src.1; omega)
  have w2 : IntKind.i64.wrap ((b.items.length : Int) + b.src.length + b.wher.length) = (b.items.length : Int) + b.src.length + b.wher.length := wrap_i64 (by have := h.items.1; have := h.src.1; have := h.wher.1; omega)
  generalize rightFromS b.src b.wher 1 = rf at hf ⊢
  generalize rightsE b.values 1 6 = rv at hv ⊢
  generalize rightsE b.items 0 40 = ri at hi ⊢
  rw [EV_mki rfl Tryz.func15 rfl (by kernel_rfl) rfl, senc_mk]
  rw [senc_mk] at hbb hf
  obtain ⟨kind, name, table, col, cols, values, items, wher, sets, src, prio, event, deferred, rolls⟩ := b
  dsimp only at hk n2 hbb hf hv hi w1 w2 ⊢
  subst hk
  cases hn2 : nameS table <;> rw [hn2] at n2
  · by_cases h0 : 0 < values.length <;> simp [Tryz.f15, Tryz.ti3, Tryz.ti4, Tryz.ti9, Tryz.ti22, Tryz.ti23, Tryz.ti24, Tryz.ti25, Tryz.ti26, Tryz.ti28, Tryz.ti44, Tryz.ti46, Tryz.ti56, Tryz.ti80, Tryz.ti84, Tryz.ti94, hbb, n2, h0]
  · by_cases h0 : (0 : Int) < values.length
    · have h0' : 0 < values.length := by omega
      cases rv
      · simp [Tryz.f15, Tryz.ti3, Tryz.ti4, Tryz.ti9, Tryz.ti22, Tryz.ti23, Tryz.ti24, Tryz.ti25, Tryz.ti26, Tryz.ti28, Tryz.ti44, Tryz.ti46, Tryz.ti56, Tryz.ti80, Tryz.ti84, Tryz.ti94, hbb, n2, h0, h0', hv]
      · simp [Tryz.f15, Tryz.ti3, Tryz.ti4, Tryz.ti9, Tryz.ti22, Tryz.ti23, Tryz.ti24, Tryz.ti25, Tryz.ti26, Tryz.ti28, Tryz.ti44, Tryz.ti46, Tryz.ti56, Tryz.ti80, Tryz.ti84, Tryz.ti94, hbb, n2, h0, h0', hv, w1, w2]
    · have h0' : ¬ 0 < values.length := by omega
      cases ri
      · simp [Tryz.f15, Tryz.ti3, Tryz.ti4, Tryz.ti9, Tryz.ti22, Tryz.ti23, Tryz.ti24, Tryz.ti25, Tryz.ti26, Tryz.ti28, Tryz.ti44, Tryz.ti46, Tryz.ti56, Tryz.ti80, Tryz.ti84, Tryz.ti94, hbb, n2, h0, h0', hi]
      · simp [Tryz.f15, Tryz.ti3, Tryz.ti4, Tryz.ti9, Tryz.ti22, Tryz.ti23, Tryz.ti24, Tryz.ti25, Tryz.ti26, Tryz.ti28, Tryz.ti44, Tryz.ti46, Tryz.ti56, Tryz.ti80, Tryz.ti84, Tryz.ti94, hbb, n2, h0, h0', hi, hf]
set_option maxRecDepth 100000 in
set_option maxHeartbeats 8000000 in
theorem ev_right_update (hb : bareS (.mk b acts) = true) (hk : b.kind = 13) : EV 15 [(Stm.mk b acts).enc] [] = some (.ret (.bool (rightStm (.mk b acts))), []) := by
  have hbb := ev_bare (.mk b acts)
  rw [hb] at hbb
  simp only [rightStm, hb, Bool.true_and]
  have n2 := ev_name b.table (by have := h.table; omega)
  have hs := ev_rightsets b.sets h.sets.1 h.sets.2
  have hw := ev_rightall b.wher h.wher.1 h.wher.2 0 1
  have hK : ∀ ra, rightK b acts.length ra = (nameS b.table && (rightSetsS b.sets && rightsE b.wher 0 1)) := fun ra => by simp [rightK, nameK, hk]
  rw [hK]
  generalize rightSetsS b.sets = rs at hs ⊢
  generalize rightsE b.wher 0 1 = rw_ at hw ⊢
  rw [EV_mki rfl Tryz.func15 rfl (by kernel_rfl) rfl, senc_mk]
  rw [senc_mk] at hbb
  obtain ⟨kind, name, table, col, cols, values, items, wher, sets, src, prio, event, deferred, rolls⟩ := b
  dsimp only at hk n2 hbb hs hw ⊢
  subst hk
  cases hn2 : nameS table <;> rw [hn2] at n2
  · simp [Tryz.f15, Tryz.ti3, Tryz.ti4, Tryz.ti9, Tryz.ti22, Tryz.ti23, Tryz.ti24, Tryz.ti25, Tryz.ti26, Tryz.ti28, Tryz.ti44, Tryz.ti46, Tryz.ti56, Tryz.ti80, Tryz.ti84, Tryz.ti94, hbb, n2]
  · cases rs
    · simp [Tryz.f15, Tryz.ti3, Tryz.ti4, Tryz.ti9, Tryz.ti22, Tryz.ti23, Tryz.ti24, Tryz.ti25, Tryz.ti26, Tryz.ti28, Tryz.ti44, Tryz.ti46, Tryz.ti56, Tryz.ti80, Tryz.ti84, Tryz.ti94, hbb, n2, hs]
    · simp [Tryz.f15, Tryz.ti3, Tryz.ti4, Tryz.ti9, Tryz.ti22, Tryz.ti23, Tryz.ti24, Tryz.ti25, Tryz.ti26, Tryz.ti28, Tryz.ti44, Tryz.ti46, Tryz.ti56, Tryz.ti80, Tryz.ti84, Tryz.ti94, hbb, n2, hs, hw]
set_option maxRecDepth 100000 in
set_option maxHeartbeats 8000000 in
theorem ev_right_delete (hb : bareS (.mk b acts) = true) (hk : b.kind = 14) : EV 15 [(Stm.mk b acts).enc] [] = some (.ret (.bool (rightStm (.mk b acts))), []) := by
  have hbb := ev_bare (.mk b acts)
  rw [hb] at hbb
  simp only [rightStm, hb, Bool.true_and]
  have n2 := ev_name b.table (by have := h.table; omega)
  have hw := ev_rightall b.wher h.wher.1 h.wher.2 0 1
  have hK : ∀ ra, rightK b acts.length ra = (nameS b.table && rightsE b.wher 0 1) := fun ra => by simp [rightK, nameK, hk]
  rw [hK]
  generalize rightsE b.wher 0 1 = rw_ at hw ⊢
  rw [EV_mki rfl Tryz.func15 rfl (by kernel_rfl) rfl, senc_mk]
  rw [senc_mk] at hbb
  obtain ⟨kind, name, table, col, cols, values, items, wher, sets, src, prio, event, deferred, rolls⟩ := b
  dsimp only at hk n2 hbb hw ⊢
  subst hk
  cases hn2 : nameS table <;> rw [hn2] at n2
  · simp [Tryz.f15, Tryz.ti3, Tryz.ti4, Tryz.ti9, Tryz.ti22, Tryz.ti23, Tryz.ti24, Tryz.ti25, Tryz.ti26, Tryz.ti28, Tryz.ti44, Tryz.ti46, Tryz.ti56, Tryz.ti80, Tryz.ti84, Tryz.ti94, hbb, n2]
  · simp [Tryz.f15, Tryz.ti3, Tryz.ti4, Tryz.ti9, Tryz.ti22, Tryz.ti23, Tryz.ti24, Tryz.ti25, Tryz.ti26, Tryz.ti28, Tryz.ti44, Tryz.ti46, Tryz.ti56, Tryz.ti80, Tryz.ti84, Tryz.ti94, hbb, n2, hw]
set_option maxRecDepth 100000 in
set_option maxHeartbeats 8000000 in
theorem ev_right_select (hb : bareS (.mk b acts) = true) (hk : b.kind = 15) : EV 15 [(Stm.mk b acts).enc] [] = some (.ret (.bool (rightStm (.mk b acts))), []) := by
  have hbb := ev_bare (.mk b acts)
  rw [hb] at hbb
  simp only [rightStm, hb, Bool.true_and]
  have hi := ev_rightall b.items h.items.1 h.items.2 0 40
  have hf := ev_rightfrom b acts h 1
  have hK : ∀ ra, rightK b acts.length ra = (rightsE b.items 0 40 && rightFromS b.src b.wher 1) := fun ra => by simp [rightK, nameK, hk]
  rw [hK]
  generalize rightFromS b.src b.wher 1 = rf at hf ⊢
  generalize rightsE b.items 0 40 = ri at hi ⊢
  rw [EV_mki rfl Tryz.func15 rfl (by kernel_rfl) rfl, senc_mk]
  rw [senc_mk] at hbb hf
  obtain ⟨kind, name, table, col, cols, values, items, wher, sets, src, prio, event, deferred, rolls⟩ := b
  dsimp only at hk hbb hf hi ⊢
  subst hk
  cases ri
  · simp [Tryz.f15, Tryz.ti3, Tryz.ti4, Tryz.ti9, Tryz.ti22, Tryz.ti23, Tryz.ti24, Tryz.ti25, Tryz.ti26, Tryz.ti28, Tryz.ti44, Tryz.ti46, Tryz.ti56, Tryz.ti80, Tryz.ti84, Tryz.ti94, hbb, hi]
  · simp [Tryz.f15, Tryz.ti3, Tryz.ti4, Tryz.ti9, Tryz.ti22, Tryz.ti23, Tryz.ti24, Tryz.ti25, Tryz.ti26, Tryz.ti28, Tryz.ti44, Tryz.ti46, Tryz.ti56, Tryz.ti80, Tryz.ti84, Tryz.ti94, hbb, hi, hf]
end
mutual
theorem ev_rightstm : ∀ s : Stm, s.ok → EV 15 [s.enc] [] = some (.ret (.bool (rightStm s)), [])
  | .mk b acts, h => by
    have ihk := ev_rightstms acts h.2.2
    cases hb : bareS (.mk b acts)
    · exact ev_right_notbare b acts hb
    · by_cases k8 : b.kind = 8
      · exact ev_right_rule b acts h.1 hb k8 h.2.1 ihk
      by_cases k12 : b.kind = 12
      · exact ev_right_insert b acts h.1 hb k12
      by_cases k13 : b.kind = 13
      · exact ev_right_update b acts h.1 hb k13
      by_cases k14 : b.kind = 14
      · exact ev_right_delete b acts h.1 hb k14
      by_cases k15 : b.kind = 15
      · exact ev_right_select b acts h.1 hb k15
      exact ev_right_small b acts h.1 hb k8 k12 k13 k14 k15
theorem ev_rightstms : ∀ l : List Stm, Stm.oks l → ∀ a ∈ l, EV 15 [a.enc] [] = some (.ret (.bool (rightStm a)), [])
  | [], _, a, ha => by cases ha
  | s :: l, h, a, ha => by
    rcases List.mem_cons.1 ha with ha | ha
    · rw [ha]; exact ev_rightstm s h.1
    · exact ev_rightstms l h.2 a ha
end
end Go.Abs
namespace Go.Abs
set_option linter.unusedSimpArgs false
set_option linter.unusedVariables false
open Go
inductive OkTok : Tok → Prop where
  | word (p : Int) (w : List UInt8) : allB isCap w = true → OkTok ⟨1, 0, p, w⟩
  | name (p : Int) (w : List UInt8) : nameS w = true → OkTok ⟨2, 0, p, w⟩
  | num (p : Int) (u : Nat) : u ≤ 9223372036854775807 → OkTok ⟨3, u, p, []⟩
  | str (p : Int) (a : List UInt8) : a.length ≤ 24 → OkTok ⟨4, 0, p, a⟩
  | sym1 (p : Int) (c : UInt8) : [60, 62, 61, 43, 45, 42, 40, 41, 44, 46, 59].contains c = true → OkTok ⟨5, 0, p, [c]⟩
  | sym2 (p : Int) (c d : UInt8) : (c = 60 ∧ d = 62 ∨ c = 60 ∧ d = 61 ∨ c = 62 ∧ d = 61) → OkTok ⟨5, 0, p, [c, d]⟩
theorem run_ok {p : Int} {w : List UInt8} {t : Tok} (h : runS p w = some t) : OkTok t := by
  unfold runS at h
  split at h
  · rename_i hc; cases h; exact .word p w hc
  · split at h
    · rename_i hc; cases h; exact .name p w hc
    · split at h
      · rename_i hc; cases h; exact .num p _ hc.2
      · cases h
theorem tok_ok {p : Nat} {r : List UInt8} {t : Tok} {u : List UInt8} (h : tokS p r = .ok (t, u)) : t.kind = 0 ∧ t = ⟨0, 0, p, []⟩ ∨ OkTok t := by
  cases r with
  | nil => simp only [tokS, Except.ok.injEq, Prod.mk.injEq] at h; left; rw [← h.1]; exact ⟨rfl, rfl⟩
  | cons c r =>
    right
    simp only [tokS] at h
    split at h
    · split at h
      · rename_i k hk
        simp only [Except.ok.injEq, Prod.mk.injEq] at h
        rw [← h.1]; exact run_ok hk
      · cases h
    · split at h
      · split at h
        · split at h
          · rename_i a u' _ hl
            simp only [Except.ok.injEq, Prod.mk.injEq] at h
            rw [← h.1]; exact .str _ _ hl
          · cases h
        · cases h
      · split at h
        · cases h
        · rename_i hs
          simp only [Except.ok.injEq, Prod.mk.injEq] at h
          rw [← h.1]
          match r, hs with
          | [], hs =>
            simp only [symS] at hs ⊢
            by_cases hc : [60, 62, 61, 43, 45, 42, 40, 41, 44, 46, 59].contains c = true
            · rw [if_pos hc]; exact .sym1 _ _ hc
            · rw [if_neg hc] at hs; exact absurd rfl hs
          | d :: r, hs =>
            simp only [symS] at hs ⊢
            by_cases h2 : c = 60 ∧ d = 62 ∨ c = 60 ∧ d = 61 ∨ c = 62 ∧ d = 61
            · rw [if_pos h2]; exact .sym2 _ _ _ h2
            · rw [if_neg h2] at hs ⊢
              by_cases hc : [60, 62, 61, 43, 45, 42, 40, 41, 44, 46, 59].contains c = true
              · rw [if_pos hc]; exact .sym1 _ _ hc
              · rw [if_neg hc] at hs; exact absurd rfl hs
def Tok.to (t : Tok) (p : Int) : Tok := { t with at_ := p }
theorem toks_ok : ∀ (f p : Nat) (r : List UInt8) (l : List Tok), toksS f p r = .ok l → ∃ m e, l = m ++ [e] ∧ e.kind = 0 ∧ e.n = 0 ∧ e.s = [] ∧ ∀ t ∈ m, OkTok t ∧ t.kind ≠ 0
  | 0, p, r, l, h => by simp [toksS] at h
  | f + 1, p, r, l, h => by
    rw [toksS] at h
    cases hn : nextTok p r with
    | error e => rw [hn] at h; cases h
    | ok q =>
      obtain ⟨t, u⟩ := q
      rw [hn] at h
      simp only at h
      have hk := tok_ok (p := p + blanks r) (r := unblank r) hn
      split at h
      · rename_i h0
        simp only [Except.ok.injEq] at h
        refine ⟨[], t, by rw [← h]; rfl, h0, ?_, ?_, by simp⟩
        · rcases hk with ⟨_, e⟩ | hk
          · rw [e]
          · cases hk <;> simp at h0
        · rcases hk with ⟨_, e⟩ | hk
          · rw [e]
          · cases hk <;> simp at h0
      · rename_i h0
        cases ht : toksS f (p + (r.length - u.length)) u with
        | error e => rw [ht] at h; cases h
        | ok l' =>
          rw [ht] at h
          simp only [Except.ok.injEq] at h
          obtain ⟨m, e, h1, h2, h3, h4, h5⟩ := toks_ok _ _ _ _ ht
          refine ⟨t :: m, e, by rw [← h, h1]; rfl, h2, h3, h4, fun x hx => ?_⟩
          rcases List.mem_cons.1 hx with rfl | hx
          · rcases hk with ⟨e, _⟩ | hk
            · exact absurd e h0
            · exact ⟨hk, h0⟩
          · exact h5 x hx
end Go.Abs
namespace Go.Abs
set_option linter.unusedSimpArgs false
set_option linter.unusedVariables false
open Go
abbrev PR (α : Type) := Option α × List Tok
def isT (s : List UInt8) : List Tok → Bool
  | [] => false
  | t :: _ => (decide (t.kind = 1) || decide (t.kind = 5)) && decide (t.s = s)
def topK : List Tok → Int
  | [] => 0
  | t :: _ => t.kind
def topAt : List Tok → Int
  | [] => 0
  | t :: _ => t.at_
def thenP {α β : Type} (x : PR α) (f : α → List Tok → PR β) : PR β :=
  match x with
  | (none, r) => (none, r)
  | (some a, r) => f a r
def needP (s : List UInt8) (l : List Tok) : PR Unit := if isT s l then (some (), l.tail) else (none, l)
def maybeP (s : List UInt8) (l : List Tok) : Bool × List Tok := if isT s l then (true, l.tail) else (false, l)
def oneP : List (List UInt8) → List Tok → Nat × List Tok
  | [], l => (0, l)
  | s :: r, l => if isT s l then (1, l.tail) else match oneP r l with
    | (0, l') => (0, l')
    | (n + 1, l') => (n + 2, l')
def oneOfP (ss : List (List UInt8)) (l : List Tok) : PR Nat :=
  match oneP ss l with
  | (0, l') => (none, l')
  | (n + 1, l') => (some (n + 1), l')
def nameP : List Tok → PR (List UInt8)
  | [] => (none, [])
  | t :: r => if t.kind = 2 then (some t.s, r) else (none, t :: r)
def listP {α : Type} (f : List Tok → PR α) : Nat → List Tok → PR (List α)
  | 0, l => (none, l)
  | n + 1, l => thenP (f l) fun a r => if isT [44] r then thenP (listP f n r.tail) fun xs r' => (some (a :: xs), r') else (some [a], r)
def xval (v : Val) : Xp := .mk oValue v [] [] []
def xop (s : List UInt8) (kids : List Xp) : Xp := .mk s Val.zero [] [] kids
def opAt : List (List UInt8 × List UInt8) → List Tok → Option (List UInt8)
  | [], _ => none
  | (s, o) :: r, l => if isT s l then some o else opAt r l
def moreP (part : List Tok → PR Xp) (tbl : List (List UInt8 × List UInt8)) : Nat → Xp → List Tok → PR Xp
  | 0, _, l => (none, l)
  | n + 1, e, l => match opAt tbl l with
    | none => (some e, l)
    | some o => thenP (part l.tail) fun f r => moreP part tbl n (xop o [e, f]) r
def chainP (part : List Tok → PR Xp) (tbl : List (List UInt8 × List UInt8)) (l : List Tok) : PR Xp :=
  thenP (part l) fun e r => moreP part tbl (r.length + 1) e r
def parenP (or : List Tok → PR Xp) (l : List Tok) : PR Xp :=
  thenP (or l) fun e r => if isT [41] r then (some e, r.tail) else (none, r)
def atomP (or : List Tok → PR Xp) : List Tok → PR Xp
  | [] => (none, [])
  | t :: r =>
    if t.kind = 3 then (some (xval ⟨2, t.n, []⟩), r)
    else if t.kind = 4 then (some (xval ⟨3, 0, t.s⟩), r)
    else if t.kind = 2 then
      if isT [46] r then thenP (nameP r.tail) fun c r' => (some (.mk oColumn Val.zero t.s c []), r')
      else (some (.mk oColumn Val.zero [] t.s []), r)
    else if isT [78, 85, 76, 76] (t :: r) then (some (xval Val.zero), r)
    else if isT [70, 65, 76, 83, 69] (t :: r) then (some (xval ⟨1, 0, []⟩), r)
    else if isT [84, 82, 85, 69] (t :: r) then (some (xval ⟨1, 1, []⟩), r)
    else if isT [40] (t :: r) then parenP or r
    else (none, t :: r)
def unaryP (or : List Tok → PR Xp) : Nat → List Tok → PR Xp
  | 0, l => (none, l)
  | k + 1, l => if isT [45] l then thenP (unaryP or k l.tail) fun e r => (some (xop oNeg [e]), r) else atomP or l
def termTbl : List (List UInt8 × List UInt8) := [([42], [42])]
def sumTbl : List (List UInt8 × List UInt8) := [([43], [43]), ([45], [45])]
def cmpTbl : List (List UInt8 × List UInt8) := [([61], [61]), ([60, 62], [60, 62]), ([60], [60]), ([60, 61], [60, 61]), ([62], [62]), ([62, 61], [62, 61])]
def andTbl : List (List UInt8 × List UInt8) := [([65, 78, 68], oAnd)]
def orTbl : List (List UInt8 × List UInt8) := [([79, 82], oOr)]
def isP (e : Xp) (l : List Tok) : PR Xp :=
  if isT [73, 83] l then
    match maybeP [78, 79, 84] l.tail with
    | (b, r) => thenP (needP [78, 85, 76, 76] r) fun _ r' => (some (if b = true then xop oNot [xop oNull [e]] else xop oNull [e]), r')
  else (some e, l)
def cmpP (sum : List Tok → PR Xp) (l : List Tok) : PR Xp :=
  thenP (sum l) fun e r => match opAt cmpTbl r with
    | some o => thenP (sum r.tail) fun f r' => (some (xop o [e, f]), r')
    | none => isP e r
def notP (cmp : List Tok → PR Xp) : Nat → List Tok → PR Xp
  | 0, l => (none, l)
  | k + 1, l => if isT [78, 79, 84] l then thenP (notP cmp k l.tail) fun e r => (some (xop oNot [e]), r) else cmp l
def unaryL (or : List Tok → PR Xp) (l : List Tok) : PR Xp := unaryP or (l.length + 1) l
def termP (or : List Tok → PR Xp) : List Tok → PR Xp := chainP (unaryL or) termTbl
def sumP (or : List Tok → PR Xp) : List Tok → PR Xp := chainP (termP or) sumTbl
def notL (or : List Tok → PR Xp) (l : List Tok) : PR Xp := notP (cmpP (sumP or)) (l.length + 1) l
def andP (or : List Tok → PR Xp) : List Tok → PR Xp := chainP (notL or) andTbl
def orP : Nat → List Tok → PR Xp
  | 0, l => (none, l)
  | n + 1, l => chainP (andP (orP n)) orTbl l
def exprP (l : List Tok) : PR Xp := orP (l.length + 1) l
def whereP (l : List Tok) : PR (List Xp) :=
  if isT [87, 72, 69, 82, 69] l then thenP (exprP l.tail) fun e r => (some [e], r) else (some [], l)
def varP (l : List Tok) : List UInt8 × List Tok :=
  match l with
  | [] => ([], [])
  | t :: r => if t.kind = 2 then (t.s, r) else ([], t :: r)
def sourceP (l : List Tok) : PR Src :=
  match oneP [[73, 78, 83, 69, 82, 84, 69, 68], [68, 69, 76, 69, 84, 69, 68], [79, 76, 68], [78, 69, 87]] l with
  | (0, r) => thenP (nameP r) fun t r' => (some ⟨0, t, (varP r').1⟩, (varP r').2)
  | (n + 1, r) => (some ⟨n + 1, [], (varP r).1⟩, (varP r).2)
def itemsP (l : List Tok) : PR (List Xp) := if isT [42] l then (some [], l.tail) else listP exprP (l.length + 1) l
structure Qry where
  items : List Xp
  src : List Src
  wher : List Xp
def queryP (l : List Tok) : PR Qry :=
  thenP (needP [83, 69, 76, 69, 67, 84] l) fun _ r => thenP (itemsP r) fun is r => thenP (needP [70, 82, 79, 77] r) fun _ r =>
  thenP (listP sourceP (r.length + 1) r) fun ss r => thenP (whereP r) fun w r => (some ⟨is, ss, w⟩, r)
def setP (l : List Tok) : PR SetE :=
  thenP (nameP l) fun c r => thenP (needP [61] r) fun _ r => thenP (exprP r) fun e r => (some ⟨c, e⟩, r)
def StB.zero : StB := ⟨0, [], [], [], [], [], [], [], [], [], 0, 0, false, false⟩
def insP (l : List Tok) : PR StB :=
  thenP (needP [73, 78, 84, 79] l) fun _ r => thenP (nameP r) fun t r =>
  if isT [86, 65, 76, 85, 69, 83] r then
    thenP (needP [40] r.tail) fun _ r => thenP (listP exprP (r.length + 1) r) fun vs r => thenP (needP [41] r) fun _ r =>
      (some { StB.zero with kind := 12, table := t, values := vs }, r)
  else thenP (queryP r) fun q r => (some { StB.zero with kind := 12, table := t, items := q.items, src := q.src, wher := q.wher }, r)
def updP (l : List Tok) : PR StB :=
  thenP (nameP l) fun t r => thenP (needP [83, 69, 84] r) fun _ r => thenP (listP setP (r.length + 1) r) fun ss r => thenP (whereP r) fun w r =>
    (some { StB.zero with kind := 13, table := t, sets := ss, wher := w }, r)
def delP (l : List Tok) : PR StB :=
  thenP (needP [70, 82, 79, 77] l) fun _ r => thenP (nameP r) fun t r => thenP (whereP r) fun w r => (some { StB.zero with kind := 14, table := t, wher := w }, r)
def actP (l : List Tok) : PR (Option StB) :=
  if isT [73, 78, 83, 69, 82, 84] l then thenP (insP l.tail) fun b r => (some (some b), r)
  else if isT [85, 80, 68, 65, 84, 69] l then thenP (updP l.tail) fun b r => (some (some b), r)
  else if isT [68, 69, 76, 69, 84, 69] l then thenP (delP l.tail) fun b r => (some (some b), r)
  else (some none, l)
def typeP (l : List Tok) : PR Nat := oneOfP [[66, 79, 79, 76], [73, 78, 84], [84, 69, 88, 84]] l
def columnP (l : List Tok) : PR Col :=
  thenP (nameP l) fun n r => thenP (typeP r) fun t r =>
  if isT [78, 79, 84] r then thenP (needP [78, 85, 76, 76] r.tail) fun _ r => (some ⟨n, t, true, (maybeP [85, 78, 73, 81, 85, 69] r).1⟩, (maybeP [85, 78, 73, 81, 85, 69] r).2)
  else (some ⟨n, t, false, (maybeP [85, 78, 73, 81, 85, 69] r).1⟩, (maybeP [85, 78, 73, 81, 85, 69] r).2)
def numP : List Tok → PR Int
  | [] => (none, [])
  | t :: r => if t.kind = 3 then (some t.n, r) else (none, t :: r)
def actsP : Nat → List Tok → PR (List Stm)
  | 0, l => (none, l)
  | n + 1, l => thenP (actP l) fun o r => match o with
    | none => (none, r)
    | some b => if isT [59] r then thenP (actsP n r.tail) fun xs r' => (some (.mk b [] :: xs), r') else (some [.mk b []], r)
def whenP (l : List Tok) : PR (List Src × List Xp) :=
  thenP (oneOfP [[65, 76, 87, 65, 89, 83], [87, 72, 69, 78]] l) fun n r =>
  if n = 2 then thenP (listP sourceP (r.length + 1) r) fun ss r => thenP (whereP r) fun w r => (some (ss, w), r) else (some ([], []), r)
def doP (l : List Tok) : PR (Option (List Stm)) :=
  thenP (needP [68, 79] l) fun _ r => if isT [82, 79, 76, 76, 66, 65, 67, 75] r then (some none, r.tail) else
  thenP (actsP (r.length + 1) r) fun xs r => thenP (needP [69, 78, 68] r) fun _ r => (some (some xs), r)
def ruleP (n : List UInt8) (l : List Tok) : PR Stm :=
  thenP (needP [80, 82, 73, 79, 82, 73, 84, 89] l) fun _ r => thenP (numP r) fun p r => thenP (needP [79, 78] r) fun _ r => thenP (oneOfP [[73, 78, 83, 69, 82, 84], [68, 69, 76, 69, 84, 69], [85, 80, 68, 65, 84, 69]] r) fun e r =>
  thenP (needP [84, 79] r) fun _ r => thenP (nameP r) fun t r => thenP (whenP (maybeP [68, 69, 70, 69, 82, 82, 69, 68] r).2) fun w r' => thenP (doP r') fun d r' =>
    (some (.mk { StB.zero with kind := 8, name := n, table := t, src := w.1, wher := w.2, prio := p, event := e, deferred := (maybeP [68, 69, 70, 69, 82, 82, 69, 68] r).1, rolls := d.isNone } (d.getD [])), r')
def whatP (l : List Tok) : PR Nat := oneOfP [[84, 65, 66, 76, 69], [73, 78, 68, 69, 88], [82, 85, 76, 69]] l
def createP (l : List Tok) : PR Stm :=
  thenP (whatP l) fun k r => thenP (nameP r) fun n r =>
  if k = 1 then thenP (needP [40] r) fun _ r => thenP (listP columnP (r.length + 1) r) fun cs r => thenP (needP [41] r) fun _ r =>
    (some (.mk { StB.zero with kind := 6, name := n, cols := cs } []), r)
  else if k = 2 then thenP (needP [79, 78] r) fun _ r => thenP (nameP r) fun t r => thenP (needP [40] r) fun _ r => thenP (nameP r) fun c r => thenP (needP [41] r) fun _ r =>
    (some (.mk { StB.zero with kind := 7, name := n, table := t, col := c } []), r)
  else ruleP n r
def dropP (l : List Tok) : PR Stm := thenP (whatP l) fun k r => thenP (nameP r) fun n r => (some (.mk { StB.zero with kind := 8 + k, name := n } []), r)
def smallP (k : Nat) (r : List Tok) : PR Stm :=
  if k ≤ 3 then (some (.mk { StB.zero with kind := k } []), r)
  else if k = 4 then thenP (nameP r) fun n r => (some (.mk { StB.zero with kind := 4, name := n } []), r)
  else if k = 5 then thenP (needP [84, 79] r) fun _ r => thenP (nameP r) fun n r => (some (.mk { StB.zero with kind := 5, name := n } []), r)
  else if k = 6 then createP r else dropP r
def stmtP (l : List Tok) : PR Stm :=
  thenP (actP l) fun o r => match o with
  | some b => (some (.mk b []), r)
  | none => if isT [83, 69, 76, 69, 67, 84] r then thenP (queryP r) fun q r => (some (.mk { StB.zero with kind := 15, items := q.items, src := q.src, wher := q.wher } []), r)
    else thenP (oneOfP [[66, 69, 71, 73, 78], [67, 79, 77, 77, 73, 84], [65, 66, 79, 82, 84], [83, 65, 86, 69, 80, 79, 73, 78, 84], [82, 79, 76, 76, 66, 65, 67, 75], [67, 82, 69, 65, 84, 69], [68, 82, 79, 80]] r) fun k r => smallP k r
def Stm.zero : Stm := .mk StB.zero []
def Xp.zero : Xp := .mk [] Val.zero [] [] []
def readP {α : Type} (p : List Tok → PR α) (right : α → Bool) (zero : α) (s : List UInt8) : α × Int × Int :=
  if 2000 < s.length then (zero, 8, 0)
  else match toksS (s.length + 1) 0 s with
    | .error e => (zero, 1, e)
    | .ok l => match p l with
      | (none, r) => (zero, 1, topAt r)
      | (some x, r) => if topK r = 0 then (if right x then (x, 0, 0) else (zero, 8, 0)) else (zero, 1, topAt r)
def parseS (s : List UInt8) : Stm × Int × Int := readP stmtP rightStm Stm.zero s
end Go.Abs
