/- Which statements are right: the program's answer. -/
import Derived.Test.YtpmeklllgnnffaaGreatDoorU30
set_option linter.unusedSimpArgs false
set_option linter.unusedVariables false

namespace Go.Abs
set_option linter.unusedSimpArgs false
set_option linter.unusedVariables false
open Go Go.Proofs
attribute [local simp] i_nil i_blk i_skip i_ret i_exit i_seq i_block i_cond i_region' i_ops_nil i_ops i_drawn' k_none k_0 k_1 k_2 k_3 k_4 k_5 d_in a_nil a_cons alt1 h_nil h_one h_two z_nil z_cons z_cells zeqL zeq q_alloc q_some nxtN i_drh d_hi i_drw_nil i_drw u_nil u_code u_ops u_drw u_lp u_again u_exit u_ret u_panic c_bool o_some o_val o_panic d_some d_val d_panic w_none w_fast wantG q_nil q_zero q_succ t_zero t_succ g_zero g_succ s_zero s_succ s_some s_none v_tmp v_const v_func f_quiet gc_none gc_pure wrap_i64 p_move p_assign p_pick p_alloc p_box p_build p_buildSlice p_load p_store p_nilCheck p_binOp n_tmp n_int n_bool n_str n_ptr n_fun n_iface nilCmp p_unOp p_convert p_makeSlice p_makeInterface p_makeFunc p_slice p_fieldAddr p_field p_indexAddr p_index p_extract p_callv p_callb p_panic quiet_val new_val e_assign e_call e_load e_store e_alloc e_box e_move e_pick e_build e_buildSlice e_nilCheck e_binOp e_unOp e_convert e_makeSlice e_makeInterface e_makeFunc e_slice e_fieldAddr e_field e_indexAddr e_index e_extract e_panic callD fpRead adoptZ fulls adopt adoptL ofValue ofScalar binOpV unOpV intBin strBin eqRes veq veqF eqDepth val? finish resL r_tmp r_cell normL normTop tipIs refsL refs ownRefs single frz frzL ren renL renOwn callOp doCall backR writeBack builtinV loadV storeV storeW iceT cellsAt takeV D.isAgg overlay vcells cellOk fieldAddrV indexAddrV fieldV partV indexV buildV fillV buildSliceV litElems appendV appElems elemOk convertV convV winStr makeSliceV sliceV natOf
attribute [local simp ↓] brB_true brB_false brB_dec brB_not brB_and brB_or brB_beq brB_bne

def rightRuleS (b : StB) (n : Nat) (ra : Bool) : Bool :=
  ra && (decide (0 ≤ b.prio) && (decide (b.prio ≤ 999) && (decide (1 ≤ b.event) && (decide (b.event ≤ 3) && (rightFromS b.src b.wher 0 && (decide (b.rolls = decide ((n : Int) = 0)) && decide ((n : Int) ≤ 4)))))))
def rightK (b : StB) (n : Nat) (ra : Bool) : Bool :=
  if b.kind = 1 ∨ b.kind = 2 ∨ b.kind = 3 then true
  else if nameK b.kind then nameS b.name
  else if b.kind = 6 then nameS b.name && decide (colsS b.cols = 0)
  else if b.kind = 7 then nameS b.name && (nameS b.table && nameS b.col)
  else if b.kind = 8 then nameS b.name && (nameS b.table && rightRuleS b n ra)
  else if b.kind = 12 then
    if (0 : Int) < b.values.length then nameS b.table && (rightsE b.values 1 6 && decide ((b.items.length : Int) + b.src.length + b.wher.length = 0))
    else nameS b.table && (rightsE b.items 0 40 && rightFromS b.src b.wher 1)
  else if b.kind = 13 then nameS b.table && (rightSetsS b.sets && rightsE b.wher 0 1)
  else if b.kind = 14 then nameS b.table && rightsE b.wher 0 1
  else if b.kind = 15 then rightsE b.items 0 40 && rightFromS b.src b.wher 1
  else false
mutual
def rightStm : Stm → Bool
  | .mk b acts => bareS (.mk b acts) && rightK b acts.length (rightActs acts)
def rightActs : List Stm → Bool
  | [] => true
  | a :: l => (decide (12 ≤ a.b.kind) && (decide (a.b.kind ≤ 14) && rightStm a)) && rightActs l
end

theorem ev_rightrule (b : StB) (acts : List Stm) (h : b.ok) (hl : acts.length ≤ 1048576) (ihk : ∀ a ∈ acts, EV 15 [a.enc] [] = some (.ret (.bool (rightStm a)), [])) :
    EV 42 [(Stm.mk b acts).enc] [] = some (.ret (.bool (rightRuleS b acts.length (rightActs acts))), []) := by
  have hf := ev_rightfrom b acts h 0
  rw [EV_mki rfl Tryz.func42 rfl (by kernel_rfl) rfl, senc_mk]
  rw [senc_mk] at hf
  obtain ⟨kind, name, table, col, cols, values, items, wher, sets, src, prio, event, deferred, rolls⟩ := b
  dsimp only at hf ⊢
  simp [Tryz.f42, Tryz.ti3, Tryz.ti4, Tryz.ti9, Tryz.ti22, Tryz.ti23, Tryz.ti24, Tryz.ti25, Tryz.ti26, Tryz.ti28, Tryz.ti44, Tryz.ti46, Tryz.ti80, Tryz.ti84, Tryz.ti94]
  rw [i_loop (ts := [9, 10, 11, 4, 12, 13, 14, 15, 16, 17, 18, 19, 20, 21, 22, 23, 24, 25])]
  rotate_left
  · kernel_rfl
  refine i_at (fun i : {i : Nat // i ≤ acts.length} => acts.length - i.1) (fun i env => setV env 8 (.int .i64 i.1)) (fun i => _) (fun i => some (.ret (.bool (rightRuleS ⟨kind, name, table, col, cols, values, items, wher, sets, src, prio, event, deferred, rolls⟩ acts.length (rightActs (acts.drop i.1)))), [])) ⟨0, by omega⟩ (by simp [s_zero, s_succ]) rfl (by simp) ?_
  intro ⟨i, hil⟩ ih
  dsimp only at hil ⊢
  by_cases hi : i < acts.length
  · have ih := ih ⟨i + 1, by omega⟩ (by simp only; omega)
    have hwi : IntKind.i64.wrap ((i : Int) + 1) = (i : Int) + 1 := wrap_i64 (by omega)
    have hc := ihk acts[i] (List.getElem_mem hi)
    obtain ⟨t, hk⟩ : ∃ m, acts[i] = m := ⟨_, rfl⟩
    rw [List.drop_eq_getElem_cons hi, rightActs, hk]
    rw [hk] at hc
    obtain ⟨tb, ta⟩ := t
    rw [senc_mk] at hc
    simp only [s_zero, s_succ, Int.natCast_add, Int.natCast_one, Int.cast_ofNat_Int] at ih
    simp only [Stm.b]
    by_cases h1 : 12 ≤ tb.kind
    · have h1' : ¬ tb.kind < 12 := by omega
      by_cases h2 : tb.kind ≤ 14
      · have h2' : ¬ 14 < tb.kind := by omega
        cases hd : rightStm (.mk tb ta) <;> rw [hd] at hc
        · simp [i_again, roundEnd, dropT, cleanV, Tryz.f42, Tryz.ti3, Tryz.ti4, Tryz.ti9, Tryz.ti22, Tryz.ti23, Tryz.ti24, Tryz.ti25, Tryz.ti26, Tryz.ti28, Tryz.ti44, Tryz.ti46, Tryz.ti80, Tryz.ti84, Tryz.ti94, hi, hk, senc_mk, h1, h1', h2, h2', hc, rightRuleS]
        · simp [i_again, roundEnd, dropT, cleanV, Tryz.f42, Tryz.ti3, Tryz.ti4, Tryz.ti9, Tryz.ti22, Tryz.ti23, Tryz.ti24, Tryz.ti25, Tryz.ti26, Tryz.ti28, Tryz.ti44, Tryz.ti46, Tryz.ti80, Tryz.ti84, Tryz.ti94, hi, hk, senc_mk, h1, h1', h2, h2', hc, hwi, ih]
      · have h2' : 14 < tb.kind := by omega
        simp [i_again, roundEnd, dropT, cleanV, Tryz.f42, Tryz.ti3, Tryz.ti4, Tryz.ti9, Tryz.ti22, Tryz.ti23, Tryz.ti24, Tryz.ti25, Tryz.ti26, Tryz.ti28, Tryz.ti44, Tryz.ti46, Tryz.ti80, Tryz.ti84, Tryz.ti94, hi, hk, senc_mk, h1, h1', h2, h2', rightRuleS]
    · have h1' : tb.kind < 12 := by omega
      simp [i_again, roundEnd, dropT, cleanV, Tryz.f42, Tryz.ti3, Tryz.ti4, Tryz.ti9, Tryz.ti22, Tryz.ti23, Tryz.ti24, Tryz.ti25, Tryz.ti26, Tryz.ti28, Tryz.ti44, Tryz.ti46, Tryz.ti80, Tryz.ti84, Tryz.ti94, hi, hk, senc_mk, h1, h1', rightRuleS]
  · rw [List.drop_of_length_le (by omega)]
    simp only [rightRuleS, rightActs]
    by_cases p1 : 0 ≤ prio
    · by_cases p2 : prio ≤ 999
      · by_cases e1 : 1 ≤ event
        · by_cases e2 : event ≤ 3
          · cases hr : rightFromS src wher 0 <;> rw [hr] at hf
            · simp [i_again, roundEnd, dropT, cleanV, Tryz.f42, Tryz.ti3, Tryz.ti4, Tryz.ti9, Tryz.ti22, Tryz.ti23, Tryz.ti24, Tryz.ti25, Tryz.ti26, Tryz.ti28, Tryz.ti44, Tryz.ti46, Tryz.ti80, Tryz.ti84, Tryz.ti94, hi, p1, p2, e1, e2, hf]
            · by_cases n0 : acts = []
              · subst n0
                simp only [List.map_nil] at hf
                have hi0 : ¬ (i : Int) < 0 := by omega
                cases rolls
                · simp [i_again, roundEnd, dropT, cleanV, Tryz.f42, Tryz.ti3, Tryz.ti4, Tryz.ti9, Tryz.ti22, Tryz.ti23, Tryz.ti24, Tryz.ti25, Tryz.ti26, Tryz.ti28, Tryz.ti44, Tryz.ti46, Tryz.ti80, Tryz.ti84, Tryz.ti94, hi0, p1, p2, e1, e2, hf]
                · simp [i_again, roundEnd, dropT, cleanV, Tryz.f42, Tryz.ti3, Tryz.ti4, Tryz.ti9, Tryz.ti22, Tryz.ti23, Tryz.ti24, Tryz.ti25, Tryz.ti26, Tryz.ti28, Tryz.ti44, Tryz.ti46, Tryz.ti80, Tryz.ti84, Tryz.ti94, hi0, p1, p2, e1, e2, hf]
              · have n1 : ¬ acts.length = 0 := fun e => n0 (List.eq_nil_of_length_eq_zero e)
                have n1' : ¬ (acts.length : Int) = 0 := by omega
                cases rolls
                · by_cases n4 : (acts.length : Int) ≤ 4
                  · have n4' : acts.length ≤ 4 := by omega
                    simp [i_again, roundEnd, dropT, cleanV, Tryz.f42, Tryz.ti3, Tryz.ti4, Tryz.ti9, Tryz.ti22, Tryz.ti23, Tryz.ti24, Tryz.ti25, Tryz.ti26, Tryz.ti28, Tryz.ti44, Tryz.ti46, Tryz.ti80, Tryz.ti84, Tryz.ti94, hi, p1, p2, e1, e2, hf, n0, n1, n1', n4, n4']
                  · have n4' : ¬ acts.length ≤ 4 := by omega
                    simp [i_again, roundEnd, dropT, cleanV, Tryz.f42, Tryz.ti3, Tryz.ti4, Tryz.ti9, Tryz.ti22, Tryz.ti23, Tryz.ti24, Tryz.ti25, Tryz.ti26, Tryz.ti28, Tryz.ti44, Tryz.ti46, Tryz.ti80, Tryz.ti84, Tryz.ti94, hi, p1, p2, e1, e2, hf, n0, n1, n1', n4, n4']
                · simp [i_again, roundEnd, dropT, cleanV, Tryz.f42, Tryz.ti3, Tryz.ti4, Tryz.ti9, Tryz.ti22, Tryz.ti23, Tryz.ti24, Tryz.ti25, Tryz.ti26, Tryz.ti28, Tryz.ti44, Tryz.ti46, Tryz.ti80, Tryz.ti84, Tryz.ti94, hi, p1, p2, e1, e2, hf, n0, n1, n1']
          · simp [i_again, roundEnd, dropT, cleanV, Tryz.f42, Tryz.ti3, Tryz.ti4, Tryz.ti9, Tryz.ti22, Tryz.ti23, Tryz.ti24, Tryz.ti25, Tryz.ti26, Tryz.ti28, Tryz.ti44, Tryz.ti46, Tryz.ti80, Tryz.ti84, Tryz.ti94, hi, p1, p2, e1, e2]
        · simp [i_again, roundEnd, dropT, cleanV, Tryz.f42, Tryz.ti3, Tryz.ti4, Tryz.ti9, Tryz.ti22, Tryz.ti23, Tryz.ti24, Tryz.ti25, Tryz.ti26, Tryz.ti28, Tryz.ti44, Tryz.ti46, Tryz.ti80, Tryz.ti84, Tryz.ti94, hi, p1, p2, e1]
      · simp [i_again, roundEnd, dropT, cleanV, Tryz.f42, Tryz.ti3, Tryz.ti4, Tryz.ti9, Tryz.ti22, Tryz.ti23, Tryz.ti24, Tryz.ti25, Tryz.ti26, Tryz.ti28, Tryz.ti44, Tryz.ti46, Tryz.ti80, Tryz.ti84, Tryz.ti94, hi, p1, p2]
    · simp [i_again, roundEnd, dropT, cleanV, Tryz.f42, Tryz.ti3, Tryz.ti4, Tryz.ti9, Tryz.ti22, Tryz.ti23, Tryz.ti24, Tryz.ti25, Tryz.ti26, Tryz.ti28, Tryz.ti44, Tryz.ti46, Tryz.ti80, Tryz.ti84, Tryz.ti94, hi, p1]

section
variable (b : StB) (acts : List Stm) (h : b.ok) (hl : acts.length ≤ 1048576)
set_option maxRecDepth 100000 in
set_option maxHeartbeats 4000000 in
theorem ev_right_notbare (hb : bareS (.mk b acts) = false) : EV 15 [(Stm.mk b acts).enc] [] = some (.ret (.bool (rightStm (.mk b acts))), []) := by
  have hbb := ev_bare (.mk b acts)
  rw [hb] at hbb
  simp only [rightStm, hb, Bool.false_and]
  rw [EV_mki rfl Tryz.func15 rfl (by kernel_rfl) rfl, senc_mk]
  rw [senc_mk] at hbb
  simp [Tryz.f15, Tryz.ti3, Tryz.ti4, Tryz.ti9, Tryz.ti22, Tryz.ti23, Tryz.ti24, Tryz.ti25, Tryz.ti26, Tryz.ti28, Tryz.ti44, Tryz.ti46, Tryz.ti56, Tryz.ti80, Tryz.ti84, Tryz.ti94, hbb]
include h
set_option maxRecDepth 100000 in
set_option maxHeartbeats 8000000 in
theorem ev_right_small (hb : bareS (.mk b acts) = true) (hk : ¬ b.kind = 8) (hk2 : ¬ b.kind = 12) (hk3 : ¬ b.kind = 13) (hk4 : ¬ b.kind = 14) (hk5 : ¬ b.kind = 15) : EV 15 [(Stm.mk b acts).enc] [] = some (.ret (.bool (rightStm (.mk b acts))), []) := by
  have hbb := ev_bare (.mk b acts)
  rw [hb] at hbb
  simp only [rightStm, hb, Bool.true_and]
  have n1 := ev_name b.name (by have := h.name; omega)
  have n2 := ev_name b.table (by have := h.table; omega)
  have n3 := ev_name b.col (by have := h.col; omega)
  have hc := ev_columns b.cols h.cols.1 h.cols.2
  generalize rightActs acts = ra
  rw [EV_mki rfl Tryz.func15 rfl (by kernel_rfl) rfl, senc_mk]
  rw [senc_mk] at hbb
  obtain ⟨kind, name, table, col, cols, values, items, wher, sets, src, prio, event, deferred, rolls⟩ := b
  dsimp only at hk hk2 hk3 hk4 hk5 n1 n2 n3 hc hbb ⊢
  simp only [rightK, nameK]
  by_cases k123 : kind = 1 ∨ kind = 2 ∨ kind = 3
  · rcases k123 with rfl | rfl | rfl <;> simp [Tryz.f15, Tryz.ti3, Tryz.ti4, Tryz.ti9, Tryz.ti22, Tryz.ti23, Tryz.ti24, Tryz.ti25, Tryz.ti26, Tryz.ti28, Tryz.ti44, Tryz.ti46, Tryz.ti56, Tryz.ti80, Tryz.ti84, Tryz.ti94, hbb]
  simp only [not_or] at k123
  obtain ⟨k1, k2, k3⟩ := k123
  by_cases kn : kind = 4 ∨ kind = 5 ∨ kind = 9 ∨ kind = 10 ∨ kind = 11
  · rcases kn with rfl | rfl | rfl | rfl | rfl <;> simp [Tryz.f15, Tryz.ti3, Tryz.ti4, Tryz.ti9, Tryz.ti22, Tryz.ti23, Tryz.ti24, Tryz.ti25, Tryz.ti26, Tryz.ti28, Tryz.ti44, Tryz.ti46, Tryz.ti56, Tryz.ti80, Tryz.ti84, Tryz.ti94, hbb, n1]
  simp only [not_or] at kn
  obtain ⟨k4, k5, k9, k10, k11⟩ := kn
  by_cases k6 : kind = 6
  · subst k6
    cases hn1 : nameS name <;> rw [hn1] at n1
    · simp [Tryz.f15, Tryz.ti3, Tryz.ti4, Tryz.ti9, Tryz.ti22, Tryz.ti23, Tryz.ti24, Tryz.ti25, Tryz.ti26, Tryz.ti28, Tryz.ti44, Tryz.ti46, Tryz.ti56, Tryz.ti80, Tryz.ti84, Tryz.ti94, hbb, n1]
    · simp [Tryz.f15, Tryz.ti3, Tryz.ti4, Tryz.ti9, Tryz.ti22, Tryz.ti23, Tryz.ti24, Tryz.ti25, Tryz.ti26, Tryz.ti28, Tryz.ti44, Tryz.ti46, Tryz.ti56, Tryz.ti80, Tryz.ti84, Tryz.ti94, hbb, n1, hc]
  by_cases k7 : kind = 7
  · subst k7
    cases hn1 : nameS name <;> rw [hn1] at n1
    · simp [Tryz.f15, Tryz.ti3, Tryz.ti4, Tryz.ti9, Tryz.ti22, Tryz.ti23, Tryz.ti24, Tryz.ti25, Tryz.ti26, Tryz.ti28, Tryz.ti44, Tryz.ti46, Tryz.ti56, Tryz.ti80, Tryz.ti84, Tryz.ti94, hbb, n1]
    · cases hn2 : nameS table <;> rw [hn2] at n2
      · simp [Tryz.f15, Tryz.ti3, Tryz.ti4, Tryz.ti9, Tryz.ti22, Tryz.ti23, Tryz.ti24, Tryz.ti25, Tryz.ti26, Tryz.ti28, Tryz.ti44, Tryz.ti46, Tryz.ti56, Tryz.ti80, Tryz.ti84, Tryz.ti94, hbb, n1, n2]
      · simp [Tryz.f15, Tryz.ti3, Tryz.ti4, Tryz.ti9, Tryz.ti22, Tryz.ti23, Tryz.ti24, Tryz.ti25, Tryz.ti26, Tryz.ti28, Tryz.ti44, Tryz.ti46, Tryz.ti56, Tryz.ti80, Tryz.ti84, Tryz.ti94, hbb, n1, n2, n3]
  simp [Tryz.f15, Tryz.ti3, Tryz.ti4, Tryz.ti9, Tryz.ti22, Tryz.ti23, Tryz.ti24, Tryz.ti25, Tryz.ti26, Tryz.ti28, Tryz.ti44, Tryz.ti46, Tryz.ti56, Tryz.ti80, Tryz.ti84, Tryz.ti94, hbb, k1, k2, k3, k4, k5, k6, k7, hk, k9, k10, k11, hk2, hk3, hk4, hk5]
set_option maxRecDepth 100000 in
set_option maxHeartbeats 8000000 in
theorem ev_right_rule (hb : bareS (.mk b acts) = true) (hk : b.kind = 8) (hl : acts.length ≤ 1048576) (ihk : ∀ a ∈ acts, EV 15 [a.enc] [] = some (.ret (.bool (rightStm a)), [])) : EV 15 [(Stm.mk b acts).enc] [] = some (.ret (.bool (rightStm (.mk b acts))), []) := by
  have hbb := ev_bare (.mk b acts)
  rw [hb] at hbb
  have hr := ev_rightrule b acts h hl ihk
  simp only [rightStm, hb, Bool.true_and]
  have n1 := ev_name b.name (by have := h.name; omega)
  have n2 := ev_name b.table (by have := h.table; omega)
  have hK : ∀ ra, rightK b acts.length ra = (nameS b.name && (nameS b.table && rightRuleS b acts.length ra)) := fun ra => by simp [rightK, nameK, hk]
  rw [hK]
  generalize rightRuleS b acts.length (rightActs acts) = rr at hr ⊢
  rw [EV_mki rfl Tryz.func15 rfl (by kernel_rfl) rfl, senc_mk]
  rw [senc_mk] at hbb hr
  obtain ⟨kind, name, table, col, cols, values, items, wher, sets, src, prio, event, deferred, rolls⟩ := b
  dsimp only at hk n1 n2 hbb hr ⊢
  subst hk
  cases hn1 : nameS name <;> rw [hn1] at n1
  · simp [Tryz.f15, Tryz.ti3, Tryz.ti4, Tryz.ti9, Tryz.ti22, Tryz.ti23, Tryz.ti24, Tryz.ti25, Tryz.ti26, Tryz.ti28, Tryz.ti44, Tryz.ti46, Tryz.ti56, Tryz.ti80, Tryz.ti84, Tryz.ti94, hbb, n1]
  · cases hn2 : nameS table <;> rw [hn2] at n2
    · simp [Tryz.f15, Tryz.ti3, Tryz.ti4, Tryz.ti9, Tryz.ti22, Tryz.ti23, Tryz.ti24, Tryz.ti25, Tryz.ti26, Tryz.ti28, Tryz.ti44, Tryz.ti46, Tryz.ti56, Tryz.ti80, Tryz.ti84, Tryz.ti94, hbb, n1, n2]
    · simp [Tryz.f15, Tryz.ti3, Tryz.ti4, Tryz.ti9, Tryz.ti22, Tryz.ti23, Tryz.ti24, Tryz.ti25, Tryz.ti26, Tryz.ti28, Tryz.ti44, Tryz.ti46, Tryz.ti56, Tryz.ti80, Tryz.ti84, Tryz.ti94, hbb, n1, n2, hr]
set_option maxRecDepth 100000 in
set_option maxHeartbeats 8000000 in
theorem ev_right_insert (hb : bareS (.mk b acts) = true) (hk : b.kind = 12) : EV 15 [(Stm.mk b acts).enc] [] = some (.ret (.bool (rightStm (.mk b acts))), []) := by
  have hbb := ev_bare (.mk b acts)
  rw [hb] at hbb
  simp only [rightStm, hb, Bool.true_and]
  have n2 := ev_name b.table (by have := h.table; omega)
  have hv := ev_rightall b.values h.values.1 h.values.2 1 6
  have hi := ev_rightall b.items h.items.1 h.items.2 0 40
  have hf := ev_rightfrom b acts h 1
  have hK : ∀ ra, rightK b acts.length ra = if (0 : Int) < b.values.length then nameS b.table && (rightsE b.values 1 6 && decide ((b.items.length : Int) + b.src.length + b.wher.length = 0)) else nameS b.table && (rightsE b.items 0 40 && rightFromS b.src b.wher 1) := fun ra => by simp [rightK, nameK, hk]
  rw [hK]
  have w1 : IntKind.i64.wrap ((b.items.length : Int) + b.src.length) = (b.items.length : Int) + b.src.length := wrap_i64 (by have := h.items.1; have := h.src.1; omega)
  have w2 : IntKind.i64.wrap ((b.items.length : Int) + b.src.length + b.wher.length) = (b.items.length : Int) + b.src.length + b.wher.length := wrap_i64 (by have := h.items.1; have := h.src.1; have := h.wher.1; omega)
  generalize rightFromS b.src b.wher 1 = rf at hf ⊢
  generalize rightsE b.values 1 6 = rv at hv ⊢
  generalize rightsE b.items 0 40 = ri at hi ⊢
  rw [EV_mki rfl Tryz.func15 rfl (by kernel_rfl) rfl, senc_mk]
  rw [senc_mk] at hbb hf
  obtain ⟨kind, name, table, col, cols, values, items, wher, sets, src, prio, event, deferred, rolls⟩ := b
  dsimp only at hk n2 hbb hf hv hi w1 w2 ⊢
  subst hk
  cases hn2 : nameS table <;> rw [hn2] at n2
  · by_cases h0 : 0 < values.length <;> simp [Tryz.f15, Tryz.ti3, Tryz.ti4, Tryz.ti9, Tryz.ti22, Tryz.ti23, Tryz.ti24, Tryz.ti25, Tryz.ti26, Tryz.ti28, Tryz.ti44, Tryz.ti46, Tryz.ti56, Tryz.ti80, Tryz.ti84, Tryz.ti94, hbb, n2, h0]
  · by_cases h0 : (0 : Int) < values.length
    · have h0' : 0 < values.length := by omega
      cases rv
      · simp [Tryz.f15, Tryz.ti3, Tryz.ti4, Tryz.ti9, Tryz.ti22, Tryz.ti23, Tryz.ti24, Tryz.ti25, Tryz.ti26, Tryz.ti28, Tryz.ti44, Tryz.ti46, Tryz.ti56, Tryz.ti80, Tryz.ti84, Tryz.ti94, hbb, n2, h0, h0', hv]
      · simp [Tryz.f15, Tryz.ti3, Tryz.ti4, Tryz.ti9, Tryz.ti22, Tryz.ti23, Tryz.ti24, Tryz.ti25, Tryz.ti26, Tryz.ti28, Tryz.ti44, Tryz.ti46, Tryz.ti56, Tryz.ti80, Tryz.ti84, Tryz.ti94, hbb, n2, h0, h0', hv, w1, w2]
    · have h0' : ¬ 0 < values.length := by omega
      cases ri
      · simp [Tryz.f15, Tryz.ti3, Tryz.ti4, Tryz.ti9, Tryz.ti22, Tryz.ti23, Tryz.ti24, Tryz.ti25, Tryz.ti26, Tryz.ti28, Tryz.ti44, Tryz.ti46, Tryz.ti56, Tryz.ti80, Tryz.ti84, Tryz.ti94, hbb, n2, h0, h0', hi]
      · simp [Tryz.f15, Tryz.ti3, Tryz.ti4, Tryz.ti9, Tryz.ti22, Tryz.ti23, Tryz.ti24, Tryz.ti25, Tryz.ti26, Tryz.ti28, Tryz.ti44, Tryz.ti46, Tryz.ti56, Tryz.ti80, Tryz.ti84, Tryz.ti94, hbb, n2, h0, h0', hi, hf]
set_option maxRecDepth 100000 in
set_option maxHeartbeats 8000000 in
theorem ev_right_update (hb : bareS (.mk b acts) = true) (hk : b.kind = 13) : EV 15 [(Stm.mk b acts).enc] [] = some (.ret (.bool (rightStm (.mk b acts))), []) := by
  have hbb := ev_bare (.mk b acts)
  rw [hb] at hbb
  simp only [rightStm, hb, Bool.true_and]
  have n2 := ev_name b.table (by have := h.table; omega)
  have hs := ev_rightsets b.sets h.sets.1 h.sets.2
  have hw := ev_rightall b.wher h.wher.1 h.wher.2 0 1
  have hK : ∀ ra, rightK b acts.length ra = (nameS b.table && (rightSetsS b.sets && rightsE b.wher 0 1)) := fun ra => by simp [rightK, nameK, hk]
  rw [hK]
  generalize rightSetsS b.sets = rs at hs ⊢
  generalize rightsE b.wher 0 1 = rw_ at hw ⊢
  rw [EV_mki rfl Tryz.func15 rfl (by kernel_rfl) rfl, senc_mk]
  rw [senc_mk] at hbb
  obtain ⟨kind, name, table, col, cols, values, items, wher, sets, src, prio, event, deferred, rolls⟩ := b
  dsimp only at hk n2 hbb hs hw ⊢
  subst hk
  cases hn2 : nameS table <;> rw [hn2] at n2
  · simp [Tryz.f15, Tryz.ti3, Tryz.ti4, Tryz.ti9, Tryz.ti22, Tryz.ti23, Tryz.ti24, Tryz.ti25, Tryz.ti26, Tryz.ti28, Tryz.ti44, Tryz.ti46, Tryz.ti56, Tryz.ti80, Tryz.ti84, Tryz.ti94, hbb, n2]
  · cases rs
    · simp [Tryz.f15, Tryz.ti3, Tryz.ti4, Tryz.ti9, Tryz.ti22, Tryz.ti23, Tryz.ti24, Tryz.ti25, Tryz.ti26, Tryz.ti28, Tryz.ti44, Tryz.ti46, Tryz.ti56, Tryz.ti80, Tryz.ti84, Tryz.ti94, hbb, n2, hs]
    · simp [Tryz.f15, Tryz.ti3, Tryz.ti4, Tryz.ti9, Tryz.ti22, Tryz.ti23, Tryz.ti24, Tryz.ti25, Tryz.ti26, Tryz.ti28, Tryz.ti44, Tryz.ti46, Tryz.ti56, Tryz.ti80, Tryz.ti84, Tryz.ti94, hbb, n2, hs, hw]
set_option maxRecDepth 100000 in
set_option maxHeartbeats 8000000 in
theorem ev_right_delete (hb : bareS (.mk b acts) = true) (hk : b.kind = 14) : EV 15 [(Stm.mk b acts).enc] [] = some (.ret (.bool (rightStm (.mk b acts))), []) := by
  have hbb := ev_bare (.mk b acts)
  rw [hb] at hbb
  simp only [rightStm, hb, Bool.true_and]
  have n2 := ev_name b.table (by have := h.table; omega)
  have hw := ev_rightall b.wher h.wher.1 h.wher.2 0 1
  have hK : ∀ ra, rightK b acts.length ra = (nameS b.table && rightsE b.wher 0 1) := fun ra => by simp [rightK, nameK, hk]
  rw [hK]
  generalize rightsE b.wher 0 1 = rw_ at hw ⊢
  rw [EV_mki rfl Tryz.func15 rfl (by kernel_rfl) rfl, senc_mk]
  rw [senc_mk] at hbb
  obtain ⟨kind, name, table, col, cols, values, items, wher, sets, src, prio, event, deferred, rolls⟩ := b
  dsimp only at hk n2 hbb hw ⊢
  subst hk
  cases hn2 : nameS table <;> rw [hn2] at n2
  · simp [Tryz.f15, Tryz.ti3, Tryz.ti4, Tryz.ti9, Tryz.ti22, Tryz.ti23, Tryz.ti24, Tryz.ti25, Tryz.ti26, Tryz.ti28, Tryz.ti44, Tryz.ti46, Tryz.ti56, Tryz.ti80, Tryz.ti84, Tryz.ti94, hbb, n2]
  · simp [Tryz.f15, Tryz.ti3, Tryz.ti4, Tryz.ti9, Tryz.ti22, Tryz.ti23, Tryz.ti24, Tryz.ti25, Tryz.ti26, Tryz.ti28, Tryz.ti44, Tryz.ti46, Tryz.ti56, Tryz.ti80, Tryz.ti84, Tryz.ti94, hbb, n2, hw]
set_option maxRecDepth 100000 in
set_option maxHeartbeats 8000000 in
theorem ev_right_select (hb : bareS (.mk b acts) = true) (hk : b.kind = 15) : EV 15 [(Stm.mk b acts).enc] [] = some (.ret (.bool (rightStm (.mk b acts))), []) := by
  have hbb := ev_bare (.mk b acts)
  rw [hb] at hbb
  simp only [rightStm, hb, Bool.true_and]
  have hi := ev_rightall b.items h.items.1 h.items.2 0 40
  have hf := ev_rightfrom b acts h 1
  have hK : ∀ ra, rightK b acts.length ra = (rightsE b.items 0 40 && rightFromS b.src b.wher 1) := fun ra => by simp [rightK, nameK, hk]
  rw [hK]
  generalize rightFromS b.src b.wher 1 = rf at hf ⊢
  generalize rightsE b.items 0 40 = ri at hi ⊢
  rw [EV_mki rfl Tryz.func15 rfl (by kernel_rfl) rfl, senc_mk]
  rw [senc_mk] at hbb hf
  obtain ⟨kind, name, table, col, cols, values, items, wher, sets, src, prio, event, deferred, rolls⟩ := b
  dsimp only at hk hbb hf hi ⊢
  subst hk
  cases ri
  · simp [Tryz.f15, Tryz.ti3, Tryz.ti4, Tryz.ti9, Tryz.ti22, Tryz.ti23, Tryz.ti24, Tryz.ti25, Tryz.ti26, Tryz.ti28, Tryz.ti44, Tryz.ti46, Tryz.ti56, Tryz.ti80, Tryz.ti84, Tryz.ti94, hbb, hi]
  · simp [Tryz.f15, Tryz.ti3, Tryz.ti4, Tryz.ti9, Tryz.ti22, Tryz.ti23, Tryz.ti24, Tryz.ti25, Tryz.ti26, Tryz.ti28, Tryz.ti44, Tryz.ti46, Tryz.ti56, Tryz.ti80, Tryz.ti84, Tryz.ti94, hbb, hi, hf]
end
mutual
theorem ev_rightstm : ∀ s : Stm, s.ok → EV 15 [s.enc] [] = some (.ret (.bool (rightStm s)), [])
  | .mk b acts, h => by
    have ihk := ev_rightstms acts h.2.2
    cases hb : bareS (.mk b acts)
    · exact ev_right_notbare b acts hb
    · by_cases k8 : b.kind = 8
      · exact ev_right_rule b acts h.1 hb k8 h.2.1 ihk
      by_cases k12 : b.kind = 12
      · exact ev_right_insert b acts h.1 hb k12
      by_cases k13 : b.kind = 13
      · exact ev_right_update b acts h.1 hb k13
      by_cases k14 : b.kind = 14
      · exact ev_right_delete b acts h.1 hb k14
      by_cases k15 : b.kind = 15
      · exact ev_right_select b acts h.1 hb k15
      exact ev_right_small b acts h.1 hb k8 k12 k13 k14 k15
theorem ev_rightstms : ∀ l : List Stm, Stm.oks l → ∀ a ∈ l, EV 15 [a.enc] [] = some (.ret (.bool (rightStm a)), [])
  | [], _, a, ha => by cases ha
  | s :: l, h, a, ha => by
    rcases List.mem_cons.1 ha with ha | ha
    · rw [ha]; exact ev_rightstm s h.1
    · exact ev_rightstms l h.2 a ha
end
end Go.Abs

