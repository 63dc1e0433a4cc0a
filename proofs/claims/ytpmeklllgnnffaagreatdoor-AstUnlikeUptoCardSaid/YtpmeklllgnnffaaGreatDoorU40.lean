/- Statements' texts: queries, rules and all. -/
import Derived.Test.YtpmeklllgnnffaaGreatDoorU39
set_option linter.unusedSimpArgs false
set_option linter.unusedVariables false

namespace Go.Abs
set_option linter.unusedSimpArgs false
set_option linter.unusedVariables false
open Go Go.Proofs
attribute [local simp] i_nil i_blk i_skip i_ret i_exit i_seq i_block i_cond i_region' i_ops_nil i_ops i_drawn' k_none k_0 k_1 k_2 k_3 k_4 k_5 d_in a_nil a_cons alt1 h_nil h_one h_two z_nil z_cons z_cells zeqL zeq q_alloc q_some nxtN i_drh d_hi i_drw_nil i_drw u_nil u_code u_ops u_drw u_lp u_again u_exit u_ret u_panic c_bool o_some o_val o_panic d_some d_val d_panic w_none w_fast wantG q_nil q_zero q_succ t_zero t_succ g_zero g_succ s_zero s_succ s_some s_none v_tmp v_const v_func f_quiet gc_none gc_pure wrap_i64 p_move p_assign p_pick p_alloc p_box p_build p_buildSlice p_load p_store p_nilCheck p_binOp n_tmp n_int n_bool n_str n_ptr n_fun n_iface nilCmp p_unOp p_convert p_makeSlice p_makeInterface p_makeFunc p_slice p_fieldAddr p_field p_indexAddr p_index p_extract p_callv p_callb p_panic quiet_val new_val e_assign e_call e_load e_store e_alloc e_box e_move e_pick e_build e_buildSlice e_nilCheck e_binOp e_unOp e_convert e_makeSlice e_makeInterface e_makeFunc e_slice e_fieldAddr e_field e_indexAddr e_index e_extract e_panic callD fpRead adoptZ fulls adopt adoptL ofValue ofScalar binOpV unOpV intBin strBin eqRes veq veqF eqDepth val? finish resL r_tmp r_cell normL normTop tipIs refsL refs ownRefs single frz frzL ren renL renOwn callOp doCall backR writeBack builtinV loadV storeV storeW iceT cellsAt takeV D.isAgg overlay vcells cellOk fieldAddrV indexAddrV fieldV partV indexV buildV fillV buildSliceV litElems appendV appElems elemOk convertV convV winStr makeSliceV sliceV natOf
attribute [local simp ↓] brB_true brB_false brB_dec brB_not brB_and brB_or brB_beq brB_bne

theorem from_parts {src : List Src} {wher : List Xp} {least : Int} (h : rightFromS src wher least = true) : (∀ x ∈ src, rightSrc x = true) ∧ src.length ≤ 3 ∧ least ≤ (src.length : Int) ∧ rightsE wher 0 1 = true := by
  simp only [rightFromS, Bool.and_eq_true, List.all_eq_true, decide_eq_true_eq] at h
  obtain ⟨h1, h2, h3, h4⟩ := h
  refine ⟨h1, by omega, h2, ?_⟩
  simp only [rightsE, Bool.and_eq_true, List.all_eq_true, decide_eq_true_eq] at h4 ⊢
  refine ⟨h4.1, h4.2.1, ?_⟩
  have := h4.2.2
  split at this <;> omega
theorem ev_srcs {src : List Src} (h : ∀ x ∈ src, rightSrc x = true) (hl : src.length ≤ 3) : EV 90 [.slice .froz (src.map Src.enc), .func 91 [] []] [] = some (.ret (.str (commaS (src.map showSrcS))), []) ∧ (commaS (src.map showSrcS)).length ≤ 1000000002000 :=
  ⟨ev_list_src showSrcS src (by omega) (fun x hx => (ev_showsource x (h x hx)).1) (fun x hx => by have := (ev_showsource x (h x hx)).2; omega),
   comma_len _ (by simp; omega) (fun x hx => by obtain ⟨y, hy, rfl⟩ := List.mem_map.1 hx; have := (ev_showsource y (h y hy)).2; omega)⟩
theorem ev_xps {l : List Xp} (h : ∀ x ∈ l, rightE 20 x = true) (ho : ∀ x ∈ l, x.ok) (hl : l.length ≤ 1000) : EV 53 [.slice .froz (l.map Xp.enc), .func 54 [] []] [] = some (.ret (.str (commaS (l.map showE))), []) ∧ (commaS (l.map showE)).length ≤ 1000000002000 :=
  ⟨ev_list_xp showE l hl (fun x hx => (right_shows (h x hx) (ho x hx)).1) (fun x hx => by have := (right_shows (h x hx) (ho x hx)).2; omega),
   comma_len _ (by simp; omega) (fun x hx => by obtain ⟨y, hy, rfl⟩ := List.mem_map.1 hx; have := (right_shows (h y hy) (ho y hy)).2; omega)⟩
set_option maxRecDepth 100000 in
set_option maxHeartbeats 4000000 in
theorem ev_query (b : StB) (acts : List Stm) (h : b.ok) (hi : rightsE b.items 0 40 = true) (hf : rightFromS b.src b.wher 1 = true) : EV 55 [(Stm.mk b acts).enc] [] = some (.ret (.str (queryS b)), []) ∧ (queryS b).length ≤ 3000000000000 := by
  obtain ⟨f1, f2, f3, f4⟩ := from_parts hf
  obtain ⟨i1, _, i3⟩ := rights_all hi
  obtain ⟨hw, hwl⟩ := ev_where b acts f4 h.wher.2
  obtain ⟨hs, hsl⟩ := ev_srcs f1 f2
  obtain ⟨hx, hxl⟩ := ev_xps i1 h.items.2 (by omega)
  constructor
  · rw [EV_mki rfl Tryz.func55 rfl (by kernel_rfl) rfl]
    simp only [queryS, itemsS]
    rw [senc_mk] at hw ⊢
    obtain ⟨kind, name, table, col, cols, values, items, wher, sets, src, prio, event, deferred, rolls⟩ := b
    dsimp only at hw hs hx hwl hsl hxl ⊢
    generalize whereS wher = W at hw hwl ⊢
    generalize commaS (src.map showSrcS) = S at hs hsl ⊢
    by_cases h0 : items = []
    · subst h0
      simp only [List.map_nil] at hw
      simp (disch := first | ((try simp only [List.length_cons, List.length_append, List.length_nil]); omega) | simp [refsL, refs]) [-strBin, sb_add, sb_eql, sb_neq, sb_lss, Tryz.f55, Tryz.ti3, Tryz.ti4, Tryz.ti9, Tryz.ti22, Tryz.ti23, Tryz.ti24, Tryz.ti25, Tryz.ti26, Tryz.ti28, Tryz.ti44, Tryz.ti46, Tryz.ti80, Tryz.ti84, Tryz.ti94, hs, hw] <;> first | (refine panQ_of ?_; decide +kernel) | (change _ = true; decide +kernel) | kernel_rfl | (refine ⟨?_, ?_⟩ <;> first | (change _ = true; decide +kernel) | kernel_rfl)
    · generalize commaS (items.map showE) = I at hx hxl ⊢
      have hpos : 0 < items.length := List.length_pos_iff.2 h0
      simp (disch := first | ((try simp only [List.length_cons, List.length_append, List.length_nil]); omega) | simp [refsL, refs]) [-strBin, sb_add, sb_eql, sb_neq, sb_lss, Tryz.f55, Tryz.ti3, Tryz.ti4, Tryz.ti9, Tryz.ti22, Tryz.ti23, Tryz.ti24, Tryz.ti25, Tryz.ti26, Tryz.ti28, Tryz.ti44, Tryz.ti46, Tryz.ti80, Tryz.ti84, Tryz.ti94, hs, hw, hx, h0, hpos] <;> first | (refine panQ_of ?_; decide +kernel) | (change _ = true; decide +kernel) | kernel_rfl | (refine ⟨?_, ?_⟩ <;> first | (change _ = true; decide +kernel) | kernel_rfl)
  · simp only [queryS, itemsS]
    split <;> simp <;> omega

theorem itoa_len (n : Int) (h : inI n) : (Lib.itoa n).length ≤ 21 := Lib.itoa_length_le n h.1 h.2
theorem eventW_len (k : Int) : (eventW k).length ≤ 6 := by
  unfold eventW
  repeat' split
  all_goals simp
def ruleTail (b : StB) (acts : List (List UInt8)) : List UInt8 := if b.rolls = true then ruleHead b ++ [32, 68, 79, 32, 82, 79, 76, 76, 66, 65, 67, 75] else ruleHead b ++ ([32, 68, 79, 32] ++ (Lib.join acts [59, 32] ++ [32, 69, 78, 68]))
theorem rule_parts {b : StB} {n : Nat} {ra : Bool} (h : rightRuleS b n ra = true) : ra = true ∧ 0 ≤ b.prio ∧ b.prio ≤ 999 ∧ (b.event = 1 ∨ b.event = 2 ∨ b.event = 3) ∧ rightFromS b.src b.wher 0 = true ∧ (b.rolls = true ↔ n = 0) ∧ n ≤ 4 := by
  simp only [rightRuleS, Bool.and_eq_true, decide_eq_true_eq] at h
  obtain ⟨h1, h2, h3, h4, h5, h6, h7, h8⟩ := h
  refine ⟨h1, h2, h3, by omega, h6, ?_, by omega⟩
  rw [h7, decide_eq_true_eq]
  omega
theorem ruleHead_len (b : StB) (h : b.ok) (hn : nameS b.name = true) (ht : nameS b.table = true) (hf : rightFromS b.src b.wher 0 = true) : (ruleHead b).length ≤ 2000000000000 := by
  obtain ⟨f1, f2, f3, f4⟩ := from_parts hf
  have hwl := (ev_where b [] f4 h.wher.2).2
  have hsl := (ev_srcs f1 f2).2
  have n1 := name_len hn
  have n2 := name_len ht
  have hil := itoa_len b.prio h.prio
  have hel := eventW_len b.event
  unfold ruleHead
  split <;> split <;> simp <;> omega
set_option maxRecDepth 100000 in
set_option maxHeartbeats 8000000 in
theorem ev_rule (b : StB) (acts : List Stm) (g : Stm → List UInt8) (h : b.ok) (hn : nameS b.name = true) (ht : nameS b.table = true) (ra : Bool) (hr : rightRuleS b acts.length ra = true)
    (hc : ∀ a ∈ acts, EV 17 [a.enc] [] = some (.ret (.str (g a)), [])) (hg : ∀ a ∈ acts, (g a).length ≤ 10000000000000) :
    EV 52 [(Stm.mk b acts).enc] [] = some (.ret (.str (ruleTail b (acts.map g))), []) := by
  obtain ⟨_, _, _, hev, hf, hrolls, hal⟩ := rule_parts hr
  have hhl := ruleHead_len b h hn ht hf
  obtain ⟨f1, f2, f3, f4⟩ := from_parts hf
  obtain ⟨hw, hwl⟩ := ev_where b acts f4 h.wher.2
  obtain ⟨hs, hsl⟩ := ev_srcs f1 f2
  have n1 := name_len hn
  have n2 := name_len ht
  have hil := itoa_len b.prio h.prio
  have hit := ev_itoa b.prio h.prio
  have hjl : (Lib.join (acts.map g) [59, 32]).length ≤ 100000000000000 := by
    have := join_len (acts.map g) [59, 32] 10000000000000 (fun x hx => by obtain ⟨t, h, rfl⟩ := List.mem_map.1 hx; exact hg t h)
    have h3 : (acts.map g).length * (10000000000000 + 2) ≤ 4 * 10000000000002 := Nat.mul_le_mul (by simpa using hal) (by omega)
    simp only [List.length_cons, List.length_nil] at this
    omega
  have hj := ev_join (acts.map g) [59, 32] (by simp; omega) (by omega)
  unfold ruleTail
  rw [EV_mki rfl Tryz.func52 rfl (by kernel_rfl) rfl, senc_mk]
  rw [senc_mk] at hw
  have hh : ruleHead b = ruleHead b := rfl
  unfold ruleHead at hhl ⊢
  obtain ⟨kind, name, table, col, cols, values, items, wher, sets, src, prio, event, deferred, rolls⟩ := b
  dsimp only at hw hs hwl hsl n1 n2 hil hit hev hrolls hhl ⊢
  generalize whereS wher = W at hw hwl hhl ⊢
  generalize commaS (src.map showSrcS) = S at hs hsl hhl ⊢
  generalize Lib.itoa prio = I at hil hit hhl ⊢
  cases rolls with
  | true =>
    have ha : acts = [] := List.eq_nil_of_length_eq_zero (hrolls.1 rfl)
    subst ha
    simp only [List.map_nil] at hw
    by_cases h0 : src = []
    · subst h0
      simp only [List.map_nil] at hw
      rcases hev with rfl | rfl | rfl <;> cases deferred <;> simp (disch := first | ((try simp only [List.length_cons, List.length_append, List.length_nil]); omega) | simp [refsL, refs]) [-strBin, sb_add, sb_eql, sb_neq, sb_lss, Tryz.f52, Tryz.ti3, Tryz.ti4, Tryz.ti9, Tryz.ti22, Tryz.ti23, Tryz.ti24, Tryz.ti25, Tryz.ti26, Tryz.ti28, Tryz.ti44, Tryz.ti46, Tryz.ti80, Tryz.ti84, Tryz.ti94, Tryz.ti100, hw, hit, eventW] <;> first | (refine panQ_of ?_; decide +kernel) | (change _ = true; decide +kernel) | kernel_rfl | (refine ⟨?_, ?_⟩ <;> first | (change _ = true; decide +kernel) | kernel_rfl)
    · rcases hev with rfl | rfl | rfl <;> cases deferred <;> simp (disch := first | ((try simp only [List.length_cons, List.length_append, List.length_nil]); omega) | simp [refsL, refs]) [-strBin, sb_add, sb_eql, sb_neq, sb_lss, Tryz.f52, Tryz.ti3, Tryz.ti4, Tryz.ti9, Tryz.ti22, Tryz.ti23, Tryz.ti24, Tryz.ti25, Tryz.ti26, Tryz.ti28, Tryz.ti44, Tryz.ti46, Tryz.ti80, Tryz.ti84, Tryz.ti94, Tryz.ti100, hs, hw, hit, h0, eventW] <;> first | (refine panQ_of ?_; decide +kernel) | (change _ = true; decide +kernel) | kernel_rfl | (refine ⟨?_, ?_⟩ <;> first | (change _ = true; decide +kernel) | kernel_rfl)
  | false =>
    by_cases h0 : src = []
    · subst h0
      simp only [List.map_nil] at hw
      rcases hev with rfl | rfl | rfl <;> cases deferred <;> simp (disch := first | ((try simp only [List.length_cons, List.length_append, List.length_nil]); omega) | simp [refsL, refs]) [-strBin, sb_add, sb_eql, sb_neq, sb_lss, Tryz.f52, Tryz.ti3, Tryz.ti4, Tryz.ti9, Tryz.ti22, Tryz.ti23, Tryz.ti24, Tryz.ti25, Tryz.ti26, Tryz.ti28, Tryz.ti44, Tryz.ti46, Tryz.ti80, Tryz.ti84, Tryz.ti94, Tryz.ti100, hw, hit, eventW]
      all_goals
        rw [i_loop (ts := [53, 54, 55, 6, 56, 57, 58, 59, 60, 61])]
        rotate_left
        · kernel_rfl
        refine i_at2 (fun i : {i : Nat // i ≤ acts.length} => acts.length - i.1) (fun i env => setV (setV env 52 (.int .i64 i.1)) 4 (.slice (.own 1) (((acts.take i.1).map g).map V.str))) (fun i st => st.set 1 [.tip i.1]) (fun _ => _) ⟨0, by omega⟩ (by simp [s_zero, s_succ]) rfl rfl ?_
        intro ⟨i, hil⟩ ih
        dsimp only at hil ⊢
        by_cases hi : i < acts.length
        · have ih := ih ⟨i + 1, by omega⟩ (by simp only; omega)
          have hwi : IntKind.i64.wrap ((i : Int) + 1) = (i : Int) + 1 := wrap_i64 (by omega)
          have hlen : (((acts.take i).map g).map V.str).length = i := by simp; omega
          have hcx := hc acts[i] (List.getElem_mem hi)
          obtain ⟨t, hk⟩ : ∃ m, acts[i] = m := ⟨_, rfl⟩
          have ht2 : ((acts.take (i + 1)).map g).map V.str = ((acts.take i).map g).map V.str ++ [V.str (g t)] := by rw [List.take_succ_eq_append_getElem hi, hk]; simp
          have hff : ∀ x ∈ ((acts.take i).map g).map V.str, (vcells x).length = 1 := fun x hx => by obtain ⟨y, _, rfl⟩ := List.mem_map.1 hx; rfl
          rw [hk] at hcx
          simp only at ih
          rw [ht2] at ih
          clear ht2
          generalize ((acts.take i).map g).map V.str = xs at *
          obtain ⟨tb, ta⟩ := t
          rw [senc_mk] at hcx
          simp only [s_zero, s_succ, Int.natCast_add, Int.natCast_one, Int.cast_ofNat_Int, List.set] at ih
          simp only [vcells] at hff
          have hbb : (i + 1) * 16 ≤ 70368744177664 := by omega
          have hbc : i + 1 ≤ 70368744177664 := by omega
          simp +contextual [i_again, roundEnd, dropT, cleanV, Tryz.f52, Tryz.ti3, Tryz.ti4, Tryz.ti9, Tryz.ti22, Tryz.ti23, Tryz.ti24, Tryz.ti25, Tryz.ti26, Tryz.ti28, Tryz.ti44, Tryz.ti46, Tryz.ti80, Tryz.ti84, Tryz.ti94, Tryz.ti100, hi, hk, senc_mk, hwi, hlen, hbb, hbc, hff, ih, hcx]
        · have ht2 : acts.take i = acts := List.take_of_length_le (by omega)
          rw [ht2]
          generalize (acts.map g).map V.str = xs at hj
          have hi2 : i = acts.length := by omega
          clear ih
          simp (disch := first | ((try simp only [List.length_cons, List.length_append, List.length_nil]); omega) | simp [refsL, refs]) [-strBin, sb_add, sb_eql, sb_neq, sb_lss, i_again, roundEnd, dropT, cleanV, Tryz.f52, Tryz.ti3, Tryz.ti4, Tryz.ti9, Tryz.ti22, Tryz.ti23, Tryz.ti24, Tryz.ti25, Tryz.ti26, Tryz.ti28, Tryz.ti44, Tryz.ti46, Tryz.ti80, Tryz.ti84, Tryz.ti94, Tryz.ti100, hi, hj]
    · rcases hev with rfl | rfl | rfl <;> cases deferred <;> simp (disch := first | ((try simp only [List.length_cons, List.length_append, List.length_nil]); omega) | simp [refsL, refs]) [-strBin, sb_add, sb_eql, sb_neq, sb_lss, Tryz.f52, Tryz.ti3, Tryz.ti4, Tryz.ti9, Tryz.ti22, Tryz.ti23, Tryz.ti24, Tryz.ti25, Tryz.ti26, Tryz.ti28, Tryz.ti44, Tryz.ti46, Tryz.ti80, Tryz.ti84, Tryz.ti94, Tryz.ti100, hs, hw, hit, h0, eventW]
      all_goals
        rw [i_loop (ts := [53, 54, 55, 6, 56, 57, 58, 59, 60, 61])]
        rotate_left
        · kernel_rfl
        refine i_at2 (fun i : {i : Nat // i ≤ acts.length} => acts.length - i.1) (fun i env => setV (setV env 52 (.int .i64 i.1)) 4 (.slice (.own 1) (((acts.take i.1).map g).map V.str))) (fun i st => st.set 1 [.tip i.1]) (fun _ => _) ⟨0, by omega⟩ (by simp [s_zero, s_succ]) rfl rfl ?_
        intro ⟨i, hil⟩ ih
        dsimp only at hil ⊢
        by_cases hi : i < acts.length
        · have ih := ih ⟨i + 1, by omega⟩ (by simp only; omega)
          have hwi : IntKind.i64.wrap ((i : Int) + 1) = (i : Int) + 1 := wrap_i64 (by omega)
          have hlen : (((acts.take i).map g).map V.str).length = i := by simp; omega
          have hcx := hc acts[i] (List.getElem_mem hi)
          obtain ⟨t, hk⟩ : ∃ m, acts[i] = m := ⟨_, rfl⟩
          have ht2 : ((acts.take (i + 1)).map g).map V.str = ((acts.take i).map g).map V.str ++ [V.str (g t)] := by rw [List.take_succ_eq_append_getElem hi, hk]; simp
          have hff : ∀ x ∈ ((acts.take i).map g).map V.str, (vcells x).length = 1 := fun x hx => by obtain ⟨y, _, rfl⟩ := List.mem_map.1 hx; rfl
          rw [hk] at hcx
          simp only at ih
          rw [ht2] at ih
          clear ht2
          generalize ((acts.take i).map g).map V.str = xs at *
          obtain ⟨tb, ta⟩ := t
          rw [senc_mk] at hcx
          simp only [s_zero, s_succ, Int.natCast_add, Int.natCast_one, Int.cast_ofNat_Int, List.set] at ih
          simp only [vcells] at hff
          have hbb : (i + 1) * 16 ≤ 70368744177664 := by omega
          have hbc : i + 1 ≤ 70368744177664 := by omega
          simp +contextual [i_again, roundEnd, dropT, cleanV, Tryz.f52, Tryz.ti3, Tryz.ti4, Tryz.ti9, Tryz.ti22, Tryz.ti23, Tryz.ti24, Tryz.ti25, Tryz.ti26, Tryz.ti28, Tryz.ti44, Tryz.ti46, Tryz.ti80, Tryz.ti84, Tryz.ti94, Tryz.ti100, hi, hk, senc_mk, hwi, hlen, hbb, hbc, hff, ih, hcx]
        · have ht2 : acts.take i = acts := List.take_of_length_le (by omega)
          rw [ht2]
          generalize (acts.map g).map V.str = xs at hj
          have hi2 : i = acts.length := by omega
          clear ih
          simp (disch := first | ((try simp only [List.length_cons, List.length_append, List.length_nil]); omega) | simp [refsL, refs]) [-strBin, sb_add, sb_eql, sb_neq, sb_lss, i_again, roundEnd, dropT, cleanV, Tryz.f52, Tryz.ti3, Tryz.ti4, Tryz.ti9, Tryz.ti22, Tryz.ti23, Tryz.ti24, Tryz.ti25, Tryz.ti26, Tryz.ti28, Tryz.ti44, Tryz.ti46, Tryz.ti80, Tryz.ti84, Tryz.ti94, Tryz.ti100, hi, hj]
end Go.Abs

namespace Go.Abs
set_option linter.unusedSimpArgs false
set_option linter.unusedVariables false
open Go Go.Proofs
attribute [local simp] i_nil i_blk i_skip i_ret i_exit i_seq i_block i_cond i_region' i_ops_nil i_ops i_drawn' k_none k_0 k_1 k_2 k_3 k_4 k_5 d_in a_nil a_cons alt1 h_nil h_one h_two z_nil z_cons z_cells zeqL zeq q_alloc q_some nxtN i_drh d_hi i_drw_nil i_drw u_nil u_code u_ops u_drw u_lp u_again u_exit u_ret u_panic c_bool o_some o_val o_panic d_some d_val d_panic w_none w_fast wantG q_nil q_zero q_succ t_zero t_succ g_zero g_succ s_zero s_succ s_some s_none v_tmp v_const v_func f_quiet gc_none gc_pure wrap_i64 p_move p_assign p_pick p_alloc p_box p_build p_buildSlice p_load p_store p_nilCheck p_binOp n_tmp n_int n_bool n_str n_ptr n_fun n_iface nilCmp p_unOp p_convert p_makeSlice p_makeInterface p_makeFunc p_slice p_fieldAddr p_field p_indexAddr p_index p_extract p_callv p_callb p_panic quiet_val new_val e_assign e_call e_load e_store e_alloc e_box e_move e_pick e_build e_buildSlice e_nilCheck e_binOp e_unOp e_convert e_makeSlice e_makeInterface e_makeFunc e_slice e_fieldAddr e_field e_indexAddr e_index e_extract e_panic callD fpRead adoptZ fulls adopt adoptL ofValue ofScalar binOpV unOpV intBin strBin eqRes veq veqF eqDepth val? finish resL r_tmp r_cell normL normTop tipIs refsL refs ownRefs single frz frzL ren renL renOwn callOp doCall backR writeBack builtinV loadV storeV storeW iceT cellsAt takeV D.isAgg overlay vcells cellOk fieldAddrV indexAddrV fieldV partV indexV buildV fillV buildSliceV litElems appendV appElems elemOk convertV convV winStr makeSliceV sliceV natOf
attribute [local simp ↓] brB_true brB_false brB_dec brB_not brB_and brB_or brB_beq brB_bne

section
variable (b : StB) (acts : List Stm) (h : b.ok)
theorem rightK_of (hr : rightStm (.mk b acts) = true) : rightK b acts.length (rightActs acts) = true := by
  simp only [rightStm, Bool.and_eq_true] at hr
  exact hr.2
include h
omit h in
theorem ev_show_wrong (hs : EV 15 [(Stm.mk b acts).enc] [] = some (.ret (.bool false), [])) : EV 17 [(Stm.mk b acts).enc] [] = some (.ret (.str []), []) := by
  rw [EV_mki rfl Tryz.func17 rfl (by kernel_rfl) rfl, senc_mk]
  rw [senc_mk] at hs
  simp [Tryz.f17, Tryz.ti3, Tryz.ti4, Tryz.ti9, Tryz.ti22, Tryz.ti23, Tryz.ti24, Tryz.ti25, Tryz.ti26, Tryz.ti28, Tryz.ti44, Tryz.ti46, Tryz.ti80, Tryz.ti84, Tryz.ti94, hs]
set_option maxRecDepth 100000 in
set_option maxHeartbeats 8000000 in
theorem ev_show_small (hs : EV 15 [(Stm.mk b acts).enc] [] = some (.ret (.bool true), [])) (hr : rightK b acts.length (rightActs acts) = true) (hk : ¬ b.kind = 6) (hk7 : ¬ b.kind = 7) (hk8 : ¬ b.kind = 8) (hk12 : ¬ b.kind = 12) (hk13 : ¬ b.kind = 13) (hk14 : ¬ b.kind = 14) (hk15 : ¬ b.kind = 15) :
    EV 17 [(Stm.mk b acts).enc] [] = some (.ret (.str (showStm (.mk b acts))), []) := by
  have hl := h.name
  rw [EV_mki rfl Tryz.func17 rfl (by kernel_rfl) rfl, senc_mk]
  rw [senc_mk] at hs
  simp only [rightK, nameK] at hr
  simp only [showStm]
  obtain ⟨kind, name, table, col, cols, values, items, wher, sets, src, prio, event, deferred, rolls⟩ := b
  dsimp only at hs hr hk hk7 hk8 hk12 hk13 hk14 hk15 hl ⊢
  by_cases k123 : kind = 1 ∨ kind = 2 ∨ kind = 3
  · rcases k123 with rfl | rfl | rfl <;> simp [Tryz.f17, Tryz.ti3, Tryz.ti4, Tryz.ti9, Tryz.ti22, Tryz.ti23, Tryz.ti24, Tryz.ti25, Tryz.ti26, Tryz.ti28, Tryz.ti44, Tryz.ti46, Tryz.ti80, Tryz.ti84, Tryz.ti94, hs]
  by_cases kn : kind = 4 ∨ kind = 5 ∨ kind = 9 ∨ kind = 10 ∨ kind = 11
  · rcases kn with rfl | rfl | rfl | rfl | rfl <;> simp (disch := first | ((try simp only [List.length_cons, List.length_append, List.length_nil]); omega) | simp [refsL, refs]) [-strBin, sb_add, sb_eql, sb_neq, sb_lss, Tryz.f17, Tryz.ti3, Tryz.ti4, Tryz.ti9, Tryz.ti22, Tryz.ti23, Tryz.ti24, Tryz.ti25, Tryz.ti26, Tryz.ti28, Tryz.ti44, Tryz.ti46, Tryz.ti80, Tryz.ti84, Tryz.ti94, hs]
  simp [k123, kn, hk, hk7, hk8, hk12, hk13, hk14, hk15] at hr
set_option maxRecDepth 100000 in
set_option maxHeartbeats 8000000 in
theorem ev_show_table (hs : EV 15 [(Stm.mk b acts).enc] [] = some (.ret (.bool true), [])) (hr : rightK b acts.length (rightActs acts) = true) (hk : b.kind = 6) :
    EV 17 [(Stm.mk b acts).enc] [] = some (.ret (.str (showStm (.mk b acts))), []) := by
  have hr2 : nameS b.name = true ∧ colsS b.cols = 0 := by simpa [rightK, nameK, hk] using hr
  have n1 := name_len hr2.1
  obtain ⟨hco, hcl⟩ := cols_ok hr2.2
  have hlist := ev_list_col showColS b.cols (by omega) (fun x hx => (ev_showcolumn x (hco x hx)).1) (fun x hx => by have := (ev_showcolumn x (hco x hx)).2; omega)
  have hll := comma_len (b.cols.map showColS) (by simp; omega) (fun x hx => by obtain ⟨y, hy, rfl⟩ := List.mem_map.1 hx; have := (ev_showcolumn y (hco y hy)).2; omega)
  have hsh : showStm (.mk b acts) = [67, 82, 69, 65, 84, 69, 32, 84, 65, 66, 76, 69, 32] ++ (b.name ++ ([32, 40] ++ (commaS (b.cols.map showColS) ++ [41]))) := by simp [showStm, hk]
  have hlc : EV 50 [.slice .froz (b.cols.map Col.enc), .func 51 [] []] [] = some (.ret (.str (commaS (b.cols.map showColS))), []) := hlist
  rw [hsh, EV_mki rfl Tryz.func17 rfl (by kernel_rfl) rfl, senc_mk]
  rw [senc_mk] at hs
  generalize commaS (b.cols.map showColS) = C at hlc hll ⊢
  obtain ⟨kind, name, table, col, cols, values, items, wher, sets, src, prio, event, deferred, rolls⟩ := b
  dsimp only at hs hk n1 hlc ⊢
  subst hk
  simp (disch := first | ((try simp only [List.length_cons, List.length_append, List.length_nil]); omega) | simp [refsL, refs]) [-strBin, sb_add, sb_eql, sb_neq, sb_lss, Tryz.f17, Tryz.ti3, Tryz.ti4, Tryz.ti9, Tryz.ti22, Tryz.ti23, Tryz.ti24, Tryz.ti25, Tryz.ti26, Tryz.ti28, Tryz.ti44, Tryz.ti46, Tryz.ti80, Tryz.ti84, Tryz.ti94, hs, hlc] <;> first | (refine panQ_of ?_; decide +kernel) | (change _ = true; decide +kernel) | kernel_rfl | (refine ⟨?_, ?_⟩ <;> first | (change _ = true; decide +kernel) | kernel_rfl)
set_option maxRecDepth 100000 in
set_option maxHeartbeats 8000000 in
theorem ev_show_index (hs : EV 15 [(Stm.mk b acts).enc] [] = some (.ret (.bool true), [])) (hr : rightK b acts.length (rightActs acts) = true) (hk : b.kind = 7) :
    EV 17 [(Stm.mk b acts).enc] [] = some (.ret (.str (showStm (.mk b acts))), []) := by
  have n1 := h.name
  have n2 := h.table
  have n3 := h.col
  rw [EV_mki rfl Tryz.func17 rfl (by kernel_rfl) rfl, senc_mk]
  rw [senc_mk] at hs
  simp only [showStm]
  obtain ⟨kind, name, table, col, cols, values, items, wher, sets, src, prio, event, deferred, rolls⟩ := b
  dsimp only at hs hk n1 n2 n3 ⊢
  subst hk
  simp (disch := first | ((try simp only [List.length_cons, List.length_append, List.length_nil]); omega) | simp [refsL, refs]) [-strBin, sb_add, sb_eql, sb_neq, sb_lss, Tryz.f17, Tryz.ti3, Tryz.ti4, Tryz.ti9, Tryz.ti22, Tryz.ti23, Tryz.ti24, Tryz.ti25, Tryz.ti26, Tryz.ti28, Tryz.ti44, Tryz.ti46, Tryz.ti80, Tryz.ti84, Tryz.ti94, hs]
set_option maxRecDepth 100000 in
set_option maxHeartbeats 8000000 in
theorem ev_show_rule (hs : EV 15 [(Stm.mk b acts).enc] [] = some (.ret (.bool true), [])) (hr : rightK b acts.length (rightActs acts) = true) (hk : b.kind = 8)
    (hc : ∀ a ∈ acts, EV 17 [a.enc] [] = some (.ret (.str (showStm a)), [])) (hg : ∀ a ∈ acts, (showStm a).length ≤ 10000000000000) :
    EV 17 [(Stm.mk b acts).enc] [] = some (.ret (.str (showStm (.mk b acts))), []) := by
  have hr2 : nameS b.name = true ∧ nameS b.table = true ∧ rightRuleS b acts.length (rightActs acts) = true := by simpa [rightK, nameK, hk] using hr
  have hru := ev_rule b acts showStm h hr2.1 hr2.2.1 _ hr2.2.2 hc hg
  have hsh : showStm (.mk b acts) = ruleTail b (acts.map showStm) := by simp [showStm, hk, ruleTail, showStms_eq]
  rw [hsh, EV_mki rfl Tryz.func17 rfl (by kernel_rfl) rfl, senc_mk]
  rw [senc_mk] at hs hru
  generalize ruleTail b (acts.map showStm) = R at hru ⊢
  obtain ⟨kind, name, table, col, cols, values, items, wher, sets, src, prio, event, deferred, rolls⟩ := b
  dsimp only at hs hk hru ⊢
  subst hk
  simp [Tryz.f17, Tryz.ti3, Tryz.ti4, Tryz.ti9, Tryz.ti22, Tryz.ti23, Tryz.ti24, Tryz.ti25, Tryz.ti26, Tryz.ti28, Tryz.ti44, Tryz.ti46, Tryz.ti80, Tryz.ti84, Tryz.ti94, hs, hru]
omit h in
theorem insert_parts (hr : rightK b acts.length (rightActs acts) = true) (hk : b.kind = 12) : nameS b.table = true ∧ ((b.values = [] ∧ rightsE b.items 0 40 = true ∧ rightFromS b.src b.wher 1 = true) ∨ (b.values ≠ [] ∧ rightsE b.values 1 6 = true ∧ b.items = [] ∧ b.src = [] ∧ b.wher = [])) := by
  simp only [rightK, nameK, hk] at hr
  by_cases h0 : b.values = []
  · simp [h0] at hr
    exact ⟨hr.1, .inl ⟨h0, hr.2⟩⟩
  · have hp : 0 < b.values.length := List.length_pos_iff.2 h0
    simp [hp] at hr
    obtain ⟨h1, h2, h3⟩ := hr
    have e1 : b.items.length = 0 := by omega
    have e2 : b.src.length = 0 := by omega
    have e3 : b.wher.length = 0 := by omega
    exact ⟨h1, .inr ⟨h0, h2, List.eq_nil_of_length_eq_zero e1, List.eq_nil_of_length_eq_zero e2, List.eq_nil_of_length_eq_zero e3⟩⟩
set_option maxRecDepth 100000 in
set_option maxHeartbeats 8000000 in
theorem ev_show_insert (hs : EV 15 [(Stm.mk b acts).enc] [] = some (.ret (.bool true), [])) (hr : rightK b acts.length (rightActs acts) = true) (hk : b.kind = 12) :
    EV 17 [(Stm.mk b acts).enc] [] = some (.ret (.str (showStm (.mk b acts))), []) ∧ (showStm (.mk b acts)).length ≤ 10000000000000 := by
  obtain ⟨ht, hcase⟩ := insert_parts b acts hr hk
  have n2 := name_len ht
  rcases hcase with ⟨h0, hi, hf⟩ | ⟨h0, hv, _⟩
  · obtain ⟨hq, hql⟩ := ev_query b acts h hi hf
    have hsh : showStm (.mk b acts) = [73, 78, 83, 69, 82, 84, 32, 73, 78, 84, 79, 32] ++ (b.table ++ 32 :: queryS b) := by simp [showStm, hk, h0]
    rw [hsh]
    refine ⟨?_, by simp; omega⟩
    rw [EV_mki rfl Tryz.func17 rfl (by kernel_rfl) rfl, senc_mk]
    rw [senc_mk] at hs hq
    generalize queryS b = Q at hq hql ⊢
    obtain ⟨kind, name, table, col, cols, values, items, wher, sets, src, prio, event, deferred, rolls⟩ := b
    dsimp only at hs hk hq n2 h0 ⊢
    subst hk
    subst h0
    simp only [List.map_nil] at hs hq
    simp (disch := first | ((try simp only [List.length_cons, List.length_append, List.length_nil]); omega) | simp [refsL, refs]) [-strBin, sb_add, sb_eql, sb_neq, sb_lss, Tryz.f17, Tryz.ti3, Tryz.ti4, Tryz.ti9, Tryz.ti22, Tryz.ti23, Tryz.ti24, Tryz.ti25, Tryz.ti26, Tryz.ti28, Tryz.ti44, Tryz.ti46, Tryz.ti80, Tryz.ti84, Tryz.ti94, hs, hq] <;> first | (refine panQ_of ?_; decide +kernel) | (change _ = true; decide +kernel) | kernel_rfl | (refine ⟨?_, ?_⟩ <;> first | (change _ = true; decide +kernel) | kernel_rfl)
  · obtain ⟨v1, _, v3⟩ := rights_all hv
    obtain ⟨hx, hxl⟩ := ev_xps v1 h.values.2 (by omega)
    have hsh : showStm (.mk b acts) = [73, 78, 83, 69, 82, 84, 32, 73, 78, 84, 79, 32] ++ (b.table ++ ([32, 86, 65, 76, 85, 69, 83, 32, 40] ++ (commaS (b.values.map showE) ++ [41]))) := by simp [showStm, hk, h0]
    rw [hsh]
    refine ⟨?_, by simp; omega⟩
    rw [EV_mki rfl Tryz.func17 rfl (by kernel_rfl) rfl, senc_mk]
    rw [senc_mk] at hs
    generalize commaS (b.values.map showE) = C at hx hxl ⊢
    obtain ⟨kind, name, table, col, cols, values, items, wher, sets, src, prio, event, deferred, rolls⟩ := b
    dsimp only at hs hk hx n2 h0 ⊢
    subst hk
    have hp : 0 < values.length := List.length_pos_iff.2 h0
    simp (disch := first | ((try simp only [List.length_cons, List.length_append, List.length_nil]); omega) | simp [refsL, refs]) [-strBin, sb_add, sb_eql, sb_neq, sb_lss, Tryz.f17, Tryz.ti3, Tryz.ti4, Tryz.ti9, Tryz.ti22, Tryz.ti23, Tryz.ti24, Tryz.ti25, Tryz.ti26, Tryz.ti28, Tryz.ti44, Tryz.ti46, Tryz.ti80, Tryz.ti84, Tryz.ti94, hs, hx, hp, h0] <;> first | (refine panQ_of ?_; decide +kernel) | (change _ = true; decide +kernel) | kernel_rfl | (refine ⟨?_, ?_⟩ <;> first | (change _ = true; decide +kernel) | kernel_rfl)
set_option maxRecDepth 100000 in
set_option maxHeartbeats 8000000 in
theorem ev_show_update (hs : EV 15 [(Stm.mk b acts).enc] [] = some (.ret (.bool true), [])) (hr : rightK b acts.length (rightActs acts) = true) (hk : b.kind = 13) :
    EV 17 [(Stm.mk b acts).enc] [] = some (.ret (.str (showStm (.mk b acts))), []) ∧ (showStm (.mk b acts)).length ≤ 10000000000000 := by
  have hr2 : nameS b.table = true ∧ rightSetsS b.sets = true ∧ rightsE b.wher 0 1 = true := by simpa [rightK, nameK, hk] using hr
  have n2 := name_len hr2.1
  obtain ⟨hw, hwl⟩ := ev_where b acts hr2.2.2 h.wher.2
  have hset := hr2.2.1
  simp only [rightSetsS, Bool.and_eq_true, List.all_eq_true, decide_eq_true_eq] at hset
  obtain ⟨hs1, hs2, hs3⟩ := hset
  have hso : ∀ x ∈ b.sets, EV 57 [x.enc] [] = some (.ret (.str (showSetS x)), []) ∧ (showSetS x).length ≤ 67108900 := fun x hx => ev_showset x (hs1 x hx).1 (hs1 x hx).2 (h.sets.2 x hx).2
  have hlist := ev_list_set showSetS b.sets (by omega) (fun x hx => (hso x hx).1) (fun x hx => by have := (hso x hx).2; omega)
  have hll := comma_len (b.sets.map showSetS) (by simp; omega) (fun x hx => by obtain ⟨y, hy, rfl⟩ := List.mem_map.1 hx; have := (hso y hy).2; omega)
  have hlc : EV 56 [.slice .froz (b.sets.map SetE.enc), .func 57 [] []] [] = some (.ret (.str (commaS (b.sets.map showSetS))), []) := hlist
  have hsh : showStm (.mk b acts) = [85, 80, 68, 65, 84, 69, 32] ++ (b.table ++ ([32, 83, 69, 84, 32] ++ (commaS (b.sets.map showSetS) ++ whereS b.wher))) := by simp [showStm, hk]
  rw [hsh]
  refine ⟨?_, by simp; omega⟩
  rw [EV_mki rfl Tryz.func17 rfl (by kernel_rfl) rfl, senc_mk]
  rw [senc_mk] at hs hw
  generalize commaS (b.sets.map showSetS) = C at hlc hll ⊢
  generalize whereS b.wher = W at hw hwl ⊢
  obtain ⟨kind, name, table, col, cols, values, items, wher, sets, src, prio, event, deferred, rolls⟩ := b
  dsimp only at hs hk hlc hw n2 ⊢
  subst hk
  simp (disch := first | ((try simp only [List.length_cons, List.length_append, List.length_nil]); omega) | simp [refsL, refs]) [-strBin, sb_add, sb_eql, sb_neq, sb_lss, Tryz.f17, Tryz.ti3, Tryz.ti4, Tryz.ti9, Tryz.ti22, Tryz.ti23, Tryz.ti24, Tryz.ti25, Tryz.ti26, Tryz.ti28, Tryz.ti44, Tryz.ti46, Tryz.ti80, Tryz.ti84, Tryz.ti94, hs, hlc, hw] <;> first | (refine panQ_of ?_; decide +kernel) | (change _ = true; decide +kernel) | kernel_rfl | (refine ⟨?_, ?_⟩ <;> first | (change _ = true; decide +kernel) | kernel_rfl)
set_option maxRecDepth 100000 in
set_option maxHeartbeats 8000000 in
theorem ev_show_delete (hs : EV 15 [(Stm.mk b acts).enc] [] = some (.ret (.bool true), [])) (hr : rightK b acts.length (rightActs acts) = true) (hk : b.kind = 14) :
    EV 17 [(Stm.mk b acts).enc] [] = some (.ret (.str (showStm (.mk b acts))), []) ∧ (showStm (.mk b acts)).length ≤ 10000000000000 := by
  have hr2 : nameS b.table = true ∧ rightsE b.wher 0 1 = true := by simpa [rightK, nameK, hk] using hr
  have n2 := name_len hr2.1
  obtain ⟨hw, hwl⟩ := ev_where b acts hr2.2 h.wher.2
  have hsh : showStm (.mk b acts) = [68, 69, 76, 69, 84, 69, 32, 70, 82, 79, 77, 32] ++ (b.table ++ whereS b.wher) := by simp [showStm, hk]
  rw [hsh]
  refine ⟨?_, by simp; omega⟩
  rw [EV_mki rfl Tryz.func17 rfl (by kernel_rfl) rfl, senc_mk]
  rw [senc_mk] at hs hw
  generalize whereS b.wher = W at hw hwl ⊢
  obtain ⟨kind, name, table, col, cols, values, items, wher, sets, src, prio, event, deferred, rolls⟩ := b
  dsimp only at hs hk hw n2 ⊢
  subst hk
  simp (disch := first | ((try simp only [List.length_cons, List.length_append, List.length_nil]); omega) | simp [refsL, refs]) [-strBin, sb_add, sb_eql, sb_neq, sb_lss, Tryz.f17, Tryz.ti3, Tryz.ti4, Tryz.ti9, Tryz.ti22, Tryz.ti23, Tryz.ti24, Tryz.ti25, Tryz.ti26, Tryz.ti28, Tryz.ti44, Tryz.ti46, Tryz.ti80, Tryz.ti84, Tryz.ti94, hs, hw] <;> first | (refine panQ_of ?_; decide +kernel) | (change _ = true; decide +kernel) | kernel_rfl | (refine ⟨?_, ?_⟩ <;> first | (change _ = true; decide +kernel) | kernel_rfl)
set_option maxRecDepth 100000 in
set_option maxHeartbeats 8000000 in
theorem ev_show_select (hs : EV 15 [(Stm.mk b acts).enc] [] = some (.ret (.bool true), [])) (hr : rightK b acts.length (rightActs acts) = true) (hk : b.kind = 15) :
    EV 17 [(Stm.mk b acts).enc] [] = some (.ret (.str (showStm (.mk b acts))), []) := by
  have hr2 : rightsE b.items 0 40 = true ∧ rightFromS b.src b.wher 1 = true := by simpa [rightK, nameK, hk] using hr
  obtain ⟨hq, hql⟩ := ev_query b acts h hr2.1 hr2.2
  have hsh : showStm (.mk b acts) = queryS b := by simp [showStm, hk]
  rw [hsh, EV_mki rfl Tryz.func17 rfl (by kernel_rfl) rfl, senc_mk]
  rw [senc_mk] at hs hq
  generalize queryS b = Q at hq hql ⊢
  obtain ⟨kind, name, table, col, cols, values, items, wher, sets, src, prio, event, deferred, rolls⟩ := b
  dsimp only at hs hk hq ⊢
  subst hk
  simp [Tryz.f17, Tryz.ti3, Tryz.ti4, Tryz.ti9, Tryz.ti22, Tryz.ti23, Tryz.ti24, Tryz.ti25, Tryz.ti26, Tryz.ti28, Tryz.ti44, Tryz.ti46, Tryz.ti80, Tryz.ti84, Tryz.ti94, hs, hq]
end
theorem acts_right : ∀ {l : List Stm}, rightActs l = true → ∀ a ∈ l, (a.b.kind = 12 ∨ a.b.kind = 13 ∨ a.b.kind = 14) ∧ rightStm a = true
  | [], _, a, ha => by cases ha
  | s :: l, h, a, ha => by
    simp only [rightActs, Bool.and_eq_true, decide_eq_true_eq] at h
    rcases List.mem_cons.1 ha with rfl | ha
    · exact ⟨by omega, h.1.2.2⟩
    · exact acts_right h.2 a ha
theorem act_shows (a : Stm) (ho : a.ok) (hk : a.b.kind = 12 ∨ a.b.kind = 13 ∨ a.b.kind = 14) (hr : rightStm a = true) : EV 17 [a.enc] [] = some (.ret (.str (showStm a)), []) ∧ (showStm a).length ≤ 10000000000000 := by
  obtain ⟨b, acts⟩ := a
  have hs := ev_rightstm (.mk b acts) ho
  rw [hr] at hs
  have hk' := rightK_of b acts hr
  rcases hk with hk | hk | hk
  · exact ev_show_insert b acts ho.1 hs hk' hk
  · exact ev_show_update b acts ho.1 hs hk' hk
  · exact ev_show_delete b acts ho.1 hs hk' hk
theorem ev_showstm (s : Stm) (ho : s.ok) : EV 17 [s.enc] [] = some (.ret (.str (if rightStm s = true then showStm s else [])), []) := by
  obtain ⟨b, acts⟩ := s
  have hs := ev_rightstm (.mk b acts) ho
  cases hr : rightStm (.mk b acts) with
  | false =>
    rw [hr] at hs
    exact ev_show_wrong b acts hs
  | true =>
    rw [hr] at hs
    rw [if_pos rfl]
    have hk := rightK_of b acts hr
    by_cases k6 : b.kind = 6
    · exact ev_show_table b acts ho.1 hs hk k6
    by_cases k7 : b.kind = 7
    · exact ev_show_index b acts ho.1 hs hk k7
    by_cases k8 : b.kind = 8
    · have hra : rightActs acts = true := by
        have hr2 : nameS b.name = true ∧ nameS b.table = true ∧ rightRuleS b acts.length (rightActs acts) = true := by simpa [rightK, nameK, k8] using hk
        exact (rule_parts hr2.2.2).1
      have hall : ∀ a ∈ acts, EV 17 [a.enc] [] = some (.ret (.str (showStm a)), []) ∧ (showStm a).length ≤ 10000000000000 := fun a ha => by
        obtain ⟨h1, h2⟩ := acts_right hra a ha
        exact act_shows a ((soks_iff acts).1 ho.2.2 a ha) h1 h2
      exact ev_show_rule b acts ho.1 hs hk k8 (fun a ha => (hall a ha).1) (fun a ha => (hall a ha).2)
    by_cases k12 : b.kind = 12
    · exact (ev_show_insert b acts ho.1 hs hk k12).1
    by_cases k13 : b.kind = 13
    · exact (ev_show_update b acts ho.1 hs hk k13).1
    by_cases k14 : b.kind = 14
    · exact (ev_show_delete b acts ho.1 hs hk k14).1
    by_cases k15 : b.kind = 15
    · exact ev_show_select b acts ho.1 hs hk k15
    exact ev_show_small b acts ho.1 hs hk k6 k7 k8 k12 k13 k14 k15
end Go.Abs

