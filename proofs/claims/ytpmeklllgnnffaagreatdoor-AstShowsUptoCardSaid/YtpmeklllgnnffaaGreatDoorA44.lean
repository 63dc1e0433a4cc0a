/- A statement's text by the reference: inserts and selects. -/
import Derived.Test.YtpmeklllgnnffaaGreatDoorA40
import Derived.Test.YtpmeklllgnnffaaGreatDoorA42
import Derived.Test.YtpmeklllgnnffaaGreatDoorA39

namespace Go.Abs
set_option linter.unusedSimpArgs false
set_option linter.unusedVariables false
open Go Go.Proofs
attribute [local simp] i_nil i_blk i_skip i_ret i_exit i_seq i_block i_cond i_region' i_ops_nil i_ops i_drawn' d_in a_nil a_cons alt1 h_nil h_one h_two z_nil z_cons z_cells zeqL zeq q_alloc q_some isAlO nxtN i_drh d_hi i_drw_nil i_drw u_nil u_code u_ops u_drw u_lp u_again u_exit u_ret u_panic c_bool o_some o_val o_panic d_some d_val d_panic w_none w_fast wantG q_nil q_zero q_succ t_zero t_succ g_zero g_succ s_zero s_succ s_some s_none v_tmp v_const v_func f_quiet gc_none gc_pure wrap_i64 p_move p_assign p_pick p_alloc p_box p_build p_buildSlice p_load p_store p_nilCheck p_binOp n_tmp n_int n_bool n_str n_ptr n_fun n_iface nilCmp p_unOp p_convert p_makeSlice p_makeInterface p_makeFunc p_slice p_fieldAddr p_field p_indexAddr p_index p_extract p_callv p_callb p_panic quiet_val new_val e_assign e_call e_load e_store e_alloc e_box e_move e_pick e_build e_buildSlice e_nilCheck e_binOp e_unOp e_convert e_makeSlice e_makeInterface e_makeFunc e_slice e_fieldAddr e_field e_indexAddr e_index e_extract e_panic callD fpRead adopt adoptL ofValue ofScalar binOpV unOpV intBin strBin eqRes veq veqF eqDepth val? finish resL r_tmp r_cell normL normTop tipIs refsL refs ownRefs single frz frzL ren renL renOwn callOp doCall backR writeBack builtinV loadV storeV cellsAt takeV D.isAgg overlay vcells cellOk fieldAddrV indexAddrV fieldV partV indexV buildV fillV buildSliceV litElems appendV appElems elemOk convertV convV winStr makeSliceV sliceV natOf
attribute [local simp ↓] brB_true brB_false brB_dec brB_not brB_and brB_or brB_beq brB_bne
attribute [local irreducible] fpsQ panQ

def srcsOk (l : List Src) : Prop := (∀ x ∈ l, rightSrc x = true) ∧ l.length ≤ 3
theorem src_where {src : List Src} {wher : List Xp} {k : Int} (h : rightFromS src wher k = true) : srcsOk src ∧ rightsE wher 0 1 = true := by
  simp only [rightFromS, Bool.and_eq_true, decide_eq_true_eq, List.all_eq_true] at h
  obtain ⟨h1, h2, h3, h4⟩ := h
  refine ⟨⟨h1, by omega⟩, ?_⟩
  simp only [rightsE, Bool.and_eq_true, decide_eq_true_eq] at h4 ⊢
  refine ⟨h4.1, h4.2.1, ?_⟩
  have := h4.2.2
  split at this <;> omega

set_option maxRecDepth 100000 in
set_option maxHeartbeats 16000000 in
theorem ev_rshow12 (b : StB) (acts : List Stm) (h : b.ok) (hr : rightStm (.mk b acts) = true) (hk : b.kind = 12) : EV 18 [(Stm.mk b acts).enc] [] = some (.ret (.str (showStm (.mk b acts))), []) := by
  obtain ⟨ht, hcase⟩ := insert_parts b acts (rightK_of b acts hr) hk
  have n2 := name_len ht
  rcases hcase with ⟨h0, hi, hf⟩ | ⟨h0, hv, _⟩
  · have hfp : srcsOk b.src ∧ rightsE b.wher 0 1 = true := src_where hf
    obtain ⟨i1, _, i3⟩ := rights_all hi
    have hx := ev_rshowexprs b.items (by omega) i1 h.items.2
    have hxl := (ev_xps i1 h.items.2 (by omega)).2
    have hs := ev_rshowsources b.src (by have := hfp.1.2; omega) hfp.1.1
    have hsl := comma_len (b.src.map showSrcS) (by simp; have := hfp.1.2; omega) (fun x hx => by obtain ⟨y, hy, rfl⟩ := List.mem_map.1 hx; have := (ev_showsource y (hfp.1.1 y hy)).2; omega)
    have hw := ev_rwhere b acts hfp.2 h.wher.2
    have hwl := (ev_where b acts hfp.2 h.wher.2).2
    have hsh : showStm (.mk b acts) = [73, 78, 83, 69, 82, 84, 32, 73, 78, 84, 79, 32] ++ (b.table ++ 32 :: queryS b) := by simp [showStm, hk, h0]
    rw [hsh]
    simp only [queryS, itemsS]
    rw [EV_mki rfl Tryz.func18 rfl (by kernel_rfl), senc_mk]
    rw [senc_mk] at hw
    generalize whereS b.wher = W at hw hwl ⊢
    generalize commaS (b.src.map showSrcS) = C at hs hsl ⊢
    obtain ⟨kind, name, table, col, cols, values, items, wher, sets, src, prio, event, deferred, rolls⟩ := b
    dsimp only at hk hw n2 h0 hx hxl hs ⊢
    subst hk
    subst h0
    by_cases e0 : items = []
    · subst e0
      simp only [List.map_nil] at hx hw
      have hc0 : commaS ([] : List (List UInt8)) = [] := by simp [commaS, Lib.join_nil]
      rw [hc0] at hx
      simp only [List.map_nil] at *
      simp (disch := first | ((try simp only [List.length_cons, List.length_append, List.length_nil]); omega) | simp [refsL, refs]) [-strBin, sb_add, sb_eql, sb_neq, sb_lss, Tryz.f18, Tryz.ti3, Tryz.ti4, Tryz.ti9, Tryz.ti22, Tryz.ti31, Tryz.ti32, Tryz.ti33, Tryz.ti34, Tryz.ti36, Tryz.ti44, Tryz.ti50, Tryz.ti82, Tryz.ti85, Tryz.ti94, Tryz.ti100, hx, hs, hw] <;> first | (change _ = true; decide +kernel) | (refine ⟨?_, ?_⟩ <;> (change _ = true; decide +kernel))
    · have e1 : ¬ items.length = 0 := fun e => e0 (List.eq_nil_of_length_eq_zero e)
      have e2 : ¬ (items.length : Int) = 0 := by omega
      simp only [List.map_nil] at hw
      generalize commaS (items.map showE) = I at hx hxl ⊢
      simp only [List.map_nil] at *
      simp (disch := first | ((try simp only [List.length_cons, List.length_append, List.length_nil]); omega) | simp [refsL, refs]) [-strBin, sb_add, sb_eql, sb_neq, sb_lss, Tryz.f18, Tryz.ti3, Tryz.ti4, Tryz.ti9, Tryz.ti22, Tryz.ti31, Tryz.ti32, Tryz.ti33, Tryz.ti34, Tryz.ti36, Tryz.ti44, Tryz.ti50, Tryz.ti82, Tryz.ti85, Tryz.ti94, Tryz.ti100, hx, hs, hw, e0, e1, e2] <;> first | (change _ = true; decide +kernel) | (refine ⟨?_, ?_⟩ <;> (change _ = true; decide +kernel))
  · obtain ⟨v1, _, v3⟩ := rights_all hv
    have hx := ev_rshowexprs b.values (by omega) v1 h.values.2
    have hxl := (ev_xps v1 h.values.2 (by omega)).2
    have hsh : showStm (.mk b acts) = [73, 78, 83, 69, 82, 84, 32, 73, 78, 84, 79, 32] ++ (b.table ++ ([32, 86, 65, 76, 85, 69, 83, 32, 40] ++ (commaS (b.values.map showE) ++ [41]))) := by simp [showStm, hk, h0]
    rw [hsh, EV_mki rfl Tryz.func18 rfl (by kernel_rfl), senc_mk]
    generalize commaS (b.values.map showE) = I at hx hxl ⊢
    have e1 : 0 < b.values.length := List.length_pos_iff.2 h0
    have e2 : (0 : Int) < b.values.length := by omega
    obtain ⟨kind, name, table, col, cols, values, items, wher, sets, src, prio, event, deferred, rolls⟩ := b
    dsimp only at hk n2 h0 hx e1 e2 ⊢
    subst hk
    simp (disch := first | ((try simp only [List.length_cons, List.length_append, List.length_nil]); omega) | simp [refsL, refs]) [-strBin, sb_add, sb_eql, sb_neq, sb_lss, Tryz.f18, Tryz.ti3, Tryz.ti4, Tryz.ti9, Tryz.ti22, Tryz.ti31, Tryz.ti32, Tryz.ti33, Tryz.ti34, Tryz.ti36, Tryz.ti44, Tryz.ti50, Tryz.ti82, Tryz.ti85, Tryz.ti94, Tryz.ti100, hx, h0, e1, e2] <;> first | (change _ = true; decide +kernel) | (refine ⟨?_, ?_⟩ <;> (change _ = true; decide +kernel))
set_option maxRecDepth 100000 in
set_option maxHeartbeats 16000000 in
theorem ev_rshow15 (b : StB) (acts : List Stm) (h : b.ok) (hr : rightStm (.mk b acts) = true) (hk : b.kind = 15) : EV 18 [(Stm.mk b acts).enc] [] = some (.ret (.str (showStm (.mk b acts))), []) := by
  have hr2 : rightsE b.items 0 40 = true ∧ rightFromS b.src b.wher 1 = true := by simpa [rightK, nameK, hk] using rightK_of b acts hr
  have hfp : srcsOk b.src ∧ rightsE b.wher 0 1 = true := src_where hr2.2
  obtain ⟨i1, _, i3⟩ := rights_all hr2.1
  have hx := ev_rshowexprs b.items (by omega) i1 h.items.2
  have hxl := (ev_xps i1 h.items.2 (by omega)).2
  have hs := ev_rshowsources b.src (by have := hfp.1.2; omega) hfp.1.1
  have hsl := comma_len (b.src.map showSrcS) (by simp; have := hfp.1.2; omega) (fun x hx => by obtain ⟨y, hy, rfl⟩ := List.mem_map.1 hx; have := (ev_showsource y (hfp.1.1 y hy)).2; omega)
  have hw := ev_rwhere b acts hfp.2 h.wher.2
  have hwl := (ev_where b acts hfp.2 h.wher.2).2
  have hsh : showStm (.mk b acts) = queryS b := by simp [showStm, hk]
  rw [hsh]
  simp only [queryS, itemsS]
  rw [EV_mki rfl Tryz.func18 rfl (by kernel_rfl), senc_mk]
  rw [senc_mk] at hw
  generalize whereS b.wher = W at hw hwl ⊢
  generalize commaS (b.src.map showSrcS) = C at hs hsl ⊢
  obtain ⟨kind, name, table, col, cols, values, items, wher, sets, src, prio, event, deferred, rolls⟩ := b
  dsimp only at hk hw hx hxl hs ⊢
  subst hk
  by_cases e0 : items = []
  · subst e0
    simp only [List.map_nil] at hx hw
    have hc0 : commaS ([] : List (List UInt8)) = [] := by simp [commaS, Lib.join_nil]
    rw [hc0] at hx
    simp only [List.map_nil] at *
    simp (disch := first | ((try simp only [List.length_cons, List.length_append, List.length_nil]); omega) | simp [refsL, refs]) [-strBin, sb_add, sb_eql, sb_neq, sb_lss, Tryz.f18, Tryz.ti3, Tryz.ti4, Tryz.ti9, Tryz.ti22, Tryz.ti31, Tryz.ti32, Tryz.ti33, Tryz.ti34, Tryz.ti36, Tryz.ti44, Tryz.ti50, Tryz.ti82, Tryz.ti85, Tryz.ti94, Tryz.ti100, hx, hs, hw] <;> first | (change _ = true; decide +kernel) | (refine ⟨?_, ?_⟩ <;> (change _ = true; decide +kernel))
  · have e1 : ¬ items.length = 0 := fun e => e0 (List.eq_nil_of_length_eq_zero e)
    have e2 : ¬ (items.length : Int) = 0 := by omega
    generalize commaS (items.map showE) = I at hx hxl ⊢
    simp (disch := first | ((try simp only [List.length_cons, List.length_append, List.length_nil]); omega) | simp [refsL, refs]) [-strBin, sb_add, sb_eql, sb_neq, sb_lss, Tryz.f18, Tryz.ti3, Tryz.ti4, Tryz.ti9, Tryz.ti22, Tryz.ti31, Tryz.ti32, Tryz.ti33, Tryz.ti34, Tryz.ti36, Tryz.ti44, Tryz.ti50, Tryz.ti82, Tryz.ti85, Tryz.ti94, Tryz.ti100, hx, hs, hw, e0, e1, e2] <;> first | (change _ = true; decide +kernel) | (refine ⟨?_, ?_⟩ <;> (change _ = true; decide +kernel))
end Go.Abs

