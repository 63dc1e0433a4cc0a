/- Which lists and sources are right: the reference's answers. -/
import Derived.Test.YtpmeklllgnnffaaGreatDoorL24
import Derived.Test.YtpmeklllgnnffaaGreatDoorL27
import Derived.Test.YtpmeklllgnnffaaGreatDoorL28
import Derived.Test.YtpmeklllgnnffaaGreatDoorL25
set_option linter.unusedSimpArgs false
set_option linter.unusedVariables false

namespace Go.Abs
set_option linter.unusedSimpArgs false
set_option linter.unusedVariables false
open Go Go.Proofs
attribute [local simp] i_nil i_blk i_skip i_ret i_exit i_seq i_block i_cond i_region' i_ops_nil i_ops i_drawn' d_in a_nil a_cons alt1 h_nil h_one h_two z_nil z_cons z_cells zeqL zeq q_alloc q_some isAlO nxtN i_drh d_hi i_drw_nil i_drw u_nil u_code u_ops u_drw u_lp u_again u_exit u_ret u_panic c_bool o_some o_val o_panic d_some d_val d_panic w_none w_fast wantG q_nil q_zero q_succ t_zero t_succ g_zero g_succ s_zero s_succ s_some s_none v_tmp v_const v_func f_quiet gc_none gc_pure wrap_i64 p_move p_assign p_pick p_alloc p_box p_build p_buildSlice p_load p_store p_nilCheck p_binOp n_tmp n_int n_bool n_str n_ptr n_fun n_iface nilCmp p_unOp p_convert p_makeSlice p_makeInterface p_makeFunc p_slice p_fieldAddr p_field p_indexAddr p_index p_extract p_callv p_callb p_panic quiet_val new_val e_assign e_call e_load e_store e_alloc e_box e_move e_pick e_build e_buildSlice e_nilCheck e_binOp e_unOp e_convert e_makeSlice e_makeInterface e_makeFunc e_slice e_fieldAddr e_field e_indexAddr e_index e_extract e_panic callD fpRead adoptZ fulls adopt adoptL ofValue ofScalar binOpV unOpV intBin strBin eqRes veq veqF eqDepth val? finish resL r_tmp r_cell normL normTop tipIs refsL refs ownRefs single frz frzL ren renL renOwn callOp doCall backR writeBack builtinV loadV storeV cellsAt takeV D.isAgg overlay vcells cellOk fieldAddrV indexAddrV fieldV partV indexV buildV fillV buildSliceV litElems appendV appElems elemOk convertV convV winStr makeSliceV sliceV natOf
attribute [local simp ↓] brB_true brB_false brB_dec brB_not brB_and brB_or brB_beq brB_bne

set_option maxRecDepth 100000 in
set_option maxHeartbeats 4000000 in
theorem ev_rexprs (l : List Xp) (hl : l.length ≤ 1048576) (ho : ∀ m ∈ l, m.ok) (least most : Int) : EV 48 [.slice .froz (l.map Xp.enc), .int .i64 least, .int .i64 most] [] = some (.ret (.bool (rightsE l least most)), []) := by
  rw [EV_mki rfl Tryz.func48 rfl (by kernel_rfl) rfl]
  unfold rightsE
  by_cases h1 : least ≤ (l.length : Int)
  · have h1' : ¬ (l.length : Int) < least := by omega
    by_cases h2 : (l.length : Int) ≤ most
    · have h2' : ¬ most < (l.length : Int) := by omega
      simp [Tryz.f48, Tryz.ti3, Tryz.ti9, Tryz.ti31, Tryz.ti44, Tryz.ti50, h1, h1', h2, h2']
      rw [i_loop (ts := [18, 19, 20, 21, 24, 25, 26, 27, 28, 29, 22, 23])]
      rotate_left
      · kernel_rfl
      refine i_at (fun i : {i : Nat // i ≤ l.length} => l.length - i.1) (fun i env => setV env 7 (.int .i64 i.1)) (fun i => _) (fun i => some (.ret (.bool ((l.drop i.1).all (rightE 20))), [])) ⟨0, by omega⟩ (by simp [s_zero, s_succ]) rfl (by simp) ?_
      intro ⟨i, hil⟩ ih
      dsimp only at hil ⊢
      by_cases hi : i < l.length
      · have ih := ih ⟨i + 1, by omega⟩ (by simp only; omega)
        have hwi : IntKind.i64.wrap ((i : Int) + 1) = (i : Int) + 1 := wrap_i64 (by omega)
        have hc := ev_rrightx 20 l[i] (ho _ (List.getElem_mem hi)) (by omega)
        obtain ⟨t, hk⟩ : ∃ m, l[i] = m := ⟨_, rfl⟩
        rw [List.drop_eq_getElem_cons hi, List.all_cons, hk]
        rw [hk] at hc
        obtain ⟨op', v', var', col', kids'⟩ := t
        rw [xenc_mk] at hc
        simp only [s_zero, s_succ, Int.natCast_add, Int.natCast_one, Int.cast_ofNat_Int] at ih hc
        cases hd : rightE 20 (.mk op' v' var' col' kids') <;> rw [hd] at hc <;> simp [i_again, roundEnd, dropT, cleanV, Tryz.f48, Tryz.ti3, Tryz.ti9, Tryz.ti31, Tryz.ti44, Tryz.ti50, hi, hk, xenc_mk, hwi, ih, hc]
      · rw [List.drop_of_length_le (by omega)]
        simp [i_again, roundEnd, dropT, cleanV, Tryz.f48, Tryz.ti3, Tryz.ti9, Tryz.ti31, Tryz.ti44, Tryz.ti50, hi]
    · have h2' : most < (l.length : Int) := by omega
      simp [Tryz.f48, Tryz.ti3, Tryz.ti9, Tryz.ti31, Tryz.ti44, Tryz.ti50, h1, h1', h2, h2']
  · have h1' : (l.length : Int) < least := by omega
    simp [Tryz.f48, Tryz.ti3, Tryz.ti9, Tryz.ti31, Tryz.ti44, Tryz.ti50, h1, h1']

def srcsS (l : List Src) (least : Int) : Bool := l.all rightSrc && (decide (least ≤ (l.length : Int)) && decide ((l.length : Int) ≤ 3))
set_option maxRecDepth 100000 in
set_option maxHeartbeats 8000000 in
theorem ev_rsources (l : List Src) (hl : l.length ≤ 1048576) (ho : ∀ m ∈ l, m.ok) (least : Int) : EV 49 [.slice .froz (l.map Src.enc), .int .i64 least] [] = some (.ret (.bool (srcsS l least)), []) := by
  rw [EV_mki rfl Tryz.func49 rfl (by kernel_rfl) rfl]
  unfold srcsS
  by_cases h1 : least ≤ (l.length : Int)
  · have h1' : ¬ (l.length : Int) < least := by omega
    by_cases h2 : (l.length : Int) ≤ 3
    · have h2' : ¬ 3 < (l.length : Int) := by omega
      have h2'' : ¬ 3 < l.length := by omega
      simp [Tryz.f49, Tryz.ti3, Tryz.ti9, Tryz.ti33, Tryz.ti85, h1, h1', h2, h2', h2'']
      rw [i_loop (ts := [16, 17, 18, 19, 22, 23, 24, 25, 6, 26, 27, 28, 29, 30, 31, 32, 33, 34, 35, 36, 37, 38, 39, 40, 41, 42, 43, 44, 45, 46, 47, 48, 49, 50, 51, 52, 53, 54, 55, 56, 57, 58, 59, 60, 61, 62, 63, 20, 21])]
      rotate_left
      · kernel_rfl
      refine i_at (fun i : {i : Nat // i ≤ l.length} => l.length - i.1) (fun i env => setV env 5 (.int .i64 i.1)) (fun i => _) (fun i => some (.ret (.bool ((l.drop i.1).all rightSrc)), [])) ⟨0, by omega⟩ (by simp [s_zero, s_succ]) rfl (by simp) ?_
      intro ⟨i, hil⟩ ih
      dsimp only at hil ⊢
      by_cases hi : i < l.length
      · have ih := ih ⟨i + 1, by omega⟩ (by simp only; omega)
        have hwi : IntKind.i64.wrap ((i : Int) + 1) = (i : Int) + 1 := wrap_i64 (by omega)
        have hot := ho _ (List.getElem_mem hi)
        obtain ⟨t, hk⟩ : ∃ m, l[i] = m := ⟨_, rfl⟩
        rw [hk] at hot
        rw [List.drop_eq_getElem_cons hi, List.all_cons, hk]
        obtain ⟨k, tb, v⟩ := t
        have n1 := ev_rname v (by have := hot.2.2; simp only at this; omega)
        have n2 := ev_rname tb (by have := hot.2.1; simp only at this; omega)
        simp only [s_zero, s_succ, Int.natCast_add, Int.natCast_one, Int.cast_ofNat_Int] at ih
        simp only [rightSrc]
        have tail : ∀ (hv : v = [] ∨ nameS v = true ∧ ¬ v = []), True := fun _ => trivial
        by_cases hv : v = []
        · subst hv
          by_cases k0 : k = 0
          · subst k0
            cases hb : nameS tb <;> rw [hb] at n2 <;> simp [i_again, roundEnd, dropT, cleanV, Tryz.f49, Tryz.ti3, Tryz.ti9, Tryz.ti33, Tryz.ti85, hi, hk, Src.enc, Src.cells, hwi, ih, n2]
          · by_cases k1 : 1 ≤ k
            · have k1' : ¬ k < 0 := by omega
              have k1'' : 0 < k := by omega
              by_cases k4 : k ≤ 4
              · have k4' : ¬ 4 < k := by omega
                by_cases ht : tb = [] <;> simp [i_again, roundEnd, dropT, cleanV, Tryz.f49, Tryz.ti3, Tryz.ti9, Tryz.ti33, Tryz.ti85, hi, hk, Src.enc, Src.cells, hwi, ih, k0, k1, k1', k1'', k4, k4', ht]
              · have k4' : 4 < k := by omega
                simp [i_again, roundEnd, dropT, cleanV, Tryz.f49, Tryz.ti3, Tryz.ti9, Tryz.ti33, Tryz.ti85, hi, hk, Src.enc, Src.cells, k0, k1, k1', k1'', k4, k4']
            · have k1' : k < 0 := by omega
              simp [i_again, roundEnd, dropT, cleanV, Tryz.f49, Tryz.ti3, Tryz.ti9, Tryz.ti33, Tryz.ti85, hi, hk, Src.enc, Src.cells, k0, k1, k1']
        · cases hbv : nameS v <;> rw [hbv] at n1
          · simp [i_again, roundEnd, dropT, cleanV, Tryz.f49, Tryz.ti3, Tryz.ti9, Tryz.ti33, Tryz.ti85, hi, hk, Src.enc, Src.cells, hv, n1]
          · by_cases k0 : k = 0
            · subst k0
              cases hb : nameS tb <;> rw [hb] at n2 <;> simp [i_again, roundEnd, dropT, cleanV, Tryz.f49, Tryz.ti3, Tryz.ti9, Tryz.ti33, Tryz.ti85, hi, hk, Src.enc, Src.cells, hwi, ih, n1, n2, hv]
            · by_cases k1 : 1 ≤ k
              · have k1' : ¬ k < 0 := by omega
                have k1'' : 0 < k := by omega
                by_cases k4 : k ≤ 4
                · have k4' : ¬ 4 < k := by omega
                  by_cases ht : tb = [] <;> simp [i_again, roundEnd, dropT, cleanV, Tryz.f49, Tryz.ti3, Tryz.ti9, Tryz.ti33, Tryz.ti85, hi, hk, Src.enc, Src.cells, hwi, ih, n1, hv, k0, k1, k1', k1'', k4, k4', ht]
                · have k4' : 4 < k := by omega
                  simp [i_again, roundEnd, dropT, cleanV, Tryz.f49, Tryz.ti3, Tryz.ti9, Tryz.ti33, Tryz.ti85, hi, hk, Src.enc, Src.cells, n1, hv, k0, k1, k1', k1'', k4, k4']
              · have k1' : k < 0 := by omega
                simp [i_again, roundEnd, dropT, cleanV, Tryz.f49, Tryz.ti3, Tryz.ti9, Tryz.ti33, Tryz.ti85, hi, hk, Src.enc, Src.cells, n1, hv, k0, k1, k1']
      · rw [List.drop_of_length_le (by omega)]
        simp [i_again, roundEnd, dropT, cleanV, Tryz.f49, Tryz.ti3, Tryz.ti9, Tryz.ti33, Tryz.ti85, hi]
    · have h2' : 3 < (l.length : Int) := by omega
      have h2'' : 3 < l.length := by omega
      simp [Tryz.f49, Tryz.ti3, Tryz.ti9, Tryz.ti33, Tryz.ti85, h1, h1', h2, h2', h2'']
  · have h1' : (l.length : Int) < least := by omega
    simp [Tryz.f49, Tryz.ti3, Tryz.ti9, Tryz.ti33, Tryz.ti85, h1, h1']
end Go.Abs

namespace Go.Abs
set_option linter.unusedSimpArgs false
set_option linter.unusedVariables false
open Go Go.Proofs
attribute [local simp] i_nil i_blk i_skip i_ret i_exit i_seq i_block i_cond i_region' i_ops_nil i_ops i_drawn' d_in a_nil a_cons alt1 h_nil h_one h_two z_nil z_cons z_cells zeqL zeq q_alloc q_some isAlO nxtN i_drh d_hi i_drw_nil i_drw u_nil u_code u_ops u_drw u_lp u_again u_exit u_ret u_panic c_bool o_some o_val o_panic d_some d_val d_panic w_none w_fast wantG q_nil q_zero q_succ t_zero t_succ g_zero g_succ s_zero s_succ s_some s_none v_tmp v_const v_func f_quiet gc_none gc_pure wrap_i64 p_move p_assign p_pick p_alloc p_box p_build p_buildSlice p_load p_store p_nilCheck p_binOp n_tmp n_int n_bool n_str n_ptr n_fun n_iface nilCmp p_unOp p_convert p_makeSlice p_makeInterface p_makeFunc p_slice p_fieldAddr p_field p_indexAddr p_index p_extract p_callv p_callb p_panic quiet_val new_val e_assign e_call e_load e_store e_alloc e_box e_move e_pick e_build e_buildSlice e_nilCheck e_binOp e_unOp e_convert e_makeSlice e_makeInterface e_makeFunc e_slice e_fieldAddr e_field e_indexAddr e_index e_extract e_panic callD fpRead adoptZ fulls adopt adoptL ofValue ofScalar binOpV unOpV intBin strBin eqRes veq veqF eqDepth val? finish resL r_tmp r_cell normL normTop tipIs refsL refs ownRefs single frz frzL ren renL renOwn callOp doCall backR writeBack builtinV loadV storeV cellsAt takeV D.isAgg overlay vcells cellOk fieldAddrV indexAddrV fieldV partV indexV buildV fillV buildSliceV litElems appendV appElems elemOk convertV convV winStr makeSliceV sliceV natOf
attribute [local simp ↓] brB_true brB_false brB_dec brB_not brB_and brB_or brB_beq brB_bne
attribute [local irreducible] fpsQ panQ

theorem ad_stmt (st : St) : adopt (V.agg [V.int .i64 0, V.str [], V.str [], V.str [], V.slice .full [], V.slice .full [], V.slice .full [], V.slice .full [], V.slice .full [], V.slice .full [], V.int .i64 0, V.int .i64 0, V.bool false, V.bool false, V.slice .full []]) st = (V.agg [V.int .i64 0, V.str [], V.str [], V.str [], V.slice (.own st.length) [], V.slice (.own (st.length + 1)) [], V.slice (.own (st.length + 2)) [], V.slice (.own (st.length + 3)) [], V.slice (.own (st.length + 4)) [], V.slice (.own (st.length + 5)) [], V.int .i64 0, V.int .i64 0, V.bool false, V.bool false, V.slice (.own (st.length + 6)) []], st ++ [[.tip 0], [.tip 0], [.tip 0], [.tip 0], [.tip 0], [.tip 0], [.tip 0]]) := id rfl
theorem ad_stmt2 (k p e : Int) (n t c : List UInt8) (C A I W : List V) (d r : Bool) (st : St) : adopt (V.agg [V.int .i64 k, V.str n, V.str t, V.str c, V.slice .froz C, V.slice .froz A, V.slice .froz I, V.slice .froz W, V.slice .full [], V.slice .full [], V.int .i64 p, V.int .i64 e, V.bool d, V.bool r, V.slice .full []]) st = (V.agg [V.int .i64 k, V.str n, V.str t, V.str c, V.slice .froz C, V.slice .froz A, V.slice .froz I, V.slice .froz W, V.slice (.own st.length) [], V.slice (.own (st.length + 1)) [], V.int .i64 p, V.int .i64 e, V.bool d, V.bool r, V.slice (.own (st.length + 2)) []], st ++ [[.tip 0], [.tip 0], [.tip 0]]) := id rfl

theorem sete_cells (x : SetE) : (vcells x.enc).length = 8 := by
  obtain ⟨c, e⟩ := x
  have := xenc_cells e
  simp only [SetE.enc, vcells, List.length_cons]
  simpa [vcells] using this
theorem stm_cells (x : Stm) : (vcells x.enc).length = 15 := by
  obtain ⟨b, acts⟩ := x
  rw [senc_mk]
  rfl
set_option maxRecDepth 100000 in
set_option maxHeartbeats 2000000 in
theorem ev_plainstm_of (b : StB) (acts : List Stm) (h : b.ok) (hl : acts.length ≤ 1048576) (ihk : ∀ a ∈ acts, EV 14 [a.enc] [] = some (.ret a.enc, [])) :
    EV 14 [(Stm.mk b acts).enc] [] = some (.ret (Stm.mk b acts).enc, []) := by
  have p1 := ev_plainxs b.values h.values.1 ((xoks_iff _).2 h.values.2)
  have p2 := ev_plainxs b.items h.items.1 ((xoks_iff _).2 h.items.2)
  have p3 := ev_plainxs b.wher h.wher.1 ((xoks_iff _).2 h.wher.2)
  rw [EV_mki rfl Tryz.func14 rfl (by kernel_rfl) rfl, senc_mk]
  have hs := h.sets
  have hf := h.src
  obtain ⟨kind, name, table, col, cols, values, items, wher, sets, src, prio, event, deferred, rolls⟩ := b
  dsimp only at p1 p2 p3 hs hf ⊢
  simp [-adopt, -adoptL, ad_full, ad_froz, ad_own, ad_int, ad_bool, ad_str, ad_box, ad_agg, isFull, noFull, ↓ad_stmt, ↓ad_stmt2, Tryz.f14, Tryz.ti3, Tryz.ti4, Tryz.ti9, Tryz.ti22, Tryz.ti23, Tryz.ti24, Tryz.ti25, Tryz.ti26, Tryz.ti28, Tryz.ti31, Tryz.ti32, Tryz.ti33, Tryz.ti34, Tryz.ti36, Tryz.ti44, Tryz.ti46, Tryz.ti50, Tryz.ti80, Tryz.ti82, Tryz.ti84, Tryz.ti85, Tryz.ti94, p1, p2, p3]
  refine ⟨by change _ = true; decide +kernel, ?_⟩
  rw [i_loop (ts := [42, 43, 44, 5, 45, 46, 47, 48, 49, 50, 51, 52, 53, 54, 55, 56])]
  rotate_left
  · kernel_rfl
  refine i_at2 (fun i : {i : Nat // i ≤ sets.length} => sets.length - i.1) (fun i env => setV env 41 (.int .i64 i.1)) (fun i st => (st.set 3 [.tip i.1]).set 2 [V.int .i64 kind, V.str name, V.str table, V.str col, V.slice .froz (cols.map Col.enc), V.slice .froz (values.map Xp.enc), V.slice .froz (items.map Xp.enc), V.slice .froz (wher.map Xp.enc), V.slice (.own 3) ((sets.take i.1).map SetE.enc), V.slice (.own 4) [], V.int .i64 prio, V.int .i64 event, V.bool deferred, V.bool rolls, V.slice (.own 5) []]) (fun _ => _) ⟨0, by omega⟩ (by simp [s_zero, s_succ]) rfl rfl ?_
  intro ⟨i, hil⟩ ih
  dsimp only at hil ⊢
  by_cases hi : i < sets.length
  · have ih := ih ⟨i + 1, by omega⟩ (by simp only; omega)
    have hwi : IntKind.i64.wrap ((i : Int) + 1) = (i : Int) + 1 := wrap_i64 (by omega)
    have hlen : ((sets.take i).map SetE.enc).length = i := by simp; omega
    obtain ⟨t, hk⟩ : ∃ m, sets[i] = m := ⟨_, rfl⟩
    have ht2 : (sets.take (i + 1)).map SetE.enc = (sets.take i).map SetE.enc ++ [SetE.enc t] := by rw [List.take_succ_eq_append_getElem hi, hk]; simp
    have hff : ∀ x ∈ (sets.take i).map SetE.enc, (vcells x).length = 8 := fun x hx => by obtain ⟨y, _, rfl⟩ := List.mem_map.1 hx; exact sete_cells y
    have hcx := ev_plainx sets[i].e (hs.2 _ (List.getElem_mem hi)).2
    rw [hk] at hcx
    simp only at ih
    rw [ht2] at ih
    clear ht2
    generalize (sets.take i).map SetE.enc = xs at *
    obtain ⟨tc, op, v, var, co, kids⟩ := t
    simp only [s_zero, s_succ, Int.natCast_add, Int.natCast_one, Int.cast_ofNat_Int, List.set, SetE.enc, xenc_mk, vcells] at ih
    simp only [xenc_mk] at hcx
    simp only [vcells] at hff
    have hbb24 : (i + 1) * 24 ≤ 70368744177664 := by omega
    have hbb40 : (i + 1) * 40 ≤ 70368744177664 := by omega
    have hbb48 : (i + 1) * 48 ≤ 70368744177664 := by omega
    have hbb104 : (i + 1) * 104 ≤ 70368744177664 := by omega
    have hbb112 : (i + 1) * 112 ≤ 70368744177664 := by omega
    have hbb120 : (i + 1) * 120 ≤ 70368744177664 := by omega
    have hbb128 : (i + 1) * 128 ≤ 70368744177664 := by omega
    have hbb248 : (i + 1) * 248 ≤ 70368744177664 := by omega
    have hbb256 : (i + 1) * 256 ≤ 70368744177664 := by omega
    have hbb264 : (i + 1) * 264 ≤ 70368744177664 := by omega
    have hbb272 : (i + 1) * 272 ≤ 70368744177664 := by omega
    have hbb280 : (i + 1) * 280 ≤ 70368744177664 := by omega
    have hbb288 : (i + 1) * 288 ≤ 70368744177664 := by omega
    have hbb296 : (i + 1) * 296 ≤ 70368744177664 := by omega
    have hbb304 : (i + 1) * 304 ≤ 70368744177664 := by omega
    have hbb312 : (i + 1) * 312 ≤ 70368744177664 := by omega
    have hbc : i + 1 ≤ 70368744177664 := by omega
    simp +contextual [i_again, roundEnd, dropT, cleanV, Tryz.f14, Tryz.ti3, Tryz.ti4, Tryz.ti9, Tryz.ti22, Tryz.ti23, Tryz.ti24, Tryz.ti25, Tryz.ti26, Tryz.ti28, Tryz.ti31, Tryz.ti32, Tryz.ti33, Tryz.ti34, Tryz.ti36, Tryz.ti44, Tryz.ti46, Tryz.ti50, Tryz.ti80, Tryz.ti82, Tryz.ti84, Tryz.ti85, Tryz.ti94, appFp, hi, hk, SetE.enc, xenc_mk, hwi, hlen, hbb24, hbb40, hbb48, hbb104, hbb112, hbb120, hbb128, hbb248, hbb256, hbb264, hbb272, hbb280, hbb288, hbb296, hbb304, hbb312, hbc, hff, ih, hcx]
    change _ = true; decide +kernel
  have ht2 : sets.take i = sets := List.take_of_length_le (by omega)
  rw [ht2]
  obtain rfl : i = sets.length := by omega
  clear ih
  simp [-adopt, -adoptL, ad_full, ad_froz, ad_own, ad_int, ad_bool, ad_str, ad_box, ad_agg, isFull, noFull, i_again, roundEnd, dropT, cleanV, Tryz.f14, Tryz.ti3, Tryz.ti4, Tryz.ti9, Tryz.ti22, Tryz.ti23, Tryz.ti24, Tryz.ti25, Tryz.ti26, Tryz.ti28, Tryz.ti31, Tryz.ti32, Tryz.ti33, Tryz.ti34, Tryz.ti36, Tryz.ti44, Tryz.ti46, Tryz.ti50, Tryz.ti80, Tryz.ti82, Tryz.ti84, Tryz.ti85, Tryz.ti94, List.set]
  rw [i_loop (ts := [61, 62, 63, 7, 64, 65, 66, 67, 68, 69, 70])]
  rotate_left
  · kernel_rfl
  refine i_at2 (fun i : {i : Nat // i ≤ src.length} => src.length - i.1) (fun i env => setV env 60 (.int .i64 i.1)) (fun i st => (st.set 4 [.tip i.1]).set 2 [V.int .i64 kind, V.str name, V.str table, V.str col, V.slice .froz (cols.map Col.enc), V.slice .froz (values.map Xp.enc), V.slice .froz (items.map Xp.enc), V.slice .froz (wher.map Xp.enc), V.slice (.own 3) (sets.map SetE.enc), V.slice (.own 4) ((src.take i.1).map Src.enc), V.int .i64 prio, V.int .i64 event, V.bool deferred, V.bool rolls, V.slice (.own 5) []]) (fun _ => _) ⟨0, by omega⟩ (by simp [s_zero, s_succ]) rfl rfl ?_
  intro ⟨i, hil⟩ ih
  dsimp only at hil ⊢
  by_cases hi : i < src.length
  · have ih := ih ⟨i + 1, by omega⟩ (by simp only; omega)
    have hwi : IntKind.i64.wrap ((i : Int) + 1) = (i : Int) + 1 := wrap_i64 (by omega)
    have hlen : ((src.take i).map Src.enc).length = i := by simp; omega
    obtain ⟨t, hk⟩ : ∃ m, src[i] = m := ⟨_, rfl⟩
    have ht2 : (src.take (i + 1)).map Src.enc = (src.take i).map Src.enc ++ [Src.enc t] := by rw [List.take_succ_eq_append_getElem hi, hk]; simp
    have hff : ∀ x ∈ (src.take i).map Src.enc, (vcells x).length = 3 := fun x hx => by obtain ⟨y, _, rfl⟩ := List.mem_map.1 hx; rfl
    simp only at ih
    rw [ht2] at ih
    clear ht2
    generalize (src.take i).map Src.enc = xs at *
    obtain ⟨tk, tt, tv⟩ := t
    simp only [s_zero, s_succ, Int.natCast_add, Int.natCast_one, Int.cast_ofNat_Int, List.set, Src.enc, Src.cells, vcells] at ih
    simp only [vcells] at hff
    have hbb24 : (i + 1) * 24 ≤ 70368744177664 := by omega
    have hbb40 : (i + 1) * 40 ≤ 70368744177664 := by omega
    have hbb48 : (i + 1) * 48 ≤ 70368744177664 := by omega
    have hbb104 : (i + 1) * 104 ≤ 70368744177664 := by omega
    have hbb112 : (i + 1) * 112 ≤ 70368744177664 := by omega
    have hbb120 : (i + 1) * 120 ≤ 70368744177664 := by omega
    have hbb128 : (i + 1) * 128 ≤ 70368744177664 := by omega
    have hbb248 : (i + 1) * 248 ≤ 70368744177664 := by omega
    have hbb256 : (i + 1) * 256 ≤ 70368744177664 := by omega
    have hbb264 : (i + 1) * 264 ≤ 70368744177664 := by omega
    have hbb272 : (i + 1) * 272 ≤ 70368744177664 := by omega
    have hbb280 : (i + 1) * 280 ≤ 70368744177664 := by omega
    have hbb288 : (i + 1) * 288 ≤ 70368744177664 := by omega
    have hbb296 : (i + 1) * 296 ≤ 70368744177664 := by omega
    have hbb304 : (i + 1) * 304 ≤ 70368744177664 := by omega
    have hbb312 : (i + 1) * 312 ≤ 70368744177664 := by omega
    have hbc : i + 1 ≤ 70368744177664 := by omega
    simp +contextual [i_again, roundEnd, dropT, cleanV, Tryz.f14, Tryz.ti3, Tryz.ti4, Tryz.ti9, Tryz.ti22, Tryz.ti23, Tryz.ti24, Tryz.ti25, Tryz.ti26, Tryz.ti28, Tryz.ti31, Tryz.ti32, Tryz.ti33, Tryz.ti34, Tryz.ti36, Tryz.ti44, Tryz.ti46, Tryz.ti50, Tryz.ti80, Tryz.ti82, Tryz.ti84, Tryz.ti85, Tryz.ti94, hi, hk, Src.enc, Src.cells, hwi, hlen, hbb24, hbb40, hbb48, hbb104, hbb112, hbb120, hbb128, hbb248, hbb256, hbb264, hbb272, hbb280, hbb288, hbb296, hbb304, hbb312, hbc, hff, ih]
  have ht2 : src.take i = src := List.take_of_length_le (by omega)
  rw [ht2]
  obtain rfl : i = src.length := by omega
  clear ih
  simp [-adopt, -adoptL, ad_full, ad_froz, ad_own, ad_int, ad_bool, ad_str, ad_box, ad_agg, isFull, noFull, i_again, roundEnd, dropT, cleanV, Tryz.f14, Tryz.ti3, Tryz.ti4, Tryz.ti9, Tryz.ti22, Tryz.ti23, Tryz.ti24, Tryz.ti25, Tryz.ti26, Tryz.ti28, Tryz.ti31, Tryz.ti32, Tryz.ti33, Tryz.ti34, Tryz.ti36, Tryz.ti44, Tryz.ti46, Tryz.ti50, Tryz.ti80, Tryz.ti82, Tryz.ti84, Tryz.ti85, Tryz.ti94, List.set]
  rw [i_loop (ts := [75, 76, 77, 9, 78, 79, 80, 81, 82, 83, 84, 85])]
  rotate_left
  · kernel_rfl
  refine i_at2 (fun i : {i : Nat // i ≤ acts.length} => acts.length - i.1) (fun i env => setV env 74 (.int .i64 i.1)) (fun i st => (st.set 5 [.tip i.1]).set 2 [V.int .i64 kind, V.str name, V.str table, V.str col, V.slice .froz (cols.map Col.enc), V.slice .froz (values.map Xp.enc), V.slice .froz (items.map Xp.enc), V.slice .froz (wher.map Xp.enc), V.slice (.own 3) (sets.map SetE.enc), V.slice (.own 4) (src.map Src.enc), V.int .i64 prio, V.int .i64 event, V.bool deferred, V.bool rolls, V.slice (.own 5) ((acts.take i.1).map Stm.enc)]) (fun _ => _) ⟨0, by omega⟩ (by simp [s_zero, s_succ]) rfl rfl ?_
  intro ⟨i, hil⟩ ih
  dsimp only at hil ⊢
  by_cases hi : i < acts.length
  · have ih := ih ⟨i + 1, by omega⟩ (by simp only; omega)
    have hwi : IntKind.i64.wrap ((i : Int) + 1) = (i : Int) + 1 := wrap_i64 (by omega)
    have hlen : ((acts.take i).map Stm.enc).length = i := by simp; omega
    obtain ⟨t, hk⟩ : ∃ m, acts[i] = m := ⟨_, rfl⟩
    have ht2 : (acts.take (i + 1)).map Stm.enc = (acts.take i).map Stm.enc ++ [Stm.enc t] := by rw [List.take_succ_eq_append_getElem hi, hk]; simp
    have hff : ∀ x ∈ (acts.take i).map Stm.enc, (vcells x).length = 15 := fun x hx => by obtain ⟨y, _, rfl⟩ := List.mem_map.1 hx; exact stm_cells y
    have hcx := ihk acts[i] (List.getElem_mem hi)
    rw [hk] at hcx
    simp only at ih
    rw [ht2] at ih
    clear ht2
    generalize (acts.take i).map Stm.enc = xs at *
    obtain ⟨tb, ta⟩ := t
    obtain ⟨ckind, cname, ctable, ccol, ccols, cvalues, citems, cwher, csets, csrc, cprio, cevent, cdeferred, crolls⟩ := tb
    simp only [s_zero, s_succ, Int.natCast_add, Int.natCast_one, Int.cast_ofNat_Int, List.set, senc_mk, vcells] at ih
    simp only [senc_mk] at hcx
    simp only [vcells] at hff
    have hbb24 : (i + 1) * 24 ≤ 70368744177664 := by omega
    have hbb40 : (i + 1) * 40 ≤ 70368744177664 := by omega
    have hbb48 : (i + 1) * 48 ≤ 70368744177664 := by omega
    have hbb104 : (i + 1) * 104 ≤ 70368744177664 := by omega
    have hbb112 : (i + 1) * 112 ≤ 70368744177664 := by omega
    have hbb120 : (i + 1) * 120 ≤ 70368744177664 := by omega
    have hbb128 : (i + 1) * 128 ≤ 70368744177664 := by omega
    have hbb248 : (i + 1) * 248 ≤ 70368744177664 := by omega
    have hbb256 : (i + 1) * 256 ≤ 70368744177664 := by omega
    have hbb264 : (i + 1) * 264 ≤ 70368744177664 := by omega
    have hbb272 : (i + 1) * 272 ≤ 70368744177664 := by omega
    have hbb280 : (i + 1) * 280 ≤ 70368744177664 := by omega
    have hbb288 : (i + 1) * 288 ≤ 70368744177664 := by omega
    have hbb296 : (i + 1) * 296 ≤ 70368744177664 := by omega
    have hbb304 : (i + 1) * 304 ≤ 70368744177664 := by omega
    have hbb312 : (i + 1) * 312 ≤ 70368744177664 := by omega
    have hbc : i + 1 ≤ 70368744177664 := by omega
    simp +contextual [-adopt, -adoptL, ad_full, ad_froz, ad_own, ad_int, ad_bool, ad_str, ad_box, ad_agg, isFull, noFull, ↓ad_stmt, ↓ad_stmt2, i_again, roundEnd, dropT, cleanV, Tryz.f14, Tryz.ti3, Tryz.ti4, Tryz.ti9, Tryz.ti22, Tryz.ti23, Tryz.ti24, Tryz.ti25, Tryz.ti26, Tryz.ti28, Tryz.ti31, Tryz.ti32, Tryz.ti33, Tryz.ti34, Tryz.ti36, Tryz.ti44, Tryz.ti46, Tryz.ti50, Tryz.ti80, Tryz.ti82, Tryz.ti84, Tryz.ti85, Tryz.ti94, appFp, hi, hk, senc_mk, hwi, hlen, hbb24, hbb40, hbb48, hbb104, hbb112, hbb120, hbb128, hbb248, hbb256, hbb264, hbb272, hbb280, hbb288, hbb296, hbb304, hbb312, hbc, hff, ih, hcx]
    change _ = true; decide +kernel
  have ht2 : acts.take i = acts := List.take_of_length_le (by omega)
  rw [ht2]
  obtain rfl : i = acts.length := by omega
  clear ih
  simp [i_again, roundEnd, dropT, cleanV, Tryz.f14, Tryz.ti3, Tryz.ti4, Tryz.ti9, Tryz.ti22, Tryz.ti23, Tryz.ti24, Tryz.ti25, Tryz.ti26, Tryz.ti28, Tryz.ti31, Tryz.ti32, Tryz.ti33, Tryz.ti34, Tryz.ti36, Tryz.ti44, Tryz.ti46, Tryz.ti50, Tryz.ti80, Tryz.ti82, Tryz.ti84, Tryz.ti85, Tryz.ti94, List.set]
end Go.Abs

