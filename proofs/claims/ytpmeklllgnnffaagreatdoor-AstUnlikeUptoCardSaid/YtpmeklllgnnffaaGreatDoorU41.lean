/- Which statements are right, by the reference. -/
import Derived.Test.YtpmeklllgnnffaaGreatDoorU32
import Derived.Test.YtpmeklllgnnffaaGreatDoorU33
import Derived.Test.YtpmeklllgnnffaaGreatDoorU34
import Derived.Test.YtpmeklllgnnffaaGreatDoorU36
import Derived.Test.YtpmeklllgnnffaaGreatDoorU37
import Derived.Test.YtpmeklllgnnffaaGreatDoorU38
import Derived.Test.YtpmeklllgnnffaaGreatDoorU40
import Derived.Test.YtpmeklllgnnffaaGreatDoorU27
set_option linter.unusedSimpArgs false
set_option linter.unusedVariables false

namespace Go.Abs
set_option linter.unusedSimpArgs false
set_option linter.unusedVariables false
open Go Go.Proofs
attribute [local simp] i_nil i_blk i_skip i_ret i_exit i_seq i_block i_cond i_region' i_ops_nil i_ops i_drawn' k_none k_0 k_1 k_2 k_3 k_4 k_5 d_in a_nil a_cons alt1 h_nil h_one h_two z_nil z_cons z_cells zeqL zeq q_alloc q_some nxtN i_drh d_hi i_drw_nil i_drw u_nil u_code u_ops u_drw u_lp u_again u_exit u_ret u_panic c_bool o_some o_val o_panic d_some d_val d_panic w_none w_fast wantG q_nil q_zero q_succ t_zero t_succ g_zero g_succ s_zero s_succ s_some s_none v_tmp v_const v_func f_quiet gc_none gc_pure wrap_i64 p_move p_assign p_pick p_alloc p_box p_build p_buildSlice p_load p_store p_nilCheck p_binOp n_tmp n_int n_bool n_str n_ptr n_fun n_iface nilCmp p_unOp p_convert p_makeSlice p_makeInterface p_makeFunc p_slice p_fieldAddr p_field p_indexAddr p_index p_extract p_callv p_callb p_panic quiet_val new_val e_assign e_call e_load e_store e_alloc e_box e_move e_pick e_build e_buildSlice e_nilCheck e_binOp e_unOp e_convert e_makeSlice e_makeInterface e_makeFunc e_slice e_fieldAddr e_field e_indexAddr e_index e_extract e_panic callD fpRead adoptZ fulls adopt adoptL ofValue ofScalar binOpV unOpV intBin strBin eqRes veq veqF eqDepth val? finish resL r_tmp r_cell normL normTop tipIs refsL refs ownRefs single frz frzL ren renL renOwn callOp doCall backR writeBack builtinV loadV storeV storeW iceT cellsAt takeV D.isAgg overlay vcells cellOk fieldAddrV indexAddrV fieldV partV indexV buildV fillV buildSliceV litElems appendV appElems elemOk convertV convV winStr makeSliceV sliceV natOf
attribute [local simp ↓] brB_true brB_false brB_dec brB_not brB_and brB_or brB_beq brB_bne
attribute [local irreducible] fpsQ panQ

theorem kinds15 {k : Int} (h1 : 1 ≤ k) (h2 : k ≤ 15) : k = 1 ∨ k = 2 ∨ k = 3 ∨ k = 4 ∨ k = 5 ∨ k = 6 ∨ k = 7 ∨ k = 8 ∨ k = 9 ∨ k = 10 ∨ k = 11 ∨ k = 12 ∨ k = 13 ∨ k = 14 ∨ k = 15 := by omega
theorem right_kind {b : StB} {acts : List Stm} (h : rightStm (.mk b acts) = true) : 1 ≤ b.kind ∧ b.kind ≤ 15 := by
  have h := rightK_of b acts h
  unfold rightK at h
  by_cases hk : 1 ≤ b.kind ∧ b.kind ≤ 15
  · exact hk
  · have hn : ¬ nameK b.kind := by unfold nameK; omega
    rw [if_neg (by omega), if_neg hn, if_neg (by omega), if_neg (by omega), if_neg (by omega), if_neg (by omega), if_neg (by omega), if_neg (by omega), if_neg (by omega)] at h
    cases h
set_option maxRecDepth 100000 in
set_option maxHeartbeats 16000000 in
theorem ev_rr_other (b : StB) (acts : List Stm) (h : b.ok) (hk : ¬ (1 ≤ b.kind ∧ b.kind ≤ 15)) : EV 16 [(Stm.mk b acts).enc] [] = some (.ret (.bool (rightStm (.mk b acts))), []) := by
  have hf : rightStm (.mk b acts) = false := by
    cases hr : rightStm (.mk b acts) with
    | false => rfl
    | true => exact absurd (right_kind hr) hk
  have n1 := ev_rname b.name (by have := h.name; omega)
  have n2 := ev_rname b.table (by have := h.table; omega)
  have n3 := ev_rname b.col (by have := h.col; omega)
  rw [hf, EV_mki rfl Tryz.func16 rfl (by kernel_rfl) rfl, senc_mk]
  obtain ⟨kind, name, table, col, cols, values, items, wher, sets, src, prio, event, deferred, rolls⟩ := b
  dsimp only at hk n1 n2 n3
  by_cases h1 : kind < 1
  · have a1 : ¬ 4 ≤ kind := by omega
    have a2 : ¬ kind = 7 := by omega
    have a3 : ¬ kind = 8 := by omega
    have a4 : ¬ 12 ≤ kind := by omega
    simp [Tryz.f16, Tryz.ti3, Tryz.ti4, Tryz.ti9, Tryz.ti22, Tryz.ti31, Tryz.ti32, Tryz.ti33, Tryz.ti34, Tryz.ti36, Tryz.ti44, Tryz.ti50, Tryz.ti82, Tryz.ti85, Tryz.ti94, n1, n2, n3, h1, a1, a2, a3, a4]
  · have a1 : 4 ≤ kind := by omega
    have a2 : ¬ kind = 7 := by omega
    have a3 : ¬ kind = 8 := by omega
    have a4 : 12 ≤ kind := by omega
    have a5 : ¬ kind ≤ 11 := by omega
    have a6 : ¬ kind ≤ 14 := by omega
    have a7 : 15 < kind := by omega
    simp [Tryz.f16, Tryz.ti3, Tryz.ti4, Tryz.ti9, Tryz.ti22, Tryz.ti31, Tryz.ti32, Tryz.ti33, Tryz.ti34, Tryz.ti36, Tryz.ti44, Tryz.ti50, Tryz.ti82, Tryz.ti85, Tryz.ti94, n1, n2, n3, h1, a1, a2, a3, a4, a5, a6, a7]
mutual
theorem ev_rrightstm : ∀ s : Stm, s.ok → EV 16 [s.enc] [] = some (.ret (.bool (rightStm s)), [])
  | .mk b acts, h => by
    have ihk := ev_rrightstms acts h.2.2
    by_cases hk : 1 ≤ b.kind ∧ b.kind ≤ 15
    · rcases kinds15 hk.1 hk.2 with k | k | k | k | k | k | k | k | k | k | k | k | k | k | k
      · rw [rr1_eq b acts k]; exact ev_rr1 b acts h.1 k
      · rw [rr2_eq b acts k]; exact ev_rr2 b acts h.1 k
      · rw [rr3_eq b acts k]; exact ev_rr3 b acts h.1 k
      · rw [rr4_eq b acts k]; exact ev_rr4 b acts h.1 k
      · rw [rr5_eq b acts k]; exact ev_rr5 b acts h.1 k
      · rw [rr6_eq b acts k]; exact ev_rr6 b acts h.1 k
      · rw [rr7_eq b acts k]; exact ev_rr7 b acts h.1 k
      · rw [rr8_eq b acts k]; exact ev_rr8 b acts h.1 k h.2.1 ihk
      · rw [rr9_eq b acts k]; exact ev_rr9 b acts h.1 k
      · rw [rr10_eq b acts k]; exact ev_rr10 b acts h.1 k
      · rw [rr11_eq b acts k]; exact ev_rr11 b acts h.1 k
      · rw [rr12_eq b acts k]; exact ev_rr12 b acts h.1 k
      · rw [rr13_eq b acts k]; exact ev_rr13 b acts h.1 k
      · rw [rr14_eq b acts k]; exact ev_rr14 b acts h.1 k
      · rw [rr15_eq b acts k]; exact ev_rr15 b acts h.1 k
    · exact ev_rr_other b acts h.1 hk
theorem ev_rrightstms : ∀ l : List Stm, Stm.oks l → ∀ a ∈ l, EV 16 [a.enc] [] = some (.ret (.bool (rightStm a)), [])
  | [], _, a, ha => by cases ha
  | s :: l, h, a, ha => by
    rcases List.mem_cons.1 ha with ha | ha
    · rw [ha]; exact ev_rrightstm s h.1
    · exact ev_rrightstms l h.2 a ha
end
end Go.Abs

namespace Go.Abs
set_option linter.unusedSimpArgs false
set_option linter.unusedVariables false
open Go Go.Proofs
attribute [local simp] i_nil i_blk i_skip i_ret i_exit i_seq i_block i_cond i_region' i_ops_nil i_ops i_drawn' k_none k_0 k_1 k_2 k_3 k_4 k_5 d_in a_nil a_cons alt1 h_nil h_one h_two z_nil z_cons z_cells zeqL zeq q_alloc q_some nxtN i_drh d_hi i_drw_nil i_drw u_nil u_code u_ops u_drw u_lp u_again u_exit u_ret u_panic c_bool o_some o_val o_panic d_some d_val d_panic w_none w_fast wantG q_nil q_zero q_succ t_zero t_succ g_zero g_succ s_zero s_succ s_some s_none v_tmp v_const v_func f_quiet gc_none gc_pure wrap_i64 p_move p_assign p_pick p_alloc p_box p_build p_buildSlice p_load p_store p_nilCheck p_binOp n_tmp n_int n_bool n_str n_ptr n_fun n_iface nilCmp p_unOp p_convert p_makeSlice p_makeInterface p_makeFunc p_slice p_fieldAddr p_field p_indexAddr p_index p_extract p_callv p_callb p_panic quiet_val new_val e_assign e_call e_load e_store e_alloc e_box e_move e_pick e_build e_buildSlice e_nilCheck e_binOp e_unOp e_convert e_makeSlice e_makeInterface e_makeFunc e_slice e_fieldAddr e_field e_indexAddr e_index e_extract e_panic callD fpRead adoptZ fulls adopt adoptL ofValue ofScalar binOpV unOpV intBin strBin eqRes veq veqF eqDepth val? finish resL r_tmp r_cell normL normTop tipIs refsL refs ownRefs single frz frzL ren renL renOwn callOp doCall backR writeBack builtinV loadV storeV storeW iceT cellsAt takeV D.isAgg overlay vcells cellOk fieldAddrV indexAddrV fieldV partV indexV buildV fillV buildSliceV litElems appendV appElems elemOk convertV convV winStr makeSliceV sliceV natOf
attribute [local simp ↓] brB_true brB_false brB_dec brB_not brB_and brB_or brB_beq brB_bne
attribute [local irreducible] fpsQ panQ

theorem ad_stmt (st : St) : adopt (V.agg [V.int .i64 0, V.str [], V.str [], V.str [], V.slice .full [], V.slice .full [], V.slice .full [], V.slice .full [], V.slice .full [], V.slice .full [], V.int .i64 0, V.int .i64 0, V.bool false, V.bool false, V.slice .full []]) st = (V.agg [V.int .i64 0, V.str [], V.str [], V.str [], V.slice (.own st.length) [], V.slice (.own (st.length + 1)) [], V.slice (.own (st.length + 2)) [], V.slice (.own (st.length + 3)) [], V.slice (.own (st.length + 4)) [], V.slice (.own (st.length + 5)) [], V.int .i64 0, V.int .i64 0, V.bool false, V.bool false, V.slice (.own (st.length + 6)) []], st ++ [[.tip 0], [.tip 0], [.tip 0], [.tip 0], [.tip 0], [.tip 0], [.tip 0]]) := id rfl
theorem ad_stmt2 (k p e : Int) (n t c : List UInt8) (C A I W : List V) (d r : Bool) (st : St) : adopt (V.agg [V.int .i64 k, V.str n, V.str t, V.str c, V.slice .froz C, V.slice .froz A, V.slice .froz I, V.slice .froz W, V.slice .full [], V.slice .full [], V.int .i64 p, V.int .i64 e, V.bool d, V.bool r, V.slice .full []]) st = (V.agg [V.int .i64 k, V.str n, V.str t, V.str c, V.slice .froz C, V.slice .froz A, V.slice .froz I, V.slice .froz W, V.slice (.own st.length) [], V.slice (.own (st.length + 1)) [], V.int .i64 p, V.int .i64 e, V.bool d, V.bool r, V.slice (.own (st.length + 2)) []], st ++ [[.tip 0], [.tip 0], [.tip 0]]) := id rfl

theorem sete_cells (x : SetE) : (vcells x.enc).length = 8 := by
  obtain ⟨c, e⟩ := x
  have := xenc_cells e
  simp only [SetE.enc, vcells, List.length_cons]
  simpa [vcells] using this
theorem stm_cells (x : Stm) : (vcells x.enc).length = 15 := by
  obtain ⟨b, acts⟩ := x
  rw [senc_mk]
  rfl
set_option maxRecDepth 100000 in
set_option maxHeartbeats 2000000 in
theorem ev_plainstm_of (b : StB) (acts : List Stm) (h : b.ok) (hl : acts.length ≤ 1048576) (ihk : ∀ a ∈ acts, EV 14 [a.enc] [] = some (.ret a.enc, [])) :
    EV 14 [(Stm.mk b acts).enc] [] = some (.ret (Stm.mk b acts).enc, []) := by
  have p1 := ev_plainxs b.values h.values.1 ((xoks_iff _).2 h.values.2)
  have p2 := ev_plainxs b.items h.items.1 ((xoks_iff _).2 h.items.2)
  have p3 := ev_plainxs b.wher h.wher.1 ((xoks_iff _).2 h.wher.2)
  rw [EV_mki rfl Tryz.func14 rfl (by kernel_rfl) rfl, senc_mk]
  have hs := h.sets
  have hf := h.src
  obtain ⟨kind, name, table, col, cols, values, items, wher, sets, src, prio, event, deferred, rolls⟩ := b
  dsimp only at p1 p2 p3 hs hf ⊢
  simp [-adopt, -adoptL, ad_full, ad_froz, ad_own, ad_int, ad_bool, ad_str, ad_box, ad_agg, isFull, noFull, ↓ad_stmt, ↓ad_stmt2, Tryz.f14, Tryz.ti3, Tryz.ti4, Tryz.ti9, Tryz.ti22, Tryz.ti23, Tryz.ti24, Tryz.ti25, Tryz.ti26, Tryz.ti28, Tryz.ti31, Tryz.ti32, Tryz.ti33, Tryz.ti34, Tryz.ti36, Tryz.ti44, Tryz.ti46, Tryz.ti50, Tryz.ti80, Tryz.ti82, Tryz.ti84, Tryz.ti85, Tryz.ti94, p1, p2, p3]
  refine ⟨by change _ = true; decide +kernel, ?_⟩
  rw [i_loop (ts := [42, 43, 44, 5, 45, 46, 47, 48, 49, 50, 51, 52, 53, 54, 55, 56])]
  rotate_left
  · kernel_rfl
  refine i_at2 (fun i : {i : Nat // i ≤ sets.length} => sets.length - i.1) (fun i env => setV env 41 (.int .i64 i.1)) (fun i st => (st.set 3 [.tip i.1]).set 2 [V.int .i64 kind, V.str name, V.str table, V.str col, V.slice .froz (cols.map Col.enc), V.slice .froz (values.map Xp.enc), V.slice .froz (items.map Xp.enc), V.slice .froz (wher.map Xp.enc), V.slice (.own 3) ((sets.take i.1).map SetE.enc), V.slice (.own 4) [], V.int .i64 prio, V.int .i64 event, V.bool deferred, V.bool rolls, V.slice (.own 5) []]) (fun _ => _) ⟨0, by omega⟩ (by simp [s_zero, s_succ]) rfl rfl ?_
  intro ⟨i, hil⟩ ih
  dsimp only at hil ⊢
  by_cases hi : i < sets.length
  · have ih := ih ⟨i + 1, by omega⟩ (by simp only; omega)
    have hwi : IntKind.i64.wrap ((i : Int) + 1) = (i : Int) + 1 := wrap_i64 (by omega)
    have hlen : ((sets.take i).map SetE.enc).length = i := by simp; omega
    obtain ⟨t, hk⟩ : ∃ m, sets[i] = m := ⟨_, rfl⟩
    have ht2 : (sets.take (i + 1)).map SetE.enc = (sets.take i).map SetE.enc ++ [SetE.enc t] := by rw [List.take_succ_eq_append_getElem hi, hk]; simp
    have hff : ∀ x ∈ (sets.take i).map SetE.enc, (vcells x).length = 8 := fun x hx => by obtain ⟨y, _, rfl⟩ := List.mem_map.1 hx; exact sete_cells y
    have hcx := ev_plainx sets[i].e (hs.2 _ (List.getElem_mem hi)).2
    rw [hk] at hcx
    simp only at ih
    rw [ht2] at ih
    clear ht2
    generalize (sets.take i).map SetE.enc = xs at *
    obtain ⟨tc, op, v, var, co, kids⟩ := t
    simp only [s_zero, s_succ, Int.natCast_add, Int.natCast_one, Int.cast_ofNat_Int, List.set, SetE.enc, xenc_mk, vcells] at ih
    simp only [xenc_mk] at hcx
    simp only [vcells] at hff
    have hbb24 : (i + 1) * 24 ≤ 70368744177664 := by omega
    have hbb40 : (i + 1) * 40 ≤ 70368744177664 := by omega
    have hbb48 : (i + 1) * 48 ≤ 70368744177664 := by omega
    have hbb104 : (i + 1) * 104 ≤ 70368744177664 := by omega
    have hbb112 : (i + 1) * 112 ≤ 70368744177664 := by omega
    have hbb120 : (i + 1) * 120 ≤ 70368744177664 := by omega
    have hbb128 : (i + 1) * 128 ≤ 70368744177664 := by omega
    have hbb248 : (i + 1) * 248 ≤ 70368744177664 := by omega
    have hbb256 : (i + 1) * 256 ≤ 70368744177664 := by omega
    have hbb264 : (i + 1) * 264 ≤ 70368744177664 := by omega
    have hbb272 : (i + 1) * 272 ≤ 70368744177664 := by omega
    have hbb280 : (i + 1) * 280 ≤ 70368744177664 := by omega
    have hbb288 : (i + 1) * 288 ≤ 70368744177664 := by omega
    have hbb296 : (i + 1) * 296 ≤ 70368744177664 := by omega
    have hbb304 : (i + 1) * 304 ≤ 70368744177664 := by omega
    have hbb312 : (i + 1) * 312 ≤ 70368744177664 := by omega
    have hbc : i + 1 ≤ 70368744177664 := by omega
    simp +contextual [i_again, roundEnd, dropT, cleanV, Tryz.f14, Tryz.ti3, Tryz.ti4, Tryz.ti9, Tryz.ti22, Tryz.ti23, Tryz.ti24, Tryz.ti25, Tryz.ti26, Tryz.ti28, Tryz.ti31, Tryz.ti32, Tryz.ti33, Tryz.ti34, Tryz.ti36, Tryz.ti44, Tryz.ti46, Tryz.ti50, Tryz.ti80, Tryz.ti82, Tryz.ti84, Tryz.ti85, Tryz.ti94, appFp, hi, hk, SetE.enc, xenc_mk, hwi, hlen, hbb24, hbb40, hbb48, hbb104, hbb112, hbb120, hbb128, hbb248, hbb256, hbb264, hbb272, hbb280, hbb288, hbb296, hbb304, hbb312, hbc, hff, ih, hcx]
    change _ = true; decide +kernel
  have ht2 : sets.take i = sets := List.take_of_length_le (by omega)
  rw [ht2]
  obtain rfl : i = sets.length := by omega
  clear ih
  simp [-adopt, -adoptL, ad_full, ad_froz, ad_own, ad_int, ad_bool, ad_str, ad_box, ad_agg, isFull, noFull, i_again, roundEnd, dropT, cleanV, Tryz.f14, Tryz.ti3, Tryz.ti4, Tryz.ti9, Tryz.ti22, Tryz.ti23, Tryz.ti24, Tryz.ti25, Tryz.ti26, Tryz.ti28, Tryz.ti31, Tryz.ti32, Tryz.ti33, Tryz.ti34, Tryz.ti36, Tryz.ti44, Tryz.ti46, Tryz.ti50, Tryz.ti80, Tryz.ti82, Tryz.ti84, Tryz.ti85, Tryz.ti94, List.set]
  rw [i_loop (ts := [61, 62, 63, 7, 64, 65, 66, 67, 68, 69, 70])]
  rotate_left
  · kernel_rfl
  refine i_at2 (fun i : {i : Nat // i ≤ src.length} => src.length - i.1) (fun i env => setV env 60 (.int .i64 i.1)) (fun i st => (st.set 4 [.tip i.1]).set 2 [V.int .i64 kind, V.str name, V.str table, V.str col, V.slice .froz (cols.map Col.enc), V.slice .froz (values.map Xp.enc), V.slice .froz (items.map Xp.enc), V.slice .froz (wher.map Xp.enc), V.slice (.own 3) (sets.map SetE.enc), V.slice (.own 4) ((src.take i.1).map Src.enc), V.int .i64 prio, V.int .i64 event, V.bool deferred, V.bool rolls, V.slice (.own 5) []]) (fun _ => _) ⟨0, by omega⟩ (by simp [s_zero, s_succ]) rfl rfl ?_
  intro ⟨i, hil⟩ ih
  dsimp only at hil ⊢
  by_cases hi : i < src.length
  · have ih := ih ⟨i + 1, by omega⟩ (by simp only; omega)
    have hwi : IntKind.i64.wrap ((i : Int) + 1) = (i : Int) + 1 := wrap_i64 (by omega)
    have hlen : ((src.take i).map Src.enc).length = i := by simp; omega
    obtain ⟨t, hk⟩ : ∃ m, src[i] = m := ⟨_, rfl⟩
    have ht2 : (src.take (i + 1)).map Src.enc = (src.take i).map Src.enc ++ [Src.enc t] := by rw [List.take_succ_eq_append_getElem hi, hk]; simp
    have hff : ∀ x ∈ (src.take i).map Src.enc, (vcells x).length = 3 := fun x hx => by obtain ⟨y, _, rfl⟩ := List.mem_map.1 hx; rfl
    simp only at ih
    rw [ht2] at ih
    clear ht2
    generalize (src.take i).map Src.enc = xs at *
    obtain ⟨tk, tt, tv⟩ := t
    simp only [s_zero, s_succ, Int.natCast_add, Int.natCast_one, Int.cast_ofNat_Int, List.set, Src.enc, Src.cells, vcells] at ih
    simp only [vcells] at hff
    have hbb24 : (i + 1) * 24 ≤ 70368744177664 := by omega
    have hbb40 : (i + 1) * 40 ≤ 70368744177664 := by omega
    have hbb48 : (i + 1) * 48 ≤ 70368744177664 := by omega
    have hbb104 : (i + 1) * 104 ≤ 70368744177664 := by omega
    have hbb112 : (i + 1) * 112 ≤ 70368744177664 := by omega
    have hbb120 : (i + 1) * 120 ≤ 70368744177664 := by omega
    have hbb128 : (i + 1) * 128 ≤ 70368744177664 := by omega
    have hbb248 : (i + 1) * 248 ≤ 70368744177664 := by omega
    have hbb256 : (i + 1) * 256 ≤ 70368744177664 := by omega
    have hbb264 : (i + 1) * 264 ≤ 70368744177664 := by omega
    have hbb272 : (i + 1) * 272 ≤ 70368744177664 := by omega
    have hbb280 : (i + 1) * 280 ≤ 70368744177664 := by omega
    have hbb288 : (i + 1) * 288 ≤ 70368744177664 := by omega
    have hbb296 : (i + 1) * 296 ≤ 70368744177664 := by omega
    have hbb304 : (i + 1) * 304 ≤ 70368744177664 := by omega
    have hbb312 : (i + 1) * 312 ≤ 70368744177664 := by omega
    have hbc : i + 1 ≤ 70368744177664 := by omega
    simp +contextual [i_again, roundEnd, dropT, cleanV, Tryz.f14, Tryz.ti3, Tryz.ti4, Tryz.ti9, Tryz.ti22, Tryz.ti23, Tryz.ti24, Tryz.ti25, Tryz.ti26, Tryz.ti28, Tryz.ti31, Tryz.ti32, Tryz.ti33, Tryz.ti34, Tryz.ti36, Tryz.ti44, Tryz.ti46, Tryz.ti50, Tryz.ti80, Tryz.ti82, Tryz.ti84, Tryz.ti85, Tryz.ti94, hi, hk, Src.enc, Src.cells, hwi, hlen, hbb24, hbb40, hbb48, hbb104, hbb112, hbb120, hbb128, hbb248, hbb256, hbb264, hbb272, hbb280, hbb288, hbb296, hbb304, hbb312, hbc, hff, ih]
  have ht2 : src.take i = src := List.take_of_length_le (by omega)
  rw [ht2]
  obtain rfl : i = src.length := by omega
  clear ih
  simp [-adopt, -adoptL, ad_full, ad_froz, ad_own, ad_int, ad_bool, ad_str, ad_box, ad_agg, isFull, noFull, i_again, roundEnd, dropT, cleanV, Tryz.f14, Tryz.ti3, Tryz.ti4, Tryz.ti9, Tryz.ti22, Tryz.ti23, Tryz.ti24, Tryz.ti25, Tryz.ti26, Tryz.ti28, Tryz.ti31, Tryz.ti32, Tryz.ti33, Tryz.ti34, Tryz.ti36, Tryz.ti44, Tryz.ti46, Tryz.ti50, Tryz.ti80, Tryz.ti82, Tryz.ti84, Tryz.ti85, Tryz.ti94, List.set]
  rw [i_loop (ts := [75, 76, 77, 9, 78, 79, 80, 81, 82, 83, 84, 85])]
  rotate_left
  · kernel_rfl
  refine i_at2 (fun i : {i : Nat // i ≤ acts.length} => acts.length - i.1) (fun i env => setV env 74 (.int .i64 i.1)) (fun i st => (st.set 5 [.tip i.1]).set 2 [V.int .i64 kind, V.str name, V.str table, V.str col, V.slice .froz (cols.map Col.enc), V.slice .froz (values.map Xp.enc), V.slice .froz (items.map Xp.enc), V.slice .froz (wher.map Xp.enc), V.slice (.own 3) (sets.map SetE.enc), V.slice (.own 4) (src.map Src.enc), V.int .i64 prio, V.int .i64 event, V.bool deferred, V.bool rolls, V.slice (.own 5) ((acts.take i.1).map Stm.enc)]) (fun _ => _) ⟨0, by omega⟩ (by simp [s_zero, s_succ]) rfl rfl ?_
  intro ⟨i, hil⟩ ih
  dsimp only at hil ⊢
  by_cases hi : i < acts.length
  · have ih := ih ⟨i + 1, by omega⟩ (by simp only; omega)
    have hwi : IntKind.i64.wrap ((i : Int) + 1) = (i : Int) + 1 := wrap_i64 (by omega)
    have hlen : ((acts.take i).map Stm.enc).length = i := by simp; omega
    obtain ⟨t, hk⟩ : ∃ m, acts[i] = m := ⟨_, rfl⟩
    have ht2 : (acts.take (i + 1)).map Stm.enc = (acts.take i).map Stm.enc ++ [Stm.enc t] := by rw [List.take_succ_eq_append_getElem hi, hk]; simp
    have hff : ∀ x ∈ (acts.take i).map Stm.enc, (vcells x).length = 15 := fun x hx => by obtain ⟨y, _, rfl⟩ := List.mem_map.1 hx; exact stm_cells y
    have hcx := ihk acts[i] (List.getElem_mem hi)
    rw [hk] at hcx
    simp only at ih
    rw [ht2] at ih
    clear ht2
    generalize (acts.take i).map Stm.enc = xs at *
    obtain ⟨tb, ta⟩ := t
    obtain ⟨ckind, cname, ctable, ccol, ccols, cvalues, citems, cwher, csets, csrc, cprio, cevent, cdeferred, crolls⟩ := tb
    simp only [s_zero, s_succ, Int.natCast_add, Int.natCast_one, Int.cast_ofNat_Int, List.set, senc_mk, vcells] at ih
    simp only [senc_mk] at hcx
    simp only [vcells] at hff
    have hbb24 : (i + 1) * 24 ≤ 70368744177664 := by omega
    have hbb40 : (i + 1) * 40 ≤ 70368744177664 := by omega
    have hbb48 : (i + 1) * 48 ≤ 70368744177664 := by omega
    have hbb104 : (i + 1) * 104 ≤ 70368744177664 := by omega
    have hbb112 : (i + 1) * 112 ≤ 70368744177664 := by omega
    have hbb120 : (i + 1) * 120 ≤ 70368744177664 := by omega
    have hbb128 : (i + 1) * 128 ≤ 70368744177664 := by omega
    have hbb248 : (i + 1) * 248 ≤ 70368744177664 := by omega
    have hbb256 : (i + 1) * 256 ≤ 70368744177664 := by omega
    have hbb264 : (i + 1) * 264 ≤ 70368744177664 := by omega
    have hbb272 : (i + 1) * 272 ≤ 70368744177664 := by omega
    have hbb280 : (i + 1) * 280 ≤ 70368744177664 := by omega
    have hbb288 : (i + 1) * 288 ≤ 70368744177664 := by omega
    have hbb296 : (i + 1) * 296 ≤ 70368744177664 := by omega
    have hbb304 : (i + 1) * 304 ≤ 70368744177664 := by omega
    have hbb312 : (i + 1) * 312 ≤ 70368744177664 := by omega
    have hbc : i + 1 ≤ 70368744177664 := by omega
    simp +contextual [-adopt, -adoptL, ad_full, ad_froz, ad_own, ad_int, ad_bool, ad_str, ad_box, ad_agg, isFull, noFull, ↓ad_stmt, ↓ad_stmt2, i_again, roundEnd, dropT, cleanV, Tryz.f14, Tryz.ti3, Tryz.ti4, Tryz.ti9, Tryz.ti22, Tryz.ti23, Tryz.ti24, Tryz.ti25, Tryz.ti26, Tryz.ti28, Tryz.ti31, Tryz.ti32, Tryz.ti33, Tryz.ti34, Tryz.ti36, Tryz.ti44, Tryz.ti46, Tryz.ti50, Tryz.ti80, Tryz.ti82, Tryz.ti84, Tryz.ti85, Tryz.ti94, appFp, hi, hk, senc_mk, hwi, hlen, hbb24, hbb40, hbb48, hbb104, hbb112, hbb120, hbb128, hbb248, hbb256, hbb264, hbb272, hbb280, hbb288, hbb296, hbb304, hbb312, hbc, hff, ih, hcx]
    change _ = true; decide +kernel
  have ht2 : acts.take i = acts := List.take_of_length_le (by omega)
  rw [ht2]
  obtain rfl : i = acts.length := by omega
  clear ih
  simp [i_again, roundEnd, dropT, cleanV, Tryz.f14, Tryz.ti3, Tryz.ti4, Tryz.ti9, Tryz.ti22, Tryz.ti23, Tryz.ti24, Tryz.ti25, Tryz.ti26, Tryz.ti28, Tryz.ti31, Tryz.ti32, Tryz.ti33, Tryz.ti34, Tryz.ti36, Tryz.ti44, Tryz.ti46, Tryz.ti50, Tryz.ti80, Tryz.ti82, Tryz.ti84, Tryz.ti85, Tryz.ti94, List.set]
end Go.Abs

