/- A statement, copied. -/
import Derived.Test.YtpmeklllgnnffaaGreatDoorP15
import Derived.Test.YtpmeklllgnnffaaGreatDoorP11
import Derived.Test.YtpmeklllgnnffaaGreatDoorP16
set_option linter.unusedSimpArgs false
set_option linter.unusedVariables false

namespace Go.Abs
set_option linter.unusedSimpArgs false
set_option linter.unusedVariables false
open Go Go.Proofs
attribute [local simp] i_nil i_blk i_skip i_ret i_exit i_seq i_block i_cond i_region' i_ops_nil i_ops i_drawn' k_none k_0 k_1 k_2 k_3 k_4 k_5 d_in a_nil a_cons alt1 h_nil h_one h_two z_nil z_cons z_cells zeqL zeq q_alloc q_some nxtN i_drh d_hi i_drw_nil i_drw u_nil u_code u_ops u_drw u_lp u_again u_exit u_ret u_panic c_bool o_some o_val o_panic d_some d_val d_panic w_none w_fast wantG q_nil q_zero q_succ t_zero t_succ g_zero g_succ s_zero s_succ s_some s_none v_tmp v_const v_func f_quiet gc_none gc_pure wrap_i64 p_move p_assign p_pick p_alloc p_box p_build p_buildSlice p_load p_store p_nilCheck p_binOp n_tmp n_int n_bool n_str n_ptr n_fun n_iface nilCmp p_unOp p_convert p_makeSlice p_makeInterface p_makeFunc p_slice p_fieldAddr p_field p_indexAddr p_index p_extract p_callv p_callb p_panic quiet_val new_val e_assign e_call e_load e_store e_alloc e_box e_move e_pick e_build e_buildSlice e_nilCheck e_binOp e_unOp e_convert e_makeSlice e_makeInterface e_makeFunc e_slice e_fieldAddr e_field e_indexAddr e_index e_extract e_panic callD fpRead adoptZ fulls adopt adoptL ofValue ofScalar binOpV unOpV intBin strBin eqRes veq veqF eqDepth val? finish resL r_tmp r_cell normL normTop tipIs refsL refs ownRefs single frz frzL ren renL renOwn callOp doCall backR writeBack builtinV loadV storeV storeW iceT cellsAt takeV D.isAgg overlay vcells cellOk fieldAddrV indexAddrV fieldV partV indexV buildV fillV buildSliceV litElems appendV appElems elemOk convertV convV winStr makeSliceV sliceV natOf
attribute [local simp ↓] brB_true brB_false brB_dec brB_not brB_and brB_or brB_beq brB_bne
attribute [local irreducible] fpsQ panQ
theorem ad_stmt (st : St) : adopt (V.agg [V.int .i64 0, V.str [], V.str [], V.str [], V.slice .full [], V.slice .full [], V.slice .full [], V.slice .full [], V.slice .full [], V.slice .full [], V.int .i64 0, V.int .i64 0, V.bool false, V.bool false, V.slice .full []]) st = (V.agg [V.int .i64 0, V.str [], V.str [], V.str [], V.slice (.own st.length) [], V.slice (.own (st.length + 1)) [], V.slice (.own (st.length + 2)) [], V.slice (.own (st.length + 3)) [], V.slice (.own (st.length + 4)) [], V.slice (.own (st.length + 5)) [], V.int .i64 0, V.int .i64 0, V.bool false, V.bool false, V.slice (.own (st.length + 6)) []], st ++ [[.tip 0], [.tip 0], [.tip 0], [.tip 0], [.tip 0], [.tip 0], [.tip 0]]) := id rfl
theorem ad_stmt2 (k p e : Int) (n t c : List UInt8) (C A I W : List V) (d r : Bool) (st : St) : adopt (V.agg [V.int .i64 k, V.str n, V.str t, V.str c, V.slice .froz C, V.slice .froz A, V.slice .froz I, V.slice .froz W, V.slice .full [], V.slice .full [], V.int .i64 p, V.int .i64 e, V.bool d, V.bool r, V.slice .full []]) st = (V.agg [V.int .i64 k, V.str n, V.str t, V.str c, V.slice .froz C, V.slice .froz A, V.slice .froz I, V.slice .froz W, V.slice (.own st.length) [], V.slice (.own (st.length + 1)) [], V.int .i64 p, V.int .i64 e, V.bool d, V.bool r, V.slice (.own (st.length + 2)) []], st ++ [[.tip 0], [.tip 0], [.tip 0]]) := id rfl
theorem sete_cells (x : SetE) : (vcells x.enc).length = 8 := by
  obtain ⟨c, e⟩ := x
  have := xenc_cells e
  simp only [SetE.enc, vcells, List.length_cons]
  simpa [vcells] using this
theorem stm_cells (x : Stm) : (vcells x.enc).length = 15 := by
  obtain ⟨b, acts⟩ := x
  rw [senc_mk]
  rfl
set_option maxRecDepth 100000 in
set_option maxHeartbeats 2000000 in
theorem ev_plainstm_of (b : StB) (acts : List Stm) (h : b.ok) (hl : acts.length ≤ 1048576) (ihk : ∀ a ∈ acts, EV 14 [a.enc] [] = some (.ret a.enc, [])) :
    EV 14 [(Stm.mk b acts).enc] [] = some (.ret (Stm.mk b acts).enc, []) := by
  have p1 := ev_plainxs b.values h.values.1 ((xoks_iff _).2 h.values.2)
  have p2 := ev_plainxs b.items h.items.1 ((xoks_iff _).2 h.items.2)
  have p3 := ev_plainxs b.wher h.wher.1 ((xoks_iff _).2 h.wher.2)
  rw [EV_mki rfl Tryz.func14 rfl (by kernel_rfl) rfl, senc_mk]
  have hs := h.sets
  have hf := h.src
  obtain ⟨kind, name, table, col, cols, values, items, wher, sets, src, prio, event, deferred, rolls⟩ := b
  dsimp only at p1 p2 p3 hs hf ⊢
  simp [-adopt, -adoptL, ad_full, ad_froz, ad_own, ad_int, ad_bool, ad_str, ad_box, ad_agg, isFull, noFull, ↓ad_stmt, ↓ad_stmt2, Tryz.f14, Tryz.ti3, Tryz.ti4, Tryz.ti9, Tryz.ti22, Tryz.ti23, Tryz.ti24, Tryz.ti25, Tryz.ti26, Tryz.ti28, Tryz.ti31, Tryz.ti32, Tryz.ti33, Tryz.ti34, Tryz.ti36, Tryz.ti44, Tryz.ti46, Tryz.ti50, Tryz.ti80, Tryz.ti82, Tryz.ti84, Tryz.ti85, Tryz.ti94, p1, p2, p3]
  refine ⟨by change _ = true; decide +kernel, ?_⟩
  rw [i_loop (ts := [42, 43, 44, 5, 45, 46, 47, 48, 49, 50, 51, 52, 53, 54, 55, 56])]
  rotate_left
  · kernel_rfl
  refine i_at2 (fun i : {i : Nat // i ≤ sets.length} => sets.length - i.1) (fun i env => setV env 41 (.int .i64 i.1)) (fun i st => (st.set 3 [.tip i.1]).set 2 [V.int .i64 kind, V.str name, V.str table, V.str col, V.slice .froz (cols.map Col.enc), V.slice .froz (values.map Xp.enc), V.slice .froz (items.map Xp.enc), V.slice .froz (wher.map Xp.enc), V.slice (.own 3) ((sets.take i.1).map SetE.enc), V.slice (.own 4) [], V.int .i64 prio, V.int .i64 event, V.bool deferred, V.bool rolls, V.slice (.own 5) []]) (fun _ => _) ⟨0, by omega⟩ (by simp [s_zero, s_succ]) rfl rfl ?_
  intro ⟨i, hil⟩ ih
  dsimp only at hil ⊢
  by_cases hi : i < sets.length
  · have ih := ih ⟨i + 1, by omega⟩ (by simp only; omega)
    have hwi : IntKind.i64.wrap ((i : Int) + 1) = (i : Int) + 1 := wrap_i64 (by omega)
    have hlen : ((sets.take i).map SetE.enc).length = i := by simp; omega
    obtain ⟨t, hk⟩ : ∃ m, sets[i] = m := ⟨_, rfl⟩
    have ht2 : (sets.take (i + 1)).map SetE.enc = (sets.take i).map SetE.enc ++ [SetE.enc t] := by rw [List.take_succ_eq_append_getElem hi, hk]; simp
    have hff : ∀ x ∈ (sets.take i).map SetE.enc, (vcells x).length = 8 := fun x hx => by obtain ⟨y, _, rfl⟩ := List.mem_map.1 hx; exact sete_cells y
    have hcx := ev_plainx sets[i].e (hs.2 _ (List.getElem_mem hi)).2
    rw [hk] at hcx
    simp only at ih
    rw [ht2] at ih
    clear ht2
    generalize (sets.take i).map SetE.enc = xs at *
    obtain ⟨tc, op, v, var, co, kids⟩ := t
    simp only [s_zero, s_succ, Int.natCast_add, Int.natCast_one, Int.cast_ofNat_Int, List.set, SetE.enc, xenc_mk, vcells] at ih
    simp only [xenc_mk] at hcx
    simp only [vcells] at hff
    have hbb24 : (i + 1) * 24 ≤ 70368744177664 := by omega
    have hbb40 : (i + 1) * 40 ≤ 70368744177664 := by omega
    have hbb48 : (i + 1) * 48 ≤ 70368744177664 := by omega
    have hbb104 : (i + 1) * 104 ≤ 70368744177664 := by omega
    have hbb112 : (i + 1) * 112 ≤ 70368744177664 := by omega
    have hbb120 : (i + 1) * 120 ≤ 70368744177664 := by omega
    have hbb128 : (i + 1) * 128 ≤ 70368744177664 := by omega
    have hbb248 : (i + 1) * 248 ≤ 70368744177664 := by omega
    have hbb256 : (i + 1) * 256 ≤ 70368744177664 := by omega
    have hbb264 : (i + 1) * 264 ≤ 70368744177664 := by omega
    have hbb272 : (i + 1) * 272 ≤ 70368744177664 := by omega
    have hbb280 : (i + 1) * 280 ≤ 70368744177664 := by omega
    have hbb288 : (i + 1) * 288 ≤ 70368744177664 := by omega
    have hbb296 : (i + 1) * 296 ≤ 70368744177664 := by omega
    have hbb304 : (i + 1) * 304 ≤ 70368744177664 := by omega
    have hbb312 : (i + 1) * 312 ≤ 70368744177664 := by omega
    have hbc : i + 1 ≤ 70368744177664 := by omega
    simp +contextual [i_again, roundEnd, dropT, cleanV, Tryz.f14, Tryz.ti3, Tryz.ti4, Tryz.ti9, Tryz.ti22, Tryz.ti23, Tryz.ti24, Tryz.ti25, Tryz.ti26, Tryz.ti28, Tryz.ti31, Tryz.ti32, Tryz.ti33, Tryz.ti34, Tryz.ti36, Tryz.ti44, Tryz.ti46, Tryz.ti50, Tryz.ti80, Tryz.ti82, Tryz.ti84, Tryz.ti85, Tryz.ti94, appFp, hi, hk, SetE.enc, xenc_mk, hwi, hlen, hbb24, hbb40, hbb48, hbb104, hbb112, hbb120, hbb128, hbb248, hbb256, hbb264, hbb272, hbb280, hbb288, hbb296, hbb304, hbb312, hbc, hff, ih, hcx]
    change _ = true; decide +kernel
  have ht2 : sets.take i = sets := List.take_of_length_le (by omega)
  rw [ht2]
  obtain rfl : i = sets.length := by omega
  clear ih
  simp [-adopt, -adoptL, ad_full, ad_froz, ad_own, ad_int, ad_bool, ad_str, ad_box, ad_agg, isFull, noFull, i_again, roundEnd, dropT, cleanV, Tryz.f14, Tryz.ti3, Tryz.ti4, Tryz.ti9, Tryz.ti22, Tryz.ti23, Tryz.ti24, Tryz.ti25, Tryz.ti26, Tryz.ti28, Tryz.ti31, Tryz.ti32, Tryz.ti33, Tryz.ti34, Tryz.ti36, Tryz.ti44, Tryz.ti46, Tryz.ti50, Tryz.ti80, Tryz.ti82, Tryz.ti84, Tryz.ti85, Tryz.ti94, List.set]
  rw [i_loop (ts := [61, 62, 63, 7, 64, 65, 66, 67, 68, 69, 70])]
  rotate_left
  · kernel_rfl
  refine i_at2 (fun i : {i : Nat // i ≤ src.length} => src.length - i.1) (fun i env => setV env 60 (.int .i64 i.1)) (fun i st => (st.set 4 [.tip i.1]).set 2 [V.int .i64 kind, V.str name, V.str table, V.str col, V.slice .froz (cols.map Col.enc), V.slice .froz (values.map Xp.enc), V.slice .froz (items.map Xp.enc), V.slice .froz (wher.map Xp.enc), V.slice (.own 3) (sets.map SetE.enc), V.slice (.own 4) ((src.take i.1).map Src.enc), V.int .i64 prio, V.int .i64 event, V.bool deferred, V.bool rolls, V.slice (.own 5) []]) (fun _ => _) ⟨0, by omega⟩ (by simp [s_zero, s_succ]) rfl rfl ?_
  intro ⟨i, hil⟩ ih
  dsimp only at hil ⊢
  by_cases hi : i < src.length
  · have ih := ih ⟨i + 1, by omega⟩ (by simp only; omega)
    have hwi : IntKind.i64.wrap ((i : Int) + 1) = (i : Int) + 1 := wrap_i64 (by omega)
    have hlen : ((src.take i).map Src.enc).length = i := by simp; omega
    obtain ⟨t, hk⟩ : ∃ m, src[i] = m := ⟨_, rfl⟩
    have ht2 : (src.take (i + 1)).map Src.enc = (src.take i).map Src.enc ++ [Src.enc t] := by rw [List.take_succ_eq_append_getElem hi, hk]; simp
    have hff : ∀ x ∈ (src.take i).map Src.enc, (vcells x).length = 3 := fun x hx => by obtain ⟨y, _, rfl⟩ := List.mem_map.1 hx; rfl
    simp only at ih
    rw [ht2] at ih
    clear ht2
    generalize (src.take i).map Src.enc = xs at *
    obtain ⟨tk, tt, tv⟩ := t
    simp only [s_zero, s_succ, Int.natCast_add, Int.natCast_one, Int.cast_ofNat_Int, List.set, Src.enc, Src.cells, vcells] at ih
    simp only [vcells] at hff
    have hbb24 : (i + 1) * 24 ≤ 70368744177664 := by omega
    have hbb40 : (i + 1) * 40 ≤ 70368744177664 := by omega
    have hbb48 : (i + 1) * 48 ≤ 70368744177664 := by omega
    have hbb104 : (i + 1) * 104 ≤ 70368744177664 := by omega
    have hbb112 : (i + 1) * 112 ≤ 70368744177664 := by omega
    have hbb120 : (i + 1) * 120 ≤ 70368744177664 := by omega
    have hbb128 : (i + 1) * 128 ≤ 70368744177664 := by omega
    have hbb248 : (i + 1) * 248 ≤ 70368744177664 := by omega
    have hbb256 : (i + 1) * 256 ≤ 70368744177664 := by omega
    have hbb264 : (i + 1) * 264 ≤ 70368744177664 := by omega
    have hbb272 : (i + 1) * 272 ≤ 70368744177664 := by omega
    have hbb280 : (i + 1) * 280 ≤ 70368744177664 := by omega
    have hbb288 : (i + 1) * 288 ≤ 70368744177664 := by omega
    have hbb296 : (i + 1) * 296 ≤ 70368744177664 := by omega
    have hbb304 : (i + 1) * 304 ≤ 70368744177664 := by omega
    have hbb312 : (i + 1) * 312 ≤ 70368744177664 := by omega
    have hbc : i + 1 ≤ 70368744177664 := by omega
    simp +contextual [i_again, roundEnd, dropT, cleanV, Tryz.f14, Tryz.ti3, Tryz.ti4, Tryz.ti9, Tryz.ti22, Tryz.ti23, Tryz.ti24, Tryz.ti25, Tryz.ti26, Tryz.ti28, Tryz.ti31, Tryz.ti32, Tryz.ti33, Tryz.ti34, Tryz.ti36, Tryz.ti44, Tryz.ti46, Tryz.ti50, Tryz.ti80, Tryz.ti82, Tryz.ti84, Tryz.ti85, Tryz.ti94, hi, hk, Src.enc, Src.cells, hwi, hlen, hbb24, hbb40, hbb48, hbb104, hbb112, hbb120, hbb128, hbb248, hbb256, hbb264, hbb272, hbb280, hbb288, hbb296, hbb304, hbb312, hbc, hff, ih]
  have ht2 : src.take i = src := List.take_of_length_le (by omega)
  rw [ht2]
  obtain rfl : i = src.length := by omega
  clear ih
  simp [-adopt, -adoptL, ad_full, ad_froz, ad_own, ad_int, ad_bool, ad_str, ad_box, ad_agg, isFull, noFull, i_again, roundEnd, dropT, cleanV, Tryz.f14, Tryz.ti3, Tryz.ti4, Tryz.ti9, Tryz.ti22, Tryz.ti23, Tryz.ti24, Tryz.ti25, Tryz.ti26, Tryz.ti28, Tryz.ti31, Tryz.ti32, Tryz.ti33, Tryz.ti34, Tryz.ti36, Tryz.ti44, Tryz.ti46, Tryz.ti50, Tryz.ti80, Tryz.ti82, Tryz.ti84, Tryz.ti85, Tryz.ti94, List.set]
  rw [i_loop (ts := [75, 76, 77, 9, 78, 79, 80, 81, 82, 83, 84, 85])]
  rotate_left
  · kernel_rfl
  refine i_at2 (fun i : {i : Nat // i ≤ acts.length} => acts.length - i.1) (fun i env => setV env 74 (.int .i64 i.1)) (fun i st => (st.set 5 [.tip i.1]).set 2 [V.int .i64 kind, V.str name, V.str table, V.str col, V.slice .froz (cols.map Col.enc), V.slice .froz (values.map Xp.enc), V.slice .froz (items.map Xp.enc), V.slice .froz (wher.map Xp.enc), V.slice (.own 3) (sets.map SetE.enc), V.slice (.own 4) (src.map Src.enc), V.int .i64 prio, V.int .i64 event, V.bool deferred, V.bool rolls, V.slice (.own 5) ((acts.take i.1).map Stm.enc)]) (fun _ => _) ⟨0, by omega⟩ (by simp [s_zero, s_succ]) rfl rfl ?_
  intro ⟨i, hil⟩ ih
  dsimp only at hil ⊢
  by_cases hi : i < acts.length
  · have ih := ih ⟨i + 1, by omega⟩ (by simp only; omega)
    have hwi : IntKind.i64.wrap ((i : Int) + 1) = (i : Int) + 1 := wrap_i64 (by omega)
    have hlen : ((acts.take i).map Stm.enc).length = i := by simp; omega
    obtain ⟨t, hk⟩ : ∃ m, acts[i] = m := ⟨_, rfl⟩
    have ht2 : (acts.take (i + 1)).map Stm.enc = (acts.take i).map Stm.enc ++ [Stm.enc t] := by rw [List.take_succ_eq_append_getElem hi, hk]; simp
    have hff : ∀ x ∈ (acts.take i).map Stm.enc, (vcells x).length = 15 := fun x hx => by obtain ⟨y, _, rfl⟩ := List.mem_map.1 hx; exact stm_cells y
    have hcx := ihk acts[i] (List.getElem_mem hi)
    rw [hk] at hcx
    simp only at ih
    rw [ht2] at ih
    clear ht2
    generalize (acts.take i).map Stm.enc = xs at *
    obtain ⟨tb, ta⟩ := t
    obtain ⟨ckind, cname, ctable, ccol, ccols, cvalues, citems, cwher, csets, csrc, cprio, cevent, cdeferred, crolls⟩ := tb
    simp only [s_zero, s_succ, Int.natCast_add, Int.natCast_one, Int.cast_ofNat_Int, List.set, senc_mk, vcells] at ih
    simp only [senc_mk] at hcx
    simp only [vcells] at hff
    have hbb24 : (i + 1) * 24 ≤ 70368744177664 := by omega
    have hbb40 : (i + 1) * 40 ≤ 70368744177664 := by omega
    have hbb48 : (i + 1) * 48 ≤ 70368744177664 := by omega
    have hbb104 : (i + 1) * 104 ≤ 70368744177664 := by omega
    have hbb112 : (i + 1) * 112 ≤ 70368744177664 := by omega
    have hbb120 : (i + 1) * 120 ≤ 70368744177664 := by omega
    have hbb128 : (i + 1) * 128 ≤ 70368744177664 := by omega
    have hbb248 : (i + 1) * 248 ≤ 70368744177664 := by omega
    have hbb256 : (i + 1) * 256 ≤ 70368744177664 := by omega
    have hbb264 : (i + 1) * 264 ≤ 70368744177664 := by omega
    have hbb272 : (i + 1) * 272 ≤ 70368744177664 := by omega
    have hbb280 : (i + 1) * 280 ≤ 70368744177664 := by omega
    have hbb288 : (i + 1) * 288 ≤ 70368744177664 := by omega
    have hbb296 : (i + 1) * 296 ≤ 70368744177664 := by omega
    have hbb304 : (i + 1) * 304 ≤ 70368744177664 := by omega
    have hbb312 : (i + 1) * 312 ≤ 70368744177664 := by omega
    have hbc : i + 1 ≤ 70368744177664 := by omega
    simp +contextual [-adopt, -adoptL, ad_full, ad_froz, ad_own, ad_int, ad_bool, ad_str, ad_box, ad_agg, isFull, noFull, ↓ad_stmt, ↓ad_stmt2, i_again, roundEnd, dropT, cleanV, Tryz.f14, Tryz.ti3, Tryz.ti4, Tryz.ti9, Tryz.ti22, Tryz.ti23, Tryz.ti24, Tryz.ti25, Tryz.ti26, Tryz.ti28, Tryz.ti31, Tryz.ti32, Tryz.ti33, Tryz.ti34, Tryz.ti36, Tryz.ti44, Tryz.ti46, Tryz.ti50, Tryz.ti80, Tryz.ti82, Tryz.ti84, Tryz.ti85, Tryz.ti94, appFp, hi, hk, senc_mk, hwi, hlen, hbb24, hbb40, hbb48, hbb104, hbb112, hbb120, hbb128, hbb248, hbb256, hbb264, hbb272, hbb280, hbb288, hbb296, hbb304, hbb312, hbc, hff, ih, hcx]
    change _ = true; decide +kernel
  have ht2 : acts.take i = acts := List.take_of_length_le (by omega)
  rw [ht2]
  obtain rfl : i = acts.length := by omega
  clear ih
  simp [i_again, roundEnd, dropT, cleanV, Tryz.f14, Tryz.ti3, Tryz.ti4, Tryz.ti9, Tryz.ti22, Tryz.ti23, Tryz.ti24, Tryz.ti25, Tryz.ti26, Tryz.ti28, Tryz.ti31, Tryz.ti32, Tryz.ti33, Tryz.ti34, Tryz.ti36, Tryz.ti44, Tryz.ti46, Tryz.ti50, Tryz.ti80, Tryz.ti82, Tryz.ti84, Tryz.ti85, Tryz.ti94, List.set]
end Go.Abs
namespace Go.Abs
set_option linter.unusedSimpArgs false
set_option linter.unusedVariables false
open Go Go.Proofs
attribute [local simp] i_nil i_blk i_skip i_ret i_exit i_seq i_block i_cond i_region' i_ops_nil i_ops i_drawn' k_none k_0 k_1 k_2 k_3 k_4 k_5 d_in a_nil a_cons alt1 h_nil h_one h_two z_nil z_cons z_cells zeqL zeq q_alloc q_some nxtN i_drh d_hi i_drw_nil i_drw u_nil u_code u_ops u_drw u_lp u_again u_exit u_ret u_panic c_bool o_some o_val o_panic d_some d_val d_panic w_none w_fast wantG q_nil q_zero q_succ t_zero t_succ g_zero g_succ s_zero s_succ s_some s_none v_tmp v_const v_func f_quiet gc_none gc_pure wrap_i64 p_move p_assign p_pick p_alloc p_box p_build p_buildSlice p_load p_store p_nilCheck p_binOp n_tmp n_int n_bool n_str n_ptr n_fun n_iface nilCmp p_unOp p_convert p_makeSlice p_makeInterface p_makeFunc p_slice p_fieldAddr p_field p_indexAddr p_index p_extract p_callv p_callb p_panic quiet_val new_val e_assign e_call e_load e_store e_alloc e_box e_move e_pick e_build e_buildSlice e_nilCheck e_binOp e_unOp e_convert e_makeSlice e_makeInterface e_makeFunc e_slice e_fieldAddr e_field e_indexAddr e_index e_extract e_panic callD fpRead adoptZ fulls adopt adoptL ofValue ofScalar binOpV unOpV intBin strBin eqRes veq veqF eqDepth val? finish resL r_tmp r_cell normL normTop tipIs refsL refs ownRefs single frz frzL ren renL renOwn callOp doCall backR writeBack builtinV loadV storeV storeW iceT cellsAt takeV D.isAgg overlay vcells cellOk fieldAddrV indexAddrV fieldV partV indexV buildV fillV buildSliceV litElems appendV appElems elemOk convertV convV winStr makeSliceV sliceV natOf
attribute [local simp ↓] brB_true brB_false brB_dec brB_not brB_and brB_or brB_beq brB_bne
attribute [local irreducible] fpsQ panQ
mutual
theorem ev_plainstm : ∀ e : Stm, e.ok → EV 14 [e.enc] [] = some (.ret e.enc, [])
  | .mk b acts, h => ev_plainstm_of b acts h.1 h.2.1 (ev_plainstm_all acts h.2.2)
theorem ev_plainstm_all : ∀ l : List Stm, Stm.oks l → ∀ m ∈ l, EV 14 [m.enc] [] = some (.ret m.enc, [])
  | [], _, m, hm => by cases hm
  | e :: l, h, m, hm => by
    rcases List.mem_cons.1 hm with hm | hm
    · rw [hm]; exact ev_plainstm e h.1
    · exact ev_plainstm_all l h.2 m hm
end
def deepS : Nat → Stm → Bool
  | 0, _ => true
  | n + 1, s => decide (500 < s.b.name.length) || decide (500 < s.b.table.length) || decide (500 < s.b.col.length) || (s.b.values.any (deepE 60) || (s.b.items.any (deepE 60) || (s.b.wher.any (deepE 60) || (s.b.sets.any (fun x => deepE 60 x.e) || s.acts.any (deepS n)))))
set_option maxRecDepth 100000 in
set_option maxHeartbeats 2000000 in
theorem ev_deeps_of (n : Nat) (b : StB) (acts : List Stm) (h : b.ok) (hn : n < 1000) (hl : acts.length ≤ 1048576) (ihk : ∀ a ∈ acts, EV 36 [a.enc, .int .i64 n] [] = some (.ret (.bool (deepS n a)), [])) :
    EV 36 [(Stm.mk b acts).enc, .int .i64 (n + 1 : Nat)] [] = some (.ret (.bool (deepS (n + 1) (.mk b acts))), []) := by
  have hn0 : ¬ ((n : Int) + 1 = 0) := by omega
  have hw : IntKind.i64.wrap (n : Int) = n := wrap_i64 (by omega)
  rw [EV_mki rfl Tryz.func36 rfl (by kernel_rfl) rfl, senc_mk]
  have hs := h.sets
  have hx1 := h.values
  have hx2 := h.items
  have hx3 := h.wher
  have b1 := h.name
  have b2 := h.table
  have b3 := h.col
  simp only [deepS, Stm.b, Stm.acts]
  obtain ⟨kind, name, table, col, cols, values, items, wher, sets, src, prio, event, deferred, rolls⟩ := b
  dsimp only at hs hx1 hx2 hx3 b1 b2 b3 ⊢
  by_cases h1 : 500 < name.length
  · have h1' : (500 : Int) < name.length := by omega
    simp [Tryz.f36, Tryz.ti3, Tryz.ti4, Tryz.ti9, Tryz.ti22, Tryz.ti23, Tryz.ti24, Tryz.ti25, Tryz.ti26, Tryz.ti28, Tryz.ti44, Tryz.ti46, Tryz.ti80, Tryz.ti84, Tryz.ti94, Tryz.ti129, hn0, h1, h1'] <;> first | (refine panQ_of ?_; decide +kernel) | (change _ = true; decide +kernel) | kernel_rfl | (refine ⟨?_, ?_⟩ <;> first | (change _ = true; decide +kernel) | kernel_rfl)
  have h1' : ¬ (500 : Int) < name.length := by omega
  by_cases h2 : 500 < table.length
  · have h2' : (500 : Int) < table.length := by omega
    simp [Tryz.f36, Tryz.ti3, Tryz.ti4, Tryz.ti9, Tryz.ti22, Tryz.ti23, Tryz.ti24, Tryz.ti25, Tryz.ti26, Tryz.ti28, Tryz.ti44, Tryz.ti46, Tryz.ti80, Tryz.ti84, Tryz.ti94, Tryz.ti129, hn0, h1, h1', h2, h2'] <;> first | (refine panQ_of ?_; decide +kernel) | (change _ = true; decide +kernel) | kernel_rfl | (refine ⟨?_, ?_⟩ <;> first | (change _ = true; decide +kernel) | kernel_rfl)
  have h2' : ¬ (500 : Int) < table.length := by omega
  by_cases h3 : 500 < col.length
  · have h3' : (500 : Int) < col.length := by omega
    simp [Tryz.f36, Tryz.ti3, Tryz.ti4, Tryz.ti9, Tryz.ti22, Tryz.ti23, Tryz.ti24, Tryz.ti25, Tryz.ti26, Tryz.ti28, Tryz.ti44, Tryz.ti46, Tryz.ti80, Tryz.ti84, Tryz.ti94, Tryz.ti129, hn0, h1, h1', h2, h2', h3, h3'] <;> first | (refine panQ_of ?_; decide +kernel) | (change _ = true; decide +kernel) | kernel_rfl | (refine ⟨?_, ?_⟩ <;> first | (change _ = true; decide +kernel) | kernel_rfl)
  have h3' : ¬ (500 : Int) < col.length := by omega
  simp only [h1, h2, h3, decide_false, Bool.false_or]
  simp [Tryz.f36, Tryz.ti3, Tryz.ti4, Tryz.ti9, Tryz.ti22, Tryz.ti23, Tryz.ti24, Tryz.ti25, Tryz.ti26, Tryz.ti28, Tryz.ti44, Tryz.ti46, Tryz.ti80, Tryz.ti84, Tryz.ti94, Tryz.ti129, hn0, h1', h2', h3']
  rw [i_loop (ts := [42, 43, 44, 6, 45, 46, 47, 48, 49, 50, 8, 51, 52, 53, 47, 54])]
  rotate_left
  · kernel_rfl
  refine i_at (fun o : {o : Nat // o ≤ 3} => 3 - o.1) (fun o env => setV env 41 (.int .i64 o.1)) (fun o => _) (fun o => some (.ret (.bool (if o.1 = 0 then (values.any (deepE 60) || (items.any (deepE 60) || (wher.any (deepE 60) || (sets.any (fun x => deepE 60 x.e) || acts.any (deepS n))))) else if o.1 = 1 then (items.any (deepE 60) || (wher.any (deepE 60) || (sets.any (fun x => deepE 60 x.e) || acts.any (deepS n)))) else if o.1 = 2 then (wher.any (deepE 60) || (sets.any (fun x => deepE 60 x.e) || acts.any (deepS n))) else (sets.any (fun x => deepE 60 x.e) || acts.any (deepS n)))), [])) ⟨0, by omega⟩ (by simp [s_zero, s_succ]) rfl (by simp) ?_
  intro ⟨o, hol⟩ iho
  dsimp only at hol ⊢
  obtain rfl | rfl | rfl | rfl : o = 0 ∨ o = 1 ∨ o = 2 ∨ o = 3 := by omega
  · have iho := iho ⟨1, by omega⟩ (by simp)
    simp [s_zero, s_succ] at iho
    simp [i_again, roundEnd, dropT, cleanV, Tryz.f36, Tryz.ti3, Tryz.ti4, Tryz.ti9, Tryz.ti22, Tryz.ti23, Tryz.ti24, Tryz.ti25, Tryz.ti26, Tryz.ti28, Tryz.ti44, Tryz.ti46, Tryz.ti80, Tryz.ti84, Tryz.ti94, Tryz.ti129]
    rw [i_loop (ts := [48, 49, 50, 8, 51, 52, 53])]
    rotate_left
    · kernel_rfl
    refine i_at (fun i : {i : Nat // i ≤ values.length} => values.length - i.1) (fun i env => setV env 47 (.int .i64 i.1)) (fun i => _) (fun i => some (.ret (.bool ((values.drop i.1).any (deepE 60) || (items.any (deepE 60) || (wher.any (deepE 60) || (sets.any (fun x => deepE 60 x.e) || acts.any (deepS n)))))), [])) ⟨0, by omega⟩ (by simp [s_zero, s_succ]) rfl (by simp) ?_
    intro ⟨i, hil⟩ ih
    dsimp only at hil ⊢
    by_cases hi : i < values.length
    · have ih := ih ⟨i + 1, by omega⟩ (by simp only; omega)
      have hwi : IntKind.i64.wrap ((i : Int) + 1) = (i : Int) + 1 := wrap_i64 (by omega)
      have hc := ev_deepx 60 values[i] (hx1.2 _ (List.getElem_mem hi)) (by omega)
      obtain ⟨t, hk⟩ : ∃ m, values[i] = m := ⟨_, rfl⟩
      rw [List.drop_eq_getElem_cons hi, List.any_cons, hk]
      rw [hk] at hc
      try simp only [Int.cast_ofNat_Int] at hc
      obtain ⟨op, v, var, co, kids⟩ := t
      rw [xenc_mk] at hc
      simp only [s_zero, s_succ, Int.natCast_add, Int.natCast_one, Int.cast_ofNat_Int] at ih
      cases hd : deepE 60 (.mk op v var co kids) <;> rw [hd] at hc <;> simp [i_again, roundEnd, dropT, cleanV, Tryz.f36, Tryz.ti3, Tryz.ti4, Tryz.ti9, Tryz.ti22, Tryz.ti23, Tryz.ti24, Tryz.ti25, Tryz.ti26, Tryz.ti28, Tryz.ti44, Tryz.ti46, Tryz.ti80, Tryz.ti84, Tryz.ti94, Tryz.ti129, hi, hk, xenc_mk, hwi, hw, ih, hc, Bool.or_assoc]
    rw [List.drop_of_length_le (by omega)]
    obtain rfl : i = values.length := by omega
    clear ih
    simp [i_again, roundEnd, dropT, cleanV, Tryz.f36, Tryz.ti3, Tryz.ti4, Tryz.ti9, Tryz.ti22, Tryz.ti23, Tryz.ti24, Tryz.ti25, Tryz.ti26, Tryz.ti28, Tryz.ti44, Tryz.ti46, Tryz.ti80, Tryz.ti84, Tryz.ti94, Tryz.ti129, iho]
  · have iho := iho ⟨2, by omega⟩ (by simp)
    simp [s_zero, s_succ] at iho
    simp [i_again, roundEnd, dropT, cleanV, Tryz.f36, Tryz.ti3, Tryz.ti4, Tryz.ti9, Tryz.ti22, Tryz.ti23, Tryz.ti24, Tryz.ti25, Tryz.ti26, Tryz.ti28, Tryz.ti44, Tryz.ti46, Tryz.ti80, Tryz.ti84, Tryz.ti94, Tryz.ti129]
    rw [i_loop (ts := [48, 49, 50, 8, 51, 52, 53])]
    rotate_left
    · kernel_rfl
    refine i_at (fun i : {i : Nat // i ≤ items.length} => items.length - i.1) (fun i env => setV env 47 (.int .i64 i.1)) (fun i => _) (fun i => some (.ret (.bool ((items.drop i.1).any (deepE 60) || (wher.any (deepE 60) || (sets.any (fun x => deepE 60 x.e) || acts.any (deepS n))))), [])) ⟨0, by omega⟩ (by simp [s_zero, s_succ]) rfl (by simp) ?_
    intro ⟨i, hil⟩ ih
    dsimp only at hil ⊢
    by_cases hi : i < items.length
    · have ih := ih ⟨i + 1, by omega⟩ (by simp only; omega)
      have hwi : IntKind.i64.wrap ((i : Int) + 1) = (i : Int) + 1 := wrap_i64 (by omega)
      have hc := ev_deepx 60 items[i] (hx2.2 _ (List.getElem_mem hi)) (by omega)
      obtain ⟨t, hk⟩ : ∃ m, items[i] = m := ⟨_, rfl⟩
      rw [List.drop_eq_getElem_cons hi, List.any_cons, hk]
      rw [hk] at hc
      try simp only [Int.cast_ofNat_Int] at hc
      obtain ⟨op, v, var, co, kids⟩ := t
      rw [xenc_mk] at hc
      simp only [s_zero, s_succ, Int.natCast_add, Int.natCast_one, Int.cast_ofNat_Int] at ih
      cases hd : deepE 60 (.mk op v var co kids) <;> rw [hd] at hc <;> simp [i_again, roundEnd, dropT, cleanV, Tryz.f36, Tryz.ti3, Tryz.ti4, Tryz.ti9, Tryz.ti22, Tryz.ti23, Tryz.ti24, Tryz.ti25, Tryz.ti26, Tryz.ti28, Tryz.ti44, Tryz.ti46, Tryz.ti80, Tryz.ti84, Tryz.ti94, Tryz.ti129, hi, hk, xenc_mk, hwi, hw, ih, hc, Bool.or_assoc]
    rw [List.drop_of_length_le (by omega)]
    obtain rfl : i = items.length := by omega
    clear ih
    simp [i_again, roundEnd, dropT, cleanV, Tryz.f36, Tryz.ti3, Tryz.ti4, Tryz.ti9, Tryz.ti22, Tryz.ti23, Tryz.ti24, Tryz.ti25, Tryz.ti26, Tryz.ti28, Tryz.ti44, Tryz.ti46, Tryz.ti80, Tryz.ti84, Tryz.ti94, Tryz.ti129, iho]
  · have iho := iho ⟨3, by omega⟩ (by simp)
    simp [s_zero, s_succ] at iho
    simp [i_again, roundEnd, dropT, cleanV, Tryz.f36, Tryz.ti3, Tryz.ti4, Tryz.ti9, Tryz.ti22, Tryz.ti23, Tryz.ti24, Tryz.ti25, Tryz.ti26, Tryz.ti28, Tryz.ti44, Tryz.ti46, Tryz.ti80, Tryz.ti84, Tryz.ti94, Tryz.ti129]
    rw [i_loop (ts := [48, 49, 50, 8, 51, 52, 53])]
    rotate_left
    · kernel_rfl
    refine i_at (fun i : {i : Nat // i ≤ wher.length} => wher.length - i.1) (fun i env => setV env 47 (.int .i64 i.1)) (fun i => _) (fun i => some (.ret (.bool ((wher.drop i.1).any (deepE 60) || (sets.any (fun x => deepE 60 x.e) || acts.any (deepS n)))), [])) ⟨0, by omega⟩ (by simp [s_zero, s_succ]) rfl (by simp) ?_
    intro ⟨i, hil⟩ ih
    dsimp only at hil ⊢
    by_cases hi : i < wher.length
    · have ih := ih ⟨i + 1, by omega⟩ (by simp only; omega)
      have hwi : IntKind.i64.wrap ((i : Int) + 1) = (i : Int) + 1 := wrap_i64 (by omega)
      have hc := ev_deepx 60 wher[i] (hx3.2 _ (List.getElem_mem hi)) (by omega)
      obtain ⟨t, hk⟩ : ∃ m, wher[i] = m := ⟨_, rfl⟩
      rw [List.drop_eq_getElem_cons hi, List.any_cons, hk]
      rw [hk] at hc
      try simp only [Int.cast_ofNat_Int] at hc
      obtain ⟨op, v, var, co, kids⟩ := t
      rw [xenc_mk] at hc
      simp only [s_zero, s_succ, Int.natCast_add, Int.natCast_one, Int.cast_ofNat_Int] at ih
      cases hd : deepE 60 (.mk op v var co kids) <;> rw [hd] at hc <;> simp [i_again, roundEnd, dropT, cleanV, Tryz.f36, Tryz.ti3, Tryz.ti4, Tryz.ti9, Tryz.ti22, Tryz.ti23, Tryz.ti24, Tryz.ti25, Tryz.ti26, Tryz.ti28, Tryz.ti44, Tryz.ti46, Tryz.ti80, Tryz.ti84, Tryz.ti94, Tryz.ti129, hi, hk, xenc_mk, hwi, hw, ih, hc, Bool.or_assoc]
    rw [List.drop_of_length_le (by omega)]
    obtain rfl : i = wher.length := by omega
    clear ih
    simp [i_again, roundEnd, dropT, cleanV, Tryz.f36, Tryz.ti3, Tryz.ti4, Tryz.ti9, Tryz.ti22, Tryz.ti23, Tryz.ti24, Tryz.ti25, Tryz.ti26, Tryz.ti28, Tryz.ti44, Tryz.ti46, Tryz.ti80, Tryz.ti84, Tryz.ti94, Tryz.ti129, iho]
  · clear iho
    simp [i_again, roundEnd, dropT, cleanV, Tryz.f36, Tryz.ti3, Tryz.ti4, Tryz.ti9, Tryz.ti22, Tryz.ti23, Tryz.ti24, Tryz.ti25, Tryz.ti26, Tryz.ti28, Tryz.ti44, Tryz.ti46, Tryz.ti80, Tryz.ti84, Tryz.ti94, Tryz.ti129]
    rw [i_loop (ts := [59, 60, 61, 10, 62, 63, 64, 65])]
    rotate_left
    · kernel_rfl
    refine i_at (fun i : {i : Nat // i ≤ sets.length} => sets.length - i.1) (fun i env => setV env 58 (.int .i64 i.1)) (fun i => _) (fun i => some (.ret (.bool ((sets.drop i.1).any (fun x => deepE 60 x.e) || acts.any (deepS n))), [])) ⟨0, by omega⟩ (by simp [s_zero, s_succ]) rfl (by simp) ?_
    intro ⟨i, hil⟩ ih
    dsimp only at hil ⊢
    by_cases hi : i < sets.length
    · have ih := ih ⟨i + 1, by omega⟩ (by simp only; omega)
      have hwi : IntKind.i64.wrap ((i : Int) + 1) = (i : Int) + 1 := wrap_i64 (by omega)
      have hc := ev_deepx 60 sets[i].e (hs.2 _ (List.getElem_mem hi)).2 (by omega)
      obtain ⟨t, hk⟩ : ∃ m, sets[i] = m := ⟨_, rfl⟩
      rw [List.drop_eq_getElem_cons hi, List.any_cons, hk]
      rw [hk] at hc
      try simp only [Int.cast_ofNat_Int] at hc
      obtain ⟨tc, op, v, var, co, kids⟩ := t
      simp only [xenc_mk] at hc
      simp only [s_zero, s_succ, Int.natCast_add, Int.natCast_one, Int.cast_ofNat_Int] at ih
      cases hd : deepE 60 (.mk op v var co kids) <;> rw [hd] at hc <;> simp [i_again, roundEnd, dropT, cleanV, Tryz.f36, Tryz.ti3, Tryz.ti4, Tryz.ti9, Tryz.ti22, Tryz.ti23, Tryz.ti24, Tryz.ti25, Tryz.ti26, Tryz.ti28, Tryz.ti44, Tryz.ti46, Tryz.ti80, Tryz.ti84, Tryz.ti94, Tryz.ti129, hi, hk, SetE.enc, xenc_mk, hwi, hw, ih, hc, Bool.or_assoc]
    rw [List.drop_of_length_le (by omega)]
    obtain rfl : i = sets.length := by omega
    clear ih
    simp [i_again, roundEnd, dropT, cleanV, Tryz.f36, Tryz.ti3, Tryz.ti4, Tryz.ti9, Tryz.ti22, Tryz.ti23, Tryz.ti24, Tryz.ti25, Tryz.ti26, Tryz.ti28, Tryz.ti44, Tryz.ti46, Tryz.ti80, Tryz.ti84, Tryz.ti94, Tryz.ti129]
    rw [i_loop (ts := [70, 71, 72, 12, 73, 74, 75, 76, 77])]
    rotate_left
    · kernel_rfl
    refine i_at (fun i : {i : Nat // i ≤ acts.length} => acts.length - i.1) (fun i env => setV env 69 (.int .i64 i.1)) (fun i => _) (fun i => some (.ret (.bool ((acts.drop i.1).any (deepS n) || false)), [])) ⟨0, by omega⟩ (by simp [s_zero, s_succ]) rfl (by simp) ?_
    intro ⟨i, hil⟩ ih
    dsimp only at hil ⊢
    by_cases hi : i < acts.length
    · have ih := ih ⟨i + 1, by omega⟩ (by simp only; omega)
      have hwi : IntKind.i64.wrap ((i : Int) + 1) = (i : Int) + 1 := wrap_i64 (by omega)
      have hc := ihk acts[i] (List.getElem_mem hi)
      obtain ⟨t, hk⟩ : ∃ m, acts[i] = m := ⟨_, rfl⟩
      rw [List.drop_eq_getElem_cons hi, List.any_cons, hk]
      rw [hk] at hc
      try simp only [Int.cast_ofNat_Int] at hc
      obtain ⟨⟨ckind, cname, ctable, ccol, ccols, cvalues, citems, cwher, csets, csrc, cprio, cevent, cdeferred, crolls⟩, ta⟩ := t
      simp only [senc_mk] at hc
      simp only [s_zero, s_succ, Int.natCast_add, Int.natCast_one, Int.cast_ofNat_Int] at ih
      cases hd : deepS n (.mk ⟨ckind, cname, ctable, ccol, ccols, cvalues, citems, cwher, csets, csrc, cprio, cevent, cdeferred, crolls⟩ ta) <;> rw [hd] at hc <;> simp [-adopt, -adoptL, ad_full, ad_froz, ad_own, ad_int, ad_bool, ad_str, ad_box, ad_agg, isFull, noFull, ↓ad_stmt, i_again, roundEnd, dropT, cleanV, Tryz.f36, Tryz.ti3, Tryz.ti4, Tryz.ti9, Tryz.ti22, Tryz.ti23, Tryz.ti24, Tryz.ti25, Tryz.ti26, Tryz.ti28, Tryz.ti44, Tryz.ti46, Tryz.ti80, Tryz.ti84, Tryz.ti94, Tryz.ti129, hi, hk, senc_mk, hwi, hw, ih, hc, Bool.or_assoc]
    rw [List.drop_of_length_le (by omega)]
    obtain rfl : i = acts.length := by omega
    clear ih
    simp [i_again, roundEnd, dropT, cleanV, Tryz.f36, Tryz.ti3, Tryz.ti4, Tryz.ti9, Tryz.ti22, Tryz.ti23, Tryz.ti24, Tryz.ti25, Tryz.ti26, Tryz.ti28, Tryz.ti44, Tryz.ti46, Tryz.ti80, Tryz.ti84, Tryz.ti94, Tryz.ti129]
theorem ev_deeps : ∀ (n : Nat) (e : Stm), e.ok → n < 1000 → EV 36 [e.enc, .int .i64 n] [] = some (.ret (.bool (deepS n e)), [])
  | 0, .mk b acts, h, hn => by
    rw [EV_mki rfl Tryz.func36 rfl (by kernel_rfl) rfl, senc_mk]
    simp [Tryz.f36, Tryz.ti3, Tryz.ti4, Tryz.ti9, Tryz.ti22, Tryz.ti23, Tryz.ti24, Tryz.ti25, Tryz.ti26, Tryz.ti28, Tryz.ti44, Tryz.ti46, Tryz.ti80, Tryz.ti84, Tryz.ti94, Tryz.ti129, deepS] <;> first | (refine panQ_of ?_; decide +kernel) | (change _ = true; decide +kernel) | kernel_rfl | (refine ⟨?_, ?_⟩ <;> first | (change _ = true; decide +kernel) | kernel_rfl)
  | n + 1, .mk b acts, h, hn => ev_deeps_of n b acts h.1 (by omega) h.2.1 (fun m hm => ev_deeps n m ((soks_iff acts).1 h.2.2 m hm) (by omega))
end Go.Abs
namespace Go.Abs
set_option linter.unusedSimpArgs false
set_option linter.unusedVariables false
open Go Go.Proofs
attribute [local simp] i_nil i_blk i_skip i_ret i_exit i_seq i_block i_cond i_region' i_ops_nil i_ops i_drawn' k_none k_0 k_1 k_2 k_3 k_4 k_5 d_in a_nil a_cons alt1 h_nil h_one h_two z_nil z_cons z_cells zeqL zeq q_alloc q_some nxtN i_drh d_hi i_drw_nil i_drw u_nil u_code u_ops u_drw u_lp u_again u_exit u_ret u_panic c_bool o_some o_val o_panic d_some d_val d_panic w_none w_fast wantG q_nil q_zero q_succ t_zero t_succ g_zero g_succ s_zero s_succ s_some s_none v_tmp v_const v_func f_quiet gc_none gc_pure wrap_i64 p_move p_assign p_pick p_alloc p_box p_build p_buildSlice p_load p_store p_nilCheck p_binOp n_tmp n_int n_bool n_str n_ptr n_fun n_iface nilCmp p_unOp p_convert p_makeSlice p_makeInterface p_makeFunc p_slice p_fieldAddr p_field p_indexAddr p_index p_extract p_callv p_callb p_panic quiet_val new_val e_assign e_call e_load e_store e_alloc e_box e_move e_pick e_build e_buildSlice e_nilCheck e_binOp e_unOp e_convert e_makeSlice e_makeInterface e_makeFunc e_slice e_fieldAddr e_field e_indexAddr e_index e_extract e_panic callD fpRead adoptZ fulls adopt adoptL ofValue ofScalar binOpV unOpV intBin strBin eqRes veq veqF eqDepth val? finish resL r_tmp r_cell normL normTop tipIs refsL refs ownRefs single frz frzL ren renL renOwn callOp doCall backR writeBack builtinV loadV storeV storeW iceT cellsAt takeV D.isAgg overlay vcells cellOk fieldAddrV indexAddrV fieldV partV indexV buildV fillV buildSliceV litElems appendV appElems elemOk convertV convV winStr makeSliceV sliceV natOf
attribute [local simp ↓] brB_true brB_false brB_dec brB_not brB_and brB_or brB_beq brB_bne
mutual
def szE : Xp → Int → Int
  | .mk _ _ _ _ kids, most => szL kids 1 most
def szL : List Xp → Int → Int → Int
  | [], n, _ => n
  | e :: l, n, most => if n ≤ most then szL l (n + szE e (most - n)) most else n
end
mutual
theorem szE_le : ∀ (e : Xp) (m : Int), 1 ≤ szE e m ∧ (szE e m ≤ 1 ∨ szE e m ≤ m + 1)
  | .mk _ _ _ _ kids, m => by
    have := szL_le kids 1 m
    simp only [szE]
    omega
theorem szL_le : ∀ (l : List Xp) (n m : Int), n ≤ szL l n m ∧ (szL l n m = n ∨ szL l n m ≤ m + 1)
  | [], n, m => by simp [szL]
  | e :: l, n, m => by
    simp only [szL]
    split
    · have h1 := szE_le e (m - n)
      have h2 := szL_le l (n + szE e (m - n)) m
      omega
    · omega
end
theorem ev_size_of (op : List UInt8) (v : Val) (var col : List UInt8) (l : List Xp) (m : Int) (hm : -1000000 ≤ m ∧ m ≤ 1000000) (hl : l.length ≤ 1048576)
    (ihk : ∀ e ∈ l, ∀ m : Int, -1000000 ≤ m ∧ m ≤ 1000000 → EV 21 [e.enc, .int .i64 m] [] = some (.ret (.int .i64 (szE e m)), [])) :
    EV 21 [(Xp.mk op v var col l).enc, .int .i64 m] [] = some (.ret (.int .i64 (szE (Xp.mk op v var col l) m)), []) := by
  rw [EV_mki rfl Tryz.func21 rfl (by kernel_rfl) rfl, xenc_mk]
  simp only [szE]
  simp [Tryz.f21, Tryz.ti3, Tryz.ti9, Tryz.ti31, Tryz.ti44, Tryz.ti50]
  rw [i_loop (ts := [7, 8, 9, 10, 11, 12, 13, 14, 15, 16, 19, 20, 21, 22, 23, 24, 25, 26, 27, 28, 29, 17, 18])]
  rotate_left
  · kernel_rfl
  refine i_at (fun x : {x : Nat × Int // x.1 ≤ l.length ∧ 1 ≤ x.2 ∧ x.2 ≤ 1000001} => l.length - x.1.1) (fun x env => setV (setV env 6 (.int .i64 x.1.1)) 5 (.int .i64 x.1.2)) (fun i => _) (fun x => some (.ret (.int .i64 (szL (l.drop x.1.1) x.1.2 m)), [])) ⟨(0, 1), by omega⟩ (by simp [s_zero, s_succ]) rfl (by simp) ?_
  intro ⟨⟨i, n⟩, hil, hn1, hn2⟩ ih
  dsimp only at hil hn1 hn2 ih ⊢
  by_cases hi : i < l.length
  · obtain ⟨t, hk⟩ : ∃ m, l[i] = m := ⟨_, rfl⟩
    have hkk : l[i]? = some t := by rw [List.getElem?_eq_getElem hi, hk]
    have hwi : IntKind.i64.wrap ((i : Int) + 1) = (i : Int) + 1 := wrap_i64 (by omega)
    rw [List.drop_eq_getElem_cons hi, szL, hk]
    by_cases hnm : n ≤ m
    · rw [if_pos hnm]
      have hc := ihk l[i] (List.getElem_mem hi) (m - n) (by omega)
      rw [hk] at hc
      have hz := szE_le t (m - n)
      have ih := ih ⟨(i + 1, n + szE t (m - n)), by omega, by omega, by omega⟩ (by simp only; omega)
      have hw1 : IntKind.i64.wrap (m - n) = m - n := wrap_i64 (by omega)
      have hw2 : IntKind.i64.wrap (n + szE t (m - n)) = n + szE t (m - n) := wrap_i64 (by omega)
      obtain ⟨op', v', var', col', kids'⟩ := t
      rw [xenc_mk] at hc
      simp only [s_zero, s_succ, Int.natCast_add, Int.natCast_one, Int.cast_ofNat_Int] at ih
      generalize szE (.mk op' v' var' col' kids') (m - n) = z at hc hz ih hw2 ⊢
      simp [i_again, roundEnd, dropT, cleanV, Tryz.f21, Tryz.ti3, Tryz.ti9, Tryz.ti31, Tryz.ti44, Tryz.ti50, hi, hk, hkk, xenc_mk, hwi, hnm, hw1, hw2, hc, ih] <;> first | (refine panQ_of ?_; decide +kernel) | (change _ = true; decide +kernel) | kernel_rfl | (refine ⟨?_, ?_⟩ <;> first | (change _ = true; decide +kernel) | kernel_rfl)
    · rw [if_neg hnm]
      simp [i_again, roundEnd, dropT, cleanV, Tryz.f21, Tryz.ti3, Tryz.ti9, Tryz.ti31, Tryz.ti44, Tryz.ti50, hi, hk, hkk, hnm]
  · rw [List.drop_of_length_le (by omega)]
    simp [i_again, roundEnd, dropT, cleanV, Tryz.f21, Tryz.ti3, Tryz.ti9, Tryz.ti31, Tryz.ti44, Tryz.ti50, hi, szL]
mutual
theorem ev_sizex : ∀ e : Xp, e.ok → ∀ m : Int, -1000000 ≤ m ∧ m ≤ 1000000 → EV 21 [e.enc, .int .i64 m] [] = some (.ret (.int .i64 (szE e m)), [])
  | .mk op v var col kids, h => fun m hm => ev_size_of op v var col kids m hm h.2.2.2.2.1 (ev_sizexs kids h.2.2.2.2.2)
theorem ev_sizexs : ∀ l : List Xp, Xp.oks l → ∀ e ∈ l, ∀ m : Int, -1000000 ≤ m ∧ m ≤ 1000000 → EV 21 [e.enc, .int .i64 m] [] = some (.ret (.int .i64 (szE e m)), [])
  | [], _, m, hm => by cases hm
  | e :: l, h, m, hm => by
    rcases List.mem_cons.1 hm with hm | hm
    · rw [hm]; exact ev_sizex e h.1
    · exact ev_sizexs l h.2 m hm
end
end Go.Abs
