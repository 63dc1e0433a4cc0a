/- Which statements are right, by the reference: kind 8. -/
import Derived.Test.YtpmeklllgnnffaaGreatDoorU34
set_option linter.unusedSimpArgs false
set_option linter.unusedVariables false

namespace Go.Abs
set_option linter.unusedSimpArgs false
set_option linter.unusedVariables false
open Go Go.Proofs
attribute [local simp] i_nil i_blk i_skip i_ret i_exit i_seq i_block i_cond i_region' i_ops_nil i_ops i_drawn' k_none k_0 k_1 k_2 k_3 k_4 k_5 d_in a_nil a_cons alt1 h_nil h_one h_two z_nil z_cons z_cells zeqL zeq q_alloc q_some nxtN i_drh d_hi i_drw_nil i_drw u_nil u_code u_ops u_drw u_lp u_again u_exit u_ret u_panic c_bool o_some o_val o_panic d_some d_val d_panic w_none w_fast wantG q_nil q_zero q_succ t_zero t_succ g_zero g_succ s_zero s_succ s_some s_none v_tmp v_const v_func f_quiet gc_none gc_pure wrap_i64 p_move p_assign p_pick p_alloc p_box p_build p_buildSlice p_load p_store p_nilCheck p_binOp n_tmp n_int n_bool n_str n_ptr n_fun n_iface nilCmp p_unOp p_convert p_makeSlice p_makeInterface p_makeFunc p_slice p_fieldAddr p_field p_indexAddr p_index p_extract p_callv p_callb p_panic quiet_val new_val e_assign e_call e_load e_store e_alloc e_box e_move e_pick e_build e_buildSlice e_nilCheck e_binOp e_unOp e_convert e_makeSlice e_makeInterface e_makeFunc e_slice e_fieldAddr e_field e_indexAddr e_index e_extract e_panic callD fpRead adoptZ fulls adopt adoptL ofValue ofScalar binOpV unOpV intBin strBin eqRes veq veqF eqDepth val? finish resL r_tmp r_cell normL normTop tipIs refsL refs ownRefs single frz frzL ren renL renOwn callOp doCall backR writeBack builtinV loadV storeV storeW iceT cellsAt takeV D.isAgg overlay vcells cellOk fieldAddrV indexAddrV fieldV partV indexV buildV fillV buildSliceV litElems appendV appElems elemOk convertV convV winStr makeSliceV sliceV natOf
attribute [local simp ↓] brB_true brB_false brB_dec brB_not brB_and brB_or brB_beq brB_bne
attribute [local irreducible] fpsQ panQ

set_option maxRecDepth 100000 in
set_option maxHeartbeats 16000000 in
theorem ev_rr8_d (b : StB) (acts : List Stm) (h : b.ok) (hk : b.kind = 8) (hl : acts.length ≤ 1048576) (ihk : ∀ a ∈ acts, EV 16 [a.enc] [] = some (.ret (.bool (rightStm a)), [])) (hp : (¬ b.name = [] ∧ ¬ b.table = [] ∧ b.col = [] ∧ nameS b.name = true ∧ nameS b.table = true ∧ b.cols = [] ∧ b.sets = [])) (hm : (b.values = [] ∧ b.items = [] ∧ 0 ≤ b.prio ∧ b.prio ≤ 999 ∧ 1 ≤ b.event ∧ b.event ≤ 3 ∧ srcsS b.src 0 = true ∧ rightsE b.wher 0 1 = true ∧ (b.src = [] → b.wher = []))) (a0 : ¬ acts = []) : EV 16 [(Stm.mk b acts).enc] [] = some (.ret (.bool (rr8 b acts)), []) := by
  have n1 := ev_rname b.name (by have := h.name; omega)
  have n2 := ev_rname b.table (by have := h.table; omega)
  have n3 := ev_rname b.col (by have := h.col; omega)
  have hcols := ev_rcols b.cols h.cols.1 h.cols.2
  have hvals := ev_rexprs b.values h.values.1 h.values.2 1 6
  have hitems := ev_rexprs b.items h.items.1 h.items.2 0 40
  have hwher := ev_rexprs b.wher h.wher.1 h.wher.2 0 1
  have hsrc0 := ev_rsources b.src h.src.1 h.src.2 0
  have hsrc1 := ev_rsources b.src h.src.1 h.src.2 1
  have hsets := h.sets
  rw [EV_mki rfl Tryz.func16 rfl (by kernel_rfl) rfl, senc_mk]
  obtain ⟨kind, name, table, col, cols, values, items, wher, sets, src, prio, event, deferred, rolls⟩ := b
  dsimp only at hk hp hm n1 n2 n3 hcols hvals hitems hwher hsrc0 hsrc1 hsets
  subst hk
  simp only [rr8]
  obtain ⟨e_name, e_table, rfl, b_name, b_table, rfl, rfl⟩ := hp
  rw [b_name] at n1
  rw [b_table] at n2
  simp (maxSteps := 4000000) [Tryz.f16, Tryz.ti3, Tryz.ti4, Tryz.ti9, Tryz.ti22, Tryz.ti31, Tryz.ti32, Tryz.ti33, Tryz.ti34, Tryz.ti36, Tryz.ti44, Tryz.ti50, Tryz.ti82, Tryz.ti85, Tryz.ti94, n1, n2, n3, hcols, e_name, e_table, b_name, b_table]
  rw [i_loop (ts := [147, 148, 149, 150, 151, 154, 155, 156, 157, 158, 159, 160, 161, 162, 163, 164, 165, 166, 167, 168, 169, 170, 171, 152, 153])]
  rotate_left
  · kernel_rfl
  rw [i_round]
  obtain ⟨rfl, rfl, g0, g1, g2, g3, hs1, hs2, key⟩ := hm
  have g0' : ¬ prio < 0 := by omega
  have g1' : ¬ 999 < prio := by omega
  have g2' : ¬ event < 1 := by omega
  have g3' : ¬ 3 < event := by omega
  simp only [hs1, hs2] at hsrc0 hwher ⊢
  have a1 : 0 < acts.length := List.length_pos_iff.2 a0
  have a2 : (0 : Int) < acts.length := by omega
  have a3 : ¬ acts.length = 0 := by omega
  have a4 : ¬ (acts.length : Int) = 0 := by omega
  have skey : (src = [] ∧ wher = []) ∨ ¬ src = [] := by
    by_cases a : src = []
    · exact .inl ⟨a, key a⟩
    · exact .inr a
  cases rolls
  rotate_left
  · rcases skey with ⟨s0, w0⟩ | s0
    · subst s0
      subst w0
      simp only [List.map_nil] at hsrc0 hwher
      simp (maxSteps := 4000000) [Tryz.f16, Tryz.ti3, Tryz.ti4, Tryz.ti9, Tryz.ti22, Tryz.ti31, Tryz.ti32, Tryz.ti33, Tryz.ti34, Tryz.ti36, Tryz.ti44, Tryz.ti50, Tryz.ti82, Tryz.ti85, Tryz.ti94, g0, g0', g1, g1', g2, g2', g3, g3', hsrc0, hwher, a0, a1, a2, a3, a4]
    · have s1 : ¬ src.length = 0 := fun e => s0 (List.eq_nil_of_length_eq_zero e)
      have s2 : ¬ (src.length : Int) = 0 := by omega
      simp (maxSteps := 4000000) [Tryz.f16, Tryz.ti3, Tryz.ti4, Tryz.ti9, Tryz.ti22, Tryz.ti31, Tryz.ti32, Tryz.ti33, Tryz.ti34, Tryz.ti36, Tryz.ti44, Tryz.ti50, Tryz.ti82, Tryz.ti85, Tryz.ti94, g0, g0', g1, g1', g2, g2', g3, g3', hsrc0, hwher, a0, a1, a2, a3, a4, s0, s1, s2]
  by_cases n4 : acts.length ≤ 4
  rotate_left
  · have n5 : (4 : Int) < acts.length := by omega
    have n6 : 4 < acts.length := by omega
    rcases skey with ⟨s0, w0⟩ | s0
    · subst s0
      subst w0
      simp only [List.map_nil] at hsrc0 hwher
      simp (maxSteps := 4000000) [Tryz.f16, Tryz.ti3, Tryz.ti4, Tryz.ti9, Tryz.ti22, Tryz.ti31, Tryz.ti32, Tryz.ti33, Tryz.ti34, Tryz.ti36, Tryz.ti44, Tryz.ti50, Tryz.ti82, Tryz.ti85, Tryz.ti94, g0, g0', g1, g1', g2, g2', g3, g3', hsrc0, hwher, a0, a1, a2, a3, a4, n4, n5, n6]
    · have s1 : ¬ src.length = 0 := fun e => s0 (List.eq_nil_of_length_eq_zero e)
      have s2 : ¬ (src.length : Int) = 0 := by omega
      simp (maxSteps := 4000000) [Tryz.f16, Tryz.ti3, Tryz.ti4, Tryz.ti9, Tryz.ti22, Tryz.ti31, Tryz.ti32, Tryz.ti33, Tryz.ti34, Tryz.ti36, Tryz.ti44, Tryz.ti50, Tryz.ti82, Tryz.ti85, Tryz.ti94, g0, g0', g1, g1', g2, g2', g3, g3', hsrc0, hwher, a0, a1, a2, a3, a4, s0, s1, s2, n4, n5, n6]
  have n5 : ¬ (4 : Int) < acts.length := by omega
  have n6 : ¬ 4 < acts.length := by omega
  rcases skey with ⟨s0, w0⟩ | s0
  · subst s0
    subst w0
    simp only [List.map_nil] at hsrc0 hwher
    simp (maxSteps := 4000000) [Tryz.f16, Tryz.ti3, Tryz.ti4, Tryz.ti9, Tryz.ti22, Tryz.ti31, Tryz.ti32, Tryz.ti33, Tryz.ti34, Tryz.ti36, Tryz.ti44, Tryz.ti50, Tryz.ti82, Tryz.ti85, Tryz.ti94, g0, g0', g1, g1', g2, g2', g3, g3', hsrc0, hwher, a0, a1, a2, a3, a4, n4, n5, n6]
    rw [i_loop (ts := [336, 337, 338, 339, 340, 343, 344, 345, 346, 347, 11, 348, 349, 350, 351, 352, 353, 354, 355, 356, 357, 358, 359, 360, 341, 342])]
    rotate_left
    · kernel_rfl
    refine i_at2 (fun i : {i : Nat // i ≤ acts.length} => acts.length - i.1) (fun i env => setV env 10 (.int .i64 i.1)) (fun i st => st) (fun i => some (.ret (.bool (rightActs (acts.drop i.1))), [])) ⟨0, by omega⟩ (by simp [s_zero, s_succ]) rfl (by simp [a0, n4]) ?_
    intro ⟨i, hil⟩ ih
    dsimp only at hil ⊢
    by_cases hi : i < acts.length
    · have ih := ih ⟨i + 1, by omega⟩ (by simp only; omega)
      have hwi : IntKind.i64.wrap ((i : Int) + 1) = (i : Int) + 1 := wrap_i64 (by omega)
      have hc := ihk acts[i] (List.getElem_mem hi)
      obtain ⟨t, hk⟩ : ∃ m, acts[i] = m := ⟨_, rfl⟩
      have hkk : acts[i]? = some t := by rw [List.getElem?_eq_getElem hi, hk]
      rw [List.drop_eq_getElem_cons hi, rightActs, hk]
      rw [hk] at hc
      obtain ⟨tb, ta⟩ := t
      rw [senc_mk] at hc
      simp only [s_zero, s_succ, Int.natCast_add, Int.natCast_one, Int.cast_ofNat_Int] at ih
      simp only [Stm.b]
      by_cases h1 : 12 ≤ tb.kind
      · have h1' : ¬ tb.kind < 12 := by omega
        by_cases h2 : tb.kind ≤ 14
        · have h2' : ¬ 14 < tb.kind := by omega
          cases hd : rightStm (.mk tb ta) <;> rw [hd] at hc
          · simp (maxSteps := 4000000) [i_again, roundEnd, dropT, cleanV, Tryz.f16, Tryz.ti3, Tryz.ti4, Tryz.ti9, Tryz.ti22, Tryz.ti31, Tryz.ti32, Tryz.ti33, Tryz.ti34, Tryz.ti36, Tryz.ti44, Tryz.ti50, Tryz.ti82, Tryz.ti85, Tryz.ti94, hi, hk, hkk, senc_mk, h1, h1', h2, h2', hc]
          · simp (maxSteps := 4000000) [i_again, roundEnd, dropT, cleanV, Tryz.f16, Tryz.ti3, Tryz.ti4, Tryz.ti9, Tryz.ti22, Tryz.ti31, Tryz.ti32, Tryz.ti33, Tryz.ti34, Tryz.ti36, Tryz.ti44, Tryz.ti50, Tryz.ti82, Tryz.ti85, Tryz.ti94, hi, hk, hkk, senc_mk, h1, h1', h2, h2', hc, hwi, ih]
        · have h2' : 14 < tb.kind := by omega
          simp (maxSteps := 4000000) [i_again, roundEnd, dropT, cleanV, Tryz.f16, Tryz.ti3, Tryz.ti4, Tryz.ti9, Tryz.ti22, Tryz.ti31, Tryz.ti32, Tryz.ti33, Tryz.ti34, Tryz.ti36, Tryz.ti44, Tryz.ti50, Tryz.ti82, Tryz.ti85, Tryz.ti94, hi, hk, hkk, senc_mk, h1, h1', h2, h2']
      · have h1' : tb.kind < 12 := by omega
        simp (maxSteps := 4000000) [i_again, roundEnd, dropT, cleanV, Tryz.f16, Tryz.ti3, Tryz.ti4, Tryz.ti9, Tryz.ti22, Tryz.ti31, Tryz.ti32, Tryz.ti33, Tryz.ti34, Tryz.ti36, Tryz.ti44, Tryz.ti50, Tryz.ti82, Tryz.ti85, Tryz.ti94, hi, hk, hkk, senc_mk, h1, h1']
    · rw [List.drop_of_length_le (by omega)]
      have hi' : ¬ (i : Int) < acts.length := by omega
      simp (maxSteps := 4000000) [i_again, roundEnd, dropT, cleanV, Tryz.f16, Tryz.ti3, Tryz.ti4, Tryz.ti9, Tryz.ti22, Tryz.ti31, Tryz.ti32, Tryz.ti33, Tryz.ti34, Tryz.ti36, Tryz.ti44, Tryz.ti50, Tryz.ti82, Tryz.ti85, Tryz.ti94, hi, hi', rightActs]
  · have s1 : ¬ src.length = 0 := fun e => s0 (List.eq_nil_of_length_eq_zero e)
    have s2 : ¬ (src.length : Int) = 0 := by omega
    simp (maxSteps := 4000000) [Tryz.f16, Tryz.ti3, Tryz.ti4, Tryz.ti9, Tryz.ti22, Tryz.ti31, Tryz.ti32, Tryz.ti33, Tryz.ti34, Tryz.ti36, Tryz.ti44, Tryz.ti50, Tryz.ti82, Tryz.ti85, Tryz.ti94, g0, g0', g1, g1', g2, g2', g3, g3', hsrc0, hwher, a0, a1, a2, a3, a4, s0, s1, s2, n4, n5, n6]
    rw [i_loop (ts := [336, 337, 338, 339, 340, 343, 344, 345, 346, 347, 11, 348, 349, 350, 351, 352, 353, 354, 355, 356, 357, 358, 359, 360, 341, 342])]
    rotate_left
    · kernel_rfl
    refine i_at2 (fun i : {i : Nat // i ≤ acts.length} => acts.length - i.1) (fun i env => setV env 10 (.int .i64 i.1)) (fun i st => st) (fun i => some (.ret (.bool (rightActs (acts.drop i.1))), [])) ⟨0, by omega⟩ (by simp [s_zero, s_succ]) rfl (by simp [a0, n4, s0]) ?_
    intro ⟨i, hil⟩ ih
    dsimp only at hil ⊢
    by_cases hi : i < acts.length
    · have ih := ih ⟨i + 1, by omega⟩ (by simp only; omega)
      have hwi : IntKind.i64.wrap ((i : Int) + 1) = (i : Int) + 1 := wrap_i64 (by omega)
      have hc := ihk acts[i] (List.getElem_mem hi)
      obtain ⟨t, hk⟩ : ∃ m, acts[i] = m := ⟨_, rfl⟩
      have hkk : acts[i]? = some t := by rw [List.getElem?_eq_getElem hi, hk]
      rw [List.drop_eq_getElem_cons hi, rightActs, hk]
      rw [hk] at hc
      obtain ⟨tb, ta⟩ := t
      rw [senc_mk] at hc
      simp only [s_zero, s_succ, Int.natCast_add, Int.natCast_one, Int.cast_ofNat_Int] at ih
      simp only [Stm.b]
      by_cases h1 : 12 ≤ tb.kind
      · have h1' : ¬ tb.kind < 12 := by omega
        by_cases h2 : tb.kind ≤ 14
        · have h2' : ¬ 14 < tb.kind := by omega
          cases hd : rightStm (.mk tb ta) <;> rw [hd] at hc
          · simp (maxSteps := 4000000) [i_again, roundEnd, dropT, cleanV, Tryz.f16, Tryz.ti3, Tryz.ti4, Tryz.ti9, Tryz.ti22, Tryz.ti31, Tryz.ti32, Tryz.ti33, Tryz.ti34, Tryz.ti36, Tryz.ti44, Tryz.ti50, Tryz.ti82, Tryz.ti85, Tryz.ti94, hi, hk, hkk, senc_mk, h1, h1', h2, h2', hc]
          · simp (maxSteps := 4000000) [i_again, roundEnd, dropT, cleanV, Tryz.f16, Tryz.ti3, Tryz.ti4, Tryz.ti9, Tryz.ti22, Tryz.ti31, Tryz.ti32, Tryz.ti33, Tryz.ti34, Tryz.ti36, Tryz.ti44, Tryz.ti50, Tryz.ti82, Tryz.ti85, Tryz.ti94, hi, hk, hkk, senc_mk, h1, h1', h2, h2', hc, hwi, ih]
        · have h2' : 14 < tb.kind := by omega
          simp (maxSteps := 4000000) [i_again, roundEnd, dropT, cleanV, Tryz.f16, Tryz.ti3, Tryz.ti4, Tryz.ti9, Tryz.ti22, Tryz.ti31, Tryz.ti32, Tryz.ti33, Tryz.ti34, Tryz.ti36, Tryz.ti44, Tryz.ti50, Tryz.ti82, Tryz.ti85, Tryz.ti94, hi, hk, hkk, senc_mk, h1, h1', h2, h2']
      · have h1' : tb.kind < 12 := by omega
        simp (maxSteps := 4000000) [i_again, roundEnd, dropT, cleanV, Tryz.f16, Tryz.ti3, Tryz.ti4, Tryz.ti9, Tryz.ti22, Tryz.ti31, Tryz.ti32, Tryz.ti33, Tryz.ti34, Tryz.ti36, Tryz.ti44, Tryz.ti50, Tryz.ti82, Tryz.ti85, Tryz.ti94, hi, hk, hkk, senc_mk, h1, h1']
    · rw [List.drop_of_length_le (by omega)]
      have hi' : ¬ (i : Int) < acts.length := by omega
      simp (maxSteps := 4000000) [i_again, roundEnd, dropT, cleanV, Tryz.f16, Tryz.ti3, Tryz.ti4, Tryz.ti9, Tryz.ti22, Tryz.ti31, Tryz.ti32, Tryz.ti33, Tryz.ti34, Tryz.ti36, Tryz.ti44, Tryz.ti50, Tryz.ti82, Tryz.ti85, Tryz.ti94, hi, hi', rightActs]
end Go.Abs

