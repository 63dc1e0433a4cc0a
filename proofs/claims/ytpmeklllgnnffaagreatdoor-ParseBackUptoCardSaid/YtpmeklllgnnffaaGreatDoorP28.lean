/- How great a statement is. -/
import Derived.Test.YtpmeklllgnnffaaGreatDoorP27
import Derived.Test.YtpmeklllgnnffaaGreatDoorP15
import Derived.Test.YtpmeklllgnnffaaGreatDoorP19
set_option linter.unusedSimpArgs false
set_option linter.unusedVariables false

namespace Go.Abs
set_option linter.unusedSimpArgs false
set_option linter.unusedVariables false
open Go Go.Proofs
attribute [local simp] i_nil i_blk i_skip i_ret i_exit i_seq i_block i_cond i_region' i_ops_nil i_ops i_drawn' k_none k_0 k_1 k_2 k_3 k_4 k_5 d_in a_nil a_cons alt1 h_nil h_one h_two z_nil z_cons z_cells zeqL zeq q_alloc q_some nxtN i_drh d_hi i_drw_nil i_drw u_nil u_code u_ops u_drw u_lp u_again u_exit u_ret u_panic c_bool o_some o_val o_panic d_some d_val d_panic w_none w_fast wantG q_nil q_zero q_succ t_zero t_succ g_zero g_succ s_zero s_succ s_some s_none v_tmp v_const v_func f_quiet gc_none gc_pure wrap_i64 p_move p_assign p_pick p_alloc p_box p_build p_buildSlice p_load p_store p_nilCheck p_binOp n_tmp n_int n_bool n_str n_ptr n_fun n_iface nilCmp p_unOp p_convert p_makeSlice p_makeInterface p_makeFunc p_slice p_fieldAddr p_field p_indexAddr p_index p_extract p_callv p_callb p_panic quiet_val new_val e_assign e_call e_load e_store e_alloc e_box e_move e_pick e_build e_buildSlice e_nilCheck e_binOp e_unOp e_convert e_makeSlice e_makeInterface e_makeFunc e_slice e_fieldAddr e_field e_indexAddr e_index e_extract e_panic callD fpRead adoptZ fulls adopt adoptL ofValue ofScalar binOpV unOpV intBin strBin eqRes veq veqF eqDepth val? finish resL r_tmp r_cell normL normTop tipIs refsL refs ownRefs single frz frzL ren renL renOwn callOp doCall backR writeBack builtinV loadV storeV storeW iceT cellsAt takeV D.isAgg overlay vcells cellOk fieldAddrV indexAddrV fieldV partV indexV buildV fillV buildSliceV litElems appendV appElems elemOk convertV convV winStr makeSliceV sliceV natOf
attribute [local simp ↓] brB_true brB_false brB_dec brB_not brB_and brB_or brB_beq brB_bne
attribute [local irreducible] fpsQ panQ
def szSets : List SetE → Int → Int → Int
  | [], n, _ => n
  | x :: l, n, m => if n ≤ m then szSets l (n + 1 + szE x.e (m - n)) m else n
mutual
def szS : Stm → Int → Int
  | .mk b acts, m => szSs acts (szSets b.sets (szL b.wher (szL b.items (szL b.values (1 + b.cols.length + b.src.length) m) m) m) m) m
def szSs : List Stm → Int → Int → Int
  | [], n, _ => n
  | e :: l, n, m => if n ≤ m then szSs l (n + szS e (m - n)) m else n
end
theorem szSets_le : ∀ (l : List SetE) (n m : Int), n ≤ szSets l n m ∧ (szSets l n m = n ∨ szSets l n m ≤ m + 2)
  | [], n, m => by simp [szSets]
  | e :: l, n, m => by
    simp only [szSets]
    split
    · have h1 := szE_le e.e (m - n)
      have h2 := szSets_le l (n + 1 + szE e.e (m - n)) m
      omega
    · omega
mutual
theorem szS_le : ∀ (e : Stm) (m : Int), e.ok → 1 ≤ szS e m ∧ (szS e m ≤ 2097153 ∨ szS e m ≤ m + 2097153)
  | .mk b acts, m, h => by
    simp only [szS]
    have h1 := szL_le b.values (1 + b.cols.length + b.src.length) m
    have h2 := szL_le b.items (szL b.values (1 + b.cols.length + b.src.length) m) m
    have h3 := szL_le b.wher (szL b.items (szL b.values (1 + b.cols.length + b.src.length) m) m) m
    have h4 := szSets_le b.sets (szL b.wher (szL b.items (szL b.values (1 + b.cols.length + b.src.length) m) m) m) m
    have h5 := szSs_le acts (szSets b.sets (szL b.wher (szL b.items (szL b.values (1 + b.cols.length + b.src.length) m) m) m) m) m h.2.2
    have hc := h.1.cols.1
    have hs := h.1.src.1
    omega
theorem szSs_le : ∀ (l : List Stm) (n m : Int), Stm.oks l → n ≤ szSs l n m ∧ (szSs l n m = n ∨ szSs l n m ≤ m + 2097153)
  | [], n, m, _ => by simp [szSs]
  | e :: l, n, m, h => by
    simp only [szSs]
    split
    · have h1 := szS_le e (m - n) h.1
      have h2 := szSs_le l (n + szS e (m - n)) m h.2
      omega
    · omega
end
set_option maxRecDepth 100000 in
set_option maxHeartbeats 4000000 in
theorem ev_sizes_of (b : StB) (acts : List Stm) (m : Int) (hm : -1000000 ≤ m ∧ m ≤ 1000000) (h : b.ok) (hok : ∀ a ∈ acts, a.ok) (hl : acts.length ≤ 1048576)
    (ihk : ∀ e ∈ acts, ∀ m : Int, -1000000 ≤ m ∧ m ≤ 1000000 → EV 37 [e.enc, .int .i64 m] [] = some (.ret (.int .i64 (szS e m)), [])) :
    EV 37 [(Stm.mk b acts).enc, .int .i64 m] [] = some (.ret (.int .i64 (szS (.mk b acts) m)), []) := by
  rw [EV_mki rfl Tryz.func37 rfl (by kernel_rfl) rfl, senc_mk]
  have hs := h.sets
  have hx1 := h.values
  have hx2 := h.items
  have hx3 := h.wher
  have b1 := h.cols.1
  have b2 := h.src.1
  simp only [szS]
  obtain ⟨kind, name, table, col, cols, values, items, wher, sets, src, prio, event, deferred, rolls⟩ := b
  dsimp only at hs hx1 hx2 hx3 b1 b2 ⊢
  have w1 : IntKind.i64.wrap (1 + (cols.length : Int)) = 1 + cols.length := wrap_i64 (by omega)
  have w2 : IntKind.i64.wrap (1 + (cols.length : Int) + src.length) = 1 + cols.length + src.length := wrap_i64 (by omega)
  obtain ⟨n0, hn0, hb0⟩ : ∃ n0 : Int, 1 + (cols.length : Int) + src.length = n0 ∧ 1 ≤ n0 ∧ n0 ≤ 4000000 := ⟨_, rfl, by omega⟩
  rw [hn0] at w2 ⊢
  simp [Tryz.f37, Tryz.ti3, Tryz.ti4, Tryz.ti9, Tryz.ti22, Tryz.ti31, Tryz.ti32, Tryz.ti33, Tryz.ti34, Tryz.ti36, Tryz.ti44, Tryz.ti50, Tryz.ti82, Tryz.ti85, Tryz.ti94, Tryz.ti130, w1, w2, hn0]
  rw [i_loop (ts := [28, 29, 30, 7, 8, 31, 32, 33, 34, 35, 36, 37, 38, 39, 42, 43, 44, 45, 46, 47, 48, 49, 50, 51, 40, 41, 8, 52])]
  rotate_left
  · kernel_rfl
  refine i_at (fun o : {o : Nat × Int // o.1 ≤ 3 ∧ 1 ≤ o.2 ∧ o.2 ≤ 4000000} => 3 - o.1.1) (fun o env => setV (setV env 27 (.int .i64 o.1.1)) 5 (.int .i64 o.1.2)) (fun o => _) (fun o => some (.ret (.int .i64 (if o.1.1 = 0 then szSs acts (szSets sets (szL wher (szL items (szL values o.1.2 m) m) m) m) m else if o.1.1 = 1 then szSs acts (szSets sets (szL wher (szL items o.1.2 m) m) m) m else if o.1.1 = 2 then szSs acts (szSets sets (szL wher o.1.2 m) m) m else szSs acts (szSets sets o.1.2 m) m)), [])) ⟨(0, n0), by omega⟩ (by simp [s_zero, s_succ]) rfl (by simp) ?_
  intro ⟨⟨o, n1⟩, hol, hn1⟩ iho
  dsimp only at hol hn1 iho ⊢
  obtain rfl | rfl | rfl | rfl : o = 0 ∨ o = 1 ∨ o = 2 ∨ o = 3 := by omega
  · simp [i_again, roundEnd, dropT, cleanV, Tryz.f37, Tryz.ti3, Tryz.ti4, Tryz.ti9, Tryz.ti22, Tryz.ti31, Tryz.ti32, Tryz.ti33, Tryz.ti34, Tryz.ti36, Tryz.ti44, Tryz.ti50, Tryz.ti82, Tryz.ti85, Tryz.ti94, Tryz.ti130]
    rw [i_loop (ts := [31, 32, 33, 34, 35, 36, 37, 38, 39, 42, 43, 44, 45, 46, 47, 48, 49, 50, 51, 40, 41])]
    rotate_left
    · kernel_rfl
    refine i_at (fun x : {x : Nat × Int // x.1 ≤ values.length ∧ 1 ≤ x.2 ∧ x.2 ≤ 4000000} => values.length - x.1.1) (fun x env => setV (setV env 8 (.int .i64 x.1.1)) 5 (.int .i64 x.1.2)) (fun i => _) (fun x => some (.ret (.int .i64 (szSs acts (szSets sets (szL wher (szL items (szL (values.drop x.1.1) x.1.2 m) m) m) m) m)), [])) ⟨(0, n1), by omega⟩ (by simp [s_zero, s_succ]) rfl (by simp) ?_
    intro ⟨⟨i, n⟩, hil, hnb⟩ ih
    dsimp only at hil hnb ih ⊢
    by_cases hgo : i < values.length ∧ n ≤ m
    · obtain ⟨hi, hnm⟩ := hgo
      obtain ⟨t, hk⟩ : ∃ m, values[i] = m := ⟨_, rfl⟩
      have hkk : values[i]? = some t := by rw [List.getElem?_eq_getElem hi, hk]
      have hwi : IntKind.i64.wrap ((i : Int) + 1) = (i : Int) + 1 := wrap_i64 (by omega)
      have hwn : IntKind.i64.wrap (n + 1) = n + 1 := wrap_i64 (by omega)
      rw [List.drop_eq_getElem_cons hi, szL, hk, if_pos hnm]
      have hc := ev_sizex values[i] (hx1.2 _ (List.getElem_mem hi)) (m - n) (by omega)
      rw [hk] at hc
      have hz := szE_le t (m - n)
      have ih := ih ⟨(i + 1, n + szE t (m - n)), by omega, by omega, by omega⟩ (by simp only; omega)
      have hw1 : IntKind.i64.wrap (m - n) = m - n := wrap_i64 (by omega)
      have hw2 : IntKind.i64.wrap (n + szE t (m - n)) = n + szE t (m - n) := wrap_i64 (by omega)
      obtain ⟨op, v, var, co, kids⟩ := t
      simp only [xenc_mk] at hc
      simp only [s_zero, s_succ, Int.natCast_add, Int.natCast_one, Int.cast_ofNat_Int] at ih
      generalize szE (.mk op v var co kids) (m - n) = z at hc hz ih hw2 ⊢
      simp [i_again, roundEnd, dropT, cleanV, Tryz.f37, Tryz.ti3, Tryz.ti4, Tryz.ti9, Tryz.ti22, Tryz.ti31, Tryz.ti32, Tryz.ti33, Tryz.ti34, Tryz.ti36, Tryz.ti44, Tryz.ti50, Tryz.ti82, Tryz.ti85, Tryz.ti94, Tryz.ti130, hi, hk, hkk, xenc_mk, hwi, hwn, hnm, hw1, hw2, hc, ih] <;> first | (refine panQ_of ?_; decide +kernel) | (change _ = true; decide +kernel) | kernel_rfl | (refine ⟨?_, ?_⟩ <;> first | (change _ = true; decide +kernel) | kernel_rfl)
    have hend : szL (values.drop i) n m = n := by
      by_cases hi : i < values.length
      · rw [List.drop_eq_getElem_cons hi, szL, if_neg (fun h => hgo ⟨hi, h⟩)]
      · rw [List.drop_of_length_le (by omega), szL]
    rw [hend]
    clear ih hend
    have iho := iho ⟨(1, n), by omega⟩ (by simp)
    simp [s_zero, s_succ] at iho
    by_cases hi : i < values.length
    · have hnm : ¬ n ≤ m := fun h => hgo ⟨hi, h⟩
      simp [i_again, roundEnd, dropT, cleanV, Tryz.f37, Tryz.ti3, Tryz.ti4, Tryz.ti9, Tryz.ti22, Tryz.ti31, Tryz.ti32, Tryz.ti33, Tryz.ti34, Tryz.ti36, Tryz.ti44, Tryz.ti50, Tryz.ti82, Tryz.ti85, Tryz.ti94, Tryz.ti130, hi, hnm, iho]
    · simp [i_again, roundEnd, dropT, cleanV, Tryz.f37, Tryz.ti3, Tryz.ti4, Tryz.ti9, Tryz.ti22, Tryz.ti31, Tryz.ti32, Tryz.ti33, Tryz.ti34, Tryz.ti36, Tryz.ti44, Tryz.ti50, Tryz.ti82, Tryz.ti85, Tryz.ti94, Tryz.ti130, hi, iho]
  · simp [i_again, roundEnd, dropT, cleanV, Tryz.f37, Tryz.ti3, Tryz.ti4, Tryz.ti9, Tryz.ti22, Tryz.ti31, Tryz.ti32, Tryz.ti33, Tryz.ti34, Tryz.ti36, Tryz.ti44, Tryz.ti50, Tryz.ti82, Tryz.ti85, Tryz.ti94, Tryz.ti130]
    rw [i_loop (ts := [31, 32, 33, 34, 35, 36, 37, 38, 39, 42, 43, 44, 45, 46, 47, 48, 49, 50, 51, 40, 41])]
    rotate_left
    · kernel_rfl
    refine i_at (fun x : {x : Nat × Int // x.1 ≤ items.length ∧ 1 ≤ x.2 ∧ x.2 ≤ 4000000} => items.length - x.1.1) (fun x env => setV (setV env 8 (.int .i64 x.1.1)) 5 (.int .i64 x.1.2)) (fun i => _) (fun x => some (.ret (.int .i64 (szSs acts (szSets sets (szL wher (szL (items.drop x.1.1) x.1.2 m) m) m) m)), [])) ⟨(0, n1), by omega⟩ (by simp [s_zero, s_succ]) rfl (by simp) ?_
    intro ⟨⟨i, n⟩, hil, hnb⟩ ih
    dsimp only at hil hnb ih ⊢
    by_cases hgo : i < items.length ∧ n ≤ m
    · obtain ⟨hi, hnm⟩ := hgo
      obtain ⟨t, hk⟩ : ∃ m, items[i] = m := ⟨_, rfl⟩
      have hkk : items[i]? = some t := by rw [List.getElem?_eq_getElem hi, hk]
      have hwi : IntKind.i64.wrap ((i : Int) + 1) = (i : Int) + 1 := wrap_i64 (by omega)
      have hwn : IntKind.i64.wrap (n + 1) = n + 1 := wrap_i64 (by omega)
      rw [List.drop_eq_getElem_cons hi, szL, hk, if_pos hnm]
      have hc := ev_sizex items[i] (hx2.2 _ (List.getElem_mem hi)) (m - n) (by omega)
      rw [hk] at hc
      have hz := szE_le t (m - n)
      have ih := ih ⟨(i + 1, n + szE t (m - n)), by omega, by omega, by omega⟩ (by simp only; omega)
      have hw1 : IntKind.i64.wrap (m - n) = m - n := wrap_i64 (by omega)
      have hw2 : IntKind.i64.wrap (n + szE t (m - n)) = n + szE t (m - n) := wrap_i64 (by omega)
      obtain ⟨op, v, var, co, kids⟩ := t
      simp only [xenc_mk] at hc
      simp only [s_zero, s_succ, Int.natCast_add, Int.natCast_one, Int.cast_ofNat_Int] at ih
      generalize szE (.mk op v var co kids) (m - n) = z at hc hz ih hw2 ⊢
      simp [i_again, roundEnd, dropT, cleanV, Tryz.f37, Tryz.ti3, Tryz.ti4, Tryz.ti9, Tryz.ti22, Tryz.ti31, Tryz.ti32, Tryz.ti33, Tryz.ti34, Tryz.ti36, Tryz.ti44, Tryz.ti50, Tryz.ti82, Tryz.ti85, Tryz.ti94, Tryz.ti130, hi, hk, hkk, xenc_mk, hwi, hwn, hnm, hw1, hw2, hc, ih] <;> first | (refine panQ_of ?_; decide +kernel) | (change _ = true; decide +kernel) | kernel_rfl | (refine ⟨?_, ?_⟩ <;> first | (change _ = true; decide +kernel) | kernel_rfl)
    have hend : szL (items.drop i) n m = n := by
      by_cases hi : i < items.length
      · rw [List.drop_eq_getElem_cons hi, szL, if_neg (fun h => hgo ⟨hi, h⟩)]
      · rw [List.drop_of_length_le (by omega), szL]
    rw [hend]
    clear ih hend
    have iho := iho ⟨(2, n), by omega⟩ (by simp)
    simp [s_zero, s_succ] at iho
    by_cases hi : i < items.length
    · have hnm : ¬ n ≤ m := fun h => hgo ⟨hi, h⟩
      simp [i_again, roundEnd, dropT, cleanV, Tryz.f37, Tryz.ti3, Tryz.ti4, Tryz.ti9, Tryz.ti22, Tryz.ti31, Tryz.ti32, Tryz.ti33, Tryz.ti34, Tryz.ti36, Tryz.ti44, Tryz.ti50, Tryz.ti82, Tryz.ti85, Tryz.ti94, Tryz.ti130, hi, hnm, iho]
    · simp [i_again, roundEnd, dropT, cleanV, Tryz.f37, Tryz.ti3, Tryz.ti4, Tryz.ti9, Tryz.ti22, Tryz.ti31, Tryz.ti32, Tryz.ti33, Tryz.ti34, Tryz.ti36, Tryz.ti44, Tryz.ti50, Tryz.ti82, Tryz.ti85, Tryz.ti94, Tryz.ti130, hi, iho]
  · simp [i_again, roundEnd, dropT, cleanV, Tryz.f37, Tryz.ti3, Tryz.ti4, Tryz.ti9, Tryz.ti22, Tryz.ti31, Tryz.ti32, Tryz.ti33, Tryz.ti34, Tryz.ti36, Tryz.ti44, Tryz.ti50, Tryz.ti82, Tryz.ti85, Tryz.ti94, Tryz.ti130]
    rw [i_loop (ts := [31, 32, 33, 34, 35, 36, 37, 38, 39, 42, 43, 44, 45, 46, 47, 48, 49, 50, 51, 40, 41])]
    rotate_left
    · kernel_rfl
    refine i_at (fun x : {x : Nat × Int // x.1 ≤ wher.length ∧ 1 ≤ x.2 ∧ x.2 ≤ 4000000} => wher.length - x.1.1) (fun x env => setV (setV env 8 (.int .i64 x.1.1)) 5 (.int .i64 x.1.2)) (fun i => _) (fun x => some (.ret (.int .i64 (szSs acts (szSets sets (szL (wher.drop x.1.1) x.1.2 m) m) m)), [])) ⟨(0, n1), by omega⟩ (by simp [s_zero, s_succ]) rfl (by simp) ?_
    intro ⟨⟨i, n⟩, hil, hnb⟩ ih
    dsimp only at hil hnb ih ⊢
    by_cases hgo : i < wher.length ∧ n ≤ m
    · obtain ⟨hi, hnm⟩ := hgo
      obtain ⟨t, hk⟩ : ∃ m, wher[i] = m := ⟨_, rfl⟩
      have hkk : wher[i]? = some t := by rw [List.getElem?_eq_getElem hi, hk]
      have hwi : IntKind.i64.wrap ((i : Int) + 1) = (i : Int) + 1 := wrap_i64 (by omega)
      have hwn : IntKind.i64.wrap (n + 1) = n + 1 := wrap_i64 (by omega)
      rw [List.drop_eq_getElem_cons hi, szL, hk, if_pos hnm]
      have hc := ev_sizex wher[i] (hx3.2 _ (List.getElem_mem hi)) (m - n) (by omega)
      rw [hk] at hc
      have hz := szE_le t (m - n)
      have ih := ih ⟨(i + 1, n + szE t (m - n)), by omega, by omega, by omega⟩ (by simp only; omega)
      have hw1 : IntKind.i64.wrap (m - n) = m - n := wrap_i64 (by omega)
      have hw2 : IntKind.i64.wrap (n + szE t (m - n)) = n + szE t (m - n) := wrap_i64 (by omega)
      obtain ⟨op, v, var, co, kids⟩ := t
      simp only [xenc_mk] at hc
      simp only [s_zero, s_succ, Int.natCast_add, Int.natCast_one, Int.cast_ofNat_Int] at ih
      generalize szE (.mk op v var co kids) (m - n) = z at hc hz ih hw2 ⊢
      simp [i_again, roundEnd, dropT, cleanV, Tryz.f37, Tryz.ti3, Tryz.ti4, Tryz.ti9, Tryz.ti22, Tryz.ti31, Tryz.ti32, Tryz.ti33, Tryz.ti34, Tryz.ti36, Tryz.ti44, Tryz.ti50, Tryz.ti82, Tryz.ti85, Tryz.ti94, Tryz.ti130, hi, hk, hkk, xenc_mk, hwi, hwn, hnm, hw1, hw2, hc, ih] <;> first | (refine panQ_of ?_; decide +kernel) | (change _ = true; decide +kernel) | kernel_rfl | (refine ⟨?_, ?_⟩ <;> first | (change _ = true; decide +kernel) | kernel_rfl)
    have hend : szL (wher.drop i) n m = n := by
      by_cases hi : i < wher.length
      · rw [List.drop_eq_getElem_cons hi, szL, if_neg (fun h => hgo ⟨hi, h⟩)]
      · rw [List.drop_of_length_le (by omega), szL]
    rw [hend]
    clear ih hend
    have iho := iho ⟨(3, n), by omega⟩ (by simp)
    simp [s_zero, s_succ] at iho
    by_cases hi : i < wher.length
    · have hnm : ¬ n ≤ m := fun h => hgo ⟨hi, h⟩
      simp [i_again, roundEnd, dropT, cleanV, Tryz.f37, Tryz.ti3, Tryz.ti4, Tryz.ti9, Tryz.ti22, Tryz.ti31, Tryz.ti32, Tryz.ti33, Tryz.ti34, Tryz.ti36, Tryz.ti44, Tryz.ti50, Tryz.ti82, Tryz.ti85, Tryz.ti94, Tryz.ti130, hi, hnm, iho]
    · simp [i_again, roundEnd, dropT, cleanV, Tryz.f37, Tryz.ti3, Tryz.ti4, Tryz.ti9, Tryz.ti22, Tryz.ti31, Tryz.ti32, Tryz.ti33, Tryz.ti34, Tryz.ti36, Tryz.ti44, Tryz.ti50, Tryz.ti82, Tryz.ti85, Tryz.ti94, Tryz.ti130, hi, iho]
  · clear iho
    simp [i_again, roundEnd, dropT, cleanV, Tryz.f37, Tryz.ti3, Tryz.ti4, Tryz.ti9, Tryz.ti22, Tryz.ti31, Tryz.ti32, Tryz.ti33, Tryz.ti34, Tryz.ti36, Tryz.ti44, Tryz.ti50, Tryz.ti82, Tryz.ti85, Tryz.ti94, Tryz.ti130]
    rw [i_loop (ts := [53, 54, 55, 56, 57, 58, 59, 60, 61, 62, 65, 66, 67, 68, 69, 70, 71, 72, 73, 74, 75, 76, 77, 63, 64])]
    rotate_left
    · kernel_rfl
    refine i_at (fun x : {x : Nat × Int // x.1 ≤ sets.length ∧ 1 ≤ x.2 ∧ x.2 ≤ 4000000} => sets.length - x.1.1) (fun x env => setV (setV env 9 (.int .i64 x.1.1)) 5 (.int .i64 x.1.2)) (fun i => _) (fun x => some (.ret (.int .i64 (szSs acts (szSets (sets.drop x.1.1) x.1.2 m) m)), [])) ⟨(0, n1), by omega⟩ (by simp [s_zero, s_succ]) rfl (by simp) ?_
    intro ⟨⟨i, n⟩, hil, hnb⟩ ih
    dsimp only at hil hnb ih ⊢
    by_cases hgo : i < sets.length ∧ n ≤ m
    · obtain ⟨hi, hnm⟩ := hgo
      obtain ⟨t, hk⟩ : ∃ m, sets[i] = m := ⟨_, rfl⟩
      have hkk : sets[i]? = some t := by rw [List.getElem?_eq_getElem hi, hk]
      have hwi : IntKind.i64.wrap ((i : Int) + 1) = (i : Int) + 1 := wrap_i64 (by omega)
      have hwn : IntKind.i64.wrap (n + 1) = n + 1 := wrap_i64 (by omega)
      rw [List.drop_eq_getElem_cons hi, szSets, hk, if_pos hnm]
      have hc := ev_sizex sets[i].e (hs.2 _ (List.getElem_mem hi)).2 (m - n) (by omega)
      rw [hk] at hc
      have hz := szE_le t.e (m - n)
      have ih := ih ⟨(i + 1, n + 1 + szE t.e (m - n)), by omega, by omega, by omega⟩ (by simp only; omega)
      have hw1 : IntKind.i64.wrap (m - n) = m - n := wrap_i64 (by omega)
      have hw2 : IntKind.i64.wrap (n + 1 + szE t.e (m - n)) = n + 1 + szE t.e (m - n) := wrap_i64 (by omega)
      obtain ⟨tc, op, v, var, co, kids⟩ := t
      simp only [xenc_mk] at hc
      simp only [s_zero, s_succ, Int.natCast_add, Int.natCast_one, Int.cast_ofNat_Int] at ih
      generalize szE (.mk op v var co kids) (m - n) = z at hc hz ih hw2 ⊢
      simp [i_again, roundEnd, dropT, cleanV, Tryz.f37, Tryz.ti3, Tryz.ti4, Tryz.ti9, Tryz.ti22, Tryz.ti31, Tryz.ti32, Tryz.ti33, Tryz.ti34, Tryz.ti36, Tryz.ti44, Tryz.ti50, Tryz.ti82, Tryz.ti85, Tryz.ti94, Tryz.ti130, hi, hk, hkk, SetE.enc, xenc_mk, hwi, hwn, hnm, hw1, hw2, hc, ih] <;> first | (refine panQ_of ?_; decide +kernel) | (change _ = true; decide +kernel) | kernel_rfl | (refine ⟨?_, ?_⟩ <;> first | (change _ = true; decide +kernel) | kernel_rfl)
    have hend : szSets (sets.drop i) n m = n := by
      by_cases hi : i < sets.length
      · rw [List.drop_eq_getElem_cons hi, szSets, if_neg (fun h => hgo ⟨hi, h⟩)]
      · rw [List.drop_of_length_le (by omega), szSets]
    rw [hend]
    clear ih hend
    by_cases hi : i < sets.length
    · have hnm : ¬ n ≤ m := fun h => hgo ⟨hi, h⟩
      simp [i_again, roundEnd, dropT, cleanV, Tryz.f37, Tryz.ti3, Tryz.ti4, Tryz.ti9, Tryz.ti22, Tryz.ti31, Tryz.ti32, Tryz.ti33, Tryz.ti34, Tryz.ti36, Tryz.ti44, Tryz.ti50, Tryz.ti82, Tryz.ti85, Tryz.ti94, Tryz.ti130, hi, hnm]
      clear hnm
      clear hgo hi hil
      skip
      rw [i_loop (ts := [78, 79, 80, 81, 82, 83, 84, 85, 86, 87, 90, 91, 92, 93, 94, 95, 96, 97, 98, 99, 100, 88, 89])]
      rotate_left
      · kernel_rfl
      refine i_at (fun x : {x : Nat × Int // x.1 ≤ acts.length ∧ 1 ≤ x.2 ∧ x.2 ≤ 4000000} => acts.length - x.1.1) (fun x env => setV (setV env 10 (.int .i64 x.1.1)) 5 (.int .i64 x.1.2)) (fun i => _) (fun x => some (.ret (.int .i64 ((szSs (acts.drop x.1.1) x.1.2 m))), [])) ⟨(0, n), by omega⟩ (by simp [s_zero, s_succ]) rfl (by simp) ?_
      intro ⟨⟨i, n⟩, hil, hnb⟩ ih
      dsimp only at hil hnb ih ⊢
      by_cases hgo : i < acts.length ∧ n ≤ m
      · obtain ⟨hi, hnm⟩ := hgo
        obtain ⟨t, hk⟩ : ∃ m, acts[i] = m := ⟨_, rfl⟩
        have hkk : acts[i]? = some t := by rw [List.getElem?_eq_getElem hi, hk]
        have hwi : IntKind.i64.wrap ((i : Int) + 1) = (i : Int) + 1 := wrap_i64 (by omega)
        have hwn : IntKind.i64.wrap (n + 1) = n + 1 := wrap_i64 (by omega)
        rw [List.drop_eq_getElem_cons hi, szSs, hk, if_pos hnm]
        have hc := ihk acts[i] (List.getElem_mem hi) (m - n) (by omega)
        have hot := hok acts[i] (List.getElem_mem hi)
        rw [hk] at hot
        rw [hk] at hc
        have hz := szS_le t (m - n) hot
        have ih := ih ⟨(i + 1, n + szS t (m - n)), by omega, by omega, by omega⟩ (by simp only; omega)
        have hw1 : IntKind.i64.wrap (m - n) = m - n := wrap_i64 (by omega)
        have hw2 : IntKind.i64.wrap (n + szS t (m - n)) = n + szS t (m - n) := wrap_i64 (by omega)
        obtain ⟨⟨ckind, cname, ctable, ccol, ccols, cvalues, citems, cwher, csets, csrc, cprio, cevent, cdeferred, crolls⟩, ta⟩ := t
        simp only [senc_mk] at hc
        simp only [s_zero, s_succ, Int.natCast_add, Int.natCast_one, Int.cast_ofNat_Int] at ih
        generalize szS (.mk ⟨ckind, cname, ctable, ccol, ccols, cvalues, citems, cwher, csets, csrc, cprio, cevent, cdeferred, crolls⟩ ta) (m - n) = z at hc hz ih hw2 ⊢
        simp [i_again, roundEnd, dropT, cleanV, Tryz.f37, Tryz.ti3, Tryz.ti4, Tryz.ti9, Tryz.ti22, Tryz.ti31, Tryz.ti32, Tryz.ti33, Tryz.ti34, Tryz.ti36, Tryz.ti44, Tryz.ti50, Tryz.ti82, Tryz.ti85, Tryz.ti94, Tryz.ti130, hi, hk, hkk, senc_mk, hwi, hwn, hnm, hw1, hw2, hc, ih] <;> first | (refine panQ_of ?_; decide +kernel) | (change _ = true; decide +kernel) | kernel_rfl | (refine ⟨?_, ?_⟩ <;> first | (change _ = true; decide +kernel) | kernel_rfl)
      have hend : szSs (acts.drop i) n m = n := by
        by_cases hi : i < acts.length
        · rw [List.drop_eq_getElem_cons hi, szSs, if_neg (fun h => hgo ⟨hi, h⟩)]
        · rw [List.drop_of_length_le (by omega), szSs]
      rw [hend]
      clear ih hend
      by_cases hi : i < acts.length
      · have hnm : ¬ n ≤ m := fun h => hgo ⟨hi, h⟩
        simp [i_again, roundEnd, dropT, cleanV, Tryz.f37, Tryz.ti3, Tryz.ti4, Tryz.ti9, Tryz.ti22, Tryz.ti31, Tryz.ti32, Tryz.ti33, Tryz.ti34, Tryz.ti36, Tryz.ti44, Tryz.ti50, Tryz.ti82, Tryz.ti85, Tryz.ti94, Tryz.ti130, hi, hnm]
      · simp [i_again, roundEnd, dropT, cleanV, Tryz.f37, Tryz.ti3, Tryz.ti4, Tryz.ti9, Tryz.ti22, Tryz.ti31, Tryz.ti32, Tryz.ti33, Tryz.ti34, Tryz.ti36, Tryz.ti44, Tryz.ti50, Tryz.ti82, Tryz.ti85, Tryz.ti94, Tryz.ti130, hi]
    · simp [i_again, roundEnd, dropT, cleanV, Tryz.f37, Tryz.ti3, Tryz.ti4, Tryz.ti9, Tryz.ti22, Tryz.ti31, Tryz.ti32, Tryz.ti33, Tryz.ti34, Tryz.ti36, Tryz.ti44, Tryz.ti50, Tryz.ti82, Tryz.ti85, Tryz.ti94, Tryz.ti130, hi]
      clear hgo hi hil
      rw [i_loop (ts := [78, 79, 80, 81, 82, 83, 84, 85, 86, 87, 90, 91, 92, 93, 94, 95, 96, 97, 98, 99, 100, 88, 89])]
      rotate_left
      · kernel_rfl
      refine i_at (fun x : {x : Nat × Int // x.1 ≤ acts.length ∧ 1 ≤ x.2 ∧ x.2 ≤ 4000000} => acts.length - x.1.1) (fun x env => setV (setV env 10 (.int .i64 x.1.1)) 5 (.int .i64 x.1.2)) (fun i => _) (fun x => some (.ret (.int .i64 ((szSs (acts.drop x.1.1) x.1.2 m))), [])) ⟨(0, n), by omega⟩ (by simp [s_zero, s_succ]) rfl (by simp) ?_
      intro ⟨⟨i, n⟩, hil, hnb⟩ ih
      dsimp only at hil hnb ih ⊢
      by_cases hgo : i < acts.length ∧ n ≤ m
      · obtain ⟨hi, hnm⟩ := hgo
        obtain ⟨t, hk⟩ : ∃ m, acts[i] = m := ⟨_, rfl⟩
        have hkk : acts[i]? = some t := by rw [List.getElem?_eq_getElem hi, hk]
        have hwi : IntKind.i64.wrap ((i : Int) + 1) = (i : Int) + 1 := wrap_i64 (by omega)
        have hwn : IntKind.i64.wrap (n + 1) = n + 1 := wrap_i64 (by omega)
        rw [List.drop_eq_getElem_cons hi, szSs, hk, if_pos hnm]
        have hc := ihk acts[i] (List.getElem_mem hi) (m - n) (by omega)
        have hot := hok acts[i] (List.getElem_mem hi)
        rw [hk] at hot
        rw [hk] at hc
        have hz := szS_le t (m - n) hot
        have ih := ih ⟨(i + 1, n + szS t (m - n)), by omega, by omega, by omega⟩ (by simp only; omega)
        have hw1 : IntKind.i64.wrap (m - n) = m - n := wrap_i64 (by omega)
        have hw2 : IntKind.i64.wrap (n + szS t (m - n)) = n + szS t (m - n) := wrap_i64 (by omega)
        obtain ⟨⟨ckind, cname, ctable, ccol, ccols, cvalues, citems, cwher, csets, csrc, cprio, cevent, cdeferred, crolls⟩, ta⟩ := t
        simp only [senc_mk] at hc
        simp only [s_zero, s_succ, Int.natCast_add, Int.natCast_one, Int.cast_ofNat_Int] at ih
        generalize szS (.mk ⟨ckind, cname, ctable, ccol, ccols, cvalues, citems, cwher, csets, csrc, cprio, cevent, cdeferred, crolls⟩ ta) (m - n) = z at hc hz ih hw2 ⊢
        simp [i_again, roundEnd, dropT, cleanV, Tryz.f37, Tryz.ti3, Tryz.ti4, Tryz.ti9, Tryz.ti22, Tryz.ti31, Tryz.ti32, Tryz.ti33, Tryz.ti34, Tryz.ti36, Tryz.ti44, Tryz.ti50, Tryz.ti82, Tryz.ti85, Tryz.ti94, Tryz.ti130, hi, hk, hkk, senc_mk, hwi, hwn, hnm, hw1, hw2, hc, ih] <;> first | (refine panQ_of ?_; decide +kernel) | (change _ = true; decide +kernel) | kernel_rfl | (refine ⟨?_, ?_⟩ <;> first | (change _ = true; decide +kernel) | kernel_rfl)
      have hend : szSs (acts.drop i) n m = n := by
        by_cases hi : i < acts.length
        · rw [List.drop_eq_getElem_cons hi, szSs, if_neg (fun h => hgo ⟨hi, h⟩)]
        · rw [List.drop_of_length_le (by omega), szSs]
      rw [hend]
      clear ih hend
      by_cases hi : i < acts.length
      · have hnm : ¬ n ≤ m := fun h => hgo ⟨hi, h⟩
        simp [i_again, roundEnd, dropT, cleanV, Tryz.f37, Tryz.ti3, Tryz.ti4, Tryz.ti9, Tryz.ti22, Tryz.ti31, Tryz.ti32, Tryz.ti33, Tryz.ti34, Tryz.ti36, Tryz.ti44, Tryz.ti50, Tryz.ti82, Tryz.ti85, Tryz.ti94, Tryz.ti130, hi, hnm]
      · simp [i_again, roundEnd, dropT, cleanV, Tryz.f37, Tryz.ti3, Tryz.ti4, Tryz.ti9, Tryz.ti22, Tryz.ti31, Tryz.ti32, Tryz.ti33, Tryz.ti34, Tryz.ti36, Tryz.ti44, Tryz.ti50, Tryz.ti82, Tryz.ti85, Tryz.ti94, Tryz.ti130, hi]
mutual
theorem ev_sizes : ∀ e : Stm, e.ok → ∀ m : Int, -1000000 ≤ m ∧ m ≤ 1000000 → EV 37 [e.enc, .int .i64 m] [] = some (.ret (.int .i64 (szS e m)), [])
  | .mk b acts, h => fun m hm => ev_sizes_of b acts m hm h.1 ((soks_iff acts).1 h.2.2) h.2.1 (ev_sizess acts h.2.2)
theorem ev_sizess : ∀ l : List Stm, Stm.oks l → ∀ e ∈ l, ∀ m : Int, -1000000 ≤ m ∧ m ≤ 1000000 → EV 37 [e.enc, .int .i64 m] [] = some (.ret (.int .i64 (szS e m)), [])
  | [], _, m, hm => by cases hm
  | e :: l, h, m, hm => by
    rcases List.mem_cons.1 hm with hm | hm
    · rw [hm]; exact ev_sizes e h.1
    · exact ev_sizess l h.2 m hm
end
end Go.Abs
namespace Go.Abs
set_option linter.unusedSimpArgs false
set_option linter.unusedVariables false
open Go Go.Proofs
attribute [local simp] i_nil i_blk i_skip i_ret i_exit i_seq i_block i_cond i_region' i_ops_nil i_ops i_drawn' k_none k_0 k_1 k_2 k_3 k_4 k_5 d_in a_nil a_cons alt1 h_nil h_one h_two z_nil z_cons z_cells zeqL zeq q_alloc q_some nxtN i_drh d_hi i_drw_nil i_drw u_nil u_code u_ops u_drw u_lp u_again u_exit u_ret u_panic c_bool o_some o_val o_panic d_some d_val d_panic w_none w_fast wantG q_nil q_zero q_succ t_zero t_succ g_zero g_succ s_zero s_succ s_some s_none v_tmp v_const v_func f_quiet gc_none gc_pure wrap_i64 p_move p_assign p_pick p_alloc p_box p_build p_buildSlice p_load p_store p_nilCheck p_binOp n_tmp n_int n_bool n_str n_ptr n_fun n_iface nilCmp p_unOp p_convert p_makeSlice p_makeInterface p_makeFunc p_slice p_fieldAddr p_field p_indexAddr p_index p_extract p_callv p_callb p_panic quiet_val new_val e_assign e_call e_load e_store e_alloc e_box e_move e_pick e_build e_buildSlice e_nilCheck e_binOp e_unOp e_convert e_makeSlice e_makeInterface e_makeFunc e_slice e_fieldAddr e_field e_indexAddr e_index e_extract e_panic callD fpRead adoptZ fulls adopt adoptL ofValue ofScalar binOpV unOpV intBin strBin eqRes veq veqF eqDepth val? finish resL r_tmp r_cell normL normTop tipIs refsL refs ownRefs single frz frzL ren renL renOwn callOp doCall backR writeBack builtinV loadV storeV storeW iceT cellsAt takeV D.isAgg overlay vcells cellOk fieldAddrV indexAddrV fieldV partV indexV buildV fillV buildSliceV litElems appendV appElems elemOk convertV convV winStr makeSliceV sliceV natOf
attribute [local simp ↓] brB_true brB_false brB_dec brB_not brB_and brB_or brB_beq brB_bne
attribute [local irreducible] fpsQ panQ
def manyS (s : Stm) : Int := s.b.values.length + s.b.items.length + s.b.wher.length + s.b.sets.length + s.acts.length + s.b.cols.length + s.b.src.length
def greatS (s : Stm) : Bool := decide (200 < manyS s) || (deepS 4 s || decide (400 < szS s 400))
set_option maxRecDepth 100000 in
set_option maxHeartbeats 2000000 in
theorem ev_great (e : Stm) (h : e.ok) : EV 13 [e.enc] [] = some (.ret (.bool (greatS e)), []) := by
  have hd := ev_deeps 4 e h (by omega)
  have hp := ev_plainstm e h
  have hz := ev_sizes e h 400 (by omega)
  have hz2 := (szS_le e 400 h).1
  unfold greatS
  obtain ⟨b, acts⟩ := e
  have l1 := h.1.values.1
  have l2 := h.1.items.1
  have l3 := h.1.wher.1
  have l4 := h.1.sets.1
  have l5 := h.2.1
  have l6 := h.1.cols.1
  have l7 := h.1.src.1
  simp only [manyS, Stm.b, Stm.acts]
  generalize deepS 4 (.mk b acts) = d at hd ⊢
  generalize szS (.mk b acts) 400 = z at hz hz2 ⊢
  rw [EV_mki rfl Tryz.func13 rfl (by kernel_rfl) rfl]
  rw [senc_mk] at hd hp hz ⊢
  simp only [Int.cast_ofNat_Int] at hd
  have w1 : IntKind.i64.wrap ((b.values.length : Int) + b.items.length) = b.values.length + b.items.length := wrap_i64 (by omega)
  have w2 : IntKind.i64.wrap ((b.values.length : Int) + b.items.length + b.wher.length) = b.values.length + b.items.length + b.wher.length := wrap_i64 (by omega)
  have w3 : IntKind.i64.wrap ((b.values.length : Int) + b.items.length + b.wher.length + b.sets.length) = b.values.length + b.items.length + b.wher.length + b.sets.length := wrap_i64 (by omega)
  have w4 : IntKind.i64.wrap ((b.values.length : Int) + b.items.length + b.wher.length + b.sets.length + acts.length) = b.values.length + b.items.length + b.wher.length + b.sets.length + acts.length := wrap_i64 (by omega)
  have w5 : IntKind.i64.wrap ((b.values.length : Int) + b.items.length + b.wher.length + b.sets.length + acts.length + b.cols.length) = b.values.length + b.items.length + b.wher.length + b.sets.length + acts.length + b.cols.length := wrap_i64 (by omega)
  have w6 : IntKind.i64.wrap ((b.values.length : Int) + b.items.length + b.wher.length + b.sets.length + acts.length + b.cols.length + b.src.length) = b.values.length + b.items.length + b.wher.length + b.sets.length + acts.length + b.cols.length + b.src.length := wrap_i64 (by omega)
  by_cases h1 : (200 : Int) < (b.values.length : Int) + b.items.length + b.wher.length + b.sets.length + acts.length + b.cols.length + b.src.length
  · simp [Tryz.f13, Tryz.ti3, Tryz.ti4, Tryz.ti9, Tryz.ti22, Tryz.ti23, Tryz.ti24, Tryz.ti25, Tryz.ti26, Tryz.ti28, Tryz.ti44, Tryz.ti46, Tryz.ti80, Tryz.ti84, Tryz.ti94, w1, w2, w3, w4, w5, w6, h1] <;> first | (refine panQ_of ?_; decide +kernel) | (change _ = true; decide +kernel) | kernel_rfl | (refine ⟨?_, ?_⟩ <;> first | (change _ = true; decide +kernel) | kernel_rfl)
  · cases d with
    | true => simp [Tryz.f13, Tryz.ti3, Tryz.ti4, Tryz.ti9, Tryz.ti22, Tryz.ti23, Tryz.ti24, Tryz.ti25, Tryz.ti26, Tryz.ti28, Tryz.ti44, Tryz.ti46, Tryz.ti80, Tryz.ti84, Tryz.ti94, w1, w2, w3, w4, w5, w6, h1, hd] <;> first | (refine panQ_of ?_; decide +kernel) | (change _ = true; decide +kernel) | kernel_rfl | (refine ⟨?_, ?_⟩ <;> first | (change _ = true; decide +kernel) | kernel_rfl)
    | false =>
      by_cases h2 : 400 < z
      · simp [Tryz.f13, Tryz.ti3, Tryz.ti4, Tryz.ti9, Tryz.ti22, Tryz.ti23, Tryz.ti24, Tryz.ti25, Tryz.ti26, Tryz.ti28, Tryz.ti44, Tryz.ti46, Tryz.ti80, Tryz.ti84, Tryz.ti94, w1, w2, w3, w4, w5, w6, h1, hd, hp, hz, h2] <;> first | (refine panQ_of ?_; decide +kernel) | (change _ = true; decide +kernel) | kernel_rfl | (refine ⟨?_, ?_⟩ <;> first | (change _ = true; decide +kernel) | kernel_rfl)
      · simp [Tryz.f13, Tryz.ti3, Tryz.ti4, Tryz.ti9, Tryz.ti22, Tryz.ti23, Tryz.ti24, Tryz.ti25, Tryz.ti26, Tryz.ti28, Tryz.ti44, Tryz.ti46, Tryz.ti80, Tryz.ti84, Tryz.ti94, w1, w2, w3, w4, w5, w6, h1, hd, hp, hz, h2] <;> first | (refine panQ_of ?_; decide +kernel) | (change _ = true; decide +kernel) | kernel_rfl | (refine ⟨?_, ?_⟩ <;> first | (change _ = true; decide +kernel) | kernel_rfl)
end Go.Abs
namespace Go.Abs
set_option linter.unusedSimpArgs false
set_option linter.unusedVariables false
open Go Go.Proofs
attribute [local simp] i_nil i_blk i_skip i_ret i_exit i_seq i_block i_cond i_region' i_ops_nil i_ops i_drawn' k_none k_0 k_1 k_2 k_3 k_4 k_5 d_in a_nil a_cons alt1 h_nil h_one h_two z_nil z_cons z_cells zeqL zeq q_alloc q_some nxtN i_drh d_hi i_drw_nil i_drw u_nil u_code u_ops u_drw u_lp u_again u_exit u_ret u_panic c_bool o_some o_val o_panic d_some d_val d_panic w_none w_fast wantG q_nil q_zero q_succ t_zero t_succ g_zero g_succ s_zero s_succ s_some s_none v_tmp v_const v_func f_quiet gc_none gc_pure wrap_i64 p_move p_assign p_pick p_alloc p_box p_build p_buildSlice p_load p_store p_nilCheck p_binOp n_tmp n_int n_bool n_str n_ptr n_fun n_iface nilCmp p_unOp p_convert p_makeSlice p_makeInterface p_makeFunc p_slice p_fieldAddr p_field p_indexAddr p_index p_extract p_callv p_callb p_panic quiet_val new_val e_assign e_call e_load e_store e_alloc e_box e_move e_pick e_build e_buildSlice e_nilCheck e_binOp e_unOp e_convert e_makeSlice e_makeInterface e_makeFunc e_slice e_fieldAddr e_field e_indexAddr e_index e_extract e_panic callD fpRead adoptZ fulls adopt adoptL ofValue ofScalar binOpV unOpV intBin strBin eqRes veq veqF eqDepth val? finish resL r_tmp r_cell normL normTop tipIs refsL refs ownRefs single frz frzL ren renL renOwn callOp doCall backR writeBack builtinV loadV storeV storeW iceT cellsAt takeV D.isAgg overlay vcells cellOk fieldAddrV indexAddrV fieldV partV indexV buildV fillV buildSliceV litElems appendV appElems elemOk convertV convV winStr makeSliceV sliceV natOf
attribute [local simp ↓] brB_true brB_false brB_dec brB_not brB_and brB_or brB_beq brB_bne
mutual
def sameE : Xp → Xp → Bool
  | .mk op v var col kids, .mk op' v' var' col' kids' => decide (op = op') && (decide (v.kind = v'.kind) && (decide (v.n = v'.n) && (decide (v.s = v'.s) && (decide (var = var') && (decide (col = col') && sameEs kids kids')))))
def sameEs : List Xp → List Xp → Bool
  | [], [] => true
  | a :: l, b :: r => sameE a b && sameEs l r
  | [], _ :: _ => false
  | _ :: _, [] => false
end
theorem sameEs_len : ∀ {l r : List Xp}, l.length ≠ r.length → sameEs l r = false
  | [], [], h => absurd rfl h
  | a :: l, b :: r, h => by simp only [sameEs, sameEs_len (l := l) (r := r) (by simpa using h), Bool.and_false]
  | [], _ :: _, _ => rfl
  | _ :: _, [], _ => rfl
mutual
theorem sameE_iff : ∀ (a b : Xp), sameE a b = true ↔ a = b
  | .mk op v var col kids, .mk op' v' var' col' kids' => by
    obtain ⟨k, n, s⟩ := v
    obtain ⟨k', n', s'⟩ := v'
    simp only [sameE, Bool.and_eq_true, decide_eq_true_eq, sameEs_iff kids kids', Xp.mk.injEq, Val.mk.injEq]
    constructor
    · rintro ⟨h1, h2, h3, h4, h5, h6, h7⟩; exact ⟨h1, ⟨h2, h3, h4⟩, h5, h6, h7⟩
    · rintro ⟨h1, ⟨h2, h3, h4⟩, h5, h6, h7⟩; exact ⟨h1, h2, h3, h4, h5, h6, h7⟩
theorem sameEs_iff : ∀ (l r : List Xp), sameEs l r = true ↔ l = r
  | [], [] => by simp [sameEs]
  | a :: l, b :: r => by simp only [sameEs, Bool.and_eq_true, sameE_iff a b, sameEs_iff l r, List.cons.injEq]
  | [], _ :: _ => by simp [sameEs]
  | _ :: _, [] => by simp [sameEs]
end
theorem ev_samexs (l r : List Xp) (hl : l.length ≤ 1048576) (hr : r.length ≤ 1048576) (ihk : ∀ m ∈ l, ∀ k ∈ r, EV 33 [m.enc, k.enc] [] = some (.ret (.bool (sameE m k)), [])) :
    EV 64 [.slice .froz (l.map Xp.enc), .slice .froz (r.map Xp.enc)] [] = some (.ret (.bool (sameEs l r)), []) := by
  rw [EV_mki rfl Tryz.func64 rfl (by kernel_rfl) rfl]
  by_cases hlen : l.length = r.length
  rotate_left
  · have hz : ¬ (l.length : Int) = r.length := by omega
    simp [Tryz.f64, Tryz.ti3, Tryz.ti9, Tryz.ti31, Tryz.ti44, Tryz.ti50, hz, hlen, sameEs_len hlen]
  have hz : (l.length : Int) = r.length := by omega
  simp [Tryz.f64, Tryz.ti3, Tryz.ti9, Tryz.ti31, Tryz.ti44, Tryz.ti50, hz, hlen]
  rw [i_loop (ts := [11, 12, 13, 14, 17, 18, 19, 20, 21, 22, 23, 24, 25, 26, 15, 16])]
  rotate_left
  · kernel_rfl
  refine i_at (fun i : Nat => l.length - i) (fun i env => setV env 5 (.int .i64 i)) (fun _ => _) (fun i => some (.ret (.bool (sameEs (l.drop i) (r.drop i))), [])) 0 (by simp [s_zero, s_succ]) rfl (by simp) ?_
  intro i ih
  by_cases hi : i < l.length
  · have ih := ih (i + 1) (by omega)
    have hi2 : i < r.length := by omega
    have hwi : IntKind.i64.wrap ((i : Int) + 1) = (i : Int) + 1 := wrap_i64 (by omega)
    obtain ⟨t, hk⟩ : ∃ m, l[i] = m := ⟨_, rfl⟩
    obtain ⟨u, hu⟩ : ∃ m, r[i] = m := ⟨_, rfl⟩
    have h1 := ihk t (by rw [← hk]; exact List.getElem_mem hi) u (by rw [← hu]; exact List.getElem_mem hi2)
    rw [List.drop_eq_getElem_cons hi, List.drop_eq_getElem_cons hi2, hk, hu, sameEs]
    obtain ⟨op, v, var, col, kids⟩ := t
    obtain ⟨op', v', var', col', kids'⟩ := u
    simp only [xenc_mk] at h1
    simp only [s_zero, s_succ, Int.natCast_add, Int.natCast_one, Int.cast_ofNat_Int] at ih
    cases hs : sameE (.mk op v var col kids) (.mk op' v' var' col' kids') <;> rw [hs] at h1
    · simp [i_again, roundEnd, dropT, cleanV, Tryz.f64, Tryz.ti3, Tryz.ti9, Tryz.ti31, Tryz.ti44, Tryz.ti50, hi, hi2, hk, hu, xenc_mk, h1, hwi, ih] <;> first | (refine panQ_of ?_; decide +kernel) | (change _ = true; decide +kernel) | kernel_rfl | (refine ⟨?_, ?_⟩ <;> first | (change _ = true; decide +kernel) | kernel_rfl)
    · simp [i_again, roundEnd, dropT, cleanV, Tryz.f64, Tryz.ti3, Tryz.ti9, Tryz.ti31, Tryz.ti44, Tryz.ti50, hi, hi2, hk, hu, xenc_mk, h1, hwi, ih] <;> first | (refine panQ_of ?_; decide +kernel) | (change _ = true; decide +kernel) | kernel_rfl | (refine ⟨?_, ?_⟩ <;> first | (change _ = true; decide +kernel) | kernel_rfl)
  · rw [List.drop_eq_nil_of_le (by omega), List.drop_eq_nil_of_le (by omega)]
    have hi2 : ¬ i < r.length := by omega
    simp [i_again, roundEnd, dropT, cleanV, Tryz.f64, Tryz.ti3, Tryz.ti9, Tryz.ti31, Tryz.ti44, Tryz.ti50, hi, hi2, sameEs]
mutual
theorem ev_samex : ∀ a b : Xp, a.ok → b.ok → EV 33 [a.enc, b.enc] [] = some (.ret (.bool (sameE a b)), [])
  | .mk op v var col kids, .mk op' v' var' col' kids', h, h' => by
    have h1 := ev_samexs kids kids' h.2.2.2.2.1 h'.2.2.2.2.1 (fun m hm k hk => ev_samex_all kids h.2.2.2.2.2 m hm k ((xoks_iff _).1 h'.2.2.2.2.2 k hk))
    rw [EV_mki rfl Tryz.func33 rfl (by kernel_rfl) rfl, xenc_mk, xenc_mk]
    simp only [sameE]
    by_cases e1 : op = op'
    rotate_left
    · simp [Tryz.f33, Tryz.ti3, Tryz.ti9, Tryz.ti31, Tryz.ti44, Tryz.ti50, e1, gc, reach, reachFuel, shut, nodup, List.idxOf, List.findIdx, List.findIdx.go, backR, List.range, List.range.loop] <;> first | (refine panQ_of ?_; decide +kernel) | (change _ = true; decide +kernel) | kernel_rfl | (refine ⟨?_, ?_⟩ <;> first | (change _ = true; decide +kernel) | kernel_rfl)
    by_cases e2 : v.kind = v'.kind
    rotate_left
    · simp [Tryz.f33, Tryz.ti3, Tryz.ti9, Tryz.ti31, Tryz.ti44, Tryz.ti50, e1, e2, gc, reach, reachFuel, shut, nodup, List.idxOf, List.findIdx, List.findIdx.go, backR, List.range, List.range.loop] <;> first | (refine panQ_of ?_; decide +kernel) | (change _ = true; decide +kernel) | kernel_rfl | (refine ⟨?_, ?_⟩ <;> first | (change _ = true; decide +kernel) | kernel_rfl)
    by_cases e3 : v.n = v'.n
    rotate_left
    · simp [Tryz.f33, Tryz.ti3, Tryz.ti9, Tryz.ti31, Tryz.ti44, Tryz.ti50, e1, e2, e3, gc, reach, reachFuel, shut, nodup, List.idxOf, List.findIdx, List.findIdx.go, backR, List.range, List.range.loop] <;> first | (refine panQ_of ?_; decide +kernel) | (change _ = true; decide +kernel) | kernel_rfl | (refine ⟨?_, ?_⟩ <;> first | (change _ = true; decide +kernel) | kernel_rfl)
    by_cases e4 : v.s = v'.s
    rotate_left
    · simp [Tryz.f33, Tryz.ti3, Tryz.ti9, Tryz.ti31, Tryz.ti44, Tryz.ti50, e1, e2, e3, e4, gc, reach, reachFuel, shut, nodup, List.idxOf, List.findIdx, List.findIdx.go, backR, List.range, List.range.loop] <;> first | (refine panQ_of ?_; decide +kernel) | (change _ = true; decide +kernel) | kernel_rfl | (refine ⟨?_, ?_⟩ <;> first | (change _ = true; decide +kernel) | kernel_rfl)
    by_cases e5 : var = var'
    rotate_left
    · simp [Tryz.f33, Tryz.ti3, Tryz.ti9, Tryz.ti31, Tryz.ti44, Tryz.ti50, e1, e2, e3, e4, e5, gc, reach, reachFuel, shut, nodup, List.idxOf, List.findIdx, List.findIdx.go, backR, List.range, List.range.loop] <;> first | (refine panQ_of ?_; decide +kernel) | (change _ = true; decide +kernel) | kernel_rfl | (refine ⟨?_, ?_⟩ <;> first | (change _ = true; decide +kernel) | kernel_rfl)
    by_cases e6 : col = col'
    rotate_left
    · simp [Tryz.f33, Tryz.ti3, Tryz.ti9, Tryz.ti31, Tryz.ti44, Tryz.ti50, e1, e2, e3, e4, e5, e6, gc, reach, reachFuel, shut, nodup, List.idxOf, List.findIdx, List.findIdx.go, backR, List.range, List.range.loop] <;> first | (refine panQ_of ?_; decide +kernel) | (change _ = true; decide +kernel) | kernel_rfl | (refine ⟨?_, ?_⟩ <;> first | (change _ = true; decide +kernel) | kernel_rfl)
    simp [Tryz.f33, Tryz.ti3, Tryz.ti9, Tryz.ti31, Tryz.ti44, Tryz.ti50, e1, e2, e3, e4, e5, e6, h1, gc, reach, reachFuel, shut, nodup, List.idxOf, List.findIdx, List.findIdx.go, backR, List.range, List.range.loop] <;> first | (refine panQ_of ?_; decide +kernel) | (change _ = true; decide +kernel) | kernel_rfl | (refine ⟨?_, ?_⟩ <;> first | (change _ = true; decide +kernel) | kernel_rfl)
theorem ev_samex_all : ∀ l : List Xp, Xp.oks l → ∀ m ∈ l, ∀ k : Xp, k.ok → EV 33 [m.enc, k.enc] [] = some (.ret (.bool (sameE m k)), [])
  | [], _ => fun m hm => by cases hm
  | e :: l, h => fun m hm k hk => by
    rcases List.mem_cons.1 hm with hx | hm
    · rw [hx]; exact ev_samex e k h.1 hk
    · exact ev_samex_all l h.2 m hm k hk
end
theorem ev_samel {l r : List Xp} (hl : l.length ≤ 1048576 ∧ ∀ m ∈ l, m.ok) (hr : r.length ≤ 1048576 ∧ ∀ m ∈ r, m.ok) : EV 64 [.slice .froz (l.map Xp.enc), .slice .froz (r.map Xp.enc)] [] = some (.ret (.bool (sameEs l r)), []) :=
  ev_samexs l r hl.1 hr.1 fun m hm k hk => ev_samex m k (hl.2 m hm) (hr.2 k hk)
end Go.Abs
