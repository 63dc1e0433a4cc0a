/- What strings.Join comes to. -/
import Derived.Test.YtpmeklllgnnffaaGreatDoorU16
import Derived.Test.YtpmeklllgnnffaaGreatDoorU38
import Derived.Test.YtpmeklllgnnffaaGreatDoorU31
set_option linter.unusedSimpArgs false
set_option linter.unusedVariables false

namespace Go.Abs
set_option linter.unusedSimpArgs false
set_option linter.unusedVariables false
open Go Go.Proofs

theorem join_len : ∀ (xs : List (List UInt8)) (sep : List UInt8) (b : Nat), (∀ x ∈ xs, x.length ≤ b) → (Lib.join xs sep).length ≤ xs.length * (b + sep.length)
  | [], sep, b, _ => by rw [Lib.join_nil]; simp
  | [x], sep, b, h => by
    rw [Lib.join_one]
    have := h x (by simp)
    simp; omega
  | x :: y :: r, sep, b, h => by
    have ih := join_len (y :: r) sep b (fun z hz => h z (by simp [hz]))
    have hx := h x (by simp)
    rw [Lib.join_length] at ih ⊢
    simp only [Lib.lens, List.map_cons, List.sum_cons, List.length_cons] at ih ⊢
    have e : (r.length + 1 + 1) * (b + sep.length) = (r.length + 1) * (b + sep.length) + (b + sep.length) := by rw [Nat.add_mul (r.length + 1), Nat.one_mul]
    have e2 : sep.length * (r.length + 1) = sep.length * r.length + sep.length := by rw [Nat.mul_add, Nat.mul_one]
    omega
theorem ev_join (l : List (List UInt8)) (sep : List UInt8) (h1 : l.length ≤ 140737488355328) (h2 : (Lib.join l sep).length ≤ 140737488355328) : EV 87 [.slice .froz (l.map V.str), .str sep] [] = some (.ret (.str (Lib.join l sep)), []) := by
  unfold EV
  rw [ev_eq]
  simp [pr0, primRun, joinP, strsOf_map, h1, h2]
end Go.Abs

namespace Go.Abs
set_option linter.unusedSimpArgs false
set_option linter.unusedVariables false
open Go Go.Proofs
attribute [local simp] i_nil i_blk i_skip i_ret i_exit i_seq i_block i_cond i_region' i_ops_nil i_ops i_drawn' k_none k_0 k_1 k_2 k_3 k_4 k_5 d_in a_nil a_cons alt1 h_nil h_one h_two z_nil z_cons z_cells zeqL zeq q_alloc q_some nxtN i_drh d_hi i_drw_nil i_drw u_nil u_code u_ops u_drw u_lp u_again u_exit u_ret u_panic c_bool o_some o_val o_panic d_some d_val d_panic w_none w_fast wantG q_nil q_zero q_succ t_zero t_succ g_zero g_succ s_zero s_succ s_some s_none v_tmp v_const v_func f_quiet gc_none gc_pure wrap_i64 p_move p_assign p_pick p_alloc p_box p_build p_buildSlice p_load p_store p_nilCheck p_binOp n_tmp n_int n_bool n_str n_ptr n_fun n_iface nilCmp p_unOp p_convert p_makeSlice p_makeInterface p_makeFunc p_slice p_fieldAddr p_field p_indexAddr p_index p_extract p_callv p_callb p_panic quiet_val new_val e_assign e_call e_load e_store e_alloc e_box e_move e_pick e_build e_buildSlice e_nilCheck e_binOp e_unOp e_convert e_makeSlice e_makeInterface e_makeFunc e_slice e_fieldAddr e_field e_indexAddr e_index e_extract e_panic callD fpRead adoptZ fulls adopt adoptL ofValue ofScalar binOpV unOpV intBin strBin eqRes veq veqF eqDepth val? finish resL r_tmp r_cell normL normTop tipIs refsL refs ownRefs single frz frzL ren renL renOwn callOp doCall backR writeBack builtinV loadV storeV storeW iceT cellsAt takeV D.isAgg overlay vcells cellOk fieldAddrV indexAddrV fieldV partV indexV buildV fillV buildSliceV litElems appendV appElems elemOk convertV convV winStr makeSliceV sliceV natOf
attribute [local simp ↓] brB_true brB_false brB_dec brB_not brB_and brB_or brB_beq brB_bne

set_option maxHeartbeats 1000000 in
theorem ev_list_xp (g : Xp → List UInt8) (l : List Xp) (hl : l.length ≤ 1000) (hc : ∀ x ∈ l, EV 54 [x.enc] [] = some (.ret (.str (g x)), [])) (hg : ∀ x ∈ l, (g x).length ≤ 1000000000) :
    EV 53 [.slice .froz (l.map Xp.enc), .func 54 [] []] [] = some (.ret (.str (Lib.join (l.map g) [44, 32])), []) := by
  have hjl : (Lib.join (l.map g) [44, 32]).length ≤ 140737488355328 := by
    have := join_len (l.map g) [44, 32] 1000000000 (fun x hx => by obtain ⟨t, h, rfl⟩ := List.mem_map.1 hx; exact hg t h)
    have h3 : (l.map g).length * (1000000000 + 2) ≤ 1000 * 1000000002 := Nat.mul_le_mul (by simpa using hl) (by omega)
    simp only [List.length_cons, List.length_nil] at this
    omega
  have hj := ev_join (l.map g) [44, 32] (by simp; omega) hjl
  rw [EV_mki rfl Tryz.func53 rfl (by kernel_rfl) rfl]
  simp [Tryz.f53, Tryz.ti3, Tryz.ti9, Tryz.ti23, Tryz.ti44, Tryz.ti46, Tryz.ti100]
  rw [i_loop (ts := [11, 12, 13, 7, 14, 15, 16, 17, 18, 19, 20])]
  rotate_left
  · kernel_rfl
  refine i_at (fun i : {i : Nat // i ≤ l.length} => l.length - i.1) (fun i env => setV (setV env 10 (.int .i64 i.1)) 5 (.slice (.own 0) (((l.take i.1).map g).map V.str))) (fun i => [[.tip i.1]]) (fun i => some (.ret (.str (Lib.join (l.map g) [44, 32])), [])) ⟨0, by omega⟩ (by simp [s_zero, s_succ]) rfl rfl ?_
  intro ⟨i, hil⟩ ih
  dsimp only at hil ⊢
  by_cases hi : i < l.length
  · have ih := ih ⟨i + 1, by omega⟩ (by simp only; omega)
    have hwi : IntKind.i64.wrap ((i : Int) + 1) = (i : Int) + 1 := wrap_i64 (by omega)
    have hlen : (((l.take i).map g).map V.str).length = i := by simp; omega
    have hcx := hc l[i] (List.getElem_mem hi)
    obtain ⟨t, hk⟩ : ∃ m, l[i] = m := ⟨_, rfl⟩
    have ht : ((l.take (i + 1)).map g).map V.str = ((l.take i).map g).map V.str ++ [V.str (g t)] := by rw [List.take_succ_eq_append_getElem hi, hk]; simp
    have hf : ∀ x ∈ ((l.take i).map g).map V.str, (vcells x).length = 1 := fun x hx => by obtain ⟨y, _, rfl⟩ := List.mem_map.1 hx; rfl
    rw [hk] at hcx
    simp only at ih
    rw [ht] at ih
    clear ht
    generalize ((l.take i).map g).map V.str = xs at *
    obtain ⟨op', v', var', col', kids'⟩ := t
    rw [xenc_mk] at hcx
    simp only [s_zero, s_succ, Int.natCast_add, Int.natCast_one, Int.cast_ofNat_Int] at ih
    simp only [vcells] at hf
    have hbb : (i + 1) * 16 ≤ 70368744177664 := by omega
    have hbc : i + 1 ≤ 70368744177664 := by omega
    simp +contextual [i_again, roundEnd, dropT, cleanV, Tryz.f53, Tryz.ti3, Tryz.ti9, Tryz.ti23, Tryz.ti44, Tryz.ti46, Tryz.ti100, hi, hk, xenc_mk, hwi, hlen, hbb, hbc, hf, ih, hcx]
  · have ht : l.take i = l := List.take_of_length_le (by omega)
    obtain rfl : i = l.length := by omega
    rw [ht]
    generalize (l.map g).map V.str = xs at hj
    simp [i_again, roundEnd, dropT, cleanV, Tryz.f53, Tryz.ti3, Tryz.ti9, Tryz.ti23, Tryz.ti44, Tryz.ti46, Tryz.ti100, hi, hj]
set_option maxHeartbeats 1000000 in
theorem ev_list_col (g : Col → List UInt8) (l : List Col) (hl : l.length ≤ 1000) (hc : ∀ x ∈ l, EV 51 [x.enc] [] = some (.ret (.str (g x)), [])) (hg : ∀ x ∈ l, (g x).length ≤ 1000000000) :
    EV 50 [.slice .froz (l.map Col.enc), .func 51 [] []] [] = some (.ret (.str (Lib.join (l.map g) [44, 32])), []) := by
  have hjl : (Lib.join (l.map g) [44, 32]).length ≤ 140737488355328 := by
    have := join_len (l.map g) [44, 32] 1000000000 (fun x hx => by obtain ⟨t, h, rfl⟩ := List.mem_map.1 hx; exact hg t h)
    have h3 : (l.map g).length * (1000000000 + 2) ≤ 1000 * 1000000002 := Nat.mul_le_mul (by simpa using hl) (by omega)
    simp only [List.length_cons, List.length_nil] at this
    omega
  have hj := ev_join (l.map g) [44, 32] (by simp; omega) hjl
  rw [EV_mki rfl Tryz.func50 rfl (by kernel_rfl) rfl]
  simp [Tryz.f50, Tryz.ti3, Tryz.ti4, Tryz.ti9, Tryz.ti22, Tryz.ti94, Tryz.ti100]
  rw [i_loop (ts := [11, 12, 13, 7, 14, 15, 16, 17, 18, 19, 20])]
  rotate_left
  · kernel_rfl
  refine i_at (fun i : {i : Nat // i ≤ l.length} => l.length - i.1) (fun i env => setV (setV env 10 (.int .i64 i.1)) 5 (.slice (.own 0) (((l.take i.1).map g).map V.str))) (fun i => [[.tip i.1]]) (fun i => some (.ret (.str (Lib.join (l.map g) [44, 32])), [])) ⟨0, by omega⟩ (by simp [s_zero, s_succ]) rfl rfl ?_
  intro ⟨i, hil⟩ ih
  dsimp only at hil ⊢
  by_cases hi : i < l.length
  · have ih := ih ⟨i + 1, by omega⟩ (by simp only; omega)
    have hwi : IntKind.i64.wrap ((i : Int) + 1) = (i : Int) + 1 := wrap_i64 (by omega)
    have hlen : (((l.take i).map g).map V.str).length = i := by simp; omega
    have hcx := hc l[i] (List.getElem_mem hi)
    obtain ⟨t, hk⟩ : ∃ m, l[i] = m := ⟨_, rfl⟩
    have ht : ((l.take (i + 1)).map g).map V.str = ((l.take i).map g).map V.str ++ [V.str (g t)] := by rw [List.take_succ_eq_append_getElem hi, hk]; simp
    have hf : ∀ x ∈ ((l.take i).map g).map V.str, (vcells x).length = 1 := fun x hx => by obtain ⟨y, _, rfl⟩ := List.mem_map.1 hx; rfl
    rw [hk] at hcx
    simp only at ih
    rw [ht] at ih
    clear ht
    generalize ((l.take i).map g).map V.str = xs at *
    obtain ⟨n', t', a', b'⟩ := t
    simp only [Col.enc, Col.cells] at hcx
    simp only [s_zero, s_succ, Int.natCast_add, Int.natCast_one, Int.cast_ofNat_Int] at ih
    simp only [vcells] at hf
    have hbb : (i + 1) * 16 ≤ 70368744177664 := by omega
    have hbc : i + 1 ≤ 70368744177664 := by omega
    simp +contextual [i_again, roundEnd, dropT, cleanV, Tryz.f50, Tryz.ti3, Tryz.ti4, Tryz.ti9, Tryz.ti22, Tryz.ti94, Tryz.ti100, hi, hk, Col.enc, Col.cells, hwi, hlen, hbb, hbc, hf, ih, hcx]
  · have ht : l.take i = l := List.take_of_length_le (by omega)
    obtain rfl : i = l.length := by omega
    rw [ht]
    generalize (l.map g).map V.str = xs at hj
    simp [i_again, roundEnd, dropT, cleanV, Tryz.f50, Tryz.ti3, Tryz.ti4, Tryz.ti9, Tryz.ti22, Tryz.ti94, Tryz.ti100, hi, hj]
set_option maxHeartbeats 1000000 in
theorem ev_list_src (g : Src → List UInt8) (l : List Src) (hl : l.length ≤ 1000) (hc : ∀ x ∈ l, EV 91 [x.enc] [] = some (.ret (.str (g x)), [])) (hg : ∀ x ∈ l, (g x).length ≤ 1000000000) :
    EV 90 [.slice .froz (l.map Src.enc), .func 91 [] []] [] = some (.ret (.str (Lib.join (l.map g) [44, 32])), []) := by
  have hjl : (Lib.join (l.map g) [44, 32]).length ≤ 140737488355328 := by
    have := join_len (l.map g) [44, 32] 1000000000 (fun x hx => by obtain ⟨t, h, rfl⟩ := List.mem_map.1 hx; exact hg t h)
    have h3 : (l.map g).length * (1000000000 + 2) ≤ 1000 * 1000000002 := Nat.mul_le_mul (by simpa using hl) (by omega)
    simp only [List.length_cons, List.length_nil] at this
    omega
  have hj := ev_join (l.map g) [44, 32] (by simp; omega) hjl
  rw [EV_mki rfl Tryz.func90 rfl (by kernel_rfl) rfl]
  simp [Tryz.f90, Tryz.ti3, Tryz.ti9, Tryz.ti25, Tryz.ti84, Tryz.ti100]
  rw [i_loop (ts := [11, 12, 13, 7, 14, 15, 16, 17, 18, 19, 20])]
  rotate_left
  · kernel_rfl
  refine i_at (fun i : {i : Nat // i ≤ l.length} => l.length - i.1) (fun i env => setV (setV env 10 (.int .i64 i.1)) 5 (.slice (.own 0) (((l.take i.1).map g).map V.str))) (fun i => [[.tip i.1]]) (fun i => some (.ret (.str (Lib.join (l.map g) [44, 32])), [])) ⟨0, by omega⟩ (by simp [s_zero, s_succ]) rfl rfl ?_
  intro ⟨i, hil⟩ ih
  dsimp only at hil ⊢
  by_cases hi : i < l.length
  · have ih := ih ⟨i + 1, by omega⟩ (by simp only; omega)
    have hwi : IntKind.i64.wrap ((i : Int) + 1) = (i : Int) + 1 := wrap_i64 (by omega)
    have hlen : (((l.take i).map g).map V.str).length = i := by simp; omega
    have hcx := hc l[i] (List.getElem_mem hi)
    obtain ⟨t, hk⟩ : ∃ m, l[i] = m := ⟨_, rfl⟩
    have ht : ((l.take (i + 1)).map g).map V.str = ((l.take i).map g).map V.str ++ [V.str (g t)] := by rw [List.take_succ_eq_append_getElem hi, hk]; simp
    have hf : ∀ x ∈ ((l.take i).map g).map V.str, (vcells x).length = 1 := fun x hx => by obtain ⟨y, _, rfl⟩ := List.mem_map.1 hx; rfl
    rw [hk] at hcx
    simp only at ih
    rw [ht] at ih
    clear ht
    generalize ((l.take i).map g).map V.str = xs at *
    obtain ⟨k', t', v'⟩ := t
    simp only [Src.enc, Src.cells] at hcx
    simp only [s_zero, s_succ, Int.natCast_add, Int.natCast_one, Int.cast_ofNat_Int] at ih
    simp only [vcells] at hf
    have hbb : (i + 1) * 16 ≤ 70368744177664 := by omega
    have hbc : i + 1 ≤ 70368744177664 := by omega
    simp +contextual [i_again, roundEnd, dropT, cleanV, Tryz.f90, Tryz.ti3, Tryz.ti9, Tryz.ti25, Tryz.ti84, Tryz.ti100, hi, hk, Src.enc, Src.cells, hwi, hlen, hbb, hbc, hf, ih, hcx]
  · have ht : l.take i = l := List.take_of_length_le (by omega)
    obtain rfl : i = l.length := by omega
    rw [ht]
    generalize (l.map g).map V.str = xs at hj
    simp [i_again, roundEnd, dropT, cleanV, Tryz.f90, Tryz.ti3, Tryz.ti9, Tryz.ti25, Tryz.ti84, Tryz.ti100, hi, hj]
set_option maxHeartbeats 1000000 in
theorem ev_list_set (g : SetE → List UInt8) (l : List SetE) (hl : l.length ≤ 1000) (hc : ∀ x ∈ l, EV 57 [x.enc] [] = some (.ret (.str (g x)), [])) (hg : ∀ x ∈ l, (g x).length ≤ 1000000000) :
    EV 56 [.slice .froz (l.map SetE.enc), .func 57 [] []] [] = some (.ret (.str (Lib.join (l.map g) [44, 32])), []) := by
  have hjl : (Lib.join (l.map g) [44, 32]).length ≤ 140737488355328 := by
    have := join_len (l.map g) [44, 32] 1000000000 (fun x hx => by obtain ⟨t, h, rfl⟩ := List.mem_map.1 hx; exact hg t h)
    have h3 : (l.map g).length * (1000000000 + 2) ≤ 1000 * 1000000002 := Nat.mul_le_mul (by simpa using hl) (by omega)
    simp only [List.length_cons, List.length_nil] at this
    omega
  have hj := ev_join (l.map g) [44, 32] (by simp; omega) hjl
  rw [EV_mki rfl Tryz.func56 rfl (by kernel_rfl) rfl]
  simp [Tryz.f56, Tryz.ti3, Tryz.ti9, Tryz.ti23, Tryz.ti24, Tryz.ti44, Tryz.ti46, Tryz.ti80, Tryz.ti100]
  rw [i_loop (ts := [11, 12, 13, 7, 14, 15, 16, 17, 18, 19, 20])]
  rotate_left
  · kernel_rfl
  refine i_at (fun i : {i : Nat // i ≤ l.length} => l.length - i.1) (fun i env => setV (setV env 10 (.int .i64 i.1)) 5 (.slice (.own 0) (((l.take i.1).map g).map V.str))) (fun i => [[.tip i.1]]) (fun i => some (.ret (.str (Lib.join (l.map g) [44, 32])), [])) ⟨0, by omega⟩ (by simp [s_zero, s_succ]) rfl rfl ?_
  intro ⟨i, hil⟩ ih
  dsimp only at hil ⊢
  by_cases hi : i < l.length
  · have ih := ih ⟨i + 1, by omega⟩ (by simp only; omega)
    have hwi : IntKind.i64.wrap ((i : Int) + 1) = (i : Int) + 1 := wrap_i64 (by omega)
    have hlen : (((l.take i).map g).map V.str).length = i := by simp; omega
    have hcx := hc l[i] (List.getElem_mem hi)
    obtain ⟨t, hk⟩ : ∃ m, l[i] = m := ⟨_, rfl⟩
    have ht : ((l.take (i + 1)).map g).map V.str = ((l.take i).map g).map V.str ++ [V.str (g t)] := by rw [List.take_succ_eq_append_getElem hi, hk]; simp
    have hf : ∀ x ∈ ((l.take i).map g).map V.str, (vcells x).length = 1 := fun x hx => by obtain ⟨y, _, rfl⟩ := List.mem_map.1 hx; rfl
    rw [hk] at hcx
    simp only at ih
    rw [ht] at ih
    clear ht
    generalize ((l.take i).map g).map V.str = xs at *
    obtain ⟨c', ⟨op', v', var', col', kids'⟩⟩ := t
    simp only [SetE.enc, xenc_mk, vcells] at hcx
    simp only [s_zero, s_succ, Int.natCast_add, Int.natCast_one, Int.cast_ofNat_Int] at ih
    simp only [vcells] at hf
    have hbb : (i + 1) * 16 ≤ 70368744177664 := by omega
    have hbc : i + 1 ≤ 70368744177664 := by omega
    simp +contextual [i_again, roundEnd, dropT, cleanV, Tryz.f56, Tryz.ti3, Tryz.ti9, Tryz.ti23, Tryz.ti24, Tryz.ti44, Tryz.ti46, Tryz.ti80, Tryz.ti100, hi, hk, SetE.enc, xenc_mk, hwi, hlen, hbb, hbc, hf, ih, hcx]
  · have ht : l.take i = l := List.take_of_length_le (by omega)
    obtain rfl : i = l.length := by omega
    rw [ht]
    generalize (l.map g).map V.str = xs at hj
    simp [i_again, roundEnd, dropT, cleanV, Tryz.f56, Tryz.ti3, Tryz.ti9, Tryz.ti23, Tryz.ti24, Tryz.ti44, Tryz.ti46, Tryz.ti80, Tryz.ti100, hi, hj]
end Go.Abs

namespace Go.Abs
set_option linter.unusedSimpArgs false
set_option linter.unusedVariables false
open Go Go.Proofs
attribute [local simp] i_nil i_blk i_skip i_ret i_exit i_seq i_block i_cond i_region' i_ops_nil i_ops i_drawn' k_none k_0 k_1 k_2 k_3 k_4 k_5 d_in a_nil a_cons alt1 h_nil h_one h_two z_nil z_cons z_cells zeqL zeq q_alloc q_some nxtN i_drh d_hi i_drw_nil i_drw u_nil u_code u_ops u_drw u_lp u_again u_exit u_ret u_panic c_bool o_some o_val o_panic d_some d_val d_panic w_none w_fast wantG q_nil q_zero q_succ t_zero t_succ g_zero g_succ s_zero s_succ s_some s_none v_tmp v_const v_func f_quiet gc_none gc_pure wrap_i64 p_move p_assign p_pick p_alloc p_box p_build p_buildSlice p_load p_store p_nilCheck p_binOp n_tmp n_int n_bool n_str n_ptr n_fun n_iface nilCmp p_unOp p_convert p_makeSlice p_makeInterface p_makeFunc p_slice p_fieldAddr p_field p_indexAddr p_index p_extract p_callv p_callb p_panic quiet_val new_val e_assign e_call e_load e_store e_alloc e_box e_move e_pick e_build e_buildSlice e_nilCheck e_binOp e_unOp e_convert e_makeSlice e_makeInterface e_makeFunc e_slice e_fieldAddr e_field e_indexAddr e_index e_extract e_panic callD fpRead adoptZ fulls adopt adoptL ofValue ofScalar binOpV unOpV intBin strBin eqRes veq veqF eqDepth val? finish resL r_tmp r_cell normL normTop tipIs refsL refs ownRefs single frz frzL ren renL renOwn callOp doCall backR writeBack builtinV loadV storeV storeW iceT cellsAt takeV D.isAgg overlay vcells cellOk fieldAddrV indexAddrV fieldV partV indexV buildV fillV buildSliceV litElems appendV appElems elemOk convertV convV winStr makeSliceV sliceV natOf
attribute [local simp ↓] brB_true brB_false brB_dec brB_not brB_and brB_or brB_beq brB_bne

def typeW (t : Int) : List UInt8 := if t = 1 then [66, 79, 79, 76] else if t = 2 then [73, 78, 84] else if t = 3 then [84, 69, 88, 84] else []
def showColS (c : Col) : List UInt8 := c.name ++ 32 :: (typeW c.type ++ ((if c.notNull = true then [32, 78, 79, 84, 32, 78, 85, 76, 76] else []) ++ (if c.unique = true then [32, 85, 78, 73, 81, 85, 69] else [])))
def srcW (k : Int) : List UInt8 := if k = 1 then [73, 78, 83, 69, 82, 84, 69, 68] else if k = 2 then [68, 69, 76, 69, 84, 69, 68] else if k = 3 then [79, 76, 68] else if k = 4 then [78, 69, 87] else []
def showSrcS (x : Src) : List UInt8 := (if 0 < x.kind then srcW x.kind else x.table) ++ (if x.var = [] then [] else 32 :: x.var)
def showSetS (x : SetE) : List UInt8 := x.col ++ ([32, 61, 32] ++ showE x.e)
def whereS : List Xp → List UInt8
  | [] => []
  | e :: _ => [32, 87, 72, 69, 82, 69, 32] ++ showE e
def commaS (l : List (List UInt8)) : List UInt8 := Lib.join l [44, 32]
def itemsS (l : List Xp) : List UInt8 := if l = [] then [42] else commaS (l.map showE)
def queryS (b : StB) : List UInt8 := [83, 69, 76, 69, 67, 84, 32] ++ (itemsS b.items ++ ([32, 70, 82, 79, 77, 32] ++ (commaS (b.src.map showSrcS) ++ whereS b.wher)))
def eventW (k : Int) : List UInt8 := if k = 1 then [73, 78, 83, 69, 82, 84] else if k = 2 then [68, 69, 76, 69, 84, 69] else if k = 3 then [85, 80, 68, 65, 84, 69] else []
def ruleHead (b : StB) : List UInt8 := [67, 82, 69, 65, 84, 69, 32, 82, 85, 76, 69, 32] ++ (b.name ++ ([32, 80, 82, 73, 79, 82, 73, 84, 89, 32] ++ (Lib.itoa b.prio ++ ([32, 79, 78, 32] ++ (eventW b.event ++ ([32, 84, 79, 32] ++ (b.table ++ ((if b.deferred = true then [32, 68, 69, 70, 69, 82, 82, 69, 68] else []) ++
  (if b.src = [] then [32, 65, 76, 87, 65, 89, 83] else [32, 87, 72, 69, 78, 32] ++ (commaS (b.src.map showSrcS) ++ whereS b.wher))))))))))
mutual
def showStm : Stm → List UInt8
  | .mk b acts =>
    if b.kind = 1 then [66, 69, 71, 73, 78] else if b.kind = 2 then [67, 79, 77, 77, 73, 84] else if b.kind = 3 then [65, 66, 79, 82, 84]
    else if b.kind = 4 then [83, 65, 86, 69, 80, 79, 73, 78, 84, 32] ++ b.name else if b.kind = 5 then [82, 79, 76, 76, 66, 65, 67, 75, 32, 84, 79, 32] ++ b.name
    else if b.kind = 6 then [67, 82, 69, 65, 84, 69, 32, 84, 65, 66, 76, 69, 32] ++ (b.name ++ ([32, 40] ++ (commaS (b.cols.map showColS) ++ [41])))
    else if b.kind = 7 then [67, 82, 69, 65, 84, 69, 32, 73, 78, 68, 69, 88, 32] ++ (b.name ++ ([32, 79, 78, 32] ++ (b.table ++ ([32, 40] ++ (b.col ++ [41])))))
    else if b.kind = 8 then (if b.rolls = true then ruleHead b ++ [32, 68, 79, 32, 82, 79, 76, 76, 66, 65, 67, 75] else ruleHead b ++ ([32, 68, 79, 32] ++ (Lib.join (showStms acts) [59, 32] ++ [32, 69, 78, 68])))
    else if b.kind = 9 then [68, 82, 79, 80, 32, 84, 65, 66, 76, 69, 32] ++ b.name else if b.kind = 10 then [68, 82, 79, 80, 32, 73, 78, 68, 69, 88, 32] ++ b.name else if b.kind = 11 then [68, 82, 79, 80, 32, 82, 85, 76, 69, 32] ++ b.name
    else if b.kind = 12 then (if b.values = [] then [73, 78, 83, 69, 82, 84, 32, 73, 78, 84, 79, 32] ++ (b.table ++ 32 :: queryS b) else [73, 78, 83, 69, 82, 84, 32, 73, 78, 84, 79, 32] ++ (b.table ++ ([32, 86, 65, 76, 85, 69, 83, 32, 40] ++ (commaS (b.values.map showE) ++ [41]))))
    else if b.kind = 13 then [85, 80, 68, 65, 84, 69, 32] ++ (b.table ++ ([32, 83, 69, 84, 32] ++ (commaS (b.sets.map showSetS) ++ whereS b.wher)))
    else if b.kind = 14 then [68, 69, 76, 69, 84, 69, 32, 70, 82, 79, 77, 32] ++ (b.table ++ whereS b.wher)
    else queryS b
def showStms : List Stm → List (List UInt8)
  | [] => []
  | e :: l => showStm e :: showStms l
end
theorem showStms_eq : ∀ l : List Stm, showStms l = l.map showStm
  | [] => rfl
  | n :: l => by simp [showStms, showStms_eq l]

/- parts -/
theorem rights_all {l : List Xp} {least most : Int} (h : rightsE l least most = true) : (∀ x ∈ l, rightE 20 x = true) ∧ least ≤ (l.length : Int) ∧ (l.length : Int) ≤ most := by
  simpa [rightsE] using h
theorem right_shows {e : Xp} (h : rightE 20 e = true) (ho : e.ok) : EV 54 [e.enc] [] = some (.ret (.str (showE e)), []) ∧ (showE e).length ≤ 67108864 := by
  have := showE_len 20 e h ho
  exact ⟨ev_show 20 e (by omega) h ho, by omega⟩
theorem comma_len (l : List (List UInt8)) (hl : l.length ≤ 1000) (h : ∀ x ∈ l, x.length ≤ 1000000000) : (commaS l).length ≤ 1000000002000 := by
  have := join_len l [44, 32] 1000000000 h
  have h3 : l.length * (1000000000 + 2) ≤ 1000 * 1000000002 := Nat.mul_le_mul hl (by omega)
  simp only [List.length_cons, List.length_nil] at this
  unfold commaS
  omega
theorem typeW_len (t : Int) : (typeW t).length ≤ 4 := by unfold typeW; repeat' split
                                                         all_goals simp
theorem srcW_len (t : Int) : (srcW t).length ≤ 8 := by unfold srcW; repeat' split
                                                       all_goals simp
theorem ev_showtype (t : Int) (h : 1 ≤ t ∧ t ≤ 3) : EV 88 [.int .i64 t] [] = some (.ret (.str (typeW t)), []) := by
  rw [EV_mki rfl Tryz.func88 rfl (by kernel_rfl) rfl]
  obtain rfl | rfl | rfl : t = 1 ∨ t = 2 ∨ t = 3 := by omega
  · simp [Tryz.f88, Tryz.ti9, Tryz.ti100, typeW]
  · simp [Tryz.f88, Tryz.ti9, Tryz.ti100, typeW]
  · simp [Tryz.f88, Tryz.ti9, Tryz.ti100, typeW]
theorem ev_showcolumn (c : Col) (h : colOk c = true) : EV 51 [c.enc] [] = some (.ret (.str (showColS c)), []) ∧ (showColS c).length ≤ 64 := by
  obtain ⟨n, t, a, u⟩ := c
  simp only [colOk, Bool.and_eq_true, decide_eq_true_eq] at h
  have hn := name_len h.1
  have ht := ev_showtype t h.2
  have htl := typeW_len t
  constructor
  · rw [EV_mki rfl Tryz.func51 rfl (by kernel_rfl) rfl]
    simp only [showColS, Col.enc, Col.cells]
    generalize typeW t = T at ht htl ⊢
    cases a <;> cases u <;> simp (disch := first | ((try simp only [List.length_cons, List.length_append, List.length_nil]); omega) | simp [refsL, refs]) [-strBin, sb_add, sb_eql, sb_neq, sb_lss, Tryz.f51, Tryz.ti3, Tryz.ti4, Tryz.ti9, Tryz.ti94, ht] <;> first | (refine panQ_of ?_; decide +kernel) | (change _ = true; decide +kernel) | kernel_rfl | (refine ⟨?_, ?_⟩ <;> first | (change _ = true; decide +kernel) | kernel_rfl)
  · simp only [showColS]
    cases a <;> cases u <;> simp <;> omega
theorem ev_showsource (x : Src) (h : rightSrc x = true) : EV 91 [x.enc] [] = some (.ret (.str (showSrcS x)), []) ∧ (showSrcS x).length ≤ 64 := by
  obtain ⟨k, t, v⟩ := x
  simp only [rightSrc, Bool.and_eq_true, Bool.or_eq_true, decide_eq_true_eq] at h
  have hv : v.length ≤ 16 := by
    rcases h.1 with e | e
    · rw [e]; simp
    · exact name_len e
  have hk : k = 0 ∧ t.length ≤ 16 ∨ (k = 1 ∨ k = 2 ∨ k = 3 ∨ k = 4) ∧ t = [] := by
    have h2 := h.2
    split at h2
    · exact .inl ⟨by assumption, name_len h2⟩
    · simp only [Bool.and_eq_true, decide_eq_true_eq] at h2
      exact .inr ⟨by omega, h2.2.2⟩
  constructor
  · rw [EV_mki rfl Tryz.func91 rfl (by kernel_rfl) rfl]
    simp only [showSrcS, Src.enc, Src.cells]
    rcases hk with ⟨rfl, htl⟩ | ⟨rfl | rfl | rfl | rfl, rfl⟩ <;> by_cases hv0 : v = [] <;> simp (disch := first | ((try simp only [List.length_cons, List.length_append, List.length_nil]); omega) | simp [refsL, refs]) [-strBin, sb_add, sb_eql, sb_neq, sb_lss, Tryz.f91, Tryz.ti3, Tryz.ti9, Tryz.ti84, Tryz.ti100, hv0, srcW]
  · simp only [showSrcS]
    have hw := srcW_len k
    rcases hk with ⟨rfl, htl⟩ | ⟨hk, rfl⟩
    · by_cases hv0 : v = [] <;> simp [hv0] <;> omega
    · have : 0 < k := by omega
      by_cases hv0 : v = [] <;> simp [hv0, this] <;> omega
theorem ev_showset (x : SetE) (h : nameS x.col = true) (hr : rightE 20 x.e = true) (ho : x.e.ok) : EV 57 [x.enc] [] = some (.ret (.str (showSetS x)), []) ∧ (showSetS x).length ≤ 67108900 := by
  obtain ⟨c, e⟩ := x
  have hn := name_len h
  obtain ⟨hs, hl⟩ := right_shows hr ho
  simp only at hn hs hl hr
  constructor
  · rw [EV_mki rfl Tryz.func57 rfl (by kernel_rfl) rfl]
    simp only [showSetS, SetE.enc]
    generalize showE e = E at hs hl ⊢
    obtain ⟨op', v', var', col', kids'⟩ := e
    rw [xenc_mk] at hs ⊢
    simp (disch := first | ((try simp only [List.length_cons, List.length_append, List.length_nil]); omega) | simp [refsL, refs]) [-strBin, sb_add, sb_eql, sb_neq, sb_lss, Tryz.f57, Tryz.ti3, Tryz.ti9, Tryz.ti23, Tryz.ti44, Tryz.ti46, Tryz.ti80, hs] <;> first | (refine panQ_of ?_; decide +kernel) | (change _ = true; decide +kernel) | kernel_rfl | (refine ⟨?_, ?_⟩ <;> first | (change _ = true; decide +kernel) | kernel_rfl)
  · simp only [showSetS]
    simp; omega
theorem ev_where (b : StB) (acts : List Stm) (h : rightsE b.wher 0 1 = true) (ho : ∀ m ∈ b.wher, m.ok) : EV 58 [(Stm.mk b acts).enc] [] = some (.ret (.str (whereS b.wher)), []) ∧ (whereS b.wher).length ≤ 67108900 := by
  obtain ⟨h1, h2, h3⟩ := rights_all h
  obtain ⟨kind, name, table, col, cols, values, items, wher, sets, src, prio, event, deferred, rolls⟩ := b
  dsimp only at h1 h3 ho ⊢
  cases wher with
  | nil =>
    constructor
    · rw [EV_mki rfl Tryz.func58 rfl (by kernel_rfl) rfl, senc_mk]
      simp [Tryz.f58, Tryz.ti3, Tryz.ti4, Tryz.ti9, Tryz.ti22, Tryz.ti23, Tryz.ti24, Tryz.ti25, Tryz.ti26, Tryz.ti28, Tryz.ti44, Tryz.ti46, Tryz.ti80, Tryz.ti84, Tryz.ti94, whereS]
    · simp [whereS]
  | cons e r =>
    obtain ⟨hs, hl⟩ := right_shows (h1 e (by simp)) (ho e (by simp))
    constructor
    · rw [EV_mki rfl Tryz.func58 rfl (by kernel_rfl) rfl, senc_mk]
      simp only [whereS]
      generalize showE e = E at hs hl ⊢
      obtain ⟨op', v', var', col', kids'⟩ := e
      rw [xenc_mk] at hs
      have hne : ¬ ((r.length : Int) + 1 = 0) := by omega
      simp (disch := first | ((try simp only [List.length_cons, List.length_append, List.length_nil]); omega) | simp [refsL, refs]) [-strBin, sb_add, sb_eql, sb_neq, sb_lss, Tryz.f58, Tryz.ti3, Tryz.ti4, Tryz.ti9, Tryz.ti22, Tryz.ti23, Tryz.ti24, Tryz.ti25, Tryz.ti26, Tryz.ti28, Tryz.ti44, Tryz.ti46, Tryz.ti80, Tryz.ti84, Tryz.ti94, hs, xenc_mk, hne]
    · simp [whereS]; omega
end Go.Abs

