/- Lists' texts: texts with a comma between. -/
import Derived.Test.YtpmeklllgnnffaaGreatDoorM25
import Derived.Test.YtpmeklllgnnffaaGreatDoorM22
import Derived.Test.YtpmeklllgnnffaaGreatDoorM16
set_option linter.unusedSimpArgs false
set_option linter.unusedVariables false

namespace Go.Abs
set_option linter.unusedSimpArgs false
set_option linter.unusedVariables false
open Go Go.Proofs
attribute [local simp] i_nil i_blk i_skip i_ret i_exit i_seq i_block i_cond i_region' i_ops_nil i_ops i_drawn' d_in a_nil a_cons alt1 h_nil h_one h_two z_nil z_cons z_cells zeqL zeq q_alloc q_some isAlO nxtN i_drh d_hi i_drw_nil i_drw u_nil u_code u_ops u_drw u_lp u_again u_exit u_ret u_panic c_bool o_some o_val o_panic d_some d_val d_panic w_none w_fast wantG q_nil q_zero q_succ t_zero t_succ g_zero g_succ s_zero s_succ s_some s_none v_tmp v_const v_func f_quiet gc_none gc_pure wrap_i64 p_move p_assign p_pick p_alloc p_box p_build p_buildSlice p_load p_store p_nilCheck p_binOp n_tmp n_int n_bool n_str n_ptr n_fun n_iface nilCmp p_unOp p_convert p_makeSlice p_makeInterface p_makeFunc p_slice p_fieldAddr p_field p_indexAddr p_index p_extract p_callv p_callb p_panic quiet_val new_val e_assign e_call e_load e_store e_alloc e_box e_move e_pick e_build e_buildSlice e_nilCheck e_binOp e_unOp e_convert e_makeSlice e_makeInterface e_makeFunc e_slice e_fieldAddr e_field e_indexAddr e_index e_extract e_panic callD fpRead adoptZ fulls adopt adoptL ofValue ofScalar binOpV unOpV intBin strBin eqRes veq veqF eqDepth val? finish resL r_tmp r_cell normL normTop tipIs refsL refs ownRefs single frz frzL ren renL renOwn callOp doCall backR writeBack builtinV loadV storeV storeW iceT cellsAt takeV D.isAgg overlay vcells cellOk fieldAddrV indexAddrV fieldV partV indexV buildV fillV buildSliceV litElems appendV appElems elemOk convertV convV winStr makeSliceV sliceV natOf
attribute [local simp ↓] brB_true brB_false brB_dec brB_not brB_and brB_or brB_beq brB_bne

set_option maxHeartbeats 1000000 in
theorem ev_list_xp (g : Xp → List UInt8) (l : List Xp) (hl : l.length ≤ 1000) (hc : ∀ x ∈ l, EV 54 [x.enc] [] = some (.ret (.str (g x)), [])) (hg : ∀ x ∈ l, (g x).length ≤ 1000000000) :
    EV 53 [.slice .froz (l.map Xp.enc), .func 54 [] []] [] = some (.ret (.str (Lib.join (l.map g) [44, 32])), []) := by
  have hjl : (Lib.join (l.map g) [44, 32]).length ≤ 140737488355328 := by
    have := join_len (l.map g) [44, 32] 1000000000 (fun x hx => by obtain ⟨t, h, rfl⟩ := List.mem_map.1 hx; exact hg t h)
    have h3 : (l.map g).length * (1000000000 + 2) ≤ 1000 * 1000000002 := Nat.mul_le_mul (by simpa using hl) (by omega)
    simp only [List.length_cons, List.length_nil] at this
    omega
  have hj := ev_join (l.map g) [44, 32] (by simp; omega) hjl
  rw [EV_mki rfl Tryz.func53 rfl (by kernel_rfl) rfl]
  simp [Tryz.f53, Tryz.ti3, Tryz.ti9, Tryz.ti23, Tryz.ti44, Tryz.ti46, Tryz.ti100]
  rw [i_loop (ts := [11, 12, 13, 7, 14, 15, 16, 17, 18, 19, 20])]
  rotate_left
  · kernel_rfl
  refine i_at (fun i : {i : Nat // i ≤ l.length} => l.length - i.1) (fun i env => setV (setV env 10 (.int .i64 i.1)) 5 (.slice (.own 0) (((l.take i.1).map g).map V.str))) (fun i => [[.tip i.1]]) (fun i => some (.ret (.str (Lib.join (l.map g) [44, 32])), [])) ⟨0, by omega⟩ (by simp [s_zero, s_succ]) rfl rfl ?_
  intro ⟨i, hil⟩ ih
  dsimp only at hil ⊢
  by_cases hi : i < l.length
  · have ih := ih ⟨i + 1, by omega⟩ (by simp only; omega)
    have hwi : IntKind.i64.wrap ((i : Int) + 1) = (i : Int) + 1 := wrap_i64 (by omega)
    have hlen : (((l.take i).map g).map V.str).length = i := by simp; omega
    have hcx := hc l[i] (List.getElem_mem hi)
    obtain ⟨t, hk⟩ : ∃ m, l[i] = m := ⟨_, rfl⟩
    have ht : ((l.take (i + 1)).map g).map V.str = ((l.take i).map g).map V.str ++ [V.str (g t)] := by rw [List.take_succ_eq_append_getElem hi, hk]; simp
    have hf : ∀ x ∈ ((l.take i).map g).map V.str, (vcells x).length = 1 := fun x hx => by obtain ⟨y, _, rfl⟩ := List.mem_map.1 hx; rfl
    rw [hk] at hcx
    simp only at ih
    rw [ht] at ih
    clear ht
    generalize ((l.take i).map g).map V.str = xs at *
    obtain ⟨op', v', var', col', kids'⟩ := t
    rw [xenc_mk] at hcx
    simp only [s_zero, s_succ, Int.natCast_add, Int.natCast_one, Int.cast_ofNat_Int] at ih
    simp only [vcells] at hf
    have hbb : (i + 1) * 16 ≤ 70368744177664 := by omega
    have hbc : i + 1 ≤ 70368744177664 := by omega
    simp +contextual [i_again, roundEnd, dropT, cleanV, Tryz.f53, Tryz.ti3, Tryz.ti9, Tryz.ti23, Tryz.ti44, Tryz.ti46, Tryz.ti100, hi, hk, xenc_mk, hwi, hlen, hbb, hbc, hf, ih, hcx]
  · have ht : l.take i = l := List.take_of_length_le (by omega)
    obtain rfl : i = l.length := by omega
    rw [ht]
    generalize (l.map g).map V.str = xs at hj
    simp [i_again, roundEnd, dropT, cleanV, Tryz.f53, Tryz.ti3, Tryz.ti9, Tryz.ti23, Tryz.ti44, Tryz.ti46, Tryz.ti100, hi, hj]
set_option maxHeartbeats 1000000 in
theorem ev_list_col (g : Col → List UInt8) (l : List Col) (hl : l.length ≤ 1000) (hc : ∀ x ∈ l, EV 51 [x.enc] [] = some (.ret (.str (g x)), [])) (hg : ∀ x ∈ l, (g x).length ≤ 1000000000) :
    EV 50 [.slice .froz (l.map Col.enc), .func 51 [] []] [] = some (.ret (.str (Lib.join (l.map g) [44, 32])), []) := by
  have hjl : (Lib.join (l.map g) [44, 32]).length ≤ 140737488355328 := by
    have := join_len (l.map g) [44, 32] 1000000000 (fun x hx => by obtain ⟨t, h, rfl⟩ := List.mem_map.1 hx; exact hg t h)
    have h3 : (l.map g).length * (1000000000 + 2) ≤ 1000 * 1000000002 := Nat.mul_le_mul (by simpa using hl) (by omega)
    simp only [List.length_cons, List.length_nil] at this
    omega
  have hj := ev_join (l.map g) [44, 32] (by simp; omega) hjl
  rw [EV_mki rfl Tryz.func50 rfl (by kernel_rfl) rfl]
  simp [Tryz.f50, Tryz.ti3, Tryz.ti4, Tryz.ti9, Tryz.ti22, Tryz.ti94, Tryz.ti100]
  rw [i_loop (ts := [11, 12, 13, 7, 14, 15, 16, 17, 18, 19, 20])]
  rotate_left
  · kernel_rfl
  refine i_at (fun i : {i : Nat // i ≤ l.length} => l.length - i.1) (fun i env => setV (setV env 10 (.int .i64 i.1)) 5 (.slice (.own 0) (((l.take i.1).map g).map V.str))) (fun i => [[.tip i.1]]) (fun i => some (.ret (.str (Lib.join (l.map g) [44, 32])), [])) ⟨0, by omega⟩ (by simp [s_zero, s_succ]) rfl rfl ?_
  intro ⟨i, hil⟩ ih
  dsimp only at hil ⊢
  by_cases hi : i < l.length
  · have ih := ih ⟨i + 1, by omega⟩ (by simp only; omega)
    have hwi : IntKind.i64.wrap ((i : Int) + 1) = (i : Int) + 1 := wrap_i64 (by omega)
    have hlen : (((l.take i).map g).map V.str).length = i := by simp; omega
    have hcx := hc l[i] (List.getElem_mem hi)
    obtain ⟨t, hk⟩ : ∃ m, l[i] = m := ⟨_, rfl⟩
    have ht : ((l.take (i + 1)).map g).map V.str = ((l.take i).map g).map V.str ++ [V.str (g t)] := by rw [List.take_succ_eq_append_getElem hi, hk]; simp
    have hf : ∀ x ∈ ((l.take i).map g).map V.str, (vcells x).length = 1 := fun x hx => by obtain ⟨y, _, rfl⟩ := List.mem_map.1 hx; rfl
    rw [hk] at hcx
    simp only at ih
    rw [ht] at ih
    clear ht
    generalize ((l.take i).map g).map V.str = xs at *
    obtain ⟨n', t', a', b'⟩ := t
    simp only [Col.enc, Col.cells] at hcx
    simp only [s_zero, s_succ, Int.natCast_add, Int.natCast_one, Int.cast_ofNat_Int] at ih
    simp only [vcells] at hf
    have hbb : (i + 1) * 16 ≤ 70368744177664 := by omega
    have hbc : i + 1 ≤ 70368744177664 := by omega
    simp +contextual [i_again, roundEnd, dropT, cleanV, Tryz.f50, Tryz.ti3, Tryz.ti4, Tryz.ti9, Tryz.ti22, Tryz.ti94, Tryz.ti100, hi, hk, Col.enc, Col.cells, hwi, hlen, hbb, hbc, hf, ih, hcx]
  · have ht : l.take i = l := List.take_of_length_le (by omega)
    obtain rfl : i = l.length := by omega
    rw [ht]
    generalize (l.map g).map V.str = xs at hj
    simp [i_again, roundEnd, dropT, cleanV, Tryz.f50, Tryz.ti3, Tryz.ti4, Tryz.ti9, Tryz.ti22, Tryz.ti94, Tryz.ti100, hi, hj]
set_option maxHeartbeats 1000000 in
theorem ev_list_src (g : Src → List UInt8) (l : List Src) (hl : l.length ≤ 1000) (hc : ∀ x ∈ l, EV 91 [x.enc] [] = some (.ret (.str (g x)), [])) (hg : ∀ x ∈ l, (g x).length ≤ 1000000000) :
    EV 90 [.slice .froz (l.map Src.enc), .func 91 [] []] [] = some (.ret (.str (Lib.join (l.map g) [44, 32])), []) := by
  have hjl : (Lib.join (l.map g) [44, 32]).length ≤ 140737488355328 := by
    have := join_len (l.map g) [44, 32] 1000000000 (fun x hx => by obtain ⟨t, h, rfl⟩ := List.mem_map.1 hx; exact hg t h)
    have h3 : (l.map g).length * (1000000000 + 2) ≤ 1000 * 1000000002 := Nat.mul_le_mul (by simpa using hl) (by omega)
    simp only [List.length_cons, List.length_nil] at this
    omega
  have hj := ev_join (l.map g) [44, 32] (by simp; omega) hjl
  rw [EV_mki rfl Tryz.func90 rfl (by kernel_rfl) rfl]
  simp [Tryz.f90, Tryz.ti3, Tryz.ti9, Tryz.ti25, Tryz.ti84, Tryz.ti100]
  rw [i_loop (ts := [11, 12, 13, 7, 14, 15, 16, 17, 18, 19, 20])]
  rotate_left
  · kernel_rfl
  refine i_at (fun i : {i : Nat // i ≤ l.length} => l.length - i.1) (fun i env => setV (setV env 10 (.int .i64 i.1)) 5 (.slice (.own 0) (((l.take i.1).map g).map V.str))) (fun i => [[.tip i.1]]) (fun i => some (.ret (.str (Lib.join (l.map g) [44, 32])), [])) ⟨0, by omega⟩ (by simp [s_zero, s_succ]) rfl rfl ?_
  intro ⟨i, hil⟩ ih
  dsimp only at hil ⊢
  by_cases hi : i < l.length
  · have ih := ih ⟨i + 1, by omega⟩ (by simp only; omega)
    have hwi : IntKind.i64.wrap ((i : Int) + 1) = (i : Int) + 1 := wrap_i64 (by omega)
    have hlen : (((l.take i).map g).map V.str).length = i := by simp; omega
    have hcx := hc l[i] (List.getElem_mem hi)
    obtain ⟨t, hk⟩ : ∃ m, l[i] = m := ⟨_, rfl⟩
    have ht : ((l.take (i + 1)).map g).map V.str = ((l.take i).map g).map V.str ++ [V.str (g t)] := by rw [List.take_succ_eq_append_getElem hi, hk]; simp
    have hf : ∀ x ∈ ((l.take i).map g).map V.str, (vcells x).length = 1 := fun x hx => by obtain ⟨y, _, rfl⟩ := List.mem_map.1 hx; rfl
    rw [hk] at hcx
    simp only at ih
    rw [ht] at ih
    clear ht
    generalize ((l.take i).map g).map V.str = xs at *
    obtain ⟨k', t', v'⟩ := t
    simp only [Src.enc, Src.cells] at hcx
    simp only [s_zero, s_succ, Int.natCast_add, Int.natCast_one, Int.cast_ofNat_Int] at ih
    simp only [vcells] at hf
    have hbb : (i + 1) * 16 ≤ 70368744177664 := by omega
    have hbc : i + 1 ≤ 70368744177664 := by omega
    simp +contextual [i_again, roundEnd, dropT, cleanV, Tryz.f90, Tryz.ti3, Tryz.ti9, Tryz.ti25, Tryz.ti84, Tryz.ti100, hi, hk, Src.enc, Src.cells, hwi, hlen, hbb, hbc, hf, ih, hcx]
  · have ht : l.take i = l := List.take_of_length_le (by omega)
    obtain rfl : i = l.length := by omega
    rw [ht]
    generalize (l.map g).map V.str = xs at hj
    simp [i_again, roundEnd, dropT, cleanV, Tryz.f90, Tryz.ti3, Tryz.ti9, Tryz.ti25, Tryz.ti84, Tryz.ti100, hi, hj]
set_option maxHeartbeats 1000000 in
theorem ev_list_set (g : SetE → List UInt8) (l : List SetE) (hl : l.length ≤ 1000) (hc : ∀ x ∈ l, EV 57 [x.enc] [] = some (.ret (.str (g x)), [])) (hg : ∀ x ∈ l, (g x).length ≤ 1000000000) :
    EV 56 [.slice .froz (l.map SetE.enc), .func 57 [] []] [] = some (.ret (.str (Lib.join (l.map g) [44, 32])), []) := by
  have hjl : (Lib.join (l.map g) [44, 32]).length ≤ 140737488355328 := by
    have := join_len (l.map g) [44, 32] 1000000000 (fun x hx => by obtain ⟨t, h, rfl⟩ := List.mem_map.1 hx; exact hg t h)
    have h3 : (l.map g).length * (1000000000 + 2) ≤ 1000 * 1000000002 := Nat.mul_le_mul (by simpa using hl) (by omega)
    simp only [List.length_cons, List.length_nil] at this
    omega
  have hj := ev_join (l.map g) [44, 32] (by simp; omega) hjl
  rw [EV_mki rfl Tryz.func56 rfl (by kernel_rfl) rfl]
  simp [Tryz.f56, Tryz.ti3, Tryz.ti9, Tryz.ti23, Tryz.ti24, Tryz.ti44, Tryz.ti46, Tryz.ti80, Tryz.ti100]
  rw [i_loop (ts := [11, 12, 13, 7, 14, 15, 16, 17, 18, 19, 20])]
  rotate_left
  · kernel_rfl
  refine i_at (fun i : {i : Nat // i ≤ l.length} => l.length - i.1) (fun i env => setV (setV env 10 (.int .i64 i.1)) 5 (.slice (.own 0) (((l.take i.1).map g).map V.str))) (fun i => [[.tip i.1]]) (fun i => some (.ret (.str (Lib.join (l.map g) [44, 32])), [])) ⟨0, by omega⟩ (by simp [s_zero, s_succ]) rfl rfl ?_
  intro ⟨i, hil⟩ ih
  dsimp only at hil ⊢
  by_cases hi : i < l.length
  · have ih := ih ⟨i + 1, by omega⟩ (by simp only; omega)
    have hwi : IntKind.i64.wrap ((i : Int) + 1) = (i : Int) + 1 := wrap_i64 (by omega)
    have hlen : (((l.take i).map g).map V.str).length = i := by simp; omega
    have hcx := hc l[i] (List.getElem_mem hi)
    obtain ⟨t, hk⟩ : ∃ m, l[i] = m := ⟨_, rfl⟩
    have ht : ((l.take (i + 1)).map g).map V.str = ((l.take i).map g).map V.str ++ [V.str (g t)] := by rw [List.take_succ_eq_append_getElem hi, hk]; simp
    have hf : ∀ x ∈ ((l.take i).map g).map V.str, (vcells x).length = 1 := fun x hx => by obtain ⟨y, _, rfl⟩ := List.mem_map.1 hx; rfl
    rw [hk] at hcx
    simp only at ih
    rw [ht] at ih
    clear ht
    generalize ((l.take i).map g).map V.str = xs at *
    obtain ⟨c', ⟨op', v', var', col', kids'⟩⟩ := t
    simp only [SetE.enc, xenc_mk, vcells] at hcx
    simp only [s_zero, s_succ, Int.natCast_add, Int.natCast_one, Int.cast_ofNat_Int] at ih
    simp only [vcells] at hf
    have hbb : (i + 1) * 16 ≤ 70368744177664 := by omega
    have hbc : i + 1 ≤ 70368744177664 := by omega
    simp +contextual [i_again, roundEnd, dropT, cleanV, Tryz.f56, Tryz.ti3, Tryz.ti9, Tryz.ti23, Tryz.ti24, Tryz.ti44, Tryz.ti46, Tryz.ti80, Tryz.ti100, hi, hk, SetE.enc, xenc_mk, hwi, hlen, hbb, hbc, hf, ih, hcx]
  · have ht : l.take i = l := List.take_of_length_le (by omega)
    obtain rfl : i = l.length := by omega
    rw [ht]
    generalize (l.map g).map V.str = xs at hj
    simp [i_again, roundEnd, dropT, cleanV, Tryz.f56, Tryz.ti3, Tryz.ti9, Tryz.ti23, Tryz.ti24, Tryz.ti44, Tryz.ti46, Tryz.ti80, Tryz.ti100, hi, hj]
end Go.Abs

namespace Go.Abs
set_option linter.unusedSimpArgs false
set_option linter.unusedVariables false
open Go Go.Proofs
attribute [local simp] i_nil i_blk i_skip i_ret i_exit i_seq i_block i_cond i_region' i_ops_nil i_ops i_drawn' d_in a_nil a_cons alt1 h_nil h_one h_two z_nil z_cons z_cells zeqL zeq q_alloc q_some isAlO nxtN i_drh d_hi i_drw_nil i_drw u_nil u_code u_ops u_drw u_lp u_again u_exit u_ret u_panic c_bool o_some o_val o_panic d_some d_val d_panic w_none w_fast wantG q_nil q_zero q_succ t_zero t_succ g_zero g_succ s_zero s_succ s_some s_none v_tmp v_const v_func f_quiet gc_none gc_pure wrap_i64 p_move p_assign p_pick p_alloc p_box p_build p_buildSlice p_load p_store p_nilCheck p_binOp n_tmp n_int n_bool n_str n_ptr n_fun n_iface nilCmp p_unOp p_convert p_makeSlice p_makeInterface p_makeFunc p_slice p_fieldAddr p_field p_indexAddr p_index p_extract p_callv p_callb p_panic quiet_val new_val e_assign e_call e_load e_store e_alloc e_box e_move e_pick e_build e_buildSlice e_nilCheck e_binOp e_unOp e_convert e_makeSlice e_makeInterface e_makeFunc e_slice e_fieldAddr e_field e_indexAddr e_index e_extract e_panic callD fpRead adoptZ fulls adopt adoptL ofValue ofScalar binOpV unOpV intBin strBin eqRes veq veqF eqDepth val? finish resL r_tmp r_cell normL normTop tipIs refsL refs ownRefs single frz frzL ren renL renOwn callOp doCall backR writeBack builtinV loadV storeV storeW iceT cellsAt takeV D.isAgg overlay vcells cellOk fieldAddrV indexAddrV fieldV partV indexV buildV fillV buildSliceV litElems appendV appElems elemOk convertV convV winStr makeSliceV sliceV natOf
attribute [local simp ↓] brB_true brB_false brB_dec brB_not brB_and brB_or brB_beq brB_bne

def rightsE (l : List Xp) (least most : Int) : Bool := l.all (rightE 20) && (decide (least ≤ (l.length : Int)) && decide ((l.length : Int) ≤ most))
def rightSrc (x : Src) : Bool := (decide (x.var = []) || nameS x.var) && (if x.kind = 0 then nameS x.table else decide (1 ≤ x.kind) && (decide (x.kind ≤ 4) && decide (x.table = [])))
def rightFromS (src : List Src) (wher : List Xp) (least : Int) : Bool := src.all rightSrc && (decide (least ≤ (src.length : Int)) && (decide ((src.length : Int) ≤ 3) && rightsE wher 0 (if (1 : Int) < src.length then 1 else src.length)))
def rightSetsS (l : List SetE) : Bool := l.all (fun x => nameS x.col && rightE 20 x.e) && (decide (1 ≤ (l.length : Int)) && decide ((l.length : Int) ≤ 6))

theorem ev_rightall (l : List Xp) (hl : l.length ≤ 1048576) (ho : ∀ m ∈ l, m.ok) (least most : Int) : EV 43 [.slice .froz (l.map Xp.enc), .int .i64 least, .int .i64 most] [] = some (.ret (.bool (rightsE l least most)), []) := by
  rw [EV_mki rfl Tryz.func43 rfl (by kernel_rfl) rfl]
  simp [Tryz.f43, Tryz.ti3, Tryz.ti9, Tryz.ti23, Tryz.ti44, Tryz.ti46]
  rw [i_loop (ts := [12, 13, 14, 8, 15, 16, 17, 18])]
  rotate_left
  · kernel_rfl
  refine i_at (fun i : {i : Nat // i ≤ l.length} => l.length - i.1) (fun i env => setV env 11 (.int .i64 i.1)) (fun i => _) (fun i => some (.ret (.bool ((l.drop i.1).all (rightE 20) && (decide (least ≤ (l.length : Int)) && decide ((l.length : Int) ≤ most)))), [])) ⟨0, by omega⟩ (by simp [s_zero, s_succ]) rfl (by simp [rightsE]) ?_
  intro ⟨i, hil⟩ ih
  dsimp only at hil ⊢
  by_cases hi : i < l.length
  · have ih := ih ⟨i + 1, by omega⟩ (by simp only; omega)
    have hwi : IntKind.i64.wrap ((i : Int) + 1) = (i : Int) + 1 := wrap_i64 (by omega)
    have hc := ev_rightexpr l[i] (ho _ (List.getElem_mem hi))
    obtain ⟨t, hk⟩ : ∃ m, l[i] = m := ⟨_, rfl⟩
    rw [List.drop_eq_getElem_cons hi, List.all_cons, hk]
    rw [hk] at hc
    obtain ⟨op', v', var', col', kids'⟩ := t
    rw [xenc_mk] at hc
    simp only [s_zero, s_succ, Int.natCast_add, Int.natCast_one, Int.cast_ofNat_Int] at ih
    cases hd : rightE 20 (.mk op' v' var' col' kids') <;> rw [hd] at hc <;> simp [i_again, roundEnd, dropT, cleanV, Tryz.f43, Tryz.ti3, Tryz.ti9, Tryz.ti23, Tryz.ti44, Tryz.ti46, hi, hk, xenc_mk, hwi, ih, hc]
  · rw [List.drop_of_length_le (by omega)]
    by_cases h1 : least ≤ (l.length : Int) <;> by_cases h2 : (l.length : Int) ≤ most <;> simp [i_again, roundEnd, dropT, cleanV, Tryz.f43, Tryz.ti3, Tryz.ti9, Tryz.ti23, Tryz.ti44, Tryz.ti46, hi, h1, h2]

theorem ev_rightsource (x : Src) (h : x.ok) : EV 86 [x.enc] [] = some (.ret (.bool (rightSrc x)), []) := by
  obtain ⟨k, t, v⟩ := x
  have hn1 := ev_name v (by have := h.2.2; simp only at this; omega)
  have hn2 := ev_name t (by have := h.2.1; simp only at this; omega)
  rw [EV_mki rfl Tryz.func86 rfl (by kernel_rfl) rfl]
  simp only [Src.enc, Src.cells, rightSrc]
  by_cases hv : v = []
  · subst hv
    by_cases hk : k = 0
    · subst hk; simp [Tryz.f86, Tryz.ti3, Tryz.ti9, Tryz.ti84, hn2]
    · by_cases h1 : 1 ≤ k
      · by_cases h4 : k ≤ 4 <;> simp [Tryz.f86, Tryz.ti3, Tryz.ti9, Tryz.ti84, hk, h1, h4]
      · simp [Tryz.f86, Tryz.ti3, Tryz.ti9, Tryz.ti84, hk, h1]
  · cases hb : nameS v <;> rw [hb] at hn1
    · simp [Tryz.f86, Tryz.ti3, Tryz.ti9, Tryz.ti84, hn1, hv]
    · by_cases hk : k = 0
      · subst hk; simp [Tryz.f86, Tryz.ti3, Tryz.ti9, Tryz.ti84, hn1, hn2, hv]
      · by_cases h1 : 1 ≤ k
        · by_cases h4 : k ≤ 4 <;> simp [Tryz.f86, Tryz.ti3, Tryz.ti9, Tryz.ti84, hn1, hv, hk, h1, h4]
        · simp [Tryz.f86, Tryz.ti3, Tryz.ti9, Tryz.ti84, hn1, hv, hk, h1]

theorem ev_rightsets (l : List SetE) (hl : l.length ≤ 1048576) (ho : ∀ m ∈ l, m.ok) : EV 45 [.slice .froz (l.map SetE.enc)] [] = some (.ret (.bool (rightSetsS l)), []) := by
  rw [EV_mki rfl Tryz.func45 rfl (by kernel_rfl) rfl]
  simp [Tryz.f45, Tryz.ti3, Tryz.ti9, Tryz.ti23, Tryz.ti24, Tryz.ti44, Tryz.ti46, Tryz.ti80]
  rw [i_loop (ts := [8, 9, 10, 4, 11, 12, 13, 14, 15, 16, 17, 18, 19, 20, 21])]
  rotate_left
  · kernel_rfl
  refine i_at (fun i : {i : Nat // i ≤ l.length} => l.length - i.1) (fun i env => setV env 7 (.int .i64 i.1)) (fun i => _) (fun i => some (.ret (.bool ((l.drop i.1).all (fun x => nameS x.col && rightE 20 x.e) && (decide (1 ≤ (l.length : Int)) && decide ((l.length : Int) ≤ 6)))), [])) ⟨0, by omega⟩ (by simp [s_zero, s_succ]) rfl (by simp [rightSetsS]) ?_
  intro ⟨i, hil⟩ ih
  dsimp only at hil ⊢
  by_cases hi : i < l.length
  · have ih := ih ⟨i + 1, by omega⟩ (by simp only; omega)
    have hwi : IntKind.i64.wrap ((i : Int) + 1) = (i : Int) + 1 := wrap_i64 (by omega)
    have hot := ho _ (List.getElem_mem hi)
    obtain ⟨t, hk⟩ : ∃ m, l[i] = m := ⟨_, rfl⟩
    rw [hk] at hot
    rw [List.drop_eq_getElem_cons hi, List.all_cons, hk]
    obtain ⟨c, e⟩ := t
    have hn := ev_name c (by have := hot.1; simp only at this; omega)
    have hc := ev_rightexpr e hot.2
    obtain ⟨op', v', var', col', kids'⟩ := e
    rw [xenc_mk] at hc
    simp only [s_zero, s_succ, Int.natCast_add, Int.natCast_one, Int.cast_ofNat_Int] at ih
    cases hb : nameS c <;> rw [hb] at hn
    · simp [i_again, roundEnd, dropT, cleanV, Tryz.f45, Tryz.ti3, Tryz.ti9, Tryz.ti23, Tryz.ti24, Tryz.ti44, Tryz.ti46, Tryz.ti80, hi, hk, SetE.enc, xenc_mk, hn, hb]
    · cases hd : rightE 20 (.mk op' v' var' col' kids') <;> rw [hd] at hc <;> simp [i_again, roundEnd, dropT, cleanV, Tryz.f45, Tryz.ti3, Tryz.ti9, Tryz.ti23, Tryz.ti24, Tryz.ti44, Tryz.ti46, Tryz.ti80, hi, hk, SetE.enc, xenc_mk, hwi, ih, hc, hn, hb, hd]
  · rw [List.drop_of_length_le (by omega)]
    have hcast : ((1 : Int) ≤ (l.length : Int)) ↔ (1 ≤ l.length) := by omega
    by_cases h1 : (1 : Int) ≤ (l.length : Int) <;> by_cases h2 : (l.length : Int) ≤ 6 <;> simp [i_again, roundEnd, dropT, cleanV, Tryz.f45, Tryz.ti3, Tryz.ti9, Tryz.ti23, Tryz.ti24, Tryz.ti44, Tryz.ti46, Tryz.ti80, hi, h1, h2]

theorem ev_rightfrom (b : StB) (acts : List Stm) (h : b.ok) (least : Int) : EV 44 [(Stm.mk b acts).enc, .int .i64 least] [] = some (.ret (.bool (rightFromS b.src b.wher least)), []) := by
  have hw := fun m => ev_rightall b.wher h.wher.1 h.wher.2 0 m
  have hso := h.src.2
  have hsl := h.src.1
  rw [EV_mki rfl Tryz.func44 rfl (by kernel_rfl) rfl, senc_mk]
  obtain ⟨kind, name, table, col, cols, values, items, wher, sets, l, prio, event, deferred, rolls⟩ := b
  dsimp only at hw hso hsl ⊢
  simp [Tryz.f44, Tryz.ti3, Tryz.ti4, Tryz.ti9, Tryz.ti22, Tryz.ti23, Tryz.ti24, Tryz.ti25, Tryz.ti26, Tryz.ti28, Tryz.ti44, Tryz.ti46, Tryz.ti80, Tryz.ti84, Tryz.ti94]
  rw [i_loop (ts := [11, 12, 13, 6, 14, 15, 16, 17])]
  rotate_left
  · kernel_rfl
  refine i_at (fun i : {i : Nat // i ≤ l.length} => l.length - i.1) (fun i env => setV env 10 (.int .i64 i.1)) (fun i => _) (fun i => some (.ret (.bool ((l.drop i.1).all rightSrc && (decide (least ≤ (l.length : Int)) && (decide ((l.length : Int) ≤ 3) && rightsE wher 0 (if (1 : Int) < l.length then 1 else l.length))))), [])) ⟨0, by omega⟩ (by simp [s_zero, s_succ]) rfl (by simp [rightFromS]) ?_
  intro ⟨i, hil⟩ ih
  dsimp only at hil ⊢
  by_cases hi : i < l.length
  · have ih := ih ⟨i + 1, by omega⟩ (by simp only; omega)
    have hwi : IntKind.i64.wrap ((i : Int) + 1) = (i : Int) + 1 := wrap_i64 (by omega)
    have hc := ev_rightsource l[i] (hso _ (List.getElem_mem hi))
    obtain ⟨t, hk⟩ : ∃ m, l[i] = m := ⟨_, rfl⟩
    rw [List.drop_eq_getElem_cons hi, List.all_cons, hk]
    rw [hk] at hc
    obtain ⟨sk, st, sv⟩ := t
    simp only [Src.enc, Src.cells] at hc
    simp only [s_zero, s_succ, Int.natCast_add, Int.natCast_one, Int.cast_ofNat_Int] at ih
    cases hd : rightSrc ⟨sk, st, sv⟩ <;> rw [hd] at hc <;> simp [i_again, roundEnd, dropT, cleanV, Tryz.f44, Tryz.ti3, Tryz.ti4, Tryz.ti9, Tryz.ti22, Tryz.ti23, Tryz.ti24, Tryz.ti25, Tryz.ti26, Tryz.ti28, Tryz.ti44, Tryz.ti46, Tryz.ti80, Tryz.ti84, Tryz.ti94, hi, hk, Src.enc, Src.cells, hwi, ih, hc]
  · rw [List.drop_of_length_le (by omega)]
    have hw' := hw (if (1 : Int) < l.length then 1 else l.length)
    by_cases h1 : least ≤ (l.length : Int)
    · by_cases h2 : (l.length : Int) ≤ 3
      · by_cases h3 : (1 : Int) < l.length
        · rw [if_pos h3] at hw' ⊢
          have h3' : ¬ (l.length : Int) ≤ 1 := by omega
          simp [i_again, roundEnd, dropT, cleanV, Tryz.f44, Tryz.ti3, Tryz.ti4, Tryz.ti9, Tryz.ti22, Tryz.ti23, Tryz.ti24, Tryz.ti25, Tryz.ti26, Tryz.ti28, Tryz.ti44, Tryz.ti46, Tryz.ti80, Tryz.ti84, Tryz.ti94, hi, h1, h2, h3, hw', maxInts, minInts, h3']
        · rw [if_neg h3] at hw' ⊢
          simp [i_again, roundEnd, dropT, cleanV, Tryz.f44, Tryz.ti3, Tryz.ti4, Tryz.ti9, Tryz.ti22, Tryz.ti23, Tryz.ti24, Tryz.ti25, Tryz.ti26, Tryz.ti28, Tryz.ti44, Tryz.ti46, Tryz.ti80, Tryz.ti84, Tryz.ti94, hi, h1, h2, h3, hw', maxInts, minInts]
      · simp [i_again, roundEnd, dropT, cleanV, Tryz.f44, Tryz.ti3, Tryz.ti4, Tryz.ti9, Tryz.ti22, Tryz.ti23, Tryz.ti24, Tryz.ti25, Tryz.ti26, Tryz.ti28, Tryz.ti44, Tryz.ti46, Tryz.ti80, Tryz.ti84, Tryz.ti94, hi, h1, h2]
    · simp [i_again, roundEnd, dropT, cleanV, Tryz.f44, Tryz.ti3, Tryz.ti4, Tryz.ti9, Tryz.ti22, Tryz.ti23, Tryz.ti24, Tryz.ti25, Tryz.ti26, Tryz.ti28, Tryz.ti44, Tryz.ti46, Tryz.ti80, Tryz.ti84, Tryz.ti94, hi, h1]
end Go.Abs

namespace Go.Abs
set_option linter.unusedSimpArgs false
set_option linter.unusedVariables false
open Go Go.Proofs
attribute [local simp] i_nil i_blk i_skip i_ret i_exit i_seq i_block i_cond i_region' i_ops_nil i_ops i_drawn' d_in a_nil a_cons alt1 h_nil h_one h_two z_nil z_cons z_cells zeqL zeq q_alloc q_some isAlO nxtN i_drh d_hi i_drw_nil i_drw u_nil u_code u_ops u_drw u_lp u_again u_exit u_ret u_panic c_bool o_some o_val o_panic d_some d_val d_panic w_none w_fast wantG q_nil q_zero q_succ t_zero t_succ g_zero g_succ s_zero s_succ s_some s_none v_tmp v_const v_func f_quiet gc_none gc_pure wrap_i64 p_move p_assign p_pick p_alloc p_box p_build p_buildSlice p_load p_store p_nilCheck p_binOp n_tmp n_int n_bool n_str n_ptr n_fun n_iface nilCmp p_unOp p_convert p_makeSlice p_makeInterface p_makeFunc p_slice p_fieldAddr p_field p_indexAddr p_index p_extract p_callv p_callb p_panic quiet_val new_val e_assign e_call e_load e_store e_alloc e_box e_move e_pick e_build e_buildSlice e_nilCheck e_binOp e_unOp e_convert e_makeSlice e_makeInterface e_makeFunc e_slice e_fieldAddr e_field e_indexAddr e_index e_extract e_panic callD fpRead adoptZ fulls adopt adoptL ofValue ofScalar binOpV unOpV intBin strBin eqRes veq veqF eqDepth val? finish resL r_tmp r_cell normL normTop tipIs refsL refs ownRefs single frz frzL ren renL renOwn callOp doCall backR writeBack builtinV loadV storeV storeW iceT cellsAt takeV D.isAgg overlay vcells cellOk fieldAddrV indexAddrV fieldV partV indexV buildV fillV buildSliceV litElems appendV appElems elemOk convertV convV winStr makeSliceV sliceV natOf
attribute [local simp ↓] brB_true brB_false brB_dec brB_not brB_and brB_or brB_beq brB_bne

theorem ev_stop (c at_ : Int) : EV 127 [.int .i64 c, .int .i64 at_] [] = if c = 0 then some (.ret (.tup []), []) else some (.panic (.iface 58 (.agg [.int .i64 c, .int .i64 at_])), []) := by
  rw [EV_mki rfl Tryz.func127 rfl (by kernel_rfl) rfl]
  simp +contextual [Tryz.f127, Tryz.ti3, Tryz.ti56, Tryz.ti58]
  simp only [brP, dite_eq_ite]
end Go.Abs

namespace Go.Abs
set_option linter.unusedSimpArgs false
set_option linter.unusedVariables false
open Go Go.Proofs
attribute [local simp] i_nil i_blk i_skip i_ret i_exit i_seq i_block i_cond i_region' i_ops_nil i_ops i_drawn' d_in a_nil a_cons alt1 h_nil h_one h_two z_nil z_cons z_cells zeqL zeq q_alloc q_some isAlO nxtN i_drh d_hi i_drw_nil i_drw u_nil u_code u_ops u_drw u_lp u_again u_exit u_ret u_panic c_bool o_some o_val o_panic d_some d_val d_panic w_none w_fast wantG q_nil q_zero q_succ t_zero t_succ g_zero g_succ s_zero s_succ s_some s_none v_tmp v_const v_func f_quiet gc_none gc_pure wrap_i64 p_move p_assign p_pick p_alloc p_box p_build p_buildSlice p_load p_store p_nilCheck p_binOp n_tmp n_int n_bool n_str n_ptr n_fun n_iface nilCmp p_unOp p_convert p_makeSlice p_makeInterface p_makeFunc p_slice p_fieldAddr p_field p_indexAddr p_index p_extract p_callv p_callb p_panic quiet_val new_val e_assign e_call e_load e_store e_alloc e_box e_move e_pick e_build e_buildSlice e_nilCheck e_binOp e_unOp e_convert e_makeSlice e_makeInterface e_makeFunc e_slice e_fieldAddr e_field e_indexAddr e_index e_extract e_panic callD fpRead adoptZ fulls adopt adoptL ofValue ofScalar binOpV unOpV intBin strBin eqRes veq veqF eqDepth val? finish resL r_tmp r_cell normL normTop tipIs refsL refs ownRefs single frz frzL ren renL renOwn callOp doCall backR writeBack builtinV loadV storeV storeW iceT cellsAt takeV D.isAgg overlay vcells cellOk fieldAddrV indexAddrV fieldV partV indexV buildV fillV buildSliceV litElems appendV appElems elemOk convertV convV winStr makeSliceV sliceV natOf
attribute [local simp ↓] brB_true brB_false brB_dec brB_not brB_and brB_or brB_beq brB_bne

theorem ev_check (c : Int) : EV 99 [.int .i64 c] [] = if c = 0 then some (.ret (.tup []), []) else some (.panic (.iface 58 (.agg [.int .i64 c, .int .i64 0])), []) := by
  rw [EV_mki rfl Tryz.func99 rfl (by kernel_rfl) rfl]
  by_cases h : c = 0 <;> simp +contextual [Tryz.f99, ev_stop, h]
end Go.Abs

namespace Go.Abs
set_option linter.unusedSimpArgs false
set_option linter.unusedVariables false
open Go Go.Proofs

theorem ev_grab (g : FuncId) (first cap : List V) (st : St) : EV 75 [.func g first cap] st = primRun EV (.grab 58) [.func g first cap] st := by
  unfold EV
  rw [ev_eq]
  rfl
end Go.Abs

