/- Whether two statements are alike: the reference's answer. -/
import Derived.Test.YtpmeklllgnnffaaGreatDoorP28
import Derived.Test.YtpmeklllgnnffaaGreatDoorP15
set_option linter.unusedSimpArgs false
set_option linter.unusedVariables false

namespace Go.Abs
set_option linter.unusedSimpArgs false
set_option linter.unusedVariables false
open Go Go.Proofs
attribute [local simp] i_nil i_blk i_skip i_ret i_exit i_seq i_block i_cond i_region' i_ops_nil i_ops i_drawn' k_none k_0 k_1 k_2 k_3 k_4 k_5 d_in a_nil a_cons alt1 h_nil h_one h_two z_nil z_cons z_cells zeqL zeq q_alloc q_some nxtN i_drh d_hi i_drw_nil i_drw u_nil u_code u_ops u_drw u_lp u_again u_exit u_ret u_panic c_bool o_some o_val o_panic d_some d_val d_panic w_none w_fast wantG q_nil q_zero q_succ t_zero t_succ g_zero g_succ s_zero s_succ s_some s_none v_tmp v_const v_func f_quiet gc_none gc_pure wrap_i64 p_move p_assign p_pick p_alloc p_box p_build p_buildSlice p_load p_store p_nilCheck p_binOp n_tmp n_int n_bool n_str n_ptr n_fun n_iface nilCmp p_unOp p_convert p_makeSlice p_makeInterface p_makeFunc p_slice p_fieldAddr p_field p_indexAddr p_index p_extract p_callv p_callb p_panic quiet_val new_val e_assign e_call e_load e_store e_alloc e_box e_move e_pick e_build e_buildSlice e_nilCheck e_binOp e_unOp e_convert e_makeSlice e_makeInterface e_makeFunc e_slice e_fieldAddr e_field e_indexAddr e_index e_extract e_panic callD fpRead adoptZ fulls adopt adoptL ofValue ofScalar binOpV unOpV intBin strBin eqRes veq veqF eqDepth val? finish resL r_tmp r_cell normL normTop tipIs refsL refs ownRefs single frz frzL ren renL renOwn callOp doCall backR writeBack builtinV loadV storeV storeW iceT cellsAt takeV D.isAgg overlay vcells cellOk fieldAddrV indexAddrV fieldV partV indexV buildV fillV buildSliceV litElems appendV appElems elemOk convertV convV winStr makeSliceV sliceV natOf
attribute [local simp ↓] brB_true brB_false brB_dec brB_not brB_and brB_or brB_beq brB_bne
def sameSets : List SetE → List SetE → Bool
 | [], [] => true
 | a :: l, b :: r => (decide (a.col = b.col) && sameE a.e b.e) && sameSets l r
 | [], _ :: _ => false
 | _ :: _, [] => false
theorem sameSets_iff : ∀ l r : List SetE, sameSets l r = true ↔ l = r
 | [], [] => by simp [sameSets]
 | ⟨a, e⟩ :: l, ⟨b, f⟩ :: r => by simp [sameSets, sameE_iff, sameSets_iff l r]
 | [], _ :: _ => by simp [sameSets]
 | _ :: _, [] => by simp [sameSets]
def sameK3 (b c : StB) : Bool := sameEs b.values c.values && (sameEs b.items c.items && sameEs b.wher c.wher)
mutual
def sameS : Stm → Stm → Bool
 | .mk b acts, .mk c bcts => (decide (b.kind = c.kind) && (decide (b.name = c.name) && (decide (b.table = c.table) && (decide (b.col = c.col) && (decide (b.prio = c.prio) && (decide (b.event = c.event) && (decide (b.deferred = c.deferred) && decide (b.rolls = c.rolls)))))))) &&
  ((decide (b.cols.length = c.cols.length) && (decide (b.sets.length = c.sets.length) && (decide (b.src.length = c.src.length) && decide (acts.length = bcts.length)))) &&
  (decide (b.cols = c.cols) && (sameSets b.sets c.sets && (decide (b.src = c.src) && (sameSs acts bcts && sameK3 b c)))))
def sameSs : List Stm → List Stm → Bool
 | [], [] => true
 | a :: l, b :: r => sameS a b && sameSs l r
 | [], _ :: _ => false
 | _ :: _, [] => false
end
mutual
theorem sameS_iff : ∀ s t : Stm, sameS s t = true ↔ s = t
 | .mk b acts, .mk c bcts => by
  obtain ⟨kind, name, table, col, cols, values, items, wher, sets, src, prio, event, deferred, rolls⟩ := b
  obtain ⟨kind', name', table', col', cols', values', items', wher', sets', src', prio', event', deferred', rolls'⟩ := c
  simp only [sameS, sameK3, Bool.and_eq_true, decide_eq_true_eq, sameSs_iff acts bcts, sameEs_iff, sameSets_iff, Stm.mk.injEq, StB.mk.injEq]
  constructor
  ·rintro ⟨⟨rfl, rfl, rfl, rfl, rfl, rfl, rfl, rfl⟩, ⟨_, _, _, _⟩, rfl, rfl, rfl, rfl, rfl, rfl, rfl⟩
   simp
  ·rintro ⟨⟨rfl, rfl, rfl, rfl, rfl, rfl, rfl, rfl, rfl, rfl, rfl, rfl, rfl, rfl⟩, rfl⟩
   simp
theorem sameSs_iff : ∀ l r : List Stm, sameSs l r = true ↔ l = r
 | [], [] => by simp [sameSs]
 | a :: l, b :: r => by simp only [sameSs, Bool.and_eq_true, sameS_iff a b, sameSs_iff l r, List.cons.injEq]
 | [], _ :: _ => by simp [sameSs]
 | _ :: _, [] => by simp [sameSs]
end
set_option maxRecDepth 100000 in
set_option maxHeartbeats 8000000 in
theorem ev_same_one (b c : StB) (acts bcts : List Stm) (hb : b.ok) (hc : c.ok) (ha : acts.length ≤ 1048576) (hba : bcts.length ≤ 1048576)
  (ihk : ∀ m ∈ acts, ∀ k ∈ bcts, EV 19 [m.enc, k.enc] [] = some (.ret (.bool (sameS m k)), [])) :
  EV 19 [(Stm.mk b acts).enc, (Stm.mk c bcts).enc] [] = some (.ret (.bool (sameS (.mk b acts) (.mk c bcts))), []) := by
 have v1 := ev_samel hb.values hc.values
 have v2 := ev_samel hb.items hc.items
 have v3 := ev_samel hb.wher hc.wher
 have hcl := hb.cols.1
 have hsl := hb.sets.1
 have hrl := hb.src.1
 have hso := hb.sets.2
 have hso' := hc.sets.2
 clear hb hc
 rw [EV_mki rfl Tryz.func19 rfl (by kernel_rfl) rfl, senc_mk, senc_mk]
 obtain ⟨kind, name, table, col, cols, values, items, wher, sets, src, prio, event, deferred, rolls⟩ := b
 obtain ⟨kind', name', table', col', cols', values', items', wher', sets', src', prio', event', deferred', rolls'⟩ := c
 simp only [sameS]
 dsimp only at v1 v2 v3 hcl hsl hrl hso hso'
 by_cases e1 : kind = kind'
 rotate_left
 ·simp [Tryz.f19, Tryz.ti3, Tryz.ti4, Tryz.ti9, Tryz.ti22, Tryz.ti31, Tryz.ti32, Tryz.ti33, Tryz.ti34, Tryz.ti36, Tryz.ti44, Tryz.ti50, Tryz.ti82, Tryz.ti85, Tryz.ti94, e1] <;> first | (refine panQ_of ?_; decide +kernel) | (change _ = true; decide +kernel) | kernel_rfl | (refine ⟨?_, ?_⟩ <;> first | (change _ = true; decide +kernel) | kernel_rfl)
 by_cases e2 : name = name'
 rotate_left
 ·simp [Tryz.f19, Tryz.ti3, Tryz.ti4, Tryz.ti9, Tryz.ti22, Tryz.ti31, Tryz.ti32, Tryz.ti33, Tryz.ti34, Tryz.ti36, Tryz.ti44, Tryz.ti50, Tryz.ti82, Tryz.ti85, Tryz.ti94, e1, e2] <;> first | (refine panQ_of ?_; decide +kernel) | (change _ = true; decide +kernel) | kernel_rfl | (refine ⟨?_, ?_⟩ <;> first | (change _ = true; decide +kernel) | kernel_rfl)
 by_cases e3 : table = table'
 rotate_left
 ·simp [Tryz.f19, Tryz.ti3, Tryz.ti4, Tryz.ti9, Tryz.ti22, Tryz.ti31, Tryz.ti32, Tryz.ti33, Tryz.ti34, Tryz.ti36, Tryz.ti44, Tryz.ti50, Tryz.ti82, Tryz.ti85, Tryz.ti94, e1, e2, e3] <;> first | (refine panQ_of ?_; decide +kernel) | (change _ = true; decide +kernel) | kernel_rfl | (refine ⟨?_, ?_⟩ <;> first | (change _ = true; decide +kernel) | kernel_rfl)
 by_cases e4 : col = col'
 rotate_left
 ·simp [Tryz.f19, Tryz.ti3, Tryz.ti4, Tryz.ti9, Tryz.ti22, Tryz.ti31, Tryz.ti32, Tryz.ti33, Tryz.ti34, Tryz.ti36, Tryz.ti44, Tryz.ti50, Tryz.ti82, Tryz.ti85, Tryz.ti94, e1, e2, e3, e4] <;> first | (refine panQ_of ?_; decide +kernel) | (change _ = true; decide +kernel) | kernel_rfl | (refine ⟨?_, ?_⟩ <;> first | (change _ = true; decide +kernel) | kernel_rfl)
 by_cases e5 : prio = prio'
 rotate_left
 ·simp [Tryz.f19, Tryz.ti3, Tryz.ti4, Tryz.ti9, Tryz.ti22, Tryz.ti31, Tryz.ti32, Tryz.ti33, Tryz.ti34, Tryz.ti36, Tryz.ti44, Tryz.ti50, Tryz.ti82, Tryz.ti85, Tryz.ti94, e1, e2, e3, e4, e5] <;> first | (refine panQ_of ?_; decide +kernel) | (change _ = true; decide +kernel) | kernel_rfl | (refine ⟨?_, ?_⟩ <;> first | (change _ = true; decide +kernel) | kernel_rfl)
 by_cases e6 : event = event'
 rotate_left
 ·simp [Tryz.f19, Tryz.ti3, Tryz.ti4, Tryz.ti9, Tryz.ti22, Tryz.ti31, Tryz.ti32, Tryz.ti33, Tryz.ti34, Tryz.ti36, Tryz.ti44, Tryz.ti50, Tryz.ti82, Tryz.ti85, Tryz.ti94, e1, e2, e3, e4, e5, e6] <;> first | (refine panQ_of ?_; decide +kernel) | (change _ = true; decide +kernel) | kernel_rfl | (refine ⟨?_, ?_⟩ <;> first | (change _ = true; decide +kernel) | kernel_rfl)
 by_cases e7 : deferred = deferred'
 rotate_left
 ·simp [Tryz.f19, Tryz.ti3, Tryz.ti4, Tryz.ti9, Tryz.ti22, Tryz.ti31, Tryz.ti32, Tryz.ti33, Tryz.ti34, Tryz.ti36, Tryz.ti44, Tryz.ti50, Tryz.ti82, Tryz.ti85, Tryz.ti94, e1, e2, e3, e4, e5, e6, e7] <;> first | (refine panQ_of ?_; decide +kernel) | (change _ = true; decide +kernel) | kernel_rfl | (refine ⟨?_, ?_⟩ <;> first | (change _ = true; decide +kernel) | kernel_rfl)
 by_cases e8 : rolls = rolls'
 rotate_left
 ·simp [Tryz.f19, Tryz.ti3, Tryz.ti4, Tryz.ti9, Tryz.ti22, Tryz.ti31, Tryz.ti32, Tryz.ti33, Tryz.ti34, Tryz.ti36, Tryz.ti44, Tryz.ti50, Tryz.ti82, Tryz.ti85, Tryz.ti94, e1, e2, e3, e4, e5, e6, e7, e8] <;> first | (refine panQ_of ?_; decide +kernel) | (change _ = true; decide +kernel) | kernel_rfl | (refine ⟨?_, ?_⟩ <;> first | (change _ = true; decide +kernel) | kernel_rfl)
 subst e1 e2 e3 e4 e5 e6 e7 e8
 by_cases l1 : cols.length = cols'.length
 rotate_left
 ·have z1 : ¬ (cols.length : Int) = cols'.length := by omega
  simp [Tryz.f19, Tryz.ti3, Tryz.ti4, Tryz.ti9, Tryz.ti22, Tryz.ti31, Tryz.ti32, Tryz.ti33, Tryz.ti34, Tryz.ti36, Tryz.ti44, Tryz.ti50, Tryz.ti82, Tryz.ti85, Tryz.ti94, l1, z1] <;> first | (refine panQ_of ?_; decide +kernel) | (change _ = true; decide +kernel) | kernel_rfl | (refine ⟨?_, ?_⟩ <;> first | (change _ = true; decide +kernel) | kernel_rfl)
 have z1 : (cols.length : Int) = cols'.length := by omega
 by_cases l2 : sets.length = sets'.length
 rotate_left
 ·have z2 : ¬ (sets.length : Int) = sets'.length := by omega
  simp [Tryz.f19, Tryz.ti3, Tryz.ti4, Tryz.ti9, Tryz.ti22, Tryz.ti31, Tryz.ti32, Tryz.ti33, Tryz.ti34, Tryz.ti36, Tryz.ti44, Tryz.ti50, Tryz.ti82, Tryz.ti85, Tryz.ti94, l1, z1, l2, z2] <;> first | (refine panQ_of ?_; decide +kernel) | (change _ = true; decide +kernel) | kernel_rfl | (refine ⟨?_, ?_⟩ <;> first | (change _ = true; decide +kernel) | kernel_rfl)
 have z2 : (sets.length : Int) = sets'.length := by omega
 by_cases l3 : src.length = src'.length
 rotate_left
 ·have z3 : ¬ (src.length : Int) = src'.length := by omega
  simp [Tryz.f19, Tryz.ti3, Tryz.ti4, Tryz.ti9, Tryz.ti22, Tryz.ti31, Tryz.ti32, Tryz.ti33, Tryz.ti34, Tryz.ti36, Tryz.ti44, Tryz.ti50, Tryz.ti82, Tryz.ti85, Tryz.ti94, l1, z1, l2, z2, l3, z3] <;> first | (refine panQ_of ?_; decide +kernel) | (change _ = true; decide +kernel) | kernel_rfl | (refine ⟨?_, ?_⟩ <;> first | (change _ = true; decide +kernel) | kernel_rfl)
 have z3 : (src.length : Int) = src'.length := by omega
 by_cases l4 : acts.length = bcts.length
 rotate_left
 ·have z4 : ¬ (acts.length : Int) = bcts.length := by omega
  simp [Tryz.f19, Tryz.ti3, Tryz.ti4, Tryz.ti9, Tryz.ti22, Tryz.ti31, Tryz.ti32, Tryz.ti33, Tryz.ti34, Tryz.ti36, Tryz.ti44, Tryz.ti50, Tryz.ti82, Tryz.ti85, Tryz.ti94, l1, z1, l2, z2, l3, z3, l4, z4] <;> first | (refine panQ_of ?_; decide +kernel) | (change _ = true; decide +kernel) | kernel_rfl | (refine ⟨?_, ?_⟩ <;> first | (change _ = true; decide +kernel) | kernel_rfl)
 have z4 : (acts.length : Int) = bcts.length := by omega
 generalize hK3 : sameK3 _ _ = K3
 simp [Tryz.f19, Tryz.ti3, Tryz.ti4, Tryz.ti9, Tryz.ti22, Tryz.ti31, Tryz.ti32, Tryz.ti33, Tryz.ti34, Tryz.ti36, Tryz.ti44, Tryz.ti50, Tryz.ti82, Tryz.ti85, Tryz.ti94, l1, z1, l2, z2, l3, z3, l4, z4]
 rw [i_loop (ts := [97, 98, 99, 100, 101, 104, 105, 106, 107, 108, 109, 110, 111, 112, 113, 114, 102, 103])]
 rotate_left
 ·kernel_rfl
 refine i_at (fun i : {i : Nat // i ≤ cols.length} => cols.length - i.1) (fun i env => setV env 5 (.int .i64 i.1)) (fun _ => _) (fun i => some (.ret (.bool (decide (cols.drop i.1 = cols'.drop i.1) && (sameSets sets sets' && (decide (src = src') && (sameSs acts bcts && K3))))), [])) ⟨0, by omega⟩ (by simp [s_zero, s_succ]) rfl (by simp) ?_
 intro ⟨i, hil⟩ ih
 dsimp only at hil ⊢
 by_cases hi : i < cols.length
 ·have ih := ih ⟨i + 1, by omega⟩ (by simp only; omega)
  have hi2 : i < cols'.length := by omega
  have hwi : IntKind.i64.wrap ((i : Int) + 1) = (i : Int) + 1 := wrap_i64 (by omega)
  obtain ⟨t, hk⟩ : ∃ m, cols[i] = m := ⟨_, rfl⟩
  obtain ⟨u, hu⟩ : ∃ m, cols'[i] = m := ⟨_, rfl⟩
  rw [List.drop_eq_getElem_cons hi, List.drop_eq_getElem_cons hi2, hk, hu]
  simp only [s_zero, s_succ, Int.natCast_add, Int.natCast_one, Int.cast_ofNat_Int] at ih
  obtain ⟨cn, ct, cnn, cu⟩ := t
  obtain ⟨dn, dt, dnn, du⟩ := u
  by_cases f1 : cn = dn
  rotate_left
  ·simp [i_again, roundEnd, dropT, cleanV, Tryz.f19, Tryz.ti3, Tryz.ti4, Tryz.ti9, Tryz.ti22, Tryz.ti31, Tryz.ti32, Tryz.ti33, Tryz.ti34, Tryz.ti36, Tryz.ti44, Tryz.ti50, Tryz.ti82, Tryz.ti85, Tryz.ti94, hi, hi2, hk, hu, hwi, Col.enc, Col.cells, f1] <;> first | (refine panQ_of ?_; decide +kernel) | (change _ = true; decide +kernel) | kernel_rfl | (refine ⟨?_, ?_⟩ <;> first | (change _ = true; decide +kernel) | kernel_rfl)
  by_cases f2 : ct = dt
  rotate_left
  ·simp [i_again, roundEnd, dropT, cleanV, Tryz.f19, Tryz.ti3, Tryz.ti4, Tryz.ti9, Tryz.ti22, Tryz.ti31, Tryz.ti32, Tryz.ti33, Tryz.ti34, Tryz.ti36, Tryz.ti44, Tryz.ti50, Tryz.ti82, Tryz.ti85, Tryz.ti94, hi, hi2, hk, hu, hwi, Col.enc, Col.cells, f1, f2] <;> first | (refine panQ_of ?_; decide +kernel) | (change _ = true; decide +kernel) | kernel_rfl | (refine ⟨?_, ?_⟩ <;> first | (change _ = true; decide +kernel) | kernel_rfl)
  by_cases f3 : cnn = dnn
  rotate_left
  ·simp [i_again, roundEnd, dropT, cleanV, Tryz.f19, Tryz.ti3, Tryz.ti4, Tryz.ti9, Tryz.ti22, Tryz.ti31, Tryz.ti32, Tryz.ti33, Tryz.ti34, Tryz.ti36, Tryz.ti44, Tryz.ti50, Tryz.ti82, Tryz.ti85, Tryz.ti94, hi, hi2, hk, hu, hwi, Col.enc, Col.cells, f1, f2, f3] <;> first | (refine panQ_of ?_; decide +kernel) | (change _ = true; decide +kernel) | kernel_rfl | (refine ⟨?_, ?_⟩ <;> first | (change _ = true; decide +kernel) | kernel_rfl)
  by_cases f4 : cu = du
  rotate_left
  ·simp [i_again, roundEnd, dropT, cleanV, Tryz.f19, Tryz.ti3, Tryz.ti4, Tryz.ti9, Tryz.ti22, Tryz.ti31, Tryz.ti32, Tryz.ti33, Tryz.ti34, Tryz.ti36, Tryz.ti44, Tryz.ti50, Tryz.ti82, Tryz.ti85, Tryz.ti94, hi, hi2, hk, hu, hwi, Col.enc, Col.cells, f1, f2, f3, f4] <;> first | (refine panQ_of ?_; decide +kernel) | (change _ = true; decide +kernel) | kernel_rfl | (refine ⟨?_, ?_⟩ <;> first | (change _ = true; decide +kernel) | kernel_rfl)
  simp [i_again, roundEnd, dropT, cleanV, Tryz.f19, Tryz.ti3, Tryz.ti4, Tryz.ti9, Tryz.ti22, Tryz.ti31, Tryz.ti32, Tryz.ti33, Tryz.ti34, Tryz.ti36, Tryz.ti44, Tryz.ti50, Tryz.ti82, Tryz.ti85, Tryz.ti94, hi, hi2, hk, hu, hwi, Col.enc, Col.cells, f1, f2, f3, f4, ih] <;> first | (refine panQ_of ?_; decide +kernel) | (change _ = true; decide +kernel) | kernel_rfl | (refine ⟨?_, ?_⟩ <;> first | (change _ = true; decide +kernel) | kernel_rfl)
 obtain rfl : i = cols.length := by omega
 rw [List.drop_eq_nil_of_le (Nat.le_refl _), List.drop_eq_nil_of_le (by omega)]
 clear ih hi hil
 simp [i_again, roundEnd, dropT, cleanV, Tryz.f19, Tryz.ti3, Tryz.ti4, Tryz.ti9, Tryz.ti22, Tryz.ti31, Tryz.ti32, Tryz.ti33, Tryz.ti34, Tryz.ti36, Tryz.ti44, Tryz.ti50, Tryz.ti82, Tryz.ti85, Tryz.ti94, z1, z2, z3, z4, ← l1, ← l2, ← l3, ← l4]
 rw [i_loop (ts := [115, 116, 117, 118, 119, 122, 123, 124, 125, 126, 127, 128, 129, 130, 131, 132, 133, 134, 135, 136, 137, 138, 139, 140, 141, 142, 143, 144, 145, 146, 147, 148, 149, 150, 120, 121])]
 rotate_left
 ·kernel_rfl
 refine i_at2 (fun i : {i : Nat // i ≤ sets.length} => sets.length - i.1) (fun i env => setV env 6 (.int .i64 i.1)) (fun _ st => st) (fun i => some (.ret (.bool (sameSets (sets.drop i.1) (sets'.drop i.1) && (decide (src = src') && (sameSs acts bcts && K3)))), [])) ⟨0, by omega⟩ (by simp [s_zero, s_succ]) rfl (by simp) ?_
 intro ⟨i, hil⟩ ih
 dsimp only at hil ⊢
 by_cases hi : i < sets.length
 ·have ih := ih ⟨i + 1, by omega⟩ (by simp only; omega)
  have hi2 : i < sets'.length := by omega
  have hwi : IntKind.i64.wrap ((i : Int) + 1) = (i : Int) + 1 := wrap_i64 (by omega)
  obtain ⟨t, hk⟩ : ∃ m, sets[i] = m := ⟨_, rfl⟩
  obtain ⟨u, hu⟩ : ∃ m, sets'[i] = m := ⟨_, rfl⟩
  rw [List.drop_eq_getElem_cons hi, List.drop_eq_getElem_cons hi2, hk, hu]
  simp only [s_zero, s_succ, Int.natCast_add, Int.natCast_one, Int.cast_ofNat_Int] at ih
  have h1 := ev_samex t.e u.e (hso t (by rw [← hk]; exact List.getElem_mem hi)).2 (hso' u (by rw [← hu]; exact List.getElem_mem hi2)).2
  simp only [sameSets]
  obtain ⟨sc, se⟩ := t
  obtain ⟨sd, sf⟩ := u
  obtain ⟨op, v, var, co, kids⟩ := se
  obtain ⟨op', v', var', co', kids'⟩ := sf
  by_cases f1 : sc = sd
  rotate_left
  ·simp [i_again, roundEnd, dropT, cleanV, Tryz.f19, Tryz.ti3, Tryz.ti4, Tryz.ti9, Tryz.ti22, Tryz.ti31, Tryz.ti32, Tryz.ti33, Tryz.ti34, Tryz.ti36, Tryz.ti44, Tryz.ti50, Tryz.ti82, Tryz.ti85, Tryz.ti94, hi, hi2, hk, hu, hwi, SetE.enc, xenc_mk, f1] <;> first | (refine panQ_of ?_; decide +kernel) | (change _ = true; decide +kernel) | kernel_rfl | (refine ⟨?_, ?_⟩ <;> first | (change _ = true; decide +kernel) | kernel_rfl)
  simp only [xenc_mk] at h1
  dsimp only
  cases hs : sameE (.mk op v var co kids) (.mk op' v' var' co' kids') <;> rw [hs] at h1
  ·simp [i_again, roundEnd, dropT, cleanV, Tryz.f19, Tryz.ti3, Tryz.ti4, Tryz.ti9, Tryz.ti22, Tryz.ti31, Tryz.ti32, Tryz.ti33, Tryz.ti34, Tryz.ti36, Tryz.ti44, Tryz.ti50, Tryz.ti82, Tryz.ti85, Tryz.ti94, hi, hi2, hk, hu, hwi, SetE.enc, xenc_mk, f1, h1] <;> first | (refine panQ_of ?_; decide +kernel) | (change _ = true; decide +kernel) | kernel_rfl | (refine ⟨?_, ?_⟩ <;> first | (change _ = true; decide +kernel) | kernel_rfl)
  ·simp [i_again, roundEnd, dropT, cleanV, Tryz.f19, Tryz.ti3, Tryz.ti4, Tryz.ti9, Tryz.ti22, Tryz.ti31, Tryz.ti32, Tryz.ti33, Tryz.ti34, Tryz.ti36, Tryz.ti44, Tryz.ti50, Tryz.ti82, Tryz.ti85, Tryz.ti94, hi, hi2, hk, hu, hwi, SetE.enc, xenc_mk, f1, h1, ih] <;> first | (refine panQ_of ?_; decide +kernel) | (change _ = true; decide +kernel) | kernel_rfl | (refine ⟨?_, ?_⟩ <;> first | (change _ = true; decide +kernel) | kernel_rfl)
 obtain rfl : i = sets.length := by omega
 rw [List.drop_eq_nil_of_le (Nat.le_refl _), List.drop_eq_nil_of_le (by omega)]
 clear ih hi hil
 simp [i_again, roundEnd, dropT, cleanV, Tryz.f19, Tryz.ti3, Tryz.ti4, Tryz.ti9, Tryz.ti22, Tryz.ti31, Tryz.ti32, Tryz.ti33, Tryz.ti34, Tryz.ti36, Tryz.ti44, Tryz.ti50, Tryz.ti82, Tryz.ti85, Tryz.ti94, z1, z2, z3, z4, ← l1, ← l2, ← l3, ← l4, sameSets]
 rw [i_loop (ts := [151, 152, 153, 154, 155, 158, 159, 160, 161, 162, 163, 164, 165, 166, 167, 168, 156, 157])]
 rotate_left
 ·kernel_rfl
 refine i_at2 (fun i : {i : Nat // i ≤ src.length} => src.length - i.1) (fun i env => setV env 7 (.int .i64 i.1)) (fun _ st => st) (fun i => some (.ret (.bool (decide (src.drop i.1 = src'.drop i.1) && (sameSs acts bcts && K3))), [])) ⟨0, by omega⟩ (by simp [s_zero, s_succ]) rfl (by simp) ?_
 intro ⟨i, hil⟩ ih
 dsimp only at hil ⊢
 by_cases hi : i < src.length
 ·have ih := ih ⟨i + 1, by omega⟩ (by simp only; omega)
  have hi2 : i < src'.length := by omega
  have hwi : IntKind.i64.wrap ((i : Int) + 1) = (i : Int) + 1 := wrap_i64 (by omega)
  obtain ⟨t, hk⟩ : ∃ m, src[i] = m := ⟨_, rfl⟩
  obtain ⟨u, hu⟩ : ∃ m, src'[i] = m := ⟨_, rfl⟩
  rw [List.drop_eq_getElem_cons hi, List.drop_eq_getElem_cons hi2, hk, hu]
  simp only [s_zero, s_succ, Int.natCast_add, Int.natCast_one, Int.cast_ofNat_Int] at ih
  obtain ⟨cn, ct, cv⟩ := t
  obtain ⟨dn, dt, dv⟩ := u
  by_cases f1 : cn = dn
  rotate_left
  ·simp [i_again, roundEnd, dropT, cleanV, Tryz.f19, Tryz.ti3, Tryz.ti4, Tryz.ti9, Tryz.ti22, Tryz.ti31, Tryz.ti32, Tryz.ti33, Tryz.ti34, Tryz.ti36, Tryz.ti44, Tryz.ti50, Tryz.ti82, Tryz.ti85, Tryz.ti94, hi, hi2, hk, hu, hwi, Src.enc, Src.cells, f1] <;> first | (refine panQ_of ?_; decide +kernel) | (change _ = true; decide +kernel) | kernel_rfl | (refine ⟨?_, ?_⟩ <;> first | (change _ = true; decide +kernel) | kernel_rfl)
  by_cases f2 : ct = dt
  rotate_left
  ·simp [i_again, roundEnd, dropT, cleanV, Tryz.f19, Tryz.ti3, Tryz.ti4, Tryz.ti9, Tryz.ti22, Tryz.ti31, Tryz.ti32, Tryz.ti33, Tryz.ti34, Tryz.ti36, Tryz.ti44, Tryz.ti50, Tryz.ti82, Tryz.ti85, Tryz.ti94, hi, hi2, hk, hu, hwi, Src.enc, Src.cells, f1, f2] <;> first | (refine panQ_of ?_; decide +kernel) | (change _ = true; decide +kernel) | kernel_rfl | (refine ⟨?_, ?_⟩ <;> first | (change _ = true; decide +kernel) | kernel_rfl)
  by_cases f3 : cv = dv
  rotate_left
  ·simp [i_again, roundEnd, dropT, cleanV, Tryz.f19, Tryz.ti3, Tryz.ti4, Tryz.ti9, Tryz.ti22, Tryz.ti31, Tryz.ti32, Tryz.ti33, Tryz.ti34, Tryz.ti36, Tryz.ti44, Tryz.ti50, Tryz.ti82, Tryz.ti85, Tryz.ti94, hi, hi2, hk, hu, hwi, Src.enc, Src.cells, f1, f2, f3] <;> first | (refine panQ_of ?_; decide +kernel) | (change _ = true; decide +kernel) | kernel_rfl | (refine ⟨?_, ?_⟩ <;> first | (change _ = true; decide +kernel) | kernel_rfl)
  simp [i_again, roundEnd, dropT, cleanV, Tryz.f19, Tryz.ti3, Tryz.ti4, Tryz.ti9, Tryz.ti22, Tryz.ti31, Tryz.ti32, Tryz.ti33, Tryz.ti34, Tryz.ti36, Tryz.ti44, Tryz.ti50, Tryz.ti82, Tryz.ti85, Tryz.ti94, hi, hi2, hk, hu, hwi, Src.enc, Src.cells, f1, f2, f3, ih] <;> first | (refine panQ_of ?_; decide +kernel) | (change _ = true; decide +kernel) | kernel_rfl | (refine ⟨?_, ?_⟩ <;> first | (change _ = true; decide +kernel) | kernel_rfl)
 obtain rfl : i = src.length := by omega
 rw [List.drop_eq_nil_of_le (Nat.le_refl _), List.drop_eq_nil_of_le (by omega)]
 clear ih hi hil
 simp [i_again, roundEnd, dropT, cleanV, Tryz.f19, Tryz.ti3, Tryz.ti4, Tryz.ti9, Tryz.ti22, Tryz.ti31, Tryz.ti32, Tryz.ti33, Tryz.ti34, Tryz.ti36, Tryz.ti44, Tryz.ti50, Tryz.ti82, Tryz.ti85, Tryz.ti94, z1, z2, z3, z4, ← l1, ← l2, ← l3, ← l4]
 rw [i_loop (ts := [169, 170, 171, 172, 173, 176, 177, 178, 179, 180, 181, 182, 183, 184, 185, 186, 187, 174, 175])]
 rotate_left
 ·kernel_rfl
 refine i_at2 (fun i : {i : Nat // i ≤ acts.length} => acts.length - i.1) (fun i env => setV env 8 (.int .i64 i.1)) (fun _ st => st) (fun i => some (.ret (.bool (sameSs (acts.drop i.1) (bcts.drop i.1) && K3)), [])) ⟨0, by omega⟩ (by simp [s_zero, s_succ]) rfl (by simp) ?_
 intro ⟨i, hil⟩ ih
 dsimp only at hil ⊢
 by_cases hi : i < acts.length
 ·have ih := ih ⟨i + 1, by omega⟩ (by simp only; omega)
  have hi2 : i < bcts.length := by omega
  have hwi : IntKind.i64.wrap ((i : Int) + 1) = (i : Int) + 1 := wrap_i64 (by omega)
  obtain ⟨t, hk⟩ : ∃ m, acts[i] = m := ⟨_, rfl⟩
  obtain ⟨u, hu⟩ : ∃ m, bcts[i] = m := ⟨_, rfl⟩
  rw [List.drop_eq_getElem_cons hi, List.drop_eq_getElem_cons hi2, hk, hu]
  simp only [s_zero, s_succ, Int.natCast_add, Int.natCast_one, Int.cast_ofNat_Int] at ih
  have h1 := ihk t (by rw [← hk]; exact List.getElem_mem hi) u (by rw [← hu]; exact List.getElem_mem hi2)
  simp only [sameSs]
  obtain ⟨tb, ta⟩ := t
  obtain ⟨ub, ua⟩ := u
  simp only [senc_mk] at h1
  cases hs : sameS (.mk tb ta) (.mk ub ua) <;> rw [hs] at h1
  ·simp [i_again, roundEnd, dropT, cleanV, Tryz.f19, Tryz.ti3, Tryz.ti4, Tryz.ti9, Tryz.ti22, Tryz.ti31, Tryz.ti32, Tryz.ti33, Tryz.ti34, Tryz.ti36, Tryz.ti44, Tryz.ti50, Tryz.ti82, Tryz.ti85, Tryz.ti94, hi, hi2, hk, hu, hwi, senc_mk, h1] <;> first | (refine panQ_of ?_; decide +kernel) | (change _ = true; decide +kernel) | kernel_rfl | (refine ⟨?_, ?_⟩ <;> first | (change _ = true; decide +kernel) | kernel_rfl)
  ·simp [i_again, roundEnd, dropT, cleanV, Tryz.f19, Tryz.ti3, Tryz.ti4, Tryz.ti9, Tryz.ti22, Tryz.ti31, Tryz.ti32, Tryz.ti33, Tryz.ti34, Tryz.ti36, Tryz.ti44, Tryz.ti50, Tryz.ti82, Tryz.ti85, Tryz.ti94, hi, hi2, hk, hu, hwi, senc_mk, h1, ih] <;> first | (refine panQ_of ?_; decide +kernel) | (change _ = true; decide +kernel) | kernel_rfl | (refine ⟨?_, ?_⟩ <;> first | (change _ = true; decide +kernel) | kernel_rfl)
 obtain rfl : i = acts.length := by omega
 rw [List.drop_eq_nil_of_le (Nat.le_refl _), List.drop_eq_nil_of_le (by omega)]
 clear ih hi hil
 rw [← hK3]
 simp only [sameK3, sameSs, Bool.true_and]
 cases w1 : sameEs values values' <;> rw [w1] at v1
 ·simp [i_again, roundEnd, dropT, cleanV, Tryz.f19, Tryz.ti3, Tryz.ti4, Tryz.ti9, Tryz.ti22, Tryz.ti31, Tryz.ti32, Tryz.ti33, Tryz.ti34, Tryz.ti36, Tryz.ti44, Tryz.ti50, Tryz.ti82, Tryz.ti85, Tryz.ti94, v1] <;> first | (refine panQ_of ?_; decide +kernel) | (change _ = true; decide +kernel) | kernel_rfl | (refine ⟨?_, ?_⟩ <;> first | (change _ = true; decide +kernel) | kernel_rfl)
 cases w2 : sameEs items items' <;> rw [w2] at v2
 ·simp [i_again, roundEnd, dropT, cleanV, Tryz.f19, Tryz.ti3, Tryz.ti4, Tryz.ti9, Tryz.ti22, Tryz.ti31, Tryz.ti32, Tryz.ti33, Tryz.ti34, Tryz.ti36, Tryz.ti44, Tryz.ti50, Tryz.ti82, Tryz.ti85, Tryz.ti94, v1, v2] <;> first | (refine panQ_of ?_; decide +kernel) | (change _ = true; decide +kernel) | kernel_rfl | (refine ⟨?_, ?_⟩ <;> first | (change _ = true; decide +kernel) | kernel_rfl)
 simp [i_again, roundEnd, dropT, cleanV, Tryz.f19, Tryz.ti3, Tryz.ti4, Tryz.ti9, Tryz.ti22, Tryz.ti31, Tryz.ti32, Tryz.ti33, Tryz.ti34, Tryz.ti36, Tryz.ti44, Tryz.ti50, Tryz.ti82, Tryz.ti85, Tryz.ti94, v1, v2, v3] <;> first | (refine panQ_of ?_; decide +kernel) | (change _ = true; decide +kernel) | kernel_rfl | (refine ⟨?_, ?_⟩ <;> first | (change _ = true; decide +kernel) | kernel_rfl)
mutual
theorem ev_sames2 : ∀ s t : Stm, s.ok → t.ok → EV 19 [s.enc, t.enc] [] = some (.ret (.bool (sameS s t)), [])
 | .mk b acts, .mk c bcts, h, h' => ev_same_one b c acts bcts h.1 h'.1 h.2.1 h'.2.1 fun m hm k hk => ev_sames2_all acts h.2.2 m hm k ((soks_iff _).1 h'.2.2 k hk)
theorem ev_sames2_all : ∀ l : List Stm, Stm.oks l → ∀ m ∈ l, ∀ k : Stm, k.ok → EV 19 [m.enc, k.enc] [] = some (.ret (.bool (sameS m k)), [])
 | [], _ => fun m hm => by cases hm
 | e :: l, h => fun m hm k hk => by
  rcases List.mem_cons.1 hm with hx | hm
  ·rw [hx]; exact ev_sames2 e k h.1 hk
  ·exact ev_sames2_all l h.2 m hm k hk
end
end Go.Abs
