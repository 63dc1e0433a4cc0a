/- Is a statement more than what is played? -/
import Derived.Test.YtpmeklllgnnffaaGreatDoorA48
import Derived.Test.YtpmeklllgnnffaaGreatDoorA20
import Derived.Test.YtpmeklllgnnffaaGreatDoorA21
import Derived.Test.YtpmeklllgnnffaaGreatDoorA22
import Derived.Test.YtpmeklllgnnffaaGreatDoorA23
import Derived.Test.YtpmeklllgnnffaaGreatDoorA24
import Derived.Test.YtpmeklllgnnffaaGreatDoorA25
import Derived.Test.YtpmeklllgnnffaaGreatDoorA26
import Derived.Test.YtpmeklllgnnffaaGreatDoorA31
import Derived.Test.YtpmeklllgnnffaaGreatDoorA32
import Derived.Test.YtpmeklllgnnffaaGreatDoorA33
import Derived.Test.YtpmeklllgnnffaaGreatDoorA34
import Derived.Test.YtpmeklllgnnffaaGreatDoorA35
import Derived.Test.YtpmeklllgnnffaaGreatDoorA36
import Derived.Test.YtpmeklllgnnffaaGreatDoorA37
import Derived.Test.YtpmeklllgnnffaaGreatDoorA38
import Derived.Test.YtpmeklllgnnffaaGreatDoorA42
import Derived.Test.YtpmeklllgnnffaaGreatDoorA43
import Derived.Test.YtpmeklllgnnffaaGreatDoorA44
import Derived.Test.YtpmeklllgnnffaaGreatDoorA45

namespace Go.Abs
set_option linter.unusedSimpArgs false
set_option linter.unusedVariables false
open Go Go.Proofs
attribute [local simp] i_nil i_blk i_skip i_ret i_exit i_seq i_block i_cond i_region' i_ops_nil i_ops i_drawn' d_in a_nil a_cons alt1 h_nil h_one h_two z_nil z_cons z_cells zeqL zeq q_alloc q_some isAlO nxtN i_drh d_hi i_drw_nil i_drw u_nil u_code u_ops u_drw u_lp u_again u_exit u_ret u_panic c_bool o_some o_val o_panic d_some d_val d_panic w_none w_fast wantG q_nil q_zero q_succ t_zero t_succ g_zero g_succ s_zero s_succ s_some s_none v_tmp v_const v_func f_quiet gc_none gc_pure wrap_i64 p_move p_assign p_pick p_alloc p_box p_build p_buildSlice p_load p_store p_nilCheck p_binOp n_tmp n_int n_bool n_str n_ptr n_fun n_iface nilCmp p_unOp p_convert p_makeSlice p_makeInterface p_makeFunc p_slice p_fieldAddr p_field p_indexAddr p_index p_extract p_callv p_callb p_panic quiet_val new_val e_assign e_call e_load e_store e_alloc e_box e_move e_pick e_build e_buildSlice e_nilCheck e_binOp e_unOp e_convert e_makeSlice e_makeInterface e_makeFunc e_slice e_fieldAddr e_field e_indexAddr e_index e_extract e_panic callD fpRead adopt adoptL ofValue ofScalar binOpV unOpV intBin strBin eqRes veq veqF eqDepth val? finish resL r_tmp r_cell normL normTop tipIs refsL refs ownRefs single frz frzL ren renL renOwn callOp doCall backR writeBack builtinV loadV storeV cellsAt takeV D.isAgg overlay vcells cellOk fieldAddrV indexAddrV fieldV partV indexV buildV fillV buildSliceV litElems appendV appElems elemOk convertV convV winStr makeSliceV sliceV natOf
attribute [local simp ↓] brB_true brB_false brB_dec brB_not brB_and brB_or brB_beq brB_bne
attribute [local irreducible] fpsQ panQ

def manyS (s : Stm) : Int := s.b.values.length + s.b.items.length + s.b.wher.length + s.b.sets.length + s.acts.length + s.b.cols.length + s.b.src.length
def greatS (s : Stm) : Bool := decide (200 < manyS s) || (deepS 4 s || decide (400 < szS s 400))
set_option maxRecDepth 100000 in
set_option maxHeartbeats 2000000 in
theorem ev_great (e : Stm) (h : e.ok) : EV 13 [e.enc] [] = some (.ret (.bool (greatS e)), []) := by
  have hd := ev_deeps 4 e h (by omega)
  have hp := ev_plainstm e h
  have hz := ev_sizes e h 400 (by omega)
  have hz2 := (szS_le e 400 h).1
  unfold greatS
  obtain ⟨b, acts⟩ := e
  have l1 := h.1.values.1
  have l2 := h.1.items.1
  have l3 := h.1.wher.1
  have l4 := h.1.sets.1
  have l5 := h.2.1
  have l6 := h.1.cols.1
  have l7 := h.1.src.1
  simp only [manyS, Stm.b, Stm.acts]
  generalize deepS 4 (.mk b acts) = d at hd ⊢
  generalize szS (.mk b acts) 400 = z at hz hz2 ⊢
  rw [EV_mki rfl Tryz.func13 rfl (by kernel_rfl)]
  rw [senc_mk] at hd hp hz ⊢
  simp only [Int.cast_ofNat_Int] at hd
  have w1 : IntKind.i64.wrap ((b.values.length : Int) + b.items.length) = b.values.length + b.items.length := wrap_i64 (by omega)
  have w2 : IntKind.i64.wrap ((b.values.length : Int) + b.items.length + b.wher.length) = b.values.length + b.items.length + b.wher.length := wrap_i64 (by omega)
  have w3 : IntKind.i64.wrap ((b.values.length : Int) + b.items.length + b.wher.length + b.sets.length) = b.values.length + b.items.length + b.wher.length + b.sets.length := wrap_i64 (by omega)
  have w4 : IntKind.i64.wrap ((b.values.length : Int) + b.items.length + b.wher.length + b.sets.length + acts.length) = b.values.length + b.items.length + b.wher.length + b.sets.length + acts.length := wrap_i64 (by omega)
  have w5 : IntKind.i64.wrap ((b.values.length : Int) + b.items.length + b.wher.length + b.sets.length + acts.length + b.cols.length) = b.values.length + b.items.length + b.wher.length + b.sets.length + acts.length + b.cols.length := wrap_i64 (by omega)
  have w6 : IntKind.i64.wrap ((b.values.length : Int) + b.items.length + b.wher.length + b.sets.length + acts.length + b.cols.length + b.src.length) = b.values.length + b.items.length + b.wher.length + b.sets.length + acts.length + b.cols.length + b.src.length := wrap_i64 (by omega)
  by_cases h1 : (200 : Int) < (b.values.length : Int) + b.items.length + b.wher.length + b.sets.length + acts.length + b.cols.length + b.src.length
  · simp [Tryz.f13, Tryz.ti3, Tryz.ti4, Tryz.ti9, Tryz.ti22, Tryz.ti23, Tryz.ti24, Tryz.ti25, Tryz.ti26, Tryz.ti28, Tryz.ti44, Tryz.ti46, Tryz.ti80, Tryz.ti84, Tryz.ti94, w1, w2, w3, w4, w5, w6, h1] <;> first | (change _ = true; decide +kernel) | (refine ⟨?_, ?_⟩ <;> (change _ = true; decide +kernel))
  · cases d with
    | true => simp [Tryz.f13, Tryz.ti3, Tryz.ti4, Tryz.ti9, Tryz.ti22, Tryz.ti23, Tryz.ti24, Tryz.ti25, Tryz.ti26, Tryz.ti28, Tryz.ti44, Tryz.ti46, Tryz.ti80, Tryz.ti84, Tryz.ti94, w1, w2, w3, w4, w5, w6, h1, hd] <;> first | (change _ = true; decide +kernel) | (refine ⟨?_, ?_⟩ <;> (change _ = true; decide +kernel))
    | false =>
      by_cases h2 : 400 < z
      · simp [Tryz.f13, Tryz.ti3, Tryz.ti4, Tryz.ti9, Tryz.ti22, Tryz.ti23, Tryz.ti24, Tryz.ti25, Tryz.ti26, Tryz.ti28, Tryz.ti44, Tryz.ti46, Tryz.ti80, Tryz.ti84, Tryz.ti94, w1, w2, w3, w4, w5, w6, h1, hd, hp, hz, h2] <;> first | (change _ = true; decide +kernel) | (refine ⟨?_, ?_⟩ <;> (change _ = true; decide +kernel))
      · simp [Tryz.f13, Tryz.ti3, Tryz.ti4, Tryz.ti9, Tryz.ti22, Tryz.ti23, Tryz.ti24, Tryz.ti25, Tryz.ti26, Tryz.ti28, Tryz.ti44, Tryz.ti46, Tryz.ti80, Tryz.ti84, Tryz.ti94, w1, w2, w3, w4, w5, w6, h1, hd, hp, hz, h2] <;> first | (change _ = true; decide +kernel) | (refine ⟨?_, ?_⟩ <;> (change _ = true; decide +kernel))
end Go.Abs

namespace Go.Abs
set_option linter.unusedSimpArgs false
set_option linter.unusedVariables false
open Go Go.Proofs
attribute [local simp] i_nil i_blk i_skip i_ret i_exit i_seq i_block i_cond i_region' i_ops_nil i_ops i_drawn' d_in a_nil a_cons alt1 h_nil h_one h_two z_nil z_cons z_cells zeqL zeq q_alloc q_some isAlO nxtN i_drh d_hi i_drw_nil i_drw u_nil u_code u_ops u_drw u_lp u_again u_exit u_ret u_panic c_bool o_some o_val o_panic d_some d_val d_panic w_none w_fast wantG q_nil q_zero q_succ t_zero t_succ g_zero g_succ s_zero s_succ s_some s_none v_tmp v_const v_func f_quiet gc_none gc_pure wrap_i64 p_move p_assign p_pick p_alloc p_box p_build p_buildSlice p_load p_store p_nilCheck p_binOp n_tmp n_int n_bool n_str n_ptr n_fun n_iface nilCmp p_unOp p_convert p_makeSlice p_makeInterface p_makeFunc p_slice p_fieldAddr p_field p_indexAddr p_index p_extract p_callv p_callb p_panic quiet_val new_val e_assign e_call e_load e_store e_alloc e_box e_move e_pick e_build e_buildSlice e_nilCheck e_binOp e_unOp e_convert e_makeSlice e_makeInterface e_makeFunc e_slice e_fieldAddr e_field e_indexAddr e_index e_extract e_panic callD fpRead adopt adoptL ofValue ofScalar binOpV unOpV intBin strBin eqRes veq veqF eqDepth val? finish resL r_tmp r_cell normL normTop tipIs refsL refs ownRefs single frz frzL ren renL renOwn callOp doCall backR writeBack builtinV loadV storeV cellsAt takeV D.isAgg overlay vcells cellOk fieldAddrV indexAddrV fieldV partV indexV buildV fillV buildSliceV litElems appendV appElems elemOk convertV convV winStr makeSliceV sliceV natOf
attribute [local simp ↓] brB_true brB_false brB_dec brB_not brB_and brB_or brB_beq brB_bne
attribute [local irreducible] fpsQ panQ

theorem kinds15 {k : Int} (h1 : 1 ≤ k) (h2 : k ≤ 15) : k = 1 ∨ k = 2 ∨ k = 3 ∨ k = 4 ∨ k = 5 ∨ k = 6 ∨ k = 7 ∨ k = 8 ∨ k = 9 ∨ k = 10 ∨ k = 11 ∨ k = 12 ∨ k = 13 ∨ k = 14 ∨ k = 15 := by omega
theorem right_kind {b : StB} {acts : List Stm} (h : rightStm (.mk b acts) = true) : 1 ≤ b.kind ∧ b.kind ≤ 15 := by
  have h := rightK_of b acts h
  unfold rightK at h
  by_cases hk : 1 ≤ b.kind ∧ b.kind ≤ 15
  · exact hk
  · have hn : ¬ nameK b.kind := by unfold nameK; omega
    rw [if_neg (by omega), if_neg hn, if_neg (by omega), if_neg (by omega), if_neg (by omega), if_neg (by omega), if_neg (by omega), if_neg (by omega), if_neg (by omega)] at h
    cases h
set_option maxRecDepth 100000 in
set_option maxHeartbeats 16000000 in
theorem ev_rr_other (b : StB) (acts : List Stm) (h : b.ok) (hk : ¬ (1 ≤ b.kind ∧ b.kind ≤ 15)) : EV 16 [(Stm.mk b acts).enc] [] = some (.ret (.bool (rightStm (.mk b acts))), []) := by
  have hf : rightStm (.mk b acts) = false := by
    cases hr : rightStm (.mk b acts) with
    | false => rfl
    | true => exact absurd (right_kind hr) hk
  have n1 := ev_rname b.name (by have := h.name; omega)
  have n2 := ev_rname b.table (by have := h.table; omega)
  have n3 := ev_rname b.col (by have := h.col; omega)
  rw [hf, EV_mki rfl Tryz.func16 rfl (by kernel_rfl), senc_mk]
  obtain ⟨kind, name, table, col, cols, values, items, wher, sets, src, prio, event, deferred, rolls⟩ := b
  dsimp only at hk n1 n2 n3
  by_cases h1 : kind < 1
  · have a1 : ¬ 4 ≤ kind := by omega
    have a2 : ¬ kind = 7 := by omega
    have a3 : ¬ kind = 8 := by omega
    have a4 : ¬ 12 ≤ kind := by omega
    simp [Tryz.f16, Tryz.ti3, Tryz.ti4, Tryz.ti9, Tryz.ti22, Tryz.ti31, Tryz.ti32, Tryz.ti33, Tryz.ti34, Tryz.ti36, Tryz.ti44, Tryz.ti50, Tryz.ti82, Tryz.ti85, Tryz.ti94, n1, n2, n3, h1, a1, a2, a3, a4]
  · have a1 : 4 ≤ kind := by omega
    have a2 : ¬ kind = 7 := by omega
    have a3 : ¬ kind = 8 := by omega
    have a4 : 12 ≤ kind := by omega
    have a5 : ¬ kind ≤ 11 := by omega
    have a6 : ¬ kind ≤ 14 := by omega
    have a7 : 15 < kind := by omega
    simp [Tryz.f16, Tryz.ti3, Tryz.ti4, Tryz.ti9, Tryz.ti22, Tryz.ti31, Tryz.ti32, Tryz.ti33, Tryz.ti34, Tryz.ti36, Tryz.ti44, Tryz.ti50, Tryz.ti82, Tryz.ti85, Tryz.ti94, n1, n2, n3, h1, a1, a2, a3, a4, a5, a6, a7]
mutual
theorem ev_rrightstm : ∀ s : Stm, s.ok → EV 16 [s.enc] [] = some (.ret (.bool (rightStm s)), [])
  | .mk b acts, h => by
    have ihk := ev_rrightstms acts h.2.2
    by_cases hk : 1 ≤ b.kind ∧ b.kind ≤ 15
    · rcases kinds15 hk.1 hk.2 with k | k | k | k | k | k | k | k | k | k | k | k | k | k | k
      · rw [rr1_eq b acts k]; exact ev_rr1 b acts h.1 k
      · rw [rr2_eq b acts k]; exact ev_rr2 b acts h.1 k
      · rw [rr3_eq b acts k]; exact ev_rr3 b acts h.1 k
      · rw [rr4_eq b acts k]; exact ev_rr4 b acts h.1 k
      · rw [rr5_eq b acts k]; exact ev_rr5 b acts h.1 k
      · rw [rr6_eq b acts k]; exact ev_rr6 b acts h.1 k
      · rw [rr7_eq b acts k]; exact ev_rr7 b acts h.1 k
      · rw [rr8_eq b acts k]; exact ev_rr8 b acts h.1 k h.2.1 ihk
      · rw [rr9_eq b acts k]; exact ev_rr9 b acts h.1 k
      · rw [rr10_eq b acts k]; exact ev_rr10 b acts h.1 k
      · rw [rr11_eq b acts k]; exact ev_rr11 b acts h.1 k
      · rw [rr12_eq b acts k]; exact ev_rr12 b acts h.1 k
      · rw [rr13_eq b acts k]; exact ev_rr13 b acts h.1 k
      · rw [rr14_eq b acts k]; exact ev_rr14 b acts h.1 k
      · rw [rr15_eq b acts k]; exact ev_rr15 b acts h.1 k
    · exact ev_rr_other b acts h.1 hk
theorem ev_rrightstms : ∀ l : List Stm, Stm.oks l → ∀ a ∈ l, EV 16 [a.enc] [] = some (.ret (.bool (rightStm a)), [])
  | [], _, a, ha => by cases ha
  | s :: l, h, a, ha => by
    rcases List.mem_cons.1 ha with ha | ha
    · rw [ha]; exact ev_rrightstm s h.1
    · exact ev_rrightstms l h.2 a ha
end
theorem ract_shows (a : Stm) (ho : a.ok) (hk : a.b.kind = 12 ∨ a.b.kind = 13 ∨ a.b.kind = 14) (hr : rightStm a = true) : EV 18 [a.enc] [] = some (.ret (.str (showStm a)), []) := by
  obtain ⟨b, acts⟩ := a
  rcases hk with hk | hk | hk
  · exact ev_rshow12 b acts ho.1 hr hk
  · exact ev_rshow13 b acts ho.1 hr hk
  · exact ev_rshow14 b acts ho.1 hr hk
theorem ev_rshowstm (s : Stm) (ho : s.ok) (hr : rightStm s = true) : EV 18 [s.enc] [] = some (.ret (.str (showStm s)), []) := by
  obtain ⟨b, acts⟩ := s
  obtain ⟨k1, k2⟩ := right_kind hr
  have h := ho.1
  rcases kinds15 k1 k2 with k | k | k | k | k | k | k | k | k | k | k | k | k | k | k
  · exact ev_rshowk1 b acts h hr k
  · exact ev_rshowk2 b acts h hr k
  · exact ev_rshowk3 b acts h hr k
  · exact ev_rshowk4 b acts h hr k
  · exact ev_rshowk5 b acts h hr k
  · exact ev_rshow6 b acts h hr k
  · exact ev_rshow7 b acts h hr k
  · have hr2 : nameS b.name = true ∧ nameS b.table = true ∧ rightRuleS b acts.length (rightActs acts) = true := by simpa [rightK, nameK, k] using rightK_of b acts hr
    have hp := rule_parts hr2.2.2
    have hal : acts.length ≤ 4 := by
      have := hr2.2.2
      simp only [rightRuleS, Bool.and_eq_true, decide_eq_true_eq] at this
      omega
    have hsh : ∀ a ∈ acts, a.ok ∧ (a.b.kind = 12 ∨ a.b.kind = 13 ∨ a.b.kind = 14) ∧ rightStm a = true := fun a ha => ⟨(soks_iff acts).1 ho.2.2 a ha, acts_right hp.1 a ha⟩
    exact ev_rshow8 b acts h hr k hal (fun a ha => ract_shows a (hsh a ha).1 (hsh a ha).2.1 (hsh a ha).2.2) (fun a ha => (act_shows a (hsh a ha).1 (hsh a ha).2.1 (hsh a ha).2.2).2)
  · exact ev_rshowk9 b acts h hr k
  · exact ev_rshowk10 b acts h hr k
  · exact ev_rshowk11 b acts h hr k
  · exact ev_rshow12 b acts h hr k
  · exact ev_rshow13 b acts h hr k
  · exact ev_rshow14 b acts h hr k
  · exact ev_rshow15 b acts h hr k

theorem ev_awakes : EV 12 [] [] = some (.ret (.bool true), []) := ev_some.2 ⟨200, by kernel_rfl⟩
set_option maxRecDepth 100000 in
set_option maxHeartbeats 4000000 in
theorem ev_astshows (e : Stm) (h : e.ok) : EV 3 [e.enc] [] = some (.ret (.bool true), []) := by
  have hg := ev_great e h
  have hp := ev_plainstm e h
  have hr := ev_rightstm e h
  have hrr := ev_rrightstm e h
  have hs := ev_showstm e h
  have hrs := fun h' => ev_rshowstm e h h'
  rw [EV_mki rfl Tryz.func3 rfl (by kernel_rfl)]
  generalize greatS e = g at hg
  generalize hR : rightStm e = R at hr hrr hs hrs
  generalize showStm e = T at hs hrs
  obtain ⟨b, acts⟩ := e
  rw [senc_mk] at hg hp hr hrr hs hrs ⊢
  cases g
  · cases R
    · simp only [Bool.false_eq_true, if_false] at hs
      simp [Tryz.f3, Tryz.ti3, Tryz.ti4, Tryz.ti9, Tryz.ti22, Tryz.ti23, Tryz.ti24, Tryz.ti25, Tryz.ti26, Tryz.ti28, Tryz.ti31, Tryz.ti32, Tryz.ti33, Tryz.ti34, Tryz.ti36, Tryz.ti44, Tryz.ti46, Tryz.ti50, Tryz.ti80, Tryz.ti82, Tryz.ti84, Tryz.ti85, Tryz.ti94, ev_awakes, hg, hp, hr, hrr, hs] <;> first | (change _ = true; decide +kernel) | (refine ⟨?_, ?_⟩ <;> (change _ = true; decide +kernel))
    · simp only [if_true] at hs
      have hrs := hrs rfl
      simp [Tryz.f3, Tryz.ti3, Tryz.ti4, Tryz.ti9, Tryz.ti22, Tryz.ti23, Tryz.ti24, Tryz.ti25, Tryz.ti26, Tryz.ti28, Tryz.ti31, Tryz.ti32, Tryz.ti33, Tryz.ti34, Tryz.ti36, Tryz.ti44, Tryz.ti46, Tryz.ti50, Tryz.ti80, Tryz.ti82, Tryz.ti84, Tryz.ti85, Tryz.ti94, ev_awakes, hg, hp, hr, hrr, hs, hrs] <;> first | (change _ = true; decide +kernel) | (refine ⟨?_, ?_⟩ <;> (change _ = true; decide +kernel))
  · simp [Tryz.f3, Tryz.ti3, Tryz.ti4, Tryz.ti9, Tryz.ti22, Tryz.ti23, Tryz.ti24, Tryz.ti25, Tryz.ti26, Tryz.ti28, Tryz.ti31, Tryz.ti32, Tryz.ti33, Tryz.ti34, Tryz.ti36, Tryz.ti44, Tryz.ti46, Tryz.ti50, Tryz.ti80, Tryz.ti82, Tryz.ti84, Tryz.ti85, Tryz.ti94, ev_awakes, hg] <;> first | (change _ = true; decide +kernel) | (refine ⟨?_, ?_⟩ <;> (change _ = true; decide +kernel))
end Go.Abs

