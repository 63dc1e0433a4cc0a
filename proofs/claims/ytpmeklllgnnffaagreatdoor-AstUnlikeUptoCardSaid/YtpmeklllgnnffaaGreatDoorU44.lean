/- Is a statement more than what is played? -/
import Derived.Test.YtpmeklllgnnffaaGreatDoorU43
import Derived.Test.YtpmeklllgnnffaaGreatDoorU16
import Derived.Test.YtpmeklllgnnffaaGreatDoorU20
set_option linter.unusedSimpArgs false
set_option linter.unusedVariables false

namespace Go.Abs
set_option linter.unusedSimpArgs false
set_option linter.unusedVariables false
open Go Go.Proofs
attribute [local simp] i_nil i_blk i_skip i_ret i_exit i_seq i_block i_cond i_region' i_ops_nil i_ops i_drawn' k_none k_0 k_1 k_2 k_3 k_4 k_5 d_in a_nil a_cons alt1 h_nil h_one h_two z_nil z_cons z_cells zeqL zeq q_alloc q_some nxtN i_drh d_hi i_drw_nil i_drw u_nil u_code u_ops u_drw u_lp u_again u_exit u_ret u_panic c_bool o_some o_val o_panic d_some d_val d_panic w_none w_fast wantG q_nil q_zero q_succ t_zero t_succ g_zero g_succ s_zero s_succ s_some s_none v_tmp v_const v_func f_quiet gc_none gc_pure wrap_i64 p_move p_assign p_pick p_alloc p_box p_build p_buildSlice p_load p_store p_nilCheck p_binOp n_tmp n_int n_bool n_str n_ptr n_fun n_iface nilCmp p_unOp p_convert p_makeSlice p_makeInterface p_makeFunc p_slice p_fieldAddr p_field p_indexAddr p_index p_extract p_callv p_callb p_panic quiet_val new_val e_assign e_call e_load e_store e_alloc e_box e_move e_pick e_build e_buildSlice e_nilCheck e_binOp e_unOp e_convert e_makeSlice e_makeInterface e_makeFunc e_slice e_fieldAddr e_field e_indexAddr e_index e_extract e_panic callD fpRead adoptZ fulls adopt adoptL ofValue ofScalar binOpV unOpV intBin strBin eqRes veq veqF eqDepth val? finish resL r_tmp r_cell normL normTop tipIs refsL refs ownRefs single frz frzL ren renL renOwn callOp doCall backR writeBack builtinV loadV storeV storeW iceT cellsAt takeV D.isAgg overlay vcells cellOk fieldAddrV indexAddrV fieldV partV indexV buildV fillV buildSliceV litElems appendV appElems elemOk convertV convV winStr makeSliceV sliceV natOf
attribute [local simp ↓] brB_true brB_false brB_dec brB_not brB_and brB_or brB_beq brB_bne
attribute [local irreducible] fpsQ panQ

def manyS (s : Stm) : Int := s.b.values.length + s.b.items.length + s.b.wher.length + s.b.sets.length + s.acts.length + s.b.cols.length + s.b.src.length
def greatS (s : Stm) : Bool := decide (200 < manyS s) || (deepS 4 s || decide (400 < szS s 400))
set_option maxRecDepth 100000 in
set_option maxHeartbeats 2000000 in
theorem ev_great (e : Stm) (h : e.ok) : EV 13 [e.enc] [] = some (.ret (.bool (greatS e)), []) := by
  have hd := ev_deeps 4 e h (by omega)
  have hp := ev_plainstm e h
  have hz := ev_sizes e h 400 (by omega)
  have hz2 := (szS_le e 400 h).1
  unfold greatS
  obtain ⟨b, acts⟩ := e
  have l1 := h.1.values.1
  have l2 := h.1.items.1
  have l3 := h.1.wher.1
  have l4 := h.1.sets.1
  have l5 := h.2.1
  have l6 := h.1.cols.1
  have l7 := h.1.src.1
  simp only [manyS, Stm.b, Stm.acts]
  generalize deepS 4 (.mk b acts) = d at hd ⊢
  generalize szS (.mk b acts) 400 = z at hz hz2 ⊢
  rw [EV_mki rfl Tryz.func13 rfl (by kernel_rfl) rfl]
  rw [senc_mk] at hd hp hz ⊢
  simp only [Int.cast_ofNat_Int] at hd
  have w1 : IntKind.i64.wrap ((b.values.length : Int) + b.items.length) = b.values.length + b.items.length := wrap_i64 (by omega)
  have w2 : IntKind.i64.wrap ((b.values.length : Int) + b.items.length + b.wher.length) = b.values.length + b.items.length + b.wher.length := wrap_i64 (by omega)
  have w3 : IntKind.i64.wrap ((b.values.length : Int) + b.items.length + b.wher.length + b.sets.length) = b.values.length + b.items.length + b.wher.length + b.sets.length := wrap_i64 (by omega)
  have w4 : IntKind.i64.wrap ((b.values.length : Int) + b.items.length + b.wher.length + b.sets.length + acts.length) = b.values.length + b.items.length + b.wher.length + b.sets.length + acts.length := wrap_i64 (by omega)
  have w5 : IntKind.i64.wrap ((b.values.length : Int) + b.items.length + b.wher.length + b.sets.length + acts.length + b.cols.length) = b.values.length + b.items.length + b.wher.length + b.sets.length + acts.length + b.cols.length := wrap_i64 (by omega)
  have w6 : IntKind.i64.wrap ((b.values.length : Int) + b.items.length + b.wher.length + b.sets.length + acts.length + b.cols.length + b.src.length) = b.values.length + b.items.length + b.wher.length + b.sets.length + acts.length + b.cols.length + b.src.length := wrap_i64 (by omega)
  by_cases h1 : (200 : Int) < (b.values.length : Int) + b.items.length + b.wher.length + b.sets.length + acts.length + b.cols.length + b.src.length
  · simp [Tryz.f13, Tryz.ti3, Tryz.ti4, Tryz.ti9, Tryz.ti22, Tryz.ti23, Tryz.ti24, Tryz.ti25, Tryz.ti26, Tryz.ti28, Tryz.ti44, Tryz.ti46, Tryz.ti80, Tryz.ti84, Tryz.ti94, w1, w2, w3, w4, w5, w6, h1] <;> first | (refine panQ_of ?_; decide +kernel) | (change _ = true; decide +kernel) | kernel_rfl | (refine ⟨?_, ?_⟩ <;> first | (change _ = true; decide +kernel) | kernel_rfl)
  · cases d with
    | true => simp [Tryz.f13, Tryz.ti3, Tryz.ti4, Tryz.ti9, Tryz.ti22, Tryz.ti23, Tryz.ti24, Tryz.ti25, Tryz.ti26, Tryz.ti28, Tryz.ti44, Tryz.ti46, Tryz.ti80, Tryz.ti84, Tryz.ti94, w1, w2, w3, w4, w5, w6, h1, hd] <;> first | (refine panQ_of ?_; decide +kernel) | (change _ = true; decide +kernel) | kernel_rfl | (refine ⟨?_, ?_⟩ <;> first | (change _ = true; decide +kernel) | kernel_rfl)
    | false =>
      by_cases h2 : 400 < z
      · simp [Tryz.f13, Tryz.ti3, Tryz.ti4, Tryz.ti9, Tryz.ti22, Tryz.ti23, Tryz.ti24, Tryz.ti25, Tryz.ti26, Tryz.ti28, Tryz.ti44, Tryz.ti46, Tryz.ti80, Tryz.ti84, Tryz.ti94, w1, w2, w3, w4, w5, w6, h1, hd, hp, hz, h2] <;> first | (refine panQ_of ?_; decide +kernel) | (change _ = true; decide +kernel) | kernel_rfl | (refine ⟨?_, ?_⟩ <;> first | (change _ = true; decide +kernel) | kernel_rfl)
      · simp [Tryz.f13, Tryz.ti3, Tryz.ti4, Tryz.ti9, Tryz.ti22, Tryz.ti23, Tryz.ti24, Tryz.ti25, Tryz.ti26, Tryz.ti28, Tryz.ti44, Tryz.ti46, Tryz.ti80, Tryz.ti84, Tryz.ti94, w1, w2, w3, w4, w5, w6, h1, hd, hp, hz, h2] <;> first | (refine panQ_of ?_; decide +kernel) | (change _ = true; decide +kernel) | kernel_rfl | (refine ⟨?_, ?_⟩ <;> first | (change _ = true; decide +kernel) | kernel_rfl)
end Go.Abs

/- a panic where the leftovers are quiet, with no word on the environment -/
namespace Go.Abs
open Go Go.Proofs
variable {P : Program}
/- the same, with no word on the environment -/
def panJ (js : List Nat) [s : OpsI] (fps : List Fp) : Bool := fpsOk2 s.a fps.reverse && ((List.range s.a.size).all (fun j => j ≤ fps.length - 1 || ordB s.a (fps.length - 1) j || js.contains j) && fps.reverse.zipIdx.all fun (b, j) => b.writes.isNone || j == fps.length - 1 || ordB s.a j (fps.length - 1))
theorem panQ_with (js : List Nat) {s : OpsI} {env : Env} {fps : List Fp} (h : @panJ js s fps = true) (hs : ∀ j ∈ js, safeOp P s.a env j = true) : @panQ P s env fps = true := by
  unfold panJ at h
  unfold panQ panicOk
  simp only [Bool.and_eq_true, List.all_eq_true, Bool.or_eq_true] at h ⊢
  refine ⟨h.1, fun j hj => ?_, h.2.2⟩
  rcases h.2.1 j hj with h1 | h1
  · exact .inl h1
  · exact .inr (hs j (by simpa using h1))
theorem panQ_of {s : OpsI} {env : Env} {fps : List Fp} (h : @panJ [] s fps = true) : @panQ P s env fps = true := panQ_with [] h (fun _ h => absurd h (by simp))
end Go.Abs

namespace Go.Abs
set_option linter.unusedSimpArgs false
set_option linter.unusedVariables false
open Go Go.Proofs
attribute [local simp] i_nil i_blk i_skip i_ret i_exit i_seq i_block i_cond i_region' i_ops_nil i_ops i_drawn' k_none k_0 k_1 k_2 k_3 k_4 k_5 d_in a_nil a_cons alt1 h_nil h_one h_two z_nil z_cons z_cells zeqL zeq q_alloc q_some nxtN i_drh d_hi i_drw_nil i_drw u_nil u_code u_ops u_drw u_lp u_again u_exit u_ret u_panic c_bool o_some o_val o_panic d_some d_val d_panic w_none w_fast wantG q_nil q_zero q_succ t_zero t_succ g_zero g_succ s_zero s_succ s_some s_none v_tmp v_const v_func f_quiet gc_none gc_pure wrap_i64 p_move p_assign p_pick p_alloc p_box p_build p_buildSlice p_load p_store p_nilCheck p_binOp n_tmp n_int n_bool n_str n_ptr n_fun n_iface nilCmp p_unOp p_convert p_makeSlice p_makeInterface p_makeFunc p_slice p_fieldAddr p_field p_indexAddr p_index p_extract p_callv p_callb p_panic quiet_val new_val e_assign e_call e_load e_store e_alloc e_box e_move e_pick e_build e_buildSlice e_nilCheck e_binOp e_unOp e_convert e_makeSlice e_makeInterface e_makeFunc e_slice e_fieldAddr e_field e_indexAddr e_index e_extract e_panic callD fpRead adoptZ fulls adopt adoptL ofValue ofScalar binOpV unOpV intBin strBin eqRes veq veqF eqDepth val? finish resL r_tmp r_cell normL normTop tipIs refsL refs ownRefs single frz frzL ren renL renOwn callOp doCall backR writeBack builtinV loadV storeV storeW iceT cellsAt takeV D.isAgg overlay vcells cellOk fieldAddrV indexAddrV fieldV partV indexV buildV fillV buildSliceV litElems appendV appElems elemOk convertV convV winStr makeSliceV sliceV natOf
attribute [local simp ↓] brB_true brB_false brB_dec brB_not brB_and brB_or brB_beq brB_bne

mutual
def sameE : Xp → Xp → Bool
  | .mk op v var col kids, .mk op' v' var' col' kids' => decide (op = op') && (decide (v.kind = v'.kind) && (decide (v.n = v'.n) && (decide (v.s = v'.s) && (decide (var = var') && (decide (col = col') && sameEs kids kids')))))
def sameEs : List Xp → List Xp → Bool
  | [], [] => true
  | a :: l, b :: r => sameE a b && sameEs l r
  | [], _ :: _ => false
  | _ :: _, [] => false
end
theorem sameEs_len : ∀ {l r : List Xp}, l.length ≠ r.length → sameEs l r = false
  | [], [], h => absurd rfl h
  | a :: l, b :: r, h => by simp only [sameEs, sameEs_len (l := l) (r := r) (by simpa using h), Bool.and_false]
  | [], _ :: _, _ => rfl
  | _ :: _, [], _ => rfl
mutual
theorem sameE_iff : ∀ (a b : Xp), sameE a b = true ↔ a = b
  | .mk op v var col kids, .mk op' v' var' col' kids' => by
    obtain ⟨k, n, s⟩ := v
    obtain ⟨k', n', s'⟩ := v'
    simp only [sameE, Bool.and_eq_true, decide_eq_true_eq, sameEs_iff kids kids', Xp.mk.injEq, Val.mk.injEq]
    constructor
    · rintro ⟨h1, h2, h3, h4, h5, h6, h7⟩; exact ⟨h1, ⟨h2, h3, h4⟩, h5, h6, h7⟩
    · rintro ⟨h1, ⟨h2, h3, h4⟩, h5, h6, h7⟩; exact ⟨h1, h2, h3, h4, h5, h6, h7⟩
theorem sameEs_iff : ∀ (l r : List Xp), sameEs l r = true ↔ l = r
  | [], [] => by simp [sameEs]
  | a :: l, b :: r => by simp only [sameEs, Bool.and_eq_true, sameE_iff a b, sameEs_iff l r, List.cons.injEq]
  | [], _ :: _ => by simp [sameEs]
  | _ :: _, [] => by simp [sameEs]
end
theorem ev_samexs (l r : List Xp) (hl : l.length ≤ 1048576) (hr : r.length ≤ 1048576) (ihk : ∀ m ∈ l, ∀ k ∈ r, EV 33 [m.enc, k.enc] [] = some (.ret (.bool (sameE m k)), [])) :
    EV 64 [.slice .froz (l.map Xp.enc), .slice .froz (r.map Xp.enc)] [] = some (.ret (.bool (sameEs l r)), []) := by
  rw [EV_mki rfl Tryz.func64 rfl (by kernel_rfl) rfl]
  by_cases hlen : l.length = r.length
  rotate_left
  · have hz : ¬ (l.length : Int) = r.length := by omega
    simp [Tryz.f64, Tryz.ti3, Tryz.ti9, Tryz.ti31, Tryz.ti44, Tryz.ti50, hz, hlen, sameEs_len hlen]
  have hz : (l.length : Int) = r.length := by omega
  simp [Tryz.f64, Tryz.ti3, Tryz.ti9, Tryz.ti31, Tryz.ti44, Tryz.ti50, hz, hlen]
  rw [i_loop (ts := [11, 12, 13, 14, 17, 18, 19, 20, 21, 22, 23, 24, 25, 26, 15, 16])]
  rotate_left
  · kernel_rfl
  refine i_at (fun i : Nat => l.length - i) (fun i env => setV env 5 (.int .i64 i)) (fun _ => _) (fun i => some (.ret (.bool (sameEs (l.drop i) (r.drop i))), [])) 0 (by simp [s_zero, s_succ]) rfl (by simp) ?_
  intro i ih
  by_cases hi : i < l.length
  · have ih := ih (i + 1) (by omega)
    have hi2 : i < r.length := by omega
    have hwi : IntKind.i64.wrap ((i : Int) + 1) = (i : Int) + 1 := wrap_i64 (by omega)
    obtain ⟨t, hk⟩ : ∃ m, l[i] = m := ⟨_, rfl⟩
    obtain ⟨u, hu⟩ : ∃ m, r[i] = m := ⟨_, rfl⟩
    have h1 := ihk t (by rw [← hk]; exact List.getElem_mem hi) u (by rw [← hu]; exact List.getElem_mem hi2)
    rw [List.drop_eq_getElem_cons hi, List.drop_eq_getElem_cons hi2, hk, hu, sameEs]
    obtain ⟨op, v, var, col, kids⟩ := t
    obtain ⟨op', v', var', col', kids'⟩ := u
    simp only [xenc_mk] at h1
    simp only [s_zero, s_succ, Int.natCast_add, Int.natCast_one, Int.cast_ofNat_Int] at ih
    cases hs : sameE (.mk op v var col kids) (.mk op' v' var' col' kids') <;> rw [hs] at h1
    · simp [i_again, roundEnd, dropT, cleanV, Tryz.f64, Tryz.ti3, Tryz.ti9, Tryz.ti31, Tryz.ti44, Tryz.ti50, hi, hi2, hk, hu, xenc_mk, h1, hwi, ih] <;> first | (refine panQ_of ?_; decide +kernel) | (change _ = true; decide +kernel) | kernel_rfl | (refine ⟨?_, ?_⟩ <;> first | (change _ = true; decide +kernel) | kernel_rfl)
    · simp [i_again, roundEnd, dropT, cleanV, Tryz.f64, Tryz.ti3, Tryz.ti9, Tryz.ti31, Tryz.ti44, Tryz.ti50, hi, hi2, hk, hu, xenc_mk, h1, hwi, ih] <;> first | (refine panQ_of ?_; decide +kernel) | (change _ = true; decide +kernel) | kernel_rfl | (refine ⟨?_, ?_⟩ <;> first | (change _ = true; decide +kernel) | kernel_rfl)
  · rw [List.drop_eq_nil_of_le (by omega), List.drop_eq_nil_of_le (by omega)]
    have hi2 : ¬ i < r.length := by omega
    simp [i_again, roundEnd, dropT, cleanV, Tryz.f64, Tryz.ti3, Tryz.ti9, Tryz.ti31, Tryz.ti44, Tryz.ti50, hi, hi2, sameEs]
mutual
theorem ev_samex : ∀ a b : Xp, a.ok → b.ok → EV 33 [a.enc, b.enc] [] = some (.ret (.bool (sameE a b)), [])
  | .mk op v var col kids, .mk op' v' var' col' kids', h, h' => by
    have h1 := ev_samexs kids kids' h.2.2.2.2.1 h'.2.2.2.2.1 (fun m hm k hk => ev_samex_all kids h.2.2.2.2.2 m hm k ((xoks_iff _).1 h'.2.2.2.2.2 k hk))
    rw [EV_mki rfl Tryz.func33 rfl (by kernel_rfl) rfl, xenc_mk, xenc_mk]
    simp only [sameE]
    by_cases e1 : op = op'
    rotate_left
    · simp [Tryz.f33, Tryz.ti3, Tryz.ti9, Tryz.ti31, Tryz.ti44, Tryz.ti50, e1, gc, reach, reachFuel, shut, nodup, List.idxOf, List.findIdx, List.findIdx.go, backR, List.range, List.range.loop] <;> first | (refine panQ_of ?_; decide +kernel) | (change _ = true; decide +kernel) | kernel_rfl | (refine ⟨?_, ?_⟩ <;> first | (change _ = true; decide +kernel) | kernel_rfl)
    by_cases e2 : v.kind = v'.kind
    rotate_left
    · simp [Tryz.f33, Tryz.ti3, Tryz.ti9, Tryz.ti31, Tryz.ti44, Tryz.ti50, e1, e2, gc, reach, reachFuel, shut, nodup, List.idxOf, List.findIdx, List.findIdx.go, backR, List.range, List.range.loop] <;> first | (refine panQ_of ?_; decide +kernel) | (change _ = true; decide +kernel) | kernel_rfl | (refine ⟨?_, ?_⟩ <;> first | (change _ = true; decide +kernel) | kernel_rfl)
    by_cases e3 : v.n = v'.n
    rotate_left
    · simp [Tryz.f33, Tryz.ti3, Tryz.ti9, Tryz.ti31, Tryz.ti44, Tryz.ti50, e1, e2, e3, gc, reach, reachFuel, shut, nodup, List.idxOf, List.findIdx, List.findIdx.go, backR, List.range, List.range.loop] <;> first | (refine panQ_of ?_; decide +kernel) | (change _ = true; decide +kernel) | kernel_rfl | (refine ⟨?_, ?_⟩ <;> first | (change _ = true; decide +kernel) | kernel_rfl)
    by_cases e4 : v.s = v'.s
    rotate_left
    · simp [Tryz.f33, Tryz.ti3, Tryz.ti9, Tryz.ti31, Tryz.ti44, Tryz.ti50, e1, e2, e3, e4, gc, reach, reachFuel, shut, nodup, List.idxOf, List.findIdx, List.findIdx.go, backR, List.range, List.range.loop] <;> first | (refine panQ_of ?_; decide +kernel) | (change _ = true; decide +kernel) | kernel_rfl | (refine ⟨?_, ?_⟩ <;> first | (change _ = true; decide +kernel) | kernel_rfl)
    by_cases e5 : var = var'
    rotate_left
    · simp [Tryz.f33, Tryz.ti3, Tryz.ti9, Tryz.ti31, Tryz.ti44, Tryz.ti50, e1, e2, e3, e4, e5, gc, reach, reachFuel, shut, nodup, List.idxOf, List.findIdx, List.findIdx.go, backR, List.range, List.range.loop] <;> first | (refine panQ_of ?_; decide +kernel) | (change _ = true; decide +kernel) | kernel_rfl | (refine ⟨?_, ?_⟩ <;> first | (change _ = true; decide +kernel) | kernel_rfl)
    by_cases e6 : col = col'
    rotate_left
    · simp [Tryz.f33, Tryz.ti3, Tryz.ti9, Tryz.ti31, Tryz.ti44, Tryz.ti50, e1, e2, e3, e4, e5, e6, gc, reach, reachFuel, shut, nodup, List.idxOf, List.findIdx, List.findIdx.go, backR, List.range, List.range.loop] <;> first | (refine panQ_of ?_; decide +kernel) | (change _ = true; decide +kernel) | kernel_rfl | (refine ⟨?_, ?_⟩ <;> first | (change _ = true; decide +kernel) | kernel_rfl)
    simp [Tryz.f33, Tryz.ti3, Tryz.ti9, Tryz.ti31, Tryz.ti44, Tryz.ti50, e1, e2, e3, e4, e5, e6, h1, gc, reach, reachFuel, shut, nodup, List.idxOf, List.findIdx, List.findIdx.go, backR, List.range, List.range.loop] <;> first | (refine panQ_of ?_; decide +kernel) | (change _ = true; decide +kernel) | kernel_rfl | (refine ⟨?_, ?_⟩ <;> first | (change _ = true; decide +kernel) | kernel_rfl)
theorem ev_samex_all : ∀ l : List Xp, Xp.oks l → ∀ m ∈ l, ∀ k : Xp, k.ok → EV 33 [m.enc, k.enc] [] = some (.ret (.bool (sameE m k)), [])
  | [], _ => fun m hm => by cases hm
  | e :: l, h => fun m hm k hk => by
    rcases List.mem_cons.1 hm with hx | hm
    · rw [hx]; exact ev_samex e k h.1 hk
    · exact ev_samex_all l h.2 m hm k hk
end
theorem ev_samel {l r : List Xp} (hl : l.length ≤ 1048576 ∧ ∀ m ∈ l, m.ok) (hr : r.length ≤ 1048576 ∧ ∀ m ∈ r, m.ok) : EV 64 [.slice .froz (l.map Xp.enc), .slice .froz (r.map Xp.enc)] [] = some (.ret (.bool (sameEs l r)), []) :=
  ev_samexs l r hl.1 hr.1 fun m hm k hk => ev_samex m k (hl.2 m hm) (hr.2 k hk)
end Go.Abs

