/- The reference's reader: unary, the loops over one op. -/
import Derived.Test.YtpmeklllgnnffaaGreatDoorM35
set_option linter.unusedSimpArgs false
set_option linter.unusedVariables false

namespace Go.Abs
set_option linter.unusedSimpArgs false
set_option linter.unusedVariables false
open Go Go.Proofs
attribute [local simp] i_nil i_blk i_skip i_ret i_exit i_seq i_block i_cond i_region' i_ops_nil i_ops i_drawn' d_in a_nil a_cons alt1 h_nil h_one h_two z_nil z_cons z_cells zeqL zeq q_alloc q_some isAlO nxtN i_drh d_hi i_drw_nil i_drw u_nil u_code u_ops u_drw u_lp u_again u_exit u_ret u_panic c_bool o_some o_val o_panic d_some d_val d_panic w_none w_fast wantG q_nil q_zero q_succ t_zero t_succ g_zero g_succ s_zero s_succ s_some s_none v_tmp v_const v_func f_quiet gc_none gc_pure wrap_i64 p_move p_assign p_pick p_alloc p_box p_build p_buildSlice p_load p_store p_nilCheck p_binOp n_tmp n_int n_bool n_str n_ptr n_fun n_iface nilCmp p_unOp p_convert p_makeSlice p_makeInterface p_makeFunc p_slice p_fieldAddr p_field p_indexAddr p_index p_extract p_callv p_callb p_panic quiet_val new_val e_assign e_call e_load e_store e_alloc e_box e_move e_pick e_build e_buildSlice e_nilCheck e_binOp e_unOp e_convert e_makeSlice e_makeInterface e_makeFunc e_slice e_fieldAddr e_field e_indexAddr e_index e_extract e_panic callD fpRead adoptZ fulls adopt adoptL ofValue ofScalar binOpV unOpV intBin strBin eqRes veq veqF eqDepth val? finish resL r_tmp r_cell normL normTop tipIs refsL refs ownRefs single frz frzL ren renL renOwn callOp doCall backR writeBack builtinV loadV storeV storeW iceT cellsAt takeV D.isAgg overlay vcells cellOk fieldAddrV indexAddrV fieldV partV indexV buildV fillV buildSliceV litElems appendV appElems elemOk convertV convV winStr makeSliceV sliceV natOf
attribute [local simp ↓] brB_true brB_false brB_dec brB_not brB_and brB_or brB_beq brB_bne

/- a part of the reader, at places at most m from the end -/
def EVR (f : FuncId) (L : List Tok) (m : Nat) (R : Nat → Bool → RX) : Prop := ∀ i b, Ends (L.drop i) → L.length - i ≤ m → EV f [.box 0 0] (rpS L i b) = rxO L (R i b) ∧ Ends (L.drop (R i b).2.1) ∧ i ≤ (R i b).2.1
theorem sees_true {L : List Tok} {i : Nat} {b : Bool} {s : List UInt8} (h : seesR L i b s = true) : b = false ∧ isT s (L.drop i) = true := by
  unfold seesR at h
  cases b
  · exact ⟨rfl, by simpa using h⟩
  · simp at h
theorem sees_next {L : List Tok} {i : Nat} {b : Bool} {s : List UInt8} (he : Ends (L.drop i)) (h : seesR L i b s = true) : Ends (L.drop (i + 1)) ∧ i < L.length := by
  obtain ⟨_, ht⟩ := sees_true h
  obtain ⟨h1, h2⟩ := isT_lt ht
  rw [← h2]
  exact ⟨ends_tail he ht, h1⟩
theorem xop1_enc' (o : List UInt8) (x : Xp) : (xop o [x]).enc = .agg [.str o, .int .i64 0, .int .i64 0, .str [], .str [], .str [], .slice .froz [x.enc]] := by simp [xop, xenc_mk, Val.zero]
theorem xop2_enc' (o : List UInt8) (x y : Xp) : (xop o [x, y]).enc = .agg [.str o, .int .i64 0, .int .i64 0, .str [], .str [], .str [], .slice .froz [x.enc, y.enc]] := by simp [xop, xenc_mk, Val.zero]
theorem ev_runary (L : List Tok) (hL : L.length ≤ 100000) (R : Nat → Bool → RX) (m : Nat) (ha : EVR 224 L m (atomR L R)) : ∀ k i b, Ends (L.drop i) → L.length - i ≤ m → L.length - i < k → EV 220 [.box 0 0] (rpS L i b) = rxO L (unaryR L R k i b) ∧ Ends (L.drop (unaryR L R k i b).2.1) ∧ i ≤ (unaryR L R k i b).2.1
  | 0, i, b, he, hm, hk => by omega
  | k + 1, i, b, he, hm, hk => by
    have h1 := ev_has L i b [45] he hL
    unfold unaryR
    unfold hasR at h1
    cases hs : seesR L i b [45]
    · rw [hs] at h1
      obtain ⟨h2, h3, h4⟩ := ha i b he hm
      simp only [Bool.false_eq_true, if_false] at h1 ⊢
      refine ⟨?_, h3, h4⟩
      clear h3 h4 ha
      rw [EV_mki rfl Tryz.func220 rfl (by kernel_rfl) rfl]
      generalize atomR L R i b = x at *
      obtain ⟨⟨op, v, var, col, kids⟩, j, c⟩ := x
      unfold rxO rpS at *
      simp only [xenc_mk] at h2 ⊢
      simp [Tryz.f220, Tryz.ti3, Tryz.ti9, Tryz.ti31, Tryz.ti44, Tryz.ti50, h1, h2, gc, reach, reachFuel, shut, nodup, List.idxOf, List.findIdx, List.findIdx.go, backR, List.range, List.range.loop]
    · rw [hs] at h1
      obtain ⟨he1, hlt⟩ := sees_next he hs
      obtain ⟨h2, h3, h4⟩ := ev_runary L hL R m ha k (i + 1) b he1 (by omega) (by omega)
      simp only [if_true] at h1 ⊢
      refine ⟨?_, h3, by omega⟩
      clear h3 h4 ha
      rw [EV_mki rfl Tryz.func220 rfl (by kernel_rfl) rfl]
      generalize unaryR L R k (i + 1) b = x at *
      obtain ⟨e, j, c⟩ := x
      unfold rxO rpS at *
      simp only [xop1_enc'] at h2 ⊢
      obtain ⟨op, v, var, col, kids⟩ := e
      simp only [xenc_mk, Int.natCast_add, Int.natCast_one] at h1 h2 ⊢
      simp [Tryz.f220, Tryz.ti3, Tryz.ti9, Tryz.ti31, Tryz.ti44, Tryz.ti50, oNeg, h1, h2, gc, reach, reachFuel, shut, nodup, List.idxOf, List.findIdx, List.findIdx.go, backR, List.range, List.range.loop]
end Go.Abs

namespace Go.Abs
set_option linter.unusedSimpArgs false
set_option linter.unusedVariables false
open Go Go.Proofs
attribute [local simp] i_nil i_blk i_skip i_ret i_exit i_seq i_block i_cond i_region' i_ops_nil i_ops i_drawn' d_in a_nil a_cons alt1 h_nil h_one h_two z_nil z_cons z_cells zeqL zeq q_alloc q_some isAlO nxtN i_drh d_hi i_drw_nil i_drw u_nil u_code u_ops u_drw u_lp u_again u_exit u_ret u_panic c_bool o_some o_val o_panic d_some d_val d_panic w_none w_fast wantG q_nil q_zero q_succ t_zero t_succ g_zero g_succ s_zero s_succ s_some s_none v_tmp v_const v_func f_quiet gc_none gc_pure wrap_i64 p_move p_assign p_pick p_alloc p_box p_build p_buildSlice p_load p_store p_nilCheck p_binOp n_tmp n_int n_bool n_str n_ptr n_fun n_iface nilCmp p_unOp p_convert p_makeSlice p_makeInterface p_makeFunc p_slice p_fieldAddr p_field p_indexAddr p_index p_extract p_callv p_callb p_panic quiet_val new_val e_assign e_call e_load e_store e_alloc e_box e_move e_pick e_build e_buildSlice e_nilCheck e_binOp e_unOp e_convert e_makeSlice e_makeInterface e_makeFunc e_slice e_fieldAddr e_field e_indexAddr e_index e_extract e_panic callD fpRead adoptZ fulls adopt adoptL ofValue ofScalar binOpV unOpV intBin strBin eqRes veq veqF eqDepth val? finish resL r_tmp r_cell normL normTop tipIs refsL refs ownRefs single frz frzL ren renL renOwn callOp doCall backR writeBack builtinV loadV storeV storeW iceT cellsAt takeV D.isAgg overlay vcells cellOk fieldAddrV indexAddrV fieldV partV indexV buildV fillV buildSliceV litElems appendV appElems elemOk convertV convV winStr makeSliceV sliceV natOf
attribute [local simp ↓] brB_true brB_false brB_dec brB_not brB_and brB_or brB_beq brB_bne

theorem loop_ends {L : List Tok} {m : Nat} {R : Nat → Bool → RX} (w o : List UInt8) (hR : ∀ i b, Ends (L.drop i) → L.length - i ≤ m → Ends (L.drop (R i b).2.1) ∧ i ≤ (R i b).2.1) : ∀ (k : Nat) (e : Xp) (i : Nat) (b : Bool), Ends (L.drop i) → L.length - i ≤ m → Ends (L.drop (loopR L R w o k e i b).2.1) ∧ i ≤ (loopR L R w o k e i b).2.1
  | 0, e, i, b, he, hm => ⟨he, Nat.le_refl _⟩
  | k + 1, e, i, b, he, hm => by
    unfold loopR
    cases hs : seesR L i b w
    · exact ⟨he, Nat.le_refl _⟩
    · obtain ⟨he1, hlt⟩ := sees_next he hs
      obtain ⟨h1, h2⟩ := hR (i + 1) b he1 (by omega)
      simp only [if_true]
      obtain ⟨h3, h4⟩ := loop_ends w o hR k (xop o [e, (R (i + 1) b).1]) (R (i + 1) b).2.1 (R (i + 1) b).2.2 h1 (by omega)
      exact ⟨h3, by omega⟩
set_option maxRecDepth 100000 in
theorem ev_rterm (L : List Tok) (hL : L.length ≤ 100000) (m : Nat) (R : Nat → Bool → RX) (hp : EVR 220 L m R) : EVR 212 L m (opsR L R [42] [42]) := by
  intro i b he hm
  obtain ⟨h1, h2, h3⟩ := hp i b he hm
  have hE := loop_ends (L := L) (m := m) (R := R) [42] [42] (fun i b he hm => (hp i b he hm).2) (L.length + 1) (R i b).1 (R i b).2.1 (R i b).2.2 h2 (by omega)
  unfold opsR
  refine ⟨?_, hE.1, by omega⟩
  clear hE
  rw [EV_mki rfl Tryz.func212 rfl (by kernel_rfl) rfl]
  generalize R i b = x at *
  obtain ⟨e, j, c⟩ := x
  have hcell : e.enc = .agg (vcells e.enc) := by cases e; rw [xenc_mk]; rfl
  obtain ⟨xs, hx⟩ : ∃ xs, vcells e.enc = xs := ⟨_, rfl⟩
  dsimp only at h2 h3 ⊢
  generalize hG : rxO L (loopR L R [42] [42] (L.length + 1) e j c) = G
  obtain ⟨op, v, var, col, kids⟩ := e
  unfold rxO rpS at h1
  simp only [xenc_mk] at h1
  simp [Tryz.f212, Tryz.ti3, Tryz.ti9, Tryz.ti31, Tryz.ti44, Tryz.ti50, h1, gc, reach, reachFuel, shut, nodup, List.idxOf, List.findIdx, List.findIdx.go, backR, List.range, List.range.loop]
  rw [i_loop (ts := [7, 8, 9, 10, 4, 11, 12, 13, 14])]
  rotate_left
  · kernel_rfl
  refine i_at2 (fun x : {x : Nat × Xp × Nat × Bool // Ends (L.drop x.2.2.1) ∧ L.length - x.2.2.1 ≤ m ∧ L.length - x.2.2.1 < x.1} => L.length - x.1.2.2.1) (fun x env => env) (fun x st => (st.set 0 [.slice .froz (L.map Tok.enc), .int .i64 x.1.2.2.1, .bool x.1.2.2.2]).set 4 (vcells x.1.2.1.enc))
    (fun x => rxO L (loopR L R [42] [42] x.1.1 x.1.2.1 x.1.2.2.1 x.1.2.2.2)) ⟨(L.length + 1, .mk op v var col kids, j, c), h2, by dsimp only; omega, by dsimp only; omega⟩ (by simp) (by simp [xenc_mk]) hG ?_
  clear hG h1 h2 h3 hx hcell G
  intro ⟨(k, e, i', b'), c1, c2, c3⟩ ih
  dsimp only at c1 c2 c3 ih ⊢
  cases k with
  | zero => omega
  | succ k =>
    have h1 := ev_has L i' b' [42] c1 hL
    unfold hasR at h1
    unfold loopR
    cases hs : seesR L i' b' [42]
    · rw [hs] at h1
      clear ih hp
      obtain ⟨op2, v2, var2, col2, kids2⟩ := e
      unfold rxO rpS at *
      simp only [Bool.false_eq_true, if_false, xenc_mk, vcells] at h1 ⊢
      simp [i_again, roundEnd, dropT, cleanV, Tryz.f212, Tryz.ti3, Tryz.ti9, Tryz.ti31, Tryz.ti44, Tryz.ti50, h1, gc, reach, reachFuel, shut, nodup, List.idxOf, List.findIdx, List.findIdx.go, backR, List.range, List.range.loop]
    · rw [hs] at h1
      obtain ⟨he1, hlt⟩ := sees_next c1 hs
      obtain ⟨h2, h3, h4⟩ := hp (i' + 1) b' he1 (by omega)
      simp only [if_true]
      have ih := ih ⟨(k, xop [42] [e, (R (i' + 1) b').1], (R (i' + 1) b').2.1, (R (i' + 1) b').2.2), h3, by dsimp only; omega, by dsimp only; omega⟩ (by dsimp only; omega)
      dsimp only at ih
      rw [← ih]
      clear ih hp
      generalize R (i' + 1) b' = y at *
      obtain ⟨⟨op3, v3, var3, col3, kids3⟩, j', c'⟩ := y
      obtain ⟨op2, v2, var2, col2, kids2⟩ := e
      unfold rxO rpS at *
      simp only [if_true, xop2_enc', xenc_mk, vcells, Int.natCast_add, Int.natCast_one] at h1 h2 ⊢
      simp [i_again, roundEnd, dropT, cleanV, Tryz.f212, Tryz.ti3, Tryz.ti9, Tryz.ti31, Tryz.ti44, Tryz.ti50, h1, h2, gc, reach, reachFuel, shut, nodup, List.idxOf, List.findIdx, List.findIdx.go, backR, List.range, List.range.loop]
set_option maxRecDepth 100000 in
theorem ev_rand (L : List Tok) (hL : L.length ≤ 100000) (m : Nat) (R : Nat → Bool → RX) (hp : EVR 163 L m R) : EVR 130 L m (opsR L R [65, 78, 68] oAnd) := by
  intro i b he hm
  obtain ⟨h1, h2, h3⟩ := hp i b he hm
  have hE := loop_ends (L := L) (m := m) (R := R) [65, 78, 68] oAnd (fun i b he hm => (hp i b he hm).2) (L.length + 1) (R i b).1 (R i b).2.1 (R i b).2.2 h2 (by omega)
  unfold opsR
  refine ⟨?_, hE.1, by omega⟩
  clear hE
  rw [EV_mki rfl Tryz.func130 rfl (by kernel_rfl) rfl]
  generalize R i b = x at *
  obtain ⟨e, j, c⟩ := x
  have hcell : e.enc = .agg (vcells e.enc) := by cases e; rw [xenc_mk]; rfl
  obtain ⟨xs, hx⟩ : ∃ xs, vcells e.enc = xs := ⟨_, rfl⟩
  dsimp only at h2 h3 ⊢
  generalize hG : rxO L (loopR L R [65, 78, 68] oAnd (L.length + 1) e j c) = G
  obtain ⟨op, v, var, col, kids⟩ := e
  unfold rxO rpS at h1
  simp only [xenc_mk] at h1
  simp [Tryz.f130, Tryz.ti3, Tryz.ti9, Tryz.ti31, Tryz.ti44, Tryz.ti50, h1, gc, reach, reachFuel, shut, nodup, List.idxOf, List.findIdx, List.findIdx.go, backR, List.range, List.range.loop]
  rw [i_loop (ts := [7, 8, 9, 10, 4, 11, 12, 13, 14])]
  rotate_left
  · kernel_rfl
  refine i_at2 (fun x : {x : Nat × Xp × Nat × Bool // Ends (L.drop x.2.2.1) ∧ L.length - x.2.2.1 ≤ m ∧ L.length - x.2.2.1 < x.1} => L.length - x.1.2.2.1) (fun x env => env) (fun x st => (st.set 0 [.slice .froz (L.map Tok.enc), .int .i64 x.1.2.2.1, .bool x.1.2.2.2]).set 4 (vcells x.1.2.1.enc))
    (fun x => rxO L (loopR L R [65, 78, 68] oAnd x.1.1 x.1.2.1 x.1.2.2.1 x.1.2.2.2)) ⟨(L.length + 1, .mk op v var col kids, j, c), h2, by dsimp only; omega, by dsimp only; omega⟩ (by simp) (by simp [xenc_mk]) hG ?_
  clear hG h1 h2 h3 hx hcell G
  intro ⟨(k, e, i', b'), c1, c2, c3⟩ ih
  dsimp only at c1 c2 c3 ih ⊢
  cases k with
  | zero => omega
  | succ k =>
    have h1 := ev_has L i' b' [65, 78, 68] c1 hL
    unfold hasR at h1
    unfold loopR
    cases hs : seesR L i' b' [65, 78, 68]
    · rw [hs] at h1
      clear ih hp
      obtain ⟨op2, v2, var2, col2, kids2⟩ := e
      unfold rxO rpS at *
      simp only [Bool.false_eq_true, if_false, xenc_mk, vcells] at h1 ⊢
      simp [i_again, roundEnd, dropT, cleanV, Tryz.f130, Tryz.ti3, Tryz.ti9, Tryz.ti31, Tryz.ti44, Tryz.ti50, h1, gc, reach, reachFuel, shut, nodup, List.idxOf, List.findIdx, List.findIdx.go, backR, List.range, List.range.loop]
    · rw [hs] at h1
      obtain ⟨he1, hlt⟩ := sees_next c1 hs
      obtain ⟨h2, h3, h4⟩ := hp (i' + 1) b' he1 (by omega)
      simp only [if_true]
      have ih := ih ⟨(k, xop oAnd [e, (R (i' + 1) b').1], (R (i' + 1) b').2.1, (R (i' + 1) b').2.2), h3, by dsimp only; omega, by dsimp only; omega⟩ (by dsimp only; omega)
      dsimp only at ih
      rw [← ih]
      clear ih hp
      generalize R (i' + 1) b' = y at *
      obtain ⟨⟨op3, v3, var3, col3, kids3⟩, j', c'⟩ := y
      obtain ⟨op2, v2, var2, col2, kids2⟩ := e
      unfold rxO rpS at *
      simp only [if_true, xop2_enc', xenc_mk, vcells, Int.natCast_add, Int.natCast_one] at h1 h2 ⊢
      simp [i_again, roundEnd, dropT, cleanV, Tryz.f130, Tryz.ti3, Tryz.ti9, Tryz.ti31, Tryz.ti44, Tryz.ti50, oAnd, h1, h2, gc, reach, reachFuel, shut, nodup, List.idxOf, List.findIdx, List.findIdx.go, backR, List.range, List.range.loop]
set_option maxRecDepth 100000 in
theorem ev_ror (L : List Tok) (hL : L.length ≤ 100000) (m : Nat) (R : Nat → Bool → RX) (hp : EVR 130 L m R) : EVR 81 L m (opsR L R [79, 82] oOr) := by
  intro i b he hm
  obtain ⟨h1, h2, h3⟩ := hp i b he hm
  have hE := loop_ends (L := L) (m := m) (R := R) [79, 82] oOr (fun i b he hm => (hp i b he hm).2) (L.length + 1) (R i b).1 (R i b).2.1 (R i b).2.2 h2 (by omega)
  unfold opsR
  refine ⟨?_, hE.1, by omega⟩
  clear hE
  rw [EV_mki rfl Tryz.func81 rfl (by kernel_rfl) rfl]
  generalize R i b = x at *
  obtain ⟨e, j, c⟩ := x
  have hcell : e.enc = .agg (vcells e.enc) := by cases e; rw [xenc_mk]; rfl
  obtain ⟨xs, hx⟩ : ∃ xs, vcells e.enc = xs := ⟨_, rfl⟩
  dsimp only at h2 h3 ⊢
  generalize hG : rxO L (loopR L R [79, 82] oOr (L.length + 1) e j c) = G
  obtain ⟨op, v, var, col, kids⟩ := e
  unfold rxO rpS at h1
  simp only [xenc_mk] at h1
  simp [Tryz.f81, Tryz.ti3, Tryz.ti9, Tryz.ti31, Tryz.ti44, Tryz.ti50, h1, gc, reach, reachFuel, shut, nodup, List.idxOf, List.findIdx, List.findIdx.go, backR, List.range, List.range.loop]
  rw [i_loop (ts := [7, 8, 9, 10, 4, 11, 12, 13, 14])]
  rotate_left
  · kernel_rfl
  refine i_at2 (fun x : {x : Nat × Xp × Nat × Bool // Ends (L.drop x.2.2.1) ∧ L.length - x.2.2.1 ≤ m ∧ L.length - x.2.2.1 < x.1} => L.length - x.1.2.2.1) (fun x env => env) (fun x st => (st.set 0 [.slice .froz (L.map Tok.enc), .int .i64 x.1.2.2.1, .bool x.1.2.2.2]).set 4 (vcells x.1.2.1.enc))
    (fun x => rxO L (loopR L R [79, 82] oOr x.1.1 x.1.2.1 x.1.2.2.1 x.1.2.2.2)) ⟨(L.length + 1, .mk op v var col kids, j, c), h2, by dsimp only; omega, by dsimp only; omega⟩ (by simp) (by simp [xenc_mk]) hG ?_
  clear hG h1 h2 h3 hx hcell G
  intro ⟨(k, e, i', b'), c1, c2, c3⟩ ih
  dsimp only at c1 c2 c3 ih ⊢
  cases k with
  | zero => omega
  | succ k =>
    have h1 := ev_has L i' b' [79, 82] c1 hL
    unfold hasR at h1
    unfold loopR
    cases hs : seesR L i' b' [79, 82]
    · rw [hs] at h1
      clear ih hp
      obtain ⟨op2, v2, var2, col2, kids2⟩ := e
      unfold rxO rpS at *
      simp only [Bool.false_eq_true, if_false, xenc_mk, vcells] at h1 ⊢
      simp [i_again, roundEnd, dropT, cleanV, Tryz.f81, Tryz.ti3, Tryz.ti9, Tryz.ti31, Tryz.ti44, Tryz.ti50, h1, gc, reach, reachFuel, shut, nodup, List.idxOf, List.findIdx, List.findIdx.go, backR, List.range, List.range.loop]
    · rw [hs] at h1
      obtain ⟨he1, hlt⟩ := sees_next c1 hs
      obtain ⟨h2, h3, h4⟩ := hp (i' + 1) b' he1 (by omega)
      simp only [if_true]
      have ih := ih ⟨(k, xop oOr [e, (R (i' + 1) b').1], (R (i' + 1) b').2.1, (R (i' + 1) b').2.2), h3, by dsimp only; omega, by dsimp only; omega⟩ (by dsimp only; omega)
      dsimp only at ih
      rw [← ih]
      clear ih hp
      generalize R (i' + 1) b' = y at *
      obtain ⟨⟨op3, v3, var3, col3, kids3⟩, j', c'⟩ := y
      obtain ⟨op2, v2, var2, col2, kids2⟩ := e
      unfold rxO rpS at *
      simp only [if_true, xop2_enc', xenc_mk, vcells, Int.natCast_add, Int.natCast_one] at h1 h2 ⊢
      simp [i_again, roundEnd, dropT, cleanV, Tryz.f81, Tryz.ti3, Tryz.ti9, Tryz.ti31, Tryz.ti44, Tryz.ti50, oOr, h1, h2, gc, reach, reachFuel, shut, nodup, List.idxOf, List.findIdx, List.findIdx.go, backR, List.range, List.range.loop]
end Go.Abs

namespace Go.Abs
set_option linter.unusedSimpArgs false
set_option linter.unusedVariables false
open Go Go.Proofs
attribute [local simp] i_nil i_blk i_skip i_ret i_exit i_seq i_block i_cond i_region' i_ops_nil i_ops i_drawn' d_in a_nil a_cons alt1 h_nil h_one h_two z_nil z_cons z_cells zeqL zeq q_alloc q_some isAlO nxtN i_drh d_hi i_drw_nil i_drw u_nil u_code u_ops u_drw u_lp u_again u_exit u_ret u_panic c_bool o_some o_val o_panic d_some d_val d_panic w_none w_fast wantG q_nil q_zero q_succ t_zero t_succ g_zero g_succ s_zero s_succ s_some s_none v_tmp v_const v_func f_quiet gc_none gc_pure wrap_i64 p_move p_assign p_pick p_alloc p_box p_build p_buildSlice p_load p_store p_nilCheck p_binOp n_tmp n_int n_bool n_str n_ptr n_fun n_iface nilCmp p_unOp p_convert p_makeSlice p_makeInterface p_makeFunc p_slice p_fieldAddr p_field p_indexAddr p_index p_extract p_callv p_callb p_panic quiet_val new_val e_assign e_call e_load e_store e_alloc e_box e_move e_pick e_build e_buildSlice e_nilCheck e_binOp e_unOp e_convert e_makeSlice e_makeInterface e_makeFunc e_slice e_fieldAddr e_field e_indexAddr e_index e_extract e_panic callD fpRead adoptZ fulls adopt adoptL ofValue ofScalar binOpV unOpV intBin strBin eqRes veq veqF eqDepth val? finish resL r_tmp r_cell normL normTop tipIs refsL refs ownRefs single frz frzL ren renL renOwn callOp doCall backR writeBack builtinV loadV storeV storeW iceT cellsAt takeV D.isAgg overlay vcells cellOk fieldAddrV indexAddrV fieldV partV indexV buildV fillV buildSliceV litElems appendV appElems elemOk convertV convV winStr makeSliceV sliceV natOf
attribute [local simp ↓] brB_true brB_false brB_dec brB_not brB_and brB_or brB_beq brB_bne

theorem suml_ends {L : List Tok} {m : Nat} {R : Nat → Bool → RX} (hR : ∀ i b, Ends (L.drop i) → L.length - i ≤ m → Ends (L.drop (R i b).2.1) ∧ i ≤ (R i b).2.1) : ∀ (k : Nat) (e : Xp) (i : Nat) (b : Bool), Ends (L.drop i) → L.length - i ≤ m → Ends (L.drop (sumLR L R k e i b).2.1) ∧ i ≤ (sumLR L R k e i b).2.1
  | 0, e, i, b, he, hm => ⟨he, Nat.le_refl _⟩
  | k + 1, e, i, b, he, hm => by
    unfold sumLR
    cases hs : seesR L i b [43] || seesR L i b [45]
    · exact ⟨he, Nat.le_refl _⟩
    · obtain ⟨he1, hlt⟩ : Ends (L.drop (i + 1)) ∧ i < L.length := by
        rcases (by simpa using hs : seesR L i b [43] = true ∨ seesR L i b [45] = true) with hs | hs
        · exact sees_next he hs
        · exact sees_next he hs
      obtain ⟨h1, h2⟩ := hR (i + 1) b he1 (by omega)
      simp only [if_true]
      obtain ⟨h3, h4⟩ := suml_ends hR k (xop (topS L i) [e, (R (i + 1) b).1]) (R (i + 1) b).2.1 (R (i + 1) b).2.2 h1 (by omega)
      exact ⟨h3, by omega⟩
set_option maxRecDepth 100000 in
theorem ev_rsum (L : List Tok) (hL : L.length ≤ 100000) (m : Nat) (R : Nat → Bool → RX) (hp : EVR 212 L m R) : EVR 195 L m (fun i b => sumLR L R (L.length + 1) (R i b).1 (R i b).2.1 (R i b).2.2) := by
  intro i b he hm
  obtain ⟨h1, h2, h3⟩ := hp i b he hm
  have hE := suml_ends (L := L) (m := m) (R := R) (fun i b he hm => (hp i b he hm).2) (L.length + 1) (R i b).1 (R i b).2.1 (R i b).2.2 h2 (by omega)
  dsimp only
  refine ⟨?_, hE.1, by omega⟩
  clear hE
  rw [EV_mki rfl Tryz.func195 rfl (by kernel_rfl) rfl]
  generalize R i b = x at *
  obtain ⟨e, j, c⟩ := x
  have hcell : e.enc = .agg (vcells e.enc) := by cases e; rw [xenc_mk]; rfl
  obtain ⟨xs, hx⟩ : ∃ xs, vcells e.enc = xs := ⟨_, rfl⟩
  dsimp only at h2 h3 ⊢
  generalize hG : rxO L (sumLR L R (L.length + 1) e j c) = G
  obtain ⟨op, v, var, col, kids⟩ := e
  unfold rxO rpS at h1
  simp only [xenc_mk] at h1
  simp [Tryz.f195, Tryz.ti3, Tryz.ti4, Tryz.ti9, Tryz.ti31, Tryz.ti44, Tryz.ti50, Tryz.ti112, Tryz.ti117, Tryz.ti120, h1, gc, reach, reachFuel, shut, nodup, List.idxOf, List.findIdx, List.findIdx.go, backR, List.range, List.range.loop]
  rw [i_loop (ts := [8, 9, 10, 11, 12, 13, 14, 15, 16, 17, 18, 19, 20, 21, 22, 23, 24, 4, 25, 26, 27, 28, 29, 30, 31, 32, 33, 5, 34, 35, 36, 37, 38])]
  rotate_left
  · kernel_rfl
  refine i_at2 (fun x : {x : Nat × Xp × Nat × Bool // Ends (L.drop x.2.2.1) ∧ L.length - x.2.2.1 ≤ m ∧ L.length - x.2.2.1 < x.1} => L.length - x.1.2.2.1) (fun x env => env) (fun x st => (st.set 0 [.slice .froz (L.map Tok.enc), .int .i64 x.1.2.2.1, .bool x.1.2.2.2]).set 4 (vcells x.1.2.1.enc))
    (fun x => rxO L (sumLR L R x.1.1 x.1.2.1 x.1.2.2.1 x.1.2.2.2)) ⟨(L.length + 1, .mk op v var col kids, j, c), h2, by dsimp only; omega, by dsimp only; omega⟩ (by simp) (by simp [xenc_mk]) hG ?_
  clear hG h1 h2 h3 hx hcell G
  intro ⟨(k, e, i', b'), c1, c2, c3⟩ ih
  dsimp only at c1 c2 c3 ih ⊢
  cases k with
  | zero => omega
  | succ k =>
    have h1 := ev_sees L i' b' [43] c1 hL
    have h0 := ev_sees L i' b' [45] c1 hL
    unfold sumLR
    cases hs : seesR L i' b' [43] || seesR L i' b' [45]
    · obtain ⟨s1, s2⟩ := Bool.or_eq_false_iff.1 hs
      rw [s1] at h1
      rw [s2] at h0
      clear ih hp
      obtain ⟨op2, v2, var2, col2, kids2⟩ := e
      unfold rxO rpS at *
      simp only [Bool.false_eq_true, if_false, xenc_mk, vcells] at h1 ⊢
      simp [i_again, roundEnd, dropT, cleanV, Tryz.f195, Tryz.ti3, Tryz.ti4, Tryz.ti9, Tryz.ti31, Tryz.ti44, Tryz.ti50, Tryz.ti112, Tryz.ti117, Tryz.ti120, h1, h0, gc, reach, reachFuel, shut, nodup, List.idxOf, List.findIdx, List.findIdx.go, backR, List.range, List.range.loop]
    · have hor : seesR L i' b' [43] = true ∨ seesR L i' b' [45] = true := by simpa using hs
      obtain ⟨he1, hlt⟩ : Ends (L.drop (i' + 1)) ∧ i' < L.length := by
        rcases hor with hs | hs
        · exact sees_next c1 hs
        · exact sees_next c1 hs
      obtain ⟨h2, h3, h4⟩ := hp (i' + 1) b' he1 (by omega)
      simp only [if_true]
      have ih := ih ⟨(k, xop (topS L i') [e, (R (i' + 1) b').1], (R (i' + 1) b').2.1, (R (i' + 1) b').2.2), h3, by dsimp only; omega, by dsimp only; omega⟩ (by dsimp only; omega)
      dsimp only at ih
      rw [← ih]
      obtain ⟨t, q, hq⟩ := ends_cons c1
      obtain ⟨g1, g2, g3⟩ := at_cons hq
      have htop : topS L i' = t.s := by unfold topS; rw [hq]
      rw [htop]
      clear ih hp htop
      generalize R (i' + 1) b' = y at *
      obtain ⟨⟨op3, v3, var3, col3, kids3⟩, j', c'⟩ := y
      obtain ⟨op2, v2, var2, col2, kids2⟩ := e
      obtain ⟨tk, tn, tp, tw⟩ := t
      rw [Tok.enc_eq] at g1
      have hw : IntKind.i64.wrap ((i' : Int) + 1) = (i' : Int) + 1 := wrap_i64 (by omega)
      have hlen : (L.map Tok.enc).length = L.length := by simp
      unfold rxO rpS at *
      simp only [xop2_enc', xenc_mk, vcells, Int.natCast_add, Int.natCast_one] at h1 h2 ⊢
      generalize L.map Tok.enc = xs at *
      have h2' : i' < xs.length := by omega
      have hget : xs[i'] = .agg [.int .i64 tk, .int .i64 tn, .int .i64 tp, .str tw] := by
        rw [List.getElem?_eq_getElem h2'] at g1
        exact Option.some.inj g1
      cases s1 : seesR L i' b' [43]
      · have s2 : seesR L i' b' [45] = true := by
          rcases hor with h | h
          · rw [s1] at h; cases h
          · exact h
        rw [s1] at h1
        rw [s2] at h0
        simp [i_again, roundEnd, dropT, cleanV, Tryz.f195, Tryz.ti3, Tryz.ti4, Tryz.ti9, Tryz.ti31, Tryz.ti44, Tryz.ti50, Tryz.ti112, Tryz.ti117, Tryz.ti120, h1, h0, h2, hget, h2', hw, gc, reach, reachFuel, shut, nodup, List.idxOf, List.findIdx, List.findIdx.go, backR, List.range, List.range.loop] <;> first | (refine panQ_of ?_; decide +kernel) | (change _ = true; decide +kernel) | kernel_rfl | (refine ⟨?_, ?_⟩ <;> first | (change _ = true; decide +kernel) | kernel_rfl)
      · rw [s1] at h1
        simp [i_again, roundEnd, dropT, cleanV, Tryz.f195, Tryz.ti3, Tryz.ti4, Tryz.ti9, Tryz.ti31, Tryz.ti44, Tryz.ti50, Tryz.ti112, Tryz.ti117, Tryz.ti120, h1, h2, hget, h2', hw, gc, reach, reachFuel, shut, nodup, List.idxOf, List.findIdx, List.findIdx.go, backR, List.range, List.range.loop] <;> first | (refine panQ_of ?_; decide +kernel) | (change _ = true; decide +kernel) | kernel_rfl | (refine ⟨?_, ?_⟩ <;> first | (change _ = true; decide +kernel) | kernel_rfl)
end Go.Abs

namespace Go.Abs
set_option linter.unusedSimpArgs false
set_option linter.unusedVariables false
open Go Go.Proofs
attribute [local simp] i_nil i_blk i_skip i_ret i_exit i_seq i_block i_cond i_region' i_ops_nil i_ops i_drawn' d_in a_nil a_cons alt1 h_nil h_one h_two z_nil z_cons z_cells zeqL zeq q_alloc q_some isAlO nxtN i_drh d_hi i_drw_nil i_drw u_nil u_code u_ops u_drw u_lp u_again u_exit u_ret u_panic c_bool o_some o_val o_panic d_some d_val d_panic w_none w_fast wantG q_nil q_zero q_succ t_zero t_succ g_zero g_succ s_zero s_succ s_some s_none v_tmp v_const v_func f_quiet gc_none gc_pure wrap_i64 p_move p_assign p_pick p_alloc p_box p_build p_buildSlice p_load p_store p_nilCheck p_binOp n_tmp n_int n_bool n_str n_ptr n_fun n_iface nilCmp p_unOp p_convert p_makeSlice p_makeInterface p_makeFunc p_slice p_fieldAddr p_field p_indexAddr p_index p_extract p_callv p_callb p_panic quiet_val new_val e_assign e_call e_load e_store e_alloc e_box e_move e_pick e_build e_buildSlice e_nilCheck e_binOp e_unOp e_convert e_makeSlice e_makeInterface e_makeFunc e_slice e_fieldAddr e_field e_indexAddr e_index e_extract e_panic callD fpRead adoptZ fulls adopt adoptL ofValue ofScalar binOpV unOpV intBin strBin eqRes veq veqF eqDepth val? finish resL r_tmp r_cell normL normTop tipIs refsL refs ownRefs single frz frzL ren renL renOwn callOp doCall backR writeBack builtinV loadV storeV storeW iceT cellsAt takeV D.isAgg overlay vcells cellOk fieldAddrV indexAddrV fieldV partV indexV buildV fillV buildSliceV litElems appendV appElems elemOk convertV convV winStr makeSliceV sliceV natOf
attribute [local simp ↓] brB_true brB_false brB_dec brB_not brB_and brB_or brB_beq brB_bne

def pickAt (k : Nat) (p : Nat × Nat) : Int := if p.1 = 0 then 0 else (k : Int) + p.1
theorem pick_no {L : List Tok} {s : List UInt8} {r : List (List UInt8)} {i k : Nat} {b : Bool} (h : seesR L i b s = false) : pickAt k (pickR L (s :: r) i b) = pickAt (k + 1) (pickR L r i b) ∧ (pickR L (s :: r) i b).2 = (pickR L r i b).2 := by
  simp only [pickR, h, Bool.false_eq_true, if_false]
  obtain ⟨n, j⟩ := pickR L r i b
  cases n
  · exact ⟨rfl, rfl⟩
  · refine ⟨?_, rfl⟩
    simp [pickAt]
    omega
theorem pick_yes {L : List Tok} {s : List UInt8} {r : List (List UInt8)} {i : Nat} {b : Bool} (h : seesR L i b s = true) : pickR L (s :: r) i b = (1, i + 1) := by simp [pickR, h]
theorem ev_rpick (ss : List (List UInt8)) (hs : ss.length ≤ 1000) (L : List Tok) (hL : L.length ≤ 100000) (i : Nat) (b : Bool) (he : Ends (L.drop i)) :
    EV 115 [.box 0 0, .slice .froz (ss.map V.str)] [[.slice .froz (L.map Tok.enc), .int .i64 i, .bool b]] = some (.ret (.int .i64 (pickR L ss i b).1), [[.slice .froz (L.map Tok.enc), .int .i64 (pickR L ss i b).2, .bool b]]) := by
  have hstart : ((pickR L ss i b).1 : Int) = pickAt 0 (pickR L (ss.drop 0) i b) := by
    unfold pickAt
    rw [List.drop_zero]
    split <;> omega
  rw [hstart]
  have hd0 : (pickR L ss i b).2 = (pickR L (ss.drop 0) i b).2 := by rw [List.drop_zero]
  rw [hd0]
  rw [EV_mki rfl Tryz.func115 rfl (by kernel_rfl) rfl]
  have hlen : (ss.map V.str).length = ss.length := by simp
  simp [Tryz.f115, Tryz.ti3, Tryz.ti9, Tryz.ti100, gc, reach, reachFuel, shut, nodup, List.idxOf, List.findIdx, List.findIdx.go, backR, List.range, List.range.loop, -List.drop_zero]
  rw [i_loop (ts := [6, 7, 8, 9, 12, 13, 14, 15, 16, 17, 18, 19, 10, 11])]
  rotate_left
  · kernel_rfl
  refine i_at (fun k : {k : Nat // k ≤ ss.length} => ss.length - k.1) (fun k env => setV env 5 (.int .i64 k.1)) (fun k => _) (fun k => some (.ret (.int .i64 (pickAt k.1 (pickR L (ss.drop k.1) i b))), [[.slice .froz (L.map Tok.enc), .int .i64 (pickR L (ss.drop k.1) i b).2, .bool b]])) ⟨0, by omega⟩ (by simp [s_zero, s_succ]) rfl (by simp) ?_
  intro ⟨k, hk⟩ ih
  dsimp only at ih ⊢
  by_cases hkl : k < ss.length
  · have ih := ih ⟨k + 1, by omega⟩ (by dsimp only; omega)
    obtain ⟨s, hsk⟩ : ∃ s, ss[k] = s := ⟨_, rfl⟩
    have hdr : ss.drop k = s :: ss.drop (k + 1) := by rw [← hsk]; exact List.drop_eq_getElem_cons hkl
    have h1 := ev_has L i b s he hL
    have hwk : IntKind.i64.wrap ((k : Int) + 1) = (k : Int) + 1 := wrap_i64 (by omega)
    have hk2 : (k : Int) < ss.length := by omega
    unfold hasR at h1
    rw [hdr]
    unfold rpS at *
    cases hS : seesR L i b s
    · rw [hS] at h1
      obtain ⟨e1, e2⟩ := pick_no (r := ss.drop (k + 1)) (k := k) hS
      simp only [Bool.false_eq_true, if_false] at h1
      rw [e1, e2, ← ih]
      simp only [s_zero, s_succ, Int.natCast_add, Int.natCast_one]
      simp [i_again, roundEnd, dropT, cleanV, Tryz.f115, Tryz.ti3, Tryz.ti9, Tryz.ti100, hsk, hkl, hk2, hwk, h1, gc, reach, reachFuel, shut, nodup, List.idxOf, List.findIdx, List.findIdx.go, backR, List.range, List.range.loop]
    · rw [hS] at h1
      clear ih
      rw [pick_yes hS]
      simp only [if_true, Int.natCast_add, Int.natCast_one] at h1 ⊢
      simp [i_again, roundEnd, dropT, cleanV, Tryz.f115, Tryz.ti3, Tryz.ti9, Tryz.ti100, pickAt, hsk, hkl, hk2, hwk, h1, gc, reach, reachFuel, shut, nodup, List.idxOf, List.findIdx, List.findIdx.go, backR, List.range, List.range.loop]
  · obtain rfl : k = ss.length := by omega
    clear ih
    simp [i_again, roundEnd, dropT, cleanV, Tryz.f115, Tryz.ti3, Tryz.ti9, Tryz.ti100, pickAt, pickR, gc, reach, reachFuel, shut, nodup, List.idxOf, List.findIdx, List.findIdx.go, backR, List.range, List.range.loop]
end Go.Abs

