/- The reference's reader: cmp, not. -/
import Derived.Test.YtpmeklllgnnffaaGreatDoorM36
import Derived.Test.YtpmeklllgnnffaaGreatDoorM32
import Derived.Test.YtpmeklllgnnffaaGreatDoorM23
set_option linter.unusedSimpArgs false
set_option linter.unusedVariables false

namespace Go.Abs
set_option linter.unusedSimpArgs false
set_option linter.unusedVariables false
open Go Go.Proofs
attribute [local simp] i_nil i_blk i_skip i_ret i_exit i_seq i_block i_cond i_region' i_ops_nil i_ops i_drawn' d_in a_nil a_cons alt1 h_nil h_one h_two z_nil z_cons z_cells zeqL zeq q_alloc q_some isAlO nxtN i_drh d_hi i_drw_nil i_drw u_nil u_code u_ops u_drw u_lp u_again u_exit u_ret u_panic c_bool o_some o_val o_panic d_some d_val d_panic w_none w_fast wantG q_nil q_zero q_succ t_zero t_succ g_zero g_succ s_zero s_succ s_some s_none v_tmp v_const v_func f_quiet gc_none gc_pure wrap_i64 p_move p_assign p_pick p_alloc p_box p_build p_buildSlice p_load p_store p_nilCheck p_binOp n_tmp n_int n_bool n_str n_ptr n_fun n_iface nilCmp p_unOp p_convert p_makeSlice p_makeInterface p_makeFunc p_slice p_fieldAddr p_field p_indexAddr p_index p_extract p_callv p_callb p_panic quiet_val new_val e_assign e_call e_load e_store e_alloc e_box e_move e_pick e_build e_buildSlice e_nilCheck e_binOp e_unOp e_convert e_makeSlice e_makeInterface e_makeFunc e_slice e_fieldAddr e_field e_indexAddr e_index e_extract e_panic callD fpRead adoptZ fulls adopt adoptL ofValue ofScalar binOpV unOpV intBin strBin eqRes veq veqF eqDepth val? finish resL r_tmp r_cell normL normTop tipIs refsL refs ownRefs single frz frzL ren renL renOwn callOp doCall backR writeBack builtinV loadV storeV storeW iceT cellsAt takeV D.isAgg overlay vcells cellOk fieldAddrV indexAddrV fieldV partV indexV buildV fillV buildSliceV litElems appendV appElems elemOk convertV convV winStr makeSliceV sliceV natOf
attribute [local simp ↓] brB_true brB_false brB_dec brB_not brB_and brB_or brB_beq brB_bne

theorem pick_pos {L : List Tok} {i : Nat} {b : Bool} : ∀ {ss : List (List UInt8)} {n j : Nat}, pickR L ss i b = (n, j) → (n = 0 ∧ j = i) ∨ (∃ k s, n = k + 1 ∧ ss[k]? = some s ∧ j = i + 1 ∧ seesR L i b s = true)
  | [], n, j, h => by cases h; exact .inl ⟨rfl, rfl⟩
  | s :: r, n, j, h => by
    cases hS : seesR L i b s
    · simp only [pickR, hS, Bool.false_eq_true, if_false] at h
      cases hp : pickR L r i b with
      | mk n' j' =>
        rw [hp] at h
        rcases pick_pos hp with ⟨rfl, rfl⟩ | ⟨k, s', rfl, h1, h2, h3⟩
        · cases h; exact .inl ⟨rfl, rfl⟩
        · cases h; exact .inr ⟨k + 1, s', rfl, by simpa using h1, h2, h3⟩
    · rw [pick_yes hS] at h
      cases h
      exact .inr ⟨0, s, rfl, rfl, rfl, hS⟩
theorem has_ends {L : List Tok} {i : Nat} {b : Bool} {s : List UInt8} (he : Ends (L.drop i)) : Ends (L.drop (hasR L i b s).2) ∧ i ≤ (hasR L i b s).2 := by
  unfold hasR
  cases hs : seesR L i b s
  · exact ⟨he, Nat.le_refl _⟩
  · exact ⟨(sees_next he hs).1, Nat.le_succ _⟩
set_option maxRecDepth 100000 in
set_option maxHeartbeats 4000000 in
theorem ev_rcmp (L : List Tok) (hL : L.length ≤ 100000) (m : Nat) (R : Nat → Bool → RX) (hp : EVR 195 L m (sumR L R)) : EVR 177 L m (cmpR L R) := by
  intro i b he hm
  obtain ⟨h1, h2, h3⟩ := hp i b he hm
  unfold cmpR
  generalize sumR L R i b = x at *
  obtain ⟨e, j, c⟩ := x
  dsimp only at h2 h3 ⊢
  have hq := ev_rpick cmpOps (by decide) L hL j c h2
  cases hP : pickR L cmpOps j c with
  | mk n j' =>
    rw [hP] at hq
    rcases pick_pos hP with ⟨rfl, rfl⟩ | ⟨k, s, rfl, hk, rfl, hS⟩
    · have g1 := ev_has L j' c [73, 83] h2 hL
      unfold isR
      unfold hasR at g1
      cases hI : seesR L j' c [73, 83]
      · rw [hI] at g1
        simp only [Bool.false_eq_true, if_false] at g1 ⊢
        refine ⟨?_, h2, h3⟩
        clear h2 h3 hp
        rw [EV_mki rfl Tryz.func177 rfl (by kernel_rfl) rfl]
        obtain ⟨op, v, var, col, kids⟩ := e
        unfold rxO rpS at *
        simp only [xenc_mk, cmpOps, List.map_cons, List.map_nil, List.length_cons, List.length_nil] at h1 hq ⊢
        simp at hq
        simp [Tryz.f177, Tryz.ti3, Tryz.ti9, Tryz.ti31, Tryz.ti44, Tryz.ti50, Tryz.ti100, h1, hq, g1, gc, reach, reachFuel, shut, nodup, List.idxOf, List.findIdx, List.findIdx.go, backR, List.range, List.range.loop]
      · rw [hI] at g1
        obtain ⟨he1, hlt⟩ := sees_next h2 hI
        have g2 := ev_has L (j' + 1) c [78, 79, 84] he1 hL
        obtain ⟨he2, hle2⟩ := has_ends (b := c) (s := [78, 79, 84]) he1
        generalize hasR L (j' + 1) c [78, 79, 84] = y at *
        obtain ⟨nt, j2⟩ := y
        have g3 := ev_rneed L j2 c [78, 85, 76, 76] he2 hL
        obtain ⟨he3, hle3⟩ := has_ends (b := c) (s := [78, 85, 76, 76]) he2
        dsimp only at hle2 he2
        unfold needR
        simp only [if_true] at g1 ⊢
        refine ⟨?_, he3, Nat.le_trans h3 (Nat.le_trans (Nat.le_trans (Nat.le_succ _) hle2) hle3)⟩
        clear he3 hle3 he2 hle2 hp h2 h3 he1
        generalize hasR L j2 c [78, 85, 76, 76] = z at *
        obtain ⟨z1, z2⟩ := z
        rw [EV_mki rfl Tryz.func177 rfl (by kernel_rfl) rfl]
        have ee1 := xop1_enc' oNull e
        have ee2 := xop1_enc' oNot (xop oNull e.kids)
        obtain ⟨op, v, var, col, kids⟩ := e
        unfold rxO rpS at *
        simp only [xenc_mk, cmpOps, List.map_cons, List.map_nil, List.length_cons, List.length_nil, Int.natCast_add, Int.natCast_one] at h1 hq g1 g2 g3 ⊢
        simp at hq
        cases nt
        · simp only [Bool.false_eq_true, if_false, xop1_enc', xenc_mk]
          simp [Tryz.f177, Tryz.ti3, Tryz.ti9, Tryz.ti31, Tryz.ti44, Tryz.ti50, Tryz.ti100, oNull, h1, hq, g1, g2, g3, gc, reach, reachFuel, shut, nodup, List.idxOf, List.findIdx, List.findIdx.go, backR, List.range, List.range.loop]
        · simp only [if_true, xop1_enc', xenc_mk]
          simp [Tryz.f177, Tryz.ti3, Tryz.ti9, Tryz.ti31, Tryz.ti44, Tryz.ti50, Tryz.ti100, oNull, oNot, h1, hq, g1, g2, g3, gc, reach, reachFuel, shut, nodup, List.idxOf, List.findIdx, List.findIdx.go, backR, List.range, List.range.loop]
    · obtain ⟨he1, hlt⟩ := sees_next h2 hS
      obtain ⟨d1, d2, d3⟩ := hp (j + 1) c he1 (by omega)
      dsimp only
      refine ⟨?_, d2, Nat.le_trans h3 (Nat.le_trans (Nat.le_succ _) d3)⟩
      have hk6 : k < 6 := by
        have := (List.getElem?_eq_some_iff.1 hk).1
        simpa [cmpOps] using this
      clear d2 d3 hp h2 h3 he1 hk
      generalize sumR L R (j + 1) c = y at *
      obtain ⟨⟨op3, v3, var3, col3, kids3⟩, j2, c2⟩ := y
      rw [EV_mki rfl Tryz.func177 rfl (by kernel_rfl) rfl]
      obtain ⟨op, v, var, col, kids⟩ := e
      unfold rxO rpS at *
      simp only [xop2_enc', xenc_mk, Int.natCast_add, Int.natCast_one] at h1 hq d1 ⊢
      simp only [cmpOps, List.map_cons, List.map_nil] at hq ⊢
      rcases (by omega : k = 0 ∨ k = 1 ∨ k = 2 ∨ k = 3 ∨ k = 4 ∨ k = 5) with rfl | rfl | rfl | rfl | rfl | rfl <;> simp at hq <;> simp [Tryz.f177, Tryz.ti3, Tryz.ti9, Tryz.ti31, Tryz.ti44, Tryz.ti50, Tryz.ti100, h1, hq, d1, gc, reach, reachFuel, shut, nodup, List.idxOf, List.findIdx, List.findIdx.go, backR, List.range, List.range.loop] <;> first | (refine panQ_of ?_; decide +kernel) | (change _ = true; decide +kernel) | kernel_rfl | (refine ⟨?_, ?_⟩ <;> first | (change _ = true; decide +kernel) | kernel_rfl)
end Go.Abs

namespace Go.Abs
set_option linter.unusedSimpArgs false
set_option linter.unusedVariables false
open Go Go.Proofs
attribute [local simp] i_nil i_blk i_skip i_ret i_exit i_seq i_block i_cond i_region' i_ops_nil i_ops i_drawn' d_in a_nil a_cons alt1 h_nil h_one h_two z_nil z_cons z_cells zeqL zeq q_alloc q_some isAlO nxtN i_drh d_hi i_drw_nil i_drw u_nil u_code u_ops u_drw u_lp u_again u_exit u_ret u_panic c_bool o_some o_val o_panic d_some d_val d_panic w_none w_fast wantG q_nil q_zero q_succ t_zero t_succ g_zero g_succ s_zero s_succ s_some s_none v_tmp v_const v_func f_quiet gc_none gc_pure wrap_i64 p_move p_assign p_pick p_alloc p_box p_build p_buildSlice p_load p_store p_nilCheck p_binOp n_tmp n_int n_bool n_str n_ptr n_fun n_iface nilCmp p_unOp p_convert p_makeSlice p_makeInterface p_makeFunc p_slice p_fieldAddr p_field p_indexAddr p_index p_extract p_callv p_callb p_panic quiet_val new_val e_assign e_call e_load e_store e_alloc e_box e_move e_pick e_build e_buildSlice e_nilCheck e_binOp e_unOp e_convert e_makeSlice e_makeInterface e_makeFunc e_slice e_fieldAddr e_field e_indexAddr e_index e_extract e_panic callD fpRead adoptZ fulls adopt adoptL ofValue ofScalar binOpV unOpV intBin strBin eqRes veq veqF eqDepth val? finish resL r_tmp r_cell normL normTop tipIs refsL refs ownRefs single frz frzL ren renL renOwn callOp doCall backR writeBack builtinV loadV storeV storeW iceT cellsAt takeV D.isAgg overlay vcells cellOk fieldAddrV indexAddrV fieldV partV indexV buildV fillV buildSliceV litElems appendV appElems elemOk convertV convV winStr makeSliceV sliceV natOf
attribute [local simp ↓] brB_true brB_false brB_dec brB_not brB_and brB_or brB_beq brB_bne

theorem ev_rnot (L : List Tok) (hL : L.length ≤ 100000) (R : Nat → Bool → RX) (m : Nat) (ha : EVR 177 L m (cmpR L R)) : ∀ k i b, Ends (L.drop i) → L.length - i ≤ m → L.length - i < k → EV 163 [.box 0 0] (rpS L i b) = rxO L (notR L R k i b) ∧ Ends (L.drop (notR L R k i b).2.1) ∧ i ≤ (notR L R k i b).2.1
  | 0, i, b, he, hm, hk => by omega
  | k + 1, i, b, he, hm, hk => by
    have h1 := ev_has L i b [78, 79, 84] he hL
    unfold notR
    unfold hasR at h1
    cases hs : seesR L i b [78, 79, 84]
    · rw [hs] at h1
      obtain ⟨h2, h3, h4⟩ := ha i b he hm
      simp only [Bool.false_eq_true, if_false] at h1 ⊢
      refine ⟨?_, h3, h4⟩
      clear h3 h4 ha
      rw [EV_mki rfl Tryz.func163 rfl (by kernel_rfl) rfl]
      generalize cmpR L R i b = x at *
      obtain ⟨⟨op, v, var, col, kids⟩, j, c⟩ := x
      unfold rxO rpS at *
      simp only [xenc_mk] at h2 ⊢
      simp [Tryz.f163, Tryz.ti3, Tryz.ti9, Tryz.ti31, Tryz.ti44, Tryz.ti50, h1, h2, gc, reach, reachFuel, shut, nodup, List.idxOf, List.findIdx, List.findIdx.go, backR, List.range, List.range.loop]
    · rw [hs] at h1
      obtain ⟨he1, hlt⟩ := sees_next he hs
      obtain ⟨h2, h3, h4⟩ := ev_rnot L hL R m ha k (i + 1) b he1 (by omega) (by omega)
      simp only [if_true] at h1 ⊢
      refine ⟨?_, h3, by omega⟩
      clear h3 h4 ha
      rw [EV_mki rfl Tryz.func163 rfl (by kernel_rfl) rfl]
      generalize notR L R k (i + 1) b = x at *
      obtain ⟨e, j, c⟩ := x
      unfold rxO rpS at *
      simp only [xop1_enc'] at h2 ⊢
      obtain ⟨op, v, var, col, kids⟩ := e
      simp only [xenc_mk, Int.natCast_add, Int.natCast_one] at h1 h2 ⊢
      simp [Tryz.f163, Tryz.ti3, Tryz.ti9, Tryz.ti31, Tryz.ti44, Tryz.ti50, oNot, h1, h2, gc, reach, reachFuel, shut, nodup, List.idxOf, List.findIdx, List.findIdx.go, backR, List.range, List.range.loop]
theorem kind_ends {L : List Tok} {i : Nat} {b : Bool} (he : Ends (L.drop i)) : Ends (L.drop (kindR L i b 2).2.1) ∧ i ≤ (kindR L i b 2).2.1 := by
  unfold kindR
  obtain ⟨t, q, hq⟩ := ends_cons he
  obtain ⟨h1, h2, h3⟩ := at_cons hq
  rw [hq]
  simp only
  by_cases h : b = true ∨ t.kind ≠ 2
  · rw [if_pos h]; exact ⟨he, Nat.le_refl _⟩
  · rw [if_neg h]
    rw [hq] at he
    refine ⟨?_, Nat.le_succ _⟩
    show Ends (L.drop (i + 1))
    rw [h3]
    exact ends_next he (by have : t.kind = 2 := by (by_cases hk : t.kind = 2; exact hk; exact absurd (Or.inr hk) h)
                           omega)
theorem atom_ends {L : List Tok} {R : Nat → Bool → RX} {i : Nat} {b : Bool} (he : Ends (L.drop i)) (hor : Ends (L.drop (i + 1)) → Ends (L.drop (R (i + 1) false).2.1) ∧ i + 1 ≤ (R (i + 1) false).2.1) : Ends (L.drop (atomR L R i b).2.1) ∧ i ≤ (atomR L R i b).2.1 := by
  obtain ⟨t, q, hq⟩ := ends_cons he
  obtain ⟨h1, h2, h3⟩ := at_cons hq
  have he' := he
  rw [hq] at he'
  have nx : t.kind ≠ 0 → Ends (L.drop (i + 1)) := fun h => by rw [h3]; exact ends_next he' h
  have nt : ∀ {s}, isT s (t :: q) = true → Ends (L.drop (i + 1)) := fun h => by rw [h3]; exact ends_tail he' h
  unfold atomR
  rw [hq]
  simp only
  split
  · exact ⟨he, Nat.le_refl _⟩
  split
  · rename_i h; exact ⟨nx (by omega), Nat.le_succ _⟩
  split
  · rename_i h; exact ⟨nx (by omega), Nat.le_succ _⟩
  split
  · rename_i h
    have e1 := nx (by omega)
    split
    · rename_i hd
      have e2 : Ends (L.drop (i + 2)) := by
        have : L.drop (i + 2) = q.tail := by rw [← h3]; simp
        rw [this]
        rw [h3] at e1
        exact ends_tail e1 hd
      obtain ⟨a, b⟩ := kind_ends (b := false) e2
      exact ⟨a, by dsimp only; omega⟩
    · exact ⟨e1, Nat.le_succ _⟩
  split
  · rename_i h; exact ⟨nt h, Nat.le_succ _⟩
  split
  · rename_i h; exact ⟨nt h, Nat.le_succ _⟩
  split
  · rename_i h; exact ⟨nt h, Nat.le_succ _⟩
  split
  · rename_i h
    obtain ⟨a, b'⟩ := hor (nt h)
    obtain ⟨a2, b2⟩ := has_ends (b := (R (i + 1) false).2.2) (s := [41]) a
    exact ⟨a2, by dsimp only [needR]; omega⟩
  · exact ⟨he, Nat.le_refl _⟩
theorem ev_ror_all (L : List Tok) (hL : L.length ≤ 100000) : ∀ (n m : Nat), m < n → EVR 81 L m (orR L n)
  | 0, m, h => by omega
  | n + 1, m, h => by
    have ha : EVR 224 L m (atomR L (orR L n)) := by
      intro i b he hm
      have hi : i < L.length := by
        obtain ⟨t, q, hq⟩ := ends_cons he
        exact (at_cons hq).2.1
      have ho : Ends (L.drop (i + 1)) → EV 81 [.box 0 0] (rpS L (i + 1) false) = rxO L (orR L n (i + 1) false) ∧ Ends (L.drop (orR L n (i + 1) false).2.1) ∧ i + 1 ≤ (orR L n (i + 1) false).2.1 := fun he1 =>
        ev_ror_all L hL n (m - 1) (by omega) (i + 1) false he1 (by omega)
      have hE := atom_ends (R := orR L n) (b := b) he (fun h => (ho h).2)
      exact ⟨ev_ratom L hL (orR L n) i b he (fun h => ⟨(ho h).1, (ho h).2.1⟩), hE.1, hE.2⟩
    have hu : EVR 220 L m (unaryR L (orR L n) (L.length + 1)) := fun i b he hm => ev_runary L hL (orR L n) m ha (L.length + 1) i b he hm (by omega)
    have ht : EVR 212 L m (termR L (orR L n)) := ev_rterm L hL m _ hu
    have hs : EVR 195 L m (sumR L (orR L n)) := ev_rsum L hL m _ ht
    have hc := ev_rcmp L hL m (orR L n) hs
    have hn : EVR 163 L m (notR L (orR L n) (L.length + 1)) := fun i b he hm => ev_rnot L hL (orR L n) m hc (L.length + 1) i b he hm (by omega)
    have hd : EVR 130 L m (andR L (orR L n)) := ev_rand L hL m _ hn
    exact ev_ror L hL m _ hd
end Go.Abs

namespace Go.Abs
set_option linter.unusedSimpArgs false
set_option linter.unusedVariables false
open Go Go.Proofs
attribute [local simp] i_nil i_blk i_skip i_ret i_exit i_seq i_block i_cond i_region' i_ops_nil i_ops i_drawn' d_in a_nil a_cons alt1 h_nil h_one h_two z_nil z_cons z_cells zeqL zeq q_alloc q_some isAlO nxtN i_drh d_hi i_drw_nil i_drw u_nil u_code u_ops u_drw u_lp u_again u_exit u_ret u_panic c_bool o_some o_val o_panic d_some d_val d_panic w_none w_fast wantG q_nil q_zero q_succ t_zero t_succ g_zero g_succ s_zero s_succ s_some s_none v_tmp v_const v_func f_quiet gc_none gc_pure wrap_i64 p_move p_assign p_pick p_alloc p_box p_build p_buildSlice p_load p_store p_nilCheck p_binOp n_tmp n_int n_bool n_str n_ptr n_fun n_iface nilCmp p_unOp p_convert p_makeSlice p_makeInterface p_makeFunc p_slice p_fieldAddr p_field p_indexAddr p_index p_extract p_callv p_callb p_panic quiet_val new_val e_assign e_call e_load e_store e_alloc e_box e_move e_pick e_build e_buildSlice e_nilCheck e_binOp e_unOp e_convert e_makeSlice e_makeInterface e_makeFunc e_slice e_fieldAddr e_field e_indexAddr e_index e_extract e_panic callD fpRead adoptZ fulls adopt adoptL ofValue ofScalar binOpV unOpV intBin strBin eqRes veq veqF eqDepth val? finish resL r_tmp r_cell normL normTop tipIs refsL refs ownRefs single frz frzL ren renL renOwn callOp doCall backR writeBack builtinV loadV storeV storeW iceT cellsAt takeV D.isAgg overlay vcells cellOk fieldAddrV indexAddrV fieldV partV indexV buildV fillV buildSliceV litElems appendV appElems elemOk convertV convV winStr makeSliceV sliceV natOf
attribute [local simp ↓] brB_true brB_false brB_dec brB_not brB_and brB_or brB_beq brB_bne

theorem byte_all (P : UInt8 → Bool) (h : (List.range 256).all (fun n => P (UInt8.ofNat n)) = true) (c : UInt8) : P c = true := by
  have h1 := List.all_eq_true.1 h c.toNat (by have := c.toNat_lt; simpa using this)
  simpa using h1
def classS (c : UInt8) : Int := if isCap c then 1 else if isLow c then 2 else if isDig c then 3 else if c = 95 then 4 else if isBlk c then 5 else if c = 39 then 6 else 0
theorem class_run (c : UInt8) : isRun c = (decide (1 ≤ classS c) && decide (classS c ≤ 4)) := eq_of_beq (byte_all (fun c => isRun c == (decide (1 ≤ classS c) && decide (classS c ≤ 4))) (by decide +kernel) c)
theorem class_blk (c : UInt8) : isBlk c = decide (classS c = 5) := eq_of_beq (byte_all (fun c => isBlk c == decide (classS c = 5)) (by decide +kernel) c)
theorem class_quo (c : UInt8) : (c == 39) = decide (classS c = 6) := eq_of_beq (byte_all (fun c => (c == 39) == decide (classS c = 6)) (by decide +kernel) c)
theorem class_cap (c : UInt8) : isCap c = decide (classS c = 1) := eq_of_beq (byte_all (fun c => isCap c == decide (classS c = 1)) (by decide +kernel) c)
theorem class_dig (c : UInt8) : isDig c = decide (classS c = 3) := eq_of_beq (byte_all (fun c => isDig c == decide (classS c = 3)) (by decide +kernel) c)

set_option maxHeartbeats 4000000 in
theorem ev_class (c : UInt8) : EV 107 [.int .u8 c.toNat] [] = some (.ret (.int .i64 (classS c)), []) := by
  rw [EV_mki rfl Tryz.func107 rfl (by kernel_rfl) rfl]
  have k95 : c = 95 ↔ (c.toNat : Int) = 95 := by rw [← decide_eq_true_iff (p := (c.toNat : Int) = 95), ← under_int]; simp
  have q39 : (c == 39) = decide ((c.toNat : Int) = 39) := byte_int c 39 (by omega)
  have k39 : c = 39 ↔ (c.toNat : Int) = 39 := by rw [← decide_eq_true_iff (p := (c.toNat : Int) = 39), ← q39]; simp
  unfold classS
  rw [cap_int, low_int, dig_int, blk_int]
  simp only [k95, k39, Bool.and_eq_true, Bool.or_eq_true, decide_eq_true_eq]
  generalize (c.toNat : Int) = n
  by_cases a1 : 97 ≤ n
  · have b1 : 65 ≤ n := by omega
    have b2 : ¬ n ≤ 90 := by omega
    have b3 : 48 ≤ n := by omega
    have b4 : ¬ n ≤ 57 := by omega
    have b5 : ¬ n = 95 := by omega
    have b6 : ¬ n = 32 := by omega
    have b7 : ¬ n = 9 := by omega
    have b8 : ¬ n = 10 := by omega
    have b9 : ¬ n = 39 := by omega
    by_cases a2 : n ≤ 122 <;> simp [Tryz.f107, Tryz.ti5, a1, a2, b1, b2, b3, b4, b5, b6, b7, b8, b9]
  by_cases a3 : 65 ≤ n
  · have b3 : 48 ≤ n := by omega
    have b4 : ¬ n ≤ 57 := by omega
    have b6 : ¬ n = 32 := by omega
    have b7 : ¬ n = 9 := by omega
    have b8 : ¬ n = 10 := by omega
    have b9 : ¬ n = 39 := by omega
    by_cases a4 : n ≤ 90
    · simp [Tryz.f107, Tryz.ti5, a1, a3, a4, b3, b4, b6, b7, b8, b9]
    · by_cases b5 : n = 95 <;> simp [Tryz.f107, Tryz.ti5, a1, a3, a4, b3, b4, b5, b6, b7, b8, b9]
  have b5 : ¬ n = 95 := by omega
  by_cases a5 : 48 ≤ n
  · have b6 : ¬ n = 32 := by omega
    have b7 : ¬ n = 9 := by omega
    have b8 : ¬ n = 10 := by omega
    have b9 : ¬ n = 39 := by omega
    by_cases a6 : n ≤ 57 <;> simp [Tryz.f107, Tryz.ti5, a1, a3, a5, a6, b5, b6, b7, b8, b9]
  by_cases b6 : n = 32
  · simp [Tryz.f107, Tryz.ti5, a1, a3, a5, b5, b6]
  by_cases b7 : n = 9
  · simp [Tryz.f107, Tryz.ti5, a1, a3, a5, b5, b6, b7]
  by_cases b8 : n = 10
  · simp [Tryz.f107, Tryz.ti5, a1, a3, a5, b5, b6, b7, b8]
  by_cases b9 : n = 39 <;> simp [Tryz.f107, Tryz.ti5, a1, a3, a5, b5, b6, b7, b8, b9]

theorem ev_only (s : List UInt8) (hs : s.length ≤ 4611686018427387904) (k : Int) : EV 108 [.str s, .int .i64 k] [] = some (.ret (.bool (s.all (fun c => decide (classS c = k)) && !s.isEmpty)), []) := by
  rw [EV_mki rfl Tryz.func108 rfl (by kernel_rfl) rfl]
  simp [Tryz.f108, Tryz.ti3, Tryz.ti9]
  rw [i_loop (ts := [6, 7, 8, 9, 12, 13, 14, 15, 16, 17, 10, 11])]
  rotate_left
  · kernel_rfl
  refine i_at (fun i : Nat => s.length - i) (fun i env => setV env 5 (.int .i64 i)) (fun _ => _) (fun i => some (.ret (.bool ((s.drop i).all (fun c => decide (classS c = k)) && !s.isEmpty)), [])) 0 (by simp [s_zero, s_succ]) rfl (by simp) ?_
  intro i ih
  by_cases hi : i < s.length
  · have ih := ih (i + 1) (by omega)
    have hd : s.drop i = s[i] :: s.drop (i + 1) := List.drop_eq_getElem_cons hi
    obtain ⟨c, hk⟩ : ∃ m, s[i] = m := ⟨_, rfl⟩
    have hkk : s[i]? = some c := by rw [List.getElem?_eq_getElem hi, hk]
    have hwi : IntKind.i64.wrap ((i : Int) + 1) = (i : Int) + 1 := wrap_i64 (by omega)
    have hc := ev_class c
    rw [hd, hk, List.all_cons]
    simp only [s_zero, s_succ, Int.natCast_add, Int.natCast_one, Int.cast_ofNat_Int] at ih
    generalize classS c = x at *
    by_cases hx : x = k <;> simp [i_again, roundEnd, dropT, cleanV, Tryz.f108, Tryz.ti3, Tryz.ti9, hi, hk, hkk, hc, hx, hwi, ih]
  · have hd : s.drop i = [] := List.drop_eq_nil_of_le (by omega)
    cases hs0 : s.length with
    | zero =>
      have : s = [] := List.eq_nil_of_length_eq_zero hs0
      subst this
      have hi' : ¬ (i : Int) < 0 := by omega
      simp [i_again, roundEnd, dropT, cleanV, Tryz.f108, Tryz.ti3, Tryz.ti9, hi']
    | succ m =>
      have he : s.isEmpty = false := by cases s with | nil => simp at hs0 | cons a t => rfl
      have hp : (0 : Int) < s.length := by omega
      have hp' : 0 < s.length := by omega
      have hi' : ¬ (i : Int) < s.length := by omega
      simp [i_again, roundEnd, dropT, cleanV, Tryz.f108, Tryz.ti3, Tryz.ti9, hi, hi', hd, he, hp, hp']
theorem only_cap (s : List UInt8) : (s.all (fun c => decide (classS c = 1)) && !s.isEmpty) = allB isCap s := by
  unfold allB; congr 2; funext c; exact (class_cap c).symm
theorem only_dig (s : List UInt8) : (s.all (fun c => decide (classS c = 3)) && !s.isEmpty) = allB isDig s := by
  unfold allB; congr 2; funext c; exact (class_dig c).symm
end Go.Abs

namespace Go.Abs
set_option linter.unusedSimpArgs false
set_option linter.unusedVariables false
open Go Go.Proofs
attribute [local simp] i_nil i_blk i_skip i_ret i_exit i_seq i_block i_cond i_region' i_ops_nil i_ops i_drawn' d_in a_nil a_cons alt1 h_nil h_one h_two z_nil z_cons z_cells zeqL zeq q_alloc q_some isAlO nxtN i_drh d_hi i_drw_nil i_drw u_nil u_code u_ops u_drw u_lp u_again u_exit u_ret u_panic c_bool o_some o_val o_panic d_some d_val d_panic w_none w_fast wantG q_nil q_zero q_succ t_zero t_succ g_zero g_succ s_zero s_succ s_some s_none v_tmp v_const v_func f_quiet gc_none gc_pure wrap_i64 p_move p_assign p_pick p_alloc p_box p_build p_buildSlice p_load p_store p_nilCheck p_binOp n_tmp n_int n_bool n_str n_ptr n_fun n_iface nilCmp p_unOp p_convert p_makeSlice p_makeInterface p_makeFunc p_slice p_fieldAddr p_field p_indexAddr p_index p_extract p_callv p_callb p_panic quiet_val new_val e_assign e_call e_load e_store e_alloc e_box e_move e_pick e_build e_buildSlice e_nilCheck e_binOp e_unOp e_convert e_makeSlice e_makeInterface e_makeFunc e_slice e_fieldAddr e_field e_indexAddr e_index e_extract e_panic callD fpRead adoptZ fulls adopt adoptL ofValue ofScalar binOpV unOpV intBin strBin eqRes veq veqF eqDepth val? finish resL r_tmp r_cell normL normTop tipIs refsL refs ownRefs single frz frzL ren renL renOwn callOp doCall backR writeBack builtinV loadV storeV storeW iceT cellsAt takeV D.isAgg overlay vcells cellOk fieldAddrV indexAddrV fieldV partV indexV buildV fillV buildSliceV litElems appendV appElems elemOk convertV convV winStr makeSliceV sliceV natOf
attribute [local simp ↓] brB_true brB_false brB_dec brB_not brB_and brB_or brB_beq brB_bne

def numO (n : Nat) : Option (Out × St) := if n ≤ 9223372036854775807 then some (.ret (.tup [.int .i64 n, .bool true]), []) else some (.ret (.tup [.int .i64 0, .bool false]), [])
theorem ev_number (s : List UInt8) (hs : s.length ≤ 4611686018427387904) (hd : s.all isDig = true) : EV 109 [.str s] [] = numO (decS s) := by
  rw [EV_mki rfl Tryz.func109 rfl (by kernel_rfl) rfl]
  simp [Tryz.f109, Tryz.ti3, Tryz.ti5, Tryz.ti9]
  rw [i_loop (ts := [7, 8, 9, 10, 13, 14, 15, 16, 17, 6, 18, 19, 20, 21, 22, 23, 24, 25, 26, 11, 12])]
  rotate_left
  · kernel_rfl
  refine i_at (fun x : {x : Nat × Nat // x.2 ≤ 9223372036854775807} => s.length - x.1.1) (fun x env => setV (setV env 5 (.int .i64 x.1.1)) 4 (.int .i64 x.1.2)) (fun _ => _) (fun x => numO (decF x.1.2 (s.drop x.1.1))) ⟨(0, 0), by simp⟩ (by simp [s_zero, s_succ]) rfl (by simp [decS]) ?_
  intro ⟨(i, n), hn⟩ ih
  dsimp only at hn ⊢
  by_cases hi : i < s.length
  · have hdr : s.drop i = s[i] :: s.drop (i + 1) := List.drop_eq_getElem_cons hi
    obtain ⟨c, hk⟩ : ∃ m, s[i] = m := ⟨_, rfl⟩
    have hkk : s[i]? = some c := by rw [List.getElem?_eq_getElem hi, hk]
    have hwi : IntKind.i64.wrap ((i : Int) + 1) = (i : Int) + 1 := wrap_i64 (by omega)
    have hc : isDig c = true := List.all_eq_true.1 hd c (hk ▸ List.getElem_mem hi)
    rw [dig_int, Bool.and_eq_true, decide_eq_true_eq, decide_eq_true_eq] at hc
    obtain ⟨dd, hdd⟩ : ∃ dd, digN c = dd := ⟨_, rfl⟩
    have hDi : (dd : Int) = c.toNat - 48 := by rw [← hdd, digN]; omega
    have e1 : IntKind.i64.wrap (c.toNat : Int) = c.toNat := wrap_i64 (by omega)
    have e2 : IntKind.i64.wrap ((c.toNat : Int) - 48) = dd := by rw [hDi]; exact wrap_i64 (by omega)
    have e3 : IntKind.i64.wrap (9223372036854775807 - (dd : Int)) = 9223372036854775807 - (dd : Int) := wrap_i64 (by omega)
    obtain ⟨Q, hQ⟩ : ∃ Q, Int.tdiv (9223372036854775807 - (dd : Int)) 10 = Q := ⟨_, rfl⟩
    have hQ2 : (9223372036854775807 - (dd : Int)) / 10 = Q := by rw [← hQ]; exact (Int.tdiv_eq_ediv_of_nonneg (by omega)).symm
    have e4 : IntKind.i64.wrap Q = Q := wrap_i64 (by omega)
    rw [hdr, hk, decF_cons, hdd]
    by_cases hov : n * 10 + dd ≤ 9223372036854775807
    · have h1 : ¬ Q < (n : Int) := by omega
      have e5 : IntKind.i64.wrap ((n : Int) * 10) = (n : Int) * 10 := wrap_i64 (by omega)
      have e6 : IntKind.i64.wrap ((n : Int) * 10 + dd) = (n : Int) * 10 + dd := wrap_i64 (by omega)
      have ih := ih ⟨(i + 1, n * 10 + dd), hov⟩ (by simp only; omega)
      simp only [s_zero, s_succ, Int.natCast_add, Int.natCast_mul, Int.natCast_one, Int.cast_ofNat_Int] at ih
      simp [i_again, roundEnd, dropT, cleanV, Tryz.f109, Tryz.ti3, Tryz.ti5, Tryz.ti9, hi, hk, hkk, hwi, e1, e2, e3, hQ, e4, h1, e5, e6, ih]
    · have h1 : Q < (n : Int) := by omega
      have hle := decF_le (s.drop (i + 1)) (n * 10 + dd)
      have hno : numO (decF (n * 10 + dd) (s.drop (i + 1))) = some (.ret (.tup [.int .i64 0, .bool false]), []) := by unfold numO; rw [if_neg (by omega)]
      rw [hno]
      simp [i_again, roundEnd, dropT, cleanV, Tryz.f109, Tryz.ti3, Tryz.ti5, Tryz.ti9, hi, hk, hkk, hwi, e1, e2, e3, hQ, e4, h1]
  · have hdr : s.drop i = [] := List.drop_eq_nil_of_le (by omega)
    rw [hdr, decF_nil, numO, if_pos hn]
    simp [i_again, roundEnd, dropT, cleanV, Tryz.f109, Tryz.ti3, Tryz.ti5, Tryz.ti9, hi]

theorem ev_sym (s : List UInt8) (hs : s.length ≤ 1048576) (k : Nat) (hk : k < s.length) : EV 110 [.str s, .int .i64 k] [] = some (.ret (.int .i64 (symS (s.drop k))), []) := by
  have hd : s.drop k = s[k] :: s.drop (k + 1) := List.drop_eq_getElem_cons hk
  obtain ⟨c, hc⟩ : ∃ m, s[k] = m := ⟨_, rfl⟩
  have hcc : s[k]? = some c := by rw [List.getElem?_eq_getElem hk, hc]
  rw [hc] at hd
  have hw : IntKind.i64.wrap ((k : Int) + 2) = (k : Int) + 2 := wrap_i64 (by omega)
  have hsl : (s.take (k + 2)).drop k = (s.drop k).take 2 := by rw [List.drop_take]; congr 1; omega
  rw [EV_mki rfl Tryz.func110 rfl (by kernel_rfl) rfl]
  obtain ⟨L, hL⟩ : ∃ L : List UInt8, [60, 62, 61, 43, 45, 42, 40, 41, 44, 46, 59] = L := ⟨_, rfl⟩
  have hLl : L.length = 11 := by rw [← hL]; rfl
  have one : symS (s.drop k) ≠ 2 → (symS (s.drop k) : Int) = if L.contains c then 1 else 0 := by
    rw [hd, ← hL]
    intro h
    cases hr : s.drop (k + 1) with
    | nil => simp only [symS]; split <;> simp_all
    | cons d r =>
      rw [hr] at h
      simp only [symS] at h ⊢
      split at h
      · exact absurd rfl h
      · rename_i h2
        rw [if_neg h2]
        split <;> simp_all
  cases hr : s.drop (k + 1) with
  | nil =>
    have hl : s.length = k + 1 := by have := congrArg List.length hr; simp at this; omega
    have h2 : ¬ (k : Int) + 2 ≤ s.length := by omega
    have hne2 : symS (s.drop k) ≠ 2 := by rw [hd, hr]; simp only [symS]; split <;> simp
    simp [Tryz.f110, Tryz.ti3, Tryz.ti5, Tryz.ti9, hw, h2]
    rw [hL]
    rw [i_loop (ts := [28, 29, 30, 31, 34, 35, 36, 37, 38, 39, 40, 32, 33])]
    rotate_left
    · kernel_rfl
    refine i_at (fun i : Nat => L.length - i) (fun i env => setV env 7 (.int .i64 i)) (fun _ => _) (fun i => some (.ret (.int .i64 (if (L.drop i).contains c then 1 else 0)), [])) 0 (by simp [s_zero, s_succ]) rfl (by rw [one hne2, List.drop_zero]) ?_
    intro i ih
    by_cases hi : i < L.length
    · have ih := ih (i + 1) (by omega)
      have hdr : L.drop i = L[i] :: L.drop (i + 1) := List.drop_eq_getElem_cons hi
      obtain ⟨x, hx⟩ : ∃ m, L[i] = m := ⟨_, rfl⟩
      have hxx : L[i]? = some x := by rw [List.getElem?_eq_getElem hi, hx]
      have hwi : IntKind.i64.wrap ((i : Int) + 1) = (i : Int) + 1 := wrap_i64 (by omega)
      have hi' : (i : Int) < 11 := by omega
      rw [hdr, hx, List.contains_cons]
      simp only [s_zero, s_succ, Int.natCast_add, Int.natCast_one, Int.cast_ofNat_Int] at ih
      by_cases hcx : c = x
      · subst hcx
        simp [i_again, roundEnd, dropT, cleanV, Tryz.f110, Tryz.ti3, Tryz.ti5, Tryz.ti9, hi, hi', hk, hc, hcc, hx, hxx, hLl]
      · have hne : ¬ (c.toNat : Int) = x.toNat := fun e => hcx (UInt8.toNat_inj.1 (by omega))
        have hbf : (c == x) = false := by simp [hcx]
        rw [hbf, Bool.false_or]
        simp [i_again, roundEnd, dropT, cleanV, Tryz.f110, Tryz.ti3, Tryz.ti5, Tryz.ti9, hi, hi', hk, hc, hcc, hx, hxx, hLl, hne, hcx, hwi, ih]
    · have hdr : L.drop i = [] := List.drop_eq_nil_of_le (by omega)
      have hi' : ¬ (i : Int) < 11 := by omega
      rw [hdr]
      simp [i_again, roundEnd, dropT, cleanV, Tryz.f110, Tryz.ti3, Tryz.ti5, Tryz.ti9, hi, hi', hLl]
  | cons d r =>
    have hl : k + 2 ≤ s.length := by have := congrArg List.length hr; simp at this; omega
    have h2 : (k : Int) + 2 ≤ s.length := by omega
    have h0 : (0 : Int) ≤ (k : Int) + 2 := by omega
    have h5 : (k : Int) ≤ (k : Int) + 2 := by omega
    have h6 : ((k : Int) + 2).toNat = k + 2 := by omega
    have ht : (s.drop k).take 2 = [c, d] := by rw [hd, hr]; rfl
    rw [ht] at hsl
    by_cases h3 : c = 60 ∧ d = 62 ∨ c = 60 ∧ d = 61 ∨ c = 62 ∧ d = 61
    · have hs2 : symS (s.drop k) = 2 := by rw [hd, hr]; simp only [symS, if_pos h3]
      rw [hs2]
      rcases h3 with ⟨rfl, rfl⟩ | ⟨rfl, rfl⟩ | ⟨rfl, rfl⟩ <;> simp [Tryz.f110, Tryz.ti3, Tryz.ti5, Tryz.ti9, hw, h2, h0, h5, h6, hl, hsl]
    · have hne2 : symS (s.drop k) ≠ 2 := by rw [hd, hr]; simp only [symS, if_neg h3]; split <;> simp
      have q1 : ¬ (c = 60 ∧ d = 62) := fun q => h3 (.inl q)
      have q2 : ¬ (c = 60 ∧ d = 61) := fun q => h3 (.inr (.inl q))
      have q3 : ¬ (c = 62 ∧ d = 61) := fun q => h3 (.inr (.inr q))
      simp [Tryz.f110, Tryz.ti3, Tryz.ti5, Tryz.ti9, hw, h2, h0, h5, h6, hl, hsl, q1, q2, q3]
      rw [hL]
      rw [i_loop (ts := [28, 29, 30, 31, 34, 35, 36, 37, 38, 39, 40, 32, 33])]
      rotate_left
      · kernel_rfl
      refine i_at (fun i : Nat => L.length - i) (fun i env => setV env 7 (.int .i64 i)) (fun _ => _) (fun i => some (.ret (.int .i64 (if (L.drop i).contains c then 1 else 0)), [])) 0 (by simp [s_zero, s_succ]) rfl (by rw [one hne2, List.drop_zero]) ?_
      intro i ih
      by_cases hi : i < L.length
      · have ih := ih (i + 1) (by omega)
        have hdr : L.drop i = L[i] :: L.drop (i + 1) := List.drop_eq_getElem_cons hi
        obtain ⟨x, hx⟩ : ∃ m, L[i] = m := ⟨_, rfl⟩
        have hxx : L[i]? = some x := by rw [List.getElem?_eq_getElem hi, hx]
        have hwi : IntKind.i64.wrap ((i : Int) + 1) = (i : Int) + 1 := wrap_i64 (by omega)
        have hi' : (i : Int) < 11 := by omega
        rw [hdr, hx, List.contains_cons]
        simp only [s_zero, s_succ, Int.natCast_add, Int.natCast_one, Int.cast_ofNat_Int] at ih
        by_cases hcx : c = x
        · subst hcx
          simp [i_again, roundEnd, dropT, cleanV, Tryz.f110, Tryz.ti3, Tryz.ti5, Tryz.ti9, hi, hi', hk, hc, hcc, hx, hxx, hLl]
        · have hne : ¬ (c.toNat : Int) = x.toNat := fun e => hcx (UInt8.toNat_inj.1 (by omega))
          have hbf : (c == x) = false := by simp [hcx]
          rw [hbf, Bool.false_or]
          simp [i_again, roundEnd, dropT, cleanV, Tryz.f110, Tryz.ti3, Tryz.ti5, Tryz.ti9, hi, hi', hk, hc, hcc, hx, hxx, hLl, hne, hcx, hwi, ih]
      · have hdr : L.drop i = [] := List.drop_eq_nil_of_le (by omega)
        have hi' : ¬ (i : Int) < 11 := by omega
        rw [hdr]
        simp [i_again, roundEnd, dropT, cleanV, Tryz.f110, Tryz.ti3, Tryz.ti5, Tryz.ti9, hi, hi', hLl]
end Go.Abs

