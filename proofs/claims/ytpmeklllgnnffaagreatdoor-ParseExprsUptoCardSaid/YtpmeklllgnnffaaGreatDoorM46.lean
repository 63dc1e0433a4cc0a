/- ParseExprs: the two answers are alike. -/
import Derived.Test.YtpmeklllgnnffaaGreatDoorM39
import Derived.Test.YtpmeklllgnnffaaGreatDoorM20
import Derived.Test.YtpmeklllgnnffaaGreatDoorM44
import Derived.Test.YtpmeklllgnnffaaGreatDoorM45
set_option linter.unusedSimpArgs false
set_option linter.unusedVariables false

namespace Go.Abs
set_option linter.unusedSimpArgs false
set_option linter.unusedVariables false
open Go Go.Proofs
attribute [local simp] i_nil i_blk i_skip i_ret i_exit i_seq i_block i_cond i_region' i_ops_nil i_ops i_drawn' d_in a_nil a_cons alt1 h_nil h_one h_two z_nil z_cons z_cells zeqL zeq q_alloc q_some isAlO nxtN i_drh d_hi i_drw_nil i_drw u_nil u_code u_ops u_drw u_lp u_again u_exit u_ret u_panic c_bool o_some o_val o_panic d_some d_val d_panic w_none w_fast wantG q_nil q_zero q_succ t_zero t_succ g_zero g_succ s_zero s_succ s_some s_none v_tmp v_const v_func f_quiet gc_none gc_pure wrap_i64 p_move p_assign p_pick p_alloc p_box p_build p_buildSlice p_load p_store p_nilCheck p_binOp n_tmp n_int n_bool n_str n_ptr n_fun n_iface nilCmp p_unOp p_convert p_makeSlice p_makeInterface p_makeFunc p_slice p_fieldAddr p_field p_indexAddr p_index p_extract p_callv p_callb p_panic quiet_val new_val e_assign e_call e_load e_store e_alloc e_box e_move e_pick e_build e_buildSlice e_nilCheck e_binOp e_unOp e_convert e_makeSlice e_makeInterface e_makeFunc e_slice e_fieldAddr e_field e_indexAddr e_index e_extract e_panic callD fpRead adoptZ fulls adopt adoptL ofValue ofScalar binOpV unOpV intBin strBin eqRes veq veqF eqDepth val? finish resL r_tmp r_cell normL normTop tipIs refsL refs ownRefs single frz frzL ren renL renOwn callOp doCall backR writeBack builtinV loadV storeV storeW iceT cellsAt takeV D.isAgg overlay vcells cellOk fieldAddrV indexAddrV fieldV partV indexV buildV fillV buildSliceV litElems appendV appElems elemOk convertV convV winStr makeSliceV sliceV natOf
attribute [local simp ↓] brB_true brB_false brB_dec brB_not brB_and brB_or brB_beq brB_bne

theorem ev_sames (l : List Xp) (hl : l.length ≤ 1048576) (ihk : ∀ m ∈ l, EV 33 [m.enc, m.enc] [] = some (.ret (.bool true), [])) :
    EV 64 [.slice .froz (l.map Xp.enc), .slice .froz (l.map Xp.enc)] [] = some (.ret (.bool true), []) := by
  rw [EV_mki rfl Tryz.func64 rfl (by kernel_rfl) rfl]
  simp [Tryz.f64, Tryz.ti3, Tryz.ti9, Tryz.ti31, Tryz.ti44, Tryz.ti50]
  rw [i_loop (ts := [11, 12, 13, 14, 17, 18, 19, 20, 21, 22, 23, 24, 25, 26, 15, 16])]
  rotate_left
  · kernel_rfl
  refine i_at (fun i : Nat => l.length - i) (fun i env => setV env 5 (.int .i64 i)) (fun _ => _) (fun _ => some (.ret (.bool true), [])) 0 (by simp [s_zero, s_succ]) rfl rfl ?_
  intro i ih
  by_cases hi : i < l.length
  · have ih := ih (i + 1) (by omega)
    have hwi : IntKind.i64.wrap ((i : Int) + 1) = (i : Int) + 1 := wrap_i64 (by omega)
    obtain ⟨t, hk⟩ : ∃ m, l[i] = m := ⟨_, rfl⟩
    have h1 := ihk t (by rw [← hk]; exact List.getElem_mem hi)
    obtain ⟨op, v, var, col, kids⟩ := t
    simp only [xenc_mk] at h1
    simp only [s_zero, s_succ, Int.natCast_add, Int.natCast_one, Int.cast_ofNat_Int] at ih
    simp [i_again, roundEnd, dropT, cleanV, Tryz.f64, Tryz.ti3, Tryz.ti9, Tryz.ti31, Tryz.ti44, Tryz.ti50, hi, hk, xenc_mk, h1, hwi, ih] <;> first | (refine panQ_of ?_; decide +kernel) | (change _ = true; decide +kernel) | kernel_rfl | (refine ⟨?_, ?_⟩ <;> first | (change _ = true; decide +kernel) | kernel_rfl)
  · simp [i_again, roundEnd, dropT, cleanV, Tryz.f64, Tryz.ti3, Tryz.ti9, Tryz.ti31, Tryz.ti44, Tryz.ti50, hi]
mutual
theorem ev_same : ∀ e : Xp, e.ok → EV 33 [e.enc, e.enc] [] = some (.ret (.bool true), [])
  | .mk op v var col kids, h => by
    have h1 := ev_sames kids h.2.2.2.2.1 (ev_same_all kids h.2.2.2.2.2)
    rw [EV_mki rfl Tryz.func33 rfl (by kernel_rfl) rfl, xenc_mk]
    simp [Tryz.f33, Tryz.ti3, Tryz.ti9, Tryz.ti31, Tryz.ti44, Tryz.ti50, h1, gc, reach, reachFuel, shut, nodup, List.idxOf, List.findIdx, List.findIdx.go, backR, List.range, List.range.loop] <;> first | (refine panQ_of ?_; decide +kernel) | (change _ = true; decide +kernel) | kernel_rfl | (refine ⟨?_, ?_⟩ <;> first | (change _ = true; decide +kernel) | kernel_rfl)
theorem ev_same_all : ∀ l : List Xp, Xp.oks l → ∀ m ∈ l, EV 33 [m.enc, m.enc] [] = some (.ret (.bool true), [])
  | [], _ => fun m hm => by cases hm
  | e :: l, h => fun m hm => by
    rcases List.mem_cons.1 hm with hx | hm
    · rw [hx]; exact ev_same e h.1
    · exact ev_same_all l h.2 m hm
end
theorem parse_ok (s : List UInt8) : (parseXS s).1.ok := by
  unfold parseXS readP
  have hz : Xp.zero.ok := ⟨by decide, zero_ok, by decide, by decide, by decide, trivial⟩
  split
  · exact hz
  · rename_i hl
    cases ht : toksS (s.length + 1) 0 s with
    | error e => exact hz
    | ok l =>
      dsimp only
      have := (op_expr l (toks_tsm (by omega) ht)).2
      cases hP : exprP l with
      | mk o r =>
        cases o with
        | none => exact hz
        | some e =>
          dsimp only
          split
          · split
            · exact this e (by rw [hP])
            · exact hz
          · exact hz
set_option maxRecDepth 100000 in
theorem ev_parseexprs (s : List UInt8) (hs : s.length ≤ 1048576) : EV 10 [.str s] [] = some (.ret (.bool true), []) := by
  have hw := ev_awake14
  rw [EV_mki rfl Tryz.func10 rfl (by kernel_rfl) rfl]
  have h1 := ev_pexpr s hs
  have h2 := ev_rexpr s hs
  have h3 := ev_plainx (parseXS s).1 (parse_ok s)
  have h4 := ev_same (parseXS s).1 (parse_ok s)
  unfold exprO errV at h1
  unfold rexprO at h2
  generalize parseXS s = x at *
  obtain ⟨⟨op, v, var, col, kids⟩, k, q⟩ := x
  simp only [xenc_mk] at h1 h2 h3 h4
  by_cases hl : 3000 < (s.length : Int)
  · simp [Tryz.f10, Tryz.ti3, Tryz.ti9, Tryz.ti23, Tryz.ti31, Tryz.ti44, Tryz.ti46, Tryz.ti50, Tryz.ti56, Tryz.ti58, hw, hl, gc, reach, reachFuel, shut, nodup, List.idxOf, List.findIdx, List.findIdx.go, backR, List.range, List.range.loop]
  · simp [Tryz.f10, Tryz.ti3, Tryz.ti9, Tryz.ti23, Tryz.ti31, Tryz.ti44, Tryz.ti46, Tryz.ti50, Tryz.ti56, Tryz.ti58, hw, hl, h1, h2, h3, h4, gc, reach, reachFuel, shut, nodup, List.idxOf, List.findIdx, List.findIdx.go, backR, List.range, List.range.loop] <;> first | (refine panQ_of ?_; decide +kernel) | (change _ = true; decide +kernel) | kernel_rfl | (refine ⟨?_, ?_⟩ <;> first | (change _ = true; decide +kernel) | kernel_rfl)
end Go.Abs

