/- Expressions' texts by the reference, how many there are, and the law of expressions. -/
import Derived.Test.YtpmeklllgnnffaaGreatDoorA39

namespace Go.Abs
set_option linter.unusedSimpArgs false
set_option linter.unusedVariables false
open Go Go.Proofs
attribute [local simp] i_nil i_blk i_skip i_ret i_exit i_seq i_block i_cond i_region' i_ops_nil i_ops i_drawn' d_in a_nil a_cons alt1 h_nil h_one h_two z_nil z_cons z_cells zeqL zeq q_alloc q_some isAlO nxtN i_drh d_hi i_drw_nil i_drw u_nil u_code u_ops u_drw u_lp u_again u_exit u_ret u_panic c_bool o_some o_val o_panic d_some d_val d_panic w_none w_fast wantG q_nil q_zero q_succ t_zero t_succ g_zero g_succ s_zero s_succ s_some s_none v_tmp v_const v_func f_quiet gc_none gc_pure wrap_i64 p_move p_assign p_pick p_alloc p_box p_build p_buildSlice p_load p_store p_nilCheck p_binOp n_tmp n_int n_bool n_str n_ptr n_fun n_iface nilCmp p_unOp p_convert p_makeSlice p_makeInterface p_makeFunc p_slice p_fieldAddr p_field p_indexAddr p_index p_extract p_callv p_callb p_panic quiet_val new_val e_assign e_call e_load e_store e_alloc e_box e_move e_pick e_build e_buildSlice e_nilCheck e_binOp e_unOp e_convert e_makeSlice e_makeInterface e_makeFunc e_slice e_fieldAddr e_field e_indexAddr e_index e_extract e_panic callD fpRead adopt adoptL ofValue ofScalar binOpV unOpV intBin strBin eqRes veq veqF eqDepth val? finish resL r_tmp r_cell normL normTop tipIs refsL refs ownRefs single frz frzL ren renL renOwn callOp doCall backR writeBack builtinV loadV storeV cellsAt takeV D.isAgg overlay vcells cellOk fieldAddrV indexAddrV fieldV partV indexV buildV fillV buildSliceV litElems appendV appElems elemOk convertV convV winStr makeSliceV sliceV natOf
attribute [local simp ↓] brB_true brB_false brB_dec brB_not brB_and brB_or brB_beq brB_bne

theorem ev_rshowx : ∀ (d : Nat) (e : Xp), d ≤ 20 → rightE d e = true → e.ok → EV 26 [e.enc] [] = some (.ret (.str (showE e)), [])
  | 0, .mk op v var col l, _, h, _ => by cases h
  | d + 1, .mk op v var col l, hd, h, ho => by
    have hpw : 2 ^ d ≤ 2 ^ 19 := Nat.pow_le_pow_right (by omega) (by omega)
    rcases right_parts h with ⟨rfl, rfl, rfl, rfl, h1, h2⟩ | ⟨rfl, rfl, rfl, h1, h2⟩ | ⟨a, h1, rfl, rfl, rfl, rfl, h2⟩ | ⟨a, b, h1, n1, n2, n3, n4, n5, rfl, rfl, rfl, rfl, h2, h3⟩
    · rw [showE_value, EV_mki rfl Tryz.func26 rfl (by kernel_rfl), xenc_mk]
      have hs := ev_rshow v.kind v.n v.s (right_text h1).1 ho.2.1.2.1 (by have := (right_text h1).2; omega)
      have e : (⟨v.kind, v.n, v.s⟩ : Val) = v := rfl
      rw [e] at hs
      simp [Tryz.f26, Tryz.ti3, Tryz.ti9, Tryz.ti31, Tryz.ti44, Tryz.ti50, oValue, hs]
    · rw [showE_column, EV_mki rfl Tryz.func26 rfl (by kernel_rfl), xenc_mk]
      have hc := name_len h1
      by_cases hv : var = []
      · subst hv
        simp [Tryz.f26, Tryz.ti3, Tryz.ti9, Tryz.ti31, Tryz.ti44, Tryz.ti50, oColumn, Val.zero]
      · have hvl : var.length ≤ 16 := by
          rcases h2 with e | e
          · exact absurd e hv
          · exact name_len e
        simp (disch := first | ((try simp only [List.length_cons, List.length_append, List.length_nil]); omega) | simp [refsL, refs]) [-strBin, sb_add, sb_eql, sb_neq, sb_lss, Tryz.f26, Tryz.ti3, Tryz.ti9, Tryz.ti31, Tryz.ti44, Tryz.ti50, oColumn, hv, Val.zero]
    · have ha := ev_rshowx d a (by omega) h2 ho.2.2.2.2.2.1
      have hl := showE_len d a h2 ho.2.2.2.2.2.1
      rw [ev_rshow1 a (showE a) ha (by omega) op h1]
      rcases h1 with rfl | rfl | rfl
      · rw [if_pos rfl, showE_neg]
      · rw [if_neg (by decide), if_pos rfl, showE_not]
      · rw [if_neg (by decide), if_neg (by decide), showE_null]
    · have ha := ev_rshowx d a (by omega) h2 ho.2.2.2.2.2.1
      have hl := showE_len d a h2 ho.2.2.2.2.2.1
      have hb := ev_rshowx d b (by omega) h3 ho.2.2.2.2.2.2.1
      have hl' := showE_len d b h3 ho.2.2.2.2.2.2.1
      rw [ev_rshow2 a b (showE a) (showE b) ha hb (by omega) (by omega) op h1 n1 n2 n3 n4 n5, showE_two n1 n2 n3 n4 n5]
      rfl

/- how many, counted up to a bound -/
mutual
def szE : Xp → Int → Int
  | .mk _ _ _ _ kids, most => szL kids 1 most
def szL : List Xp → Int → Int → Int
  | [], n, _ => n
  | e :: l, n, most => if n ≤ most then szL l (n + szE e (most - n)) most else n
end
mutual
theorem szE_le : ∀ (e : Xp) (m : Int), 1 ≤ szE e m ∧ (szE e m ≤ 1 ∨ szE e m ≤ m + 1)
  | .mk _ _ _ _ kids, m => by
    have := szL_le kids 1 m
    simp only [szE]
    omega
theorem szL_le : ∀ (l : List Xp) (n m : Int), n ≤ szL l n m ∧ (szL l n m = n ∨ szL l n m ≤ m + 1)
  | [], n, m => by simp [szL]
  | e :: l, n, m => by
    simp only [szL]
    split
    · have h1 := szE_le e (m - n)
      have h2 := szL_le l (n + szE e (m - n)) m
      omega
    · omega
end
theorem ev_size_of (op : List UInt8) (v : Val) (var col : List UInt8) (l : List Xp) (m : Int) (hm : -1000000 ≤ m ∧ m ≤ 1000000) (hl : l.length ≤ 1048576)
    (ihk : ∀ e ∈ l, ∀ m : Int, -1000000 ≤ m ∧ m ≤ 1000000 → EV 21 [e.enc, .int .i64 m] [] = some (.ret (.int .i64 (szE e m)), [])) :
    EV 21 [(Xp.mk op v var col l).enc, .int .i64 m] [] = some (.ret (.int .i64 (szE (Xp.mk op v var col l) m)), []) := by
  rw [EV_mki rfl Tryz.func21 rfl (by kernel_rfl), xenc_mk]
  simp only [szE]
  simp [Tryz.f21, Tryz.ti3, Tryz.ti9, Tryz.ti31, Tryz.ti44, Tryz.ti50]
  rw [i_loop (ts := [7, 8, 9, 10, 11, 12, 13, 14, 15, 16, 19, 20, 21, 22, 23, 24, 25, 26, 27, 28, 29, 17, 18])]
  rotate_left
  · kernel_rfl
  refine i_at (fun x : {x : Nat × Int // x.1 ≤ l.length ∧ 1 ≤ x.2 ∧ x.2 ≤ 1000001} => l.length - x.1.1) (fun x env => setV (setV env 6 (.int .i64 x.1.1)) 5 (.int .i64 x.1.2)) (fun i => _) (fun x => some (.ret (.int .i64 (szL (l.drop x.1.1) x.1.2 m)), [])) ⟨(0, 1), by omega⟩ (by simp [s_zero, s_succ]) rfl (by simp) ?_
  intro ⟨⟨i, n⟩, hil, hn1, hn2⟩ ih
  dsimp only at hil hn1 hn2 ih ⊢
  by_cases hi : i < l.length
  · obtain ⟨t, hk⟩ : ∃ m, l[i] = m := ⟨_, rfl⟩
    have hkk : l[i]? = some t := by rw [List.getElem?_eq_getElem hi, hk]
    have hwi : IntKind.i64.wrap ((i : Int) + 1) = (i : Int) + 1 := wrap_i64 (by omega)
    rw [List.drop_eq_getElem_cons hi, szL, hk]
    by_cases hnm : n ≤ m
    · rw [if_pos hnm]
      have hc := ihk l[i] (List.getElem_mem hi) (m - n) (by omega)
      rw [hk] at hc
      have hz := szE_le t (m - n)
      have ih := ih ⟨(i + 1, n + szE t (m - n)), by omega, by omega, by omega⟩ (by simp only; omega)
      have hw1 : IntKind.i64.wrap (m - n) = m - n := wrap_i64 (by omega)
      have hw2 : IntKind.i64.wrap (n + szE t (m - n)) = n + szE t (m - n) := wrap_i64 (by omega)
      obtain ⟨op', v', var', col', kids'⟩ := t
      rw [xenc_mk] at hc
      simp only [s_zero, s_succ, Int.natCast_add, Int.natCast_one, Int.cast_ofNat_Int] at ih
      generalize szE (.mk op' v' var' col' kids') (m - n) = z at hc hz ih hw2 ⊢
      simp [i_again, roundEnd, dropT, cleanV, Tryz.f21, Tryz.ti3, Tryz.ti9, Tryz.ti31, Tryz.ti44, Tryz.ti50, hi, hk, hkk, xenc_mk, hwi, hnm, hw1, hw2, hc, ih] <;> first | (change _ = true; decide +kernel) | (refine ⟨?_, ?_⟩ <;> (change _ = true; decide +kernel))
    · rw [if_neg hnm]
      simp [i_again, roundEnd, dropT, cleanV, Tryz.f21, Tryz.ti3, Tryz.ti9, Tryz.ti31, Tryz.ti44, Tryz.ti50, hi, hk, hkk, hnm]
  · rw [List.drop_of_length_le (by omega)]
    simp [i_again, roundEnd, dropT, cleanV, Tryz.f21, Tryz.ti3, Tryz.ti9, Tryz.ti31, Tryz.ti44, Tryz.ti50, hi, szL]
mutual
theorem ev_sizex : ∀ e : Xp, e.ok → ∀ m : Int, -1000000 ≤ m ∧ m ≤ 1000000 → EV 21 [e.enc, .int .i64 m] [] = some (.ret (.int .i64 (szE e m)), [])
  | .mk op v var col kids, h => fun m hm => ev_size_of op v var col kids m hm h.2.2.2.2.1 (ev_sizexs kids h.2.2.2.2.2)
theorem ev_sizexs : ∀ l : List Xp, Xp.oks l → ∀ e ∈ l, ∀ m : Int, -1000000 ≤ m ∧ m ≤ 1000000 → EV 21 [e.enc, .int .i64 m] [] = some (.ret (.int .i64 (szE e m)), [])
  | [], _, m, hm => by cases hm
  | e :: l, h, m, hm => by
    rcases List.mem_cons.1 hm with hm | hm
    · rw [hm]; exact ev_sizex e h.1
    · exact ev_sizexs l h.2 m hm
end

theorem ev_awake : EV 12 [] [] = some (.ret (.bool true), []) := ev_some.2 ⟨200, by kernel_rfl⟩
set_option maxRecDepth 100000 in
theorem ev_astexprs (e : Xp) (h : e.ok) : EV 5 [e.enc] [] = some (.ret (.bool true), []) := by
  have hp := ev_plainx e h
  have hd := ev_deepx 60 e h (by omega)
  have hz := ev_sizex e h 400 (by omega)
  have hr := ev_rightexpr e h
  have hrr := ev_rrightx 20 e h (by omega)
  have hs := ev_showexpr e h
  have hrs := fun h' => ev_rshowx 20 e (by omega) h' h
  rw [EV_mki rfl Tryz.func5 rfl (by kernel_rfl)]
  obtain ⟨op, v, var, col, l⟩ := e
  rw [xenc_mk] at hp hd hz hr hrr hs hrs ⊢
  simp only [Int.cast_ofNat_Int] at hd hrr
  cases hb : deepE 60 (.mk op v var col l) <;> rw [hb] at hd
  · by_cases hsz : szE (.mk op v var col l) 400 > 400
    · simp [Tryz.f5, Tryz.ti3, Tryz.ti4, Tryz.ti9, Tryz.ti23, Tryz.ti31, Tryz.ti44, Tryz.ti46, Tryz.ti50, ev_awake, hp, hd, hz, hsz] <;> first | (change _ = true; decide +kernel) | (refine ⟨?_, ?_⟩ <;> (change _ = true; decide +kernel))
    · cases hc : rightE 20 (.mk op v var col l) <;> rw [hc] at hr hrr hs
      · simp [Tryz.f5, Tryz.ti3, Tryz.ti4, Tryz.ti9, Tryz.ti23, Tryz.ti31, Tryz.ti44, Tryz.ti46, Tryz.ti50, ev_awake, hp, hd, hz, hsz, hr, hrr, hs] <;> first | (change _ = true; decide +kernel) | (refine ⟨?_, ?_⟩ <;> (change _ = true; decide +kernel))
      · have hrs := hrs hc
        simp [Tryz.f5, Tryz.ti3, Tryz.ti4, Tryz.ti9, Tryz.ti23, Tryz.ti31, Tryz.ti44, Tryz.ti46, Tryz.ti50, ev_awake, hp, hd, hz, hsz, hr, hrr, hs, hrs] <;> first | (change _ = true; decide +kernel) | (refine ⟨?_, ?_⟩ <;> (change _ = true; decide +kernel))
  · simp [Tryz.f5, Tryz.ti3, Tryz.ti4, Tryz.ti9, Tryz.ti23, Tryz.ti31, Tryz.ti44, Tryz.ti46, Tryz.ti50, ev_awake, hp, hd, hz] <;> first | (change _ = true; decide +kernel) | (refine ⟨?_, ?_⟩ <;> (change _ = true; decide +kernel))
end Go.Abs

namespace Go.Abs
set_option linter.unusedSimpArgs false
set_option linter.unusedVariables false
open Go Go.Proofs
attribute [local simp] i_nil i_blk i_skip i_ret i_exit i_seq i_block i_cond i_region' i_ops_nil i_ops i_drawn' d_in a_nil a_cons alt1 h_nil h_one h_two z_nil z_cons z_cells zeqL zeq q_alloc q_some isAlO nxtN i_drh d_hi i_drw_nil i_drw u_nil u_code u_ops u_drw u_lp u_again u_exit u_ret u_panic c_bool o_some o_val o_panic d_some d_val d_panic w_none w_fast wantG q_nil q_zero q_succ t_zero t_succ g_zero g_succ s_zero s_succ s_some s_none v_tmp v_const v_func f_quiet gc_none gc_pure wrap_i64 p_move p_assign p_pick p_alloc p_box p_build p_buildSlice p_load p_store p_nilCheck p_binOp n_tmp n_int n_bool n_str n_ptr n_fun n_iface nilCmp p_unOp p_convert p_makeSlice p_makeInterface p_makeFunc p_slice p_fieldAddr p_field p_indexAddr p_index p_extract p_callv p_callb p_panic quiet_val new_val e_assign e_call e_load e_store e_alloc e_box e_move e_pick e_build e_buildSlice e_nilCheck e_binOp e_unOp e_convert e_makeSlice e_makeInterface e_makeFunc e_slice e_fieldAddr e_field e_indexAddr e_index e_extract e_panic callD fpRead adopt adoptL ofValue ofScalar binOpV unOpV intBin strBin eqRes veq veqF eqDepth val? finish resL r_tmp r_cell normL normTop tipIs refsL refs ownRefs single frz frzL ren renL renOwn callOp doCall backR writeBack builtinV loadV storeV cellsAt takeV D.isAgg overlay vcells cellOk fieldAddrV indexAddrV fieldV partV indexV buildV fillV buildSliceV litElems appendV appElems elemOk convertV convV winStr makeSliceV sliceV natOf
attribute [local simp ↓] brB_true brB_false brB_dec brB_not brB_and brB_or brB_beq brB_bne

theorem join_snoc : ∀ (xs : List (List UInt8)) (x sep : List UInt8), Lib.join (xs ++ [x]) sep = if xs = [] then x else Lib.join xs sep ++ (sep ++ x)
  | [], x, sep => by simp [Lib.join_one]
  | [y], x, sep => by
    rw [List.cons_append, Lib.join_cons, Lib.join_one]
    simp [Lib.joinTail]
  | y :: z :: r, x, sep => by
    rw [List.cons_append, Lib.join_cons, Lib.join_cons]
    simp [Lib.joinTail]
theorem ev_joined (l : List (List UInt8)) (sep : List UInt8) (hl : l.length ≤ 1000) (hs : sep.length ≤ 2) (h : ∀ x ∈ l, x.length ≤ 10000000000000) : EV 59 [.slice .froz (l.map V.str), .str sep] [] = some (.ret (.str (Lib.join l sep)), []) := by
  rw [EV_mki rfl Tryz.func59 rfl (by kernel_rfl)]
  simp [Tryz.f59, Tryz.ti3, Tryz.ti9, Tryz.ti100]
  rw [i_loop (ts := [7, 8, 9, 10, 13, 14, 15, 16, 17, 18, 19, 20, 21, 22, 23, 11, 12])]
  rotate_left
  · kernel_rfl
  refine i_at (fun i : {i : Nat // i ≤ l.length} => l.length - i.1) (fun i env => setV (setV env 6 (.int .i64 i.1)) 5 (.str (Lib.join (l.take i.1) sep))) (fun i => _) (fun i => some (.ret (.str (Lib.join l sep)), [])) ⟨0, by omega⟩ (by simp [s_zero, s_succ, Lib.join_nil]) rfl rfl ?_
  intro ⟨i, hil⟩ ih
  dsimp only at hil ⊢
  by_cases hi : i < l.length
  · have ih := ih ⟨i + 1, by omega⟩ (by simp only; omega)
    have hwi : IntKind.i64.wrap ((i : Int) + 1) = (i : Int) + 1 := wrap_i64 (by omega)
    have hxl := h l[i] (List.getElem_mem hi)
    obtain ⟨t, hk⟩ : ∃ m, l[i] = m := ⟨_, rfl⟩
    rw [hk] at hxl
    have hkk : l[i]? = some t := by rw [List.getElem?_eq_getElem hi, hk]
    have hj := join_len (l.take i) sep 10000000000000 (fun x hx => h x (List.mem_of_mem_take hx))
    have h3 : (l.take i).length * (10000000000000 + sep.length) ≤ 1000 * 10000000000002 := Nat.mul_le_mul (by rw [List.length_take]; omega) (by omega)
    simp only at ih
    rw [List.take_succ_eq_append_getElem hi, hk, join_snoc] at ih
    by_cases h0 : i = 0
    · subst h0
      simp only [List.take_zero, if_true, s_zero, s_succ, Int.natCast_add, Int.natCast_one, Int.cast_ofNat_Int, Lib.join_nil, Int.ofNat_zero, Int.zero_add] at ih ⊢
      simp (disch := first | ((try simp only [List.length_cons, List.length_append, List.length_nil]); omega) | simp [refsL, refs]) [-strBin, sb_add, sb_eql, sb_neq, sb_lss, i_again, roundEnd, dropT, cleanV, Tryz.f59, Tryz.ti3, Tryz.ti9, Tryz.ti100, hi, hk, hkk, ih, Lib.join_nil]
    · have hne : ¬ l.take i = [] := by
        intro e
        have := congrArg List.length e
        rw [List.length_take, List.length_nil] at this
        omega
      have hpos : (0 : Int) < i := by omega
      have hpos' : 0 < i := by omega
      rw [if_neg hne] at ih
      generalize Lib.join (l.take i) sep = J at *
      have hJ : J.length ≤ 10000000000002000 := by omega
      simp only [s_zero, s_succ, Int.natCast_add, Int.natCast_one, Int.cast_ofNat_Int] at ih
      simp (disch := first | ((try simp only [List.length_cons, List.length_append, List.length_nil]); omega) | simp [refsL, refs]) [-strBin, sb_add, sb_eql, sb_neq, sb_lss, i_again, roundEnd, dropT, cleanV, Tryz.f59, Tryz.ti3, Tryz.ti9, Tryz.ti100, hi, hk, ih, hwi, hpos, hpos']
  · have ht : l.take i = l := List.take_of_length_le (by omega)
    rw [ht]
    simp [i_again, roundEnd, dropT, cleanV, Tryz.f59, Tryz.ti3, Tryz.ti9, Tryz.ti100, hi]
theorem ev_rcomma (l : List (List UInt8)) (hl : l.length ≤ 1000) (h : ∀ x ∈ l, x.length ≤ 1000000000) : EV 59 [.slice .froz (l.map V.str), .str [44, 32]] [] = some (.ret (.str (commaS l)), []) :=
  ev_joined l [44, 32] hl (by simp) (fun x hx => by have := h x hx; omega)

theorem ev_rshowexprs (l : List Xp) (hl : l.length ≤ 1000) (hr : ∀ x ∈ l, rightE 20 x = true) (ho : ∀ x ∈ l, x.ok) : EV 60 [.slice .froz (l.map Xp.enc)] [] = some (.ret (.str (commaS (l.map showE))), []) := by
  have hj := ev_rcomma (l.map showE) (by simpa using hl) (fun x hx => by obtain ⟨y, hy, rfl⟩ := List.mem_map.1 hx; have := (right_shows (hr y hy) (ho y hy)).2; omega)
  rw [EV_mki rfl Tryz.func60 rfl (by kernel_rfl)]
  simp [Tryz.f60, Tryz.ti3, Tryz.ti9, Tryz.ti31, Tryz.ti44, Tryz.ti50, Tryz.ti100]
  rw [i_loop (ts := [6, 7, 8, 9, 12, 13, 14, 15, 16, 17, 18, 19, 10, 11])]
  rotate_left
  · kernel_rfl
  refine i_at (fun i : {i : Nat // i ≤ l.length} => l.length - i.1) (fun i env => setV (setV env 4 (.int .i64 i.1)) 3 (.slice (.own 0) (((l.take i.1).map showE).map V.str))) (fun i => [[.tip i.1]]) (fun i => some (.ret (.str (commaS (l.map showE))), [])) ⟨0, by omega⟩ (by simp [s_zero, s_succ]) rfl rfl ?_
  intro ⟨i, hil⟩ ih
  dsimp only at hil ⊢
  by_cases hi : i < l.length
  · have ih := ih ⟨i + 1, by omega⟩ (by simp only; omega)
    have hwi : IntKind.i64.wrap ((i : Int) + 1) = (i : Int) + 1 := wrap_i64 (by omega)
    have hlen : (((l.take i).map showE).map V.str).length = i := by simp; omega
    have hcx := ev_rshowx 20 l[i] (by omega) (hr _ (List.getElem_mem hi)) (ho _ (List.getElem_mem hi))
    obtain ⟨t, hk⟩ : ∃ m, l[i] = m := ⟨_, rfl⟩
    have ht : ((l.take (i + 1)).map showE).map V.str = ((l.take i).map showE).map V.str ++ [V.str (showE t)] := by rw [List.take_succ_eq_append_getElem hi, hk]; simp
    have hf : ∀ x ∈ ((l.take i).map showE).map V.str, (vcells x).length = 1 := fun x hx => by obtain ⟨y, _, rfl⟩ := List.mem_map.1 hx; rfl
    rw [hk] at hcx
    simp only at ih
    rw [ht] at ih
    clear ht
    generalize ((l.take i).map showE).map V.str = xs at *
    generalize showE t = T at hcx ih
    obtain ⟨op', v', var', col', kids'⟩ := t
    rw [xenc_mk] at hcx
    simp only [s_zero, s_succ, Int.natCast_add, Int.natCast_one, Int.cast_ofNat_Int] at ih
    simp only [vcells] at hf
    have hbb : (i + 1) * 16 ≤ 70368744177664 := by omega
    have hbc : i + 1 ≤ 70368744177664 := by omega
    simp +contextual [i_again, roundEnd, dropT, cleanV, Tryz.f60, Tryz.ti3, Tryz.ti9, Tryz.ti31, Tryz.ti44, Tryz.ti50, Tryz.ti100, hi, hk, xenc_mk, hwi, hlen, hbb, hbc, hf, ih, hcx]
  · have ht : l.take i = l := List.take_of_length_le (by omega)
    obtain rfl : i = l.length := by omega
    rw [ht]
    generalize (l.map showE).map V.str = xs at hj
    simp [i_again, roundEnd, dropT, cleanV, Tryz.f60, Tryz.ti3, Tryz.ti9, Tryz.ti31, Tryz.ti44, Tryz.ti50, Tryz.ti100, hi, hj]

theorem src_parts {x : Src} (h : rightSrc x = true) : (x.kind = 0 ∧ x.table.length ≤ 16 ∨ (x.kind = 1 ∨ x.kind = 2 ∨ x.kind = 3 ∨ x.kind = 4) ∧ x.table = []) ∧ x.var.length ≤ 16 := by
  obtain ⟨k, t, v⟩ := x
  simp only [rightSrc, Bool.and_eq_true, Bool.or_eq_true, decide_eq_true_eq] at h
  dsimp only
  refine ⟨?_, ?_⟩
  · have h2 := h.2
    split at h2
    · exact .inl ⟨by assumption, name_len h2⟩
    · simp only [Bool.and_eq_true, decide_eq_true_eq] at h2
      exact .inr ⟨by omega, h2.2.2⟩
  · rcases h.1 with e | e
    · rw [e]; simp
    · exact name_len e
set_option maxRecDepth 100000 in
set_option maxHeartbeats 4000000 in
theorem ev_rshowsources (l : List Src) (hl : l.length ≤ 1000) (hr : ∀ x ∈ l, rightSrc x = true) : EV 62 [.slice .froz (l.map Src.enc)] [] = some (.ret (.str (commaS (l.map showSrcS))), []) := by
  have hj := ev_rcomma (l.map showSrcS) (by simpa using hl) (fun x hx => by obtain ⟨y, hy, rfl⟩ := List.mem_map.1 hx; have := (ev_showsource y (hr y hy)).2; omega)
  rw [EV_mki rfl Tryz.func62 rfl (by kernel_rfl)]
  simp [Tryz.f62, Tryz.ti3, Tryz.ti9, Tryz.ti33, Tryz.ti85, Tryz.ti100]
  rw [i_loop (ts := [9, 10, 11, 12, 15, 16, 17, 18, 19, 20, 21, 22, 23, 24, 25, 26, 27, 28, 6, 29, 30, 31, 32, 33, 34, 35, 36, 37, 38, 39, 40, 41, 42, 6, 43, 44, 45, 46, 13, 14])]
  rotate_left
  · kernel_rfl
  refine i_at (fun i : {i : Nat // i ≤ l.length} => l.length - i.1) (fun i env => setV (setV env 5 (.int .i64 i.1)) 4 (.slice (.own 1) (((l.take i.1).map showSrcS).map V.str))) (fun i => [[.tip 5], [.tip i.1]]) (fun i => some (.ret (.str (commaS (l.map showSrcS))), [])) ⟨0, by omega⟩ (by simp [s_zero, s_succ]) rfl rfl ?_
  intro ⟨i, hil⟩ ih
  dsimp only at hil ⊢
  by_cases hi : i < l.length
  · have ih := ih ⟨i + 1, by omega⟩ (by simp only; omega)
    have hwi : IntKind.i64.wrap ((i : Int) + 1) = (i : Int) + 1 := wrap_i64 (by omega)
    have hlen : (((l.take i).map showSrcS).map V.str).length = i := by simp; omega
    have hp := src_parts (hr _ (List.getElem_mem hi))
    obtain ⟨t, hk⟩ : ∃ m, l[i] = m := ⟨_, rfl⟩
    have hkk : l[i]? = some t := by rw [List.getElem?_eq_getElem hi, hk]
    have ht : ((l.take (i + 1)).map showSrcS).map V.str = ((l.take i).map showSrcS).map V.str ++ [V.str (showSrcS t)] := by rw [List.take_succ_eq_append_getElem hi, hk]; simp
    have hf : ∀ x ∈ ((l.take i).map showSrcS).map V.str, (vcells x).length = 1 := fun x hx => by obtain ⟨y, _, rfl⟩ := List.mem_map.1 hx; rfl
    rw [hk] at hp
    simp only at ih
    rw [ht] at ih
    clear ht
    generalize ((l.take i).map showSrcS).map V.str = xs at *
    obtain ⟨k, tb, v⟩ := t
    simp only [s_zero, s_succ, Int.natCast_add, Int.natCast_one, Int.cast_ofNat_Int, showSrcS] at ih
    simp only [vcells] at hf
    have hbb : (i + 1) * 16 ≤ 70368744177664 := by omega
    have hbc : i + 1 ≤ 70368744177664 := by omega
    obtain ⟨hc, hvl⟩ := hp
    simp only at hc hvl
    rcases hc with ⟨rfl, htl⟩ | ⟨rfl | rfl | rfl | rfl, rfl⟩ <;> by_cases hv : v = [] <;> simp [srcW, hv] at ih <;> simp +contextual (disch := first | ((try simp only [List.length_cons, List.length_append, List.length_nil]); omega) | simp [refsL, refs]) [-strBin, sb_add, sb_eql, sb_neq, sb_lss, i_again, roundEnd, dropT, cleanV, Tryz.f62, Tryz.ti3, Tryz.ti9, Tryz.ti33, Tryz.ti85, Tryz.ti100, hi, hk, hkk, Src.enc, Src.cells, hwi, hlen, hbb, hbc, hf, ih, hv] <;> first | (change _ = true; decide +kernel) | (refine ⟨?_, ?_⟩ <;> (change _ = true; decide +kernel))
  · have ht : l.take i = l := List.take_of_length_le (by omega)
    obtain rfl : i = l.length := by omega
    rw [ht]
    generalize (l.map showSrcS).map V.str = xs at hj
    simp [i_again, roundEnd, dropT, cleanV, Tryz.f62, Tryz.ti3, Tryz.ti9, Tryz.ti33, Tryz.ti85, Tryz.ti100, hi, hj]

theorem ev_rwhere (b : StB) (acts : List Stm) (h : rightsE b.wher 0 1 = true) (ho : ∀ m ∈ b.wher, m.ok) : EV 61 [(Stm.mk b acts).enc] [] = some (.ret (.str (whereS b.wher)), []) := by
  obtain ⟨h1, h2, h3⟩ := rights_all h
  obtain ⟨kind, name, table, col, cols, values, items, wher, sets, src, prio, event, deferred, rolls⟩ := b
  dsimp only at h1 h3 ho ⊢
  cases wher with
  | nil =>
    rw [EV_mki rfl Tryz.func61 rfl (by kernel_rfl), senc_mk]
    simp [Tryz.f61, Tryz.ti3, Tryz.ti4, Tryz.ti9, Tryz.ti22, Tryz.ti31, Tryz.ti32, Tryz.ti33, Tryz.ti34, Tryz.ti36, Tryz.ti44, Tryz.ti50, Tryz.ti82, Tryz.ti85, Tryz.ti94, whereS]
  | cons e r =>
    have hs := ev_rshowx 20 e (by omega) (h1 e (by simp)) (ho e (by simp))
    have hl := (right_shows (h1 e (by simp)) (ho e (by simp))).2
    rw [EV_mki rfl Tryz.func61 rfl (by kernel_rfl), senc_mk]
    simp only [whereS]
    generalize showE e = E at hs hl ⊢
    obtain ⟨op', v', var', col', kids'⟩ := e
    rw [xenc_mk] at hs
    have hne : ¬ ((r.length : Int) + 1 = 0) := by omega
    simp (disch := first | ((try simp only [List.length_cons, List.length_append, List.length_nil]); omega) | simp [refsL, refs]) [-strBin, sb_add, sb_eql, sb_neq, sb_lss, Tryz.f61, Tryz.ti3, Tryz.ti4, Tryz.ti9, Tryz.ti22, Tryz.ti31, Tryz.ti32, Tryz.ti33, Tryz.ti34, Tryz.ti36, Tryz.ti44, Tryz.ti50, Tryz.ti82, Tryz.ti85, Tryz.ti94, hs, xenc_mk, hne]
end Go.Abs

