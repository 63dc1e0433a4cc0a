/- ParseLeft comes back with true. -/
import Derived.Test.YtpmeklllgnnffaaGreatDoorL33
import Derived.Test.YtpmeklllgnnffaaGreatDoorL40
import Derived.Test.YtpmeklllgnnffaaGreatDoorL41
import Derived.Test.YtpmeklllgnnffaaGreatDoorL26
import Derived.Test.YtpmeklllgnnffaaGreatDoorL45
set_option linter.unusedSimpArgs false
set_option linter.unusedVariables false

namespace Go.Abs
set_option linter.unusedSimpArgs false
set_option linter.unusedVariables false
open Go Go.Proofs
attribute [local simp] i_nil i_blk i_skip i_ret i_exit i_seq i_block i_cond i_region' i_ops_nil i_ops i_drawn' d_in a_nil a_cons alt1 h_nil h_one h_two z_nil z_cons z_cells zeqL zeq q_alloc q_some isAlO nxtN i_drh d_hi i_drw_nil i_drw u_nil u_code u_ops u_drw u_lp u_again u_exit u_ret u_panic c_bool o_some o_val o_panic d_some d_val d_panic w_none w_fast wantG q_nil q_zero q_succ t_zero t_succ g_zero g_succ s_zero s_succ s_some s_none v_tmp v_const v_func f_quiet gc_none gc_pure wrap_i64 p_move p_assign p_pick p_alloc p_box p_build p_buildSlice p_load p_store p_nilCheck p_binOp n_tmp n_int n_bool n_str n_ptr n_fun n_iface nilCmp p_unOp p_convert p_makeSlice p_makeInterface p_makeFunc p_slice p_fieldAddr p_field p_indexAddr p_index p_extract p_callv p_callb p_panic quiet_val new_val e_assign e_call e_load e_store e_alloc e_box e_move e_pick e_build e_buildSlice e_nilCheck e_binOp e_unOp e_convert e_makeSlice e_makeInterface e_makeFunc e_slice e_fieldAddr e_field e_indexAddr e_index e_extract e_panic callD fpRead adoptZ fulls adopt adoptL ofValue ofScalar binOpV unOpV intBin strBin eqRes veq veqF eqDepth val? finish resL r_tmp r_cell normL normTop tipIs refsL refs ownRefs single frz frzL ren renL renOwn callOp doCall backR writeBack builtinV loadV storeV cellsAt takeV D.isAgg overlay vcells cellOk fieldAddrV indexAddrV fieldV partV indexV buildV fillV buildSliceV litElems appendV appElems elemOk convertV convV winStr makeSliceV sliceV natOf
attribute [local simp ↓] brB_true brB_false brB_dec brB_not brB_and brB_or brB_beq brB_bne

theorem ev_node14 (op : List UInt8) (x y : Xp) : EV 34 [.str op, x.enc, y.enc] [] = some (.ret (xop op [x, y]).enc, []) := by
  rw [EV_mki rfl Tryz.func34 rfl (by kernel_rfl) rfl]
  obtain ⟨o1, v1, a1, c1, k1⟩ := x
  obtain ⟨o2, v2, a2, c2, k2⟩ := y
  simp only [xenc_mk, xop, List.map_cons, List.map_nil]
  simp [Tryz.f34, Tryz.ti3, Tryz.ti9, Tryz.ti23, Tryz.ti44, Tryz.ti46, Val.zero, gc, reach, reachFuel, shut, nodup, List.idxOf, List.findIdx, List.findIdx.go, List.range, List.range.loop]
theorem ev_is14 (text : List UInt8) (W : Xp) (hW : W.ok) (ht : text.length ≤ 1048576) (hp : parseXS text = if rightE 20 W = true then (W, 0, 0) else (Xp.zero, 8, 0)) : EV 35 [.str text, W.enc] [] = some (.ret (.bool true), []) := by
  have h1 := ev_pexpr text ht
  have h2 := ev_rightexpr W hW
  have h3 := ev_showexpr W hW
  rw [EV_mki rfl Tryz.func35 rfl (by kernel_rfl) rfl]
  unfold exprO errV at h1
  rw [hp] at h1
  cases hR : rightE 20 W
  · rw [hR] at h1 h2
    simp only [Bool.false_eq_true, if_false, Xp.zero, xenc_mk, Val.zero, List.map_nil] at h1
    obtain ⟨o1, v1, a1, c1, k1⟩ := W
    simp only [xenc_mk] at h2 ⊢
    simp [Tryz.f35, Tryz.ti3, Tryz.ti9, Tryz.ti23, Tryz.ti44, Tryz.ti46, Tryz.ti56, Tryz.ti58, h1, h2, gc, reach, reachFuel, shut, nodup, List.idxOf, List.findIdx, List.findIdx.go, backR, List.range, List.range.loop]
  · rw [hR] at h1 h2
    obtain ⟨o1, v1, a1, c1, k1⟩ := W
    simp only [if_true, xenc_mk] at h1 h2 h3 ⊢
    simp [Tryz.f35, Tryz.ti3, Tryz.ti9, Tryz.ti23, Tryz.ti44, Tryz.ti46, Tryz.ti56, Tryz.ti58, h1, h2, h3, gc, reach, reachFuel, shut, nodup, List.idxOf, List.findIdx, List.findIdx.go, backR, List.range, List.range.loop]

theorem xop2_enc (o : List UInt8) (x y : Xp) : (xop o [x, y]).enc = .agg [.str o, .int .i64 0, .int .i64 0, .str [], .str [], .str [], .slice .froz [x.enc, y.enc]] := by simp [xop, xenc_mk, Val.zero]
theorem xop1_enc (o : List UInt8) (x : Xp) : (xop o [x]).enc = .agg [.str o, .int .i64 0, .int .i64 0, .str [], .str [], .str [], .slice .froz [x.enc]] := by simp [xop, xenc_mk, Val.zero]
/- an expression, as a statement's condition -/
def whS (x : Xp) : Stm := .mk { StB.zero with wher := [x] } []
theorem whS_ok {x : Xp} (h : x.ok) : (whS x).ok := ⟨{ zb_ok with wher := ⟨by simp, fun y hy => by
    simp only [List.mem_singleton] at hy
    rw [hy]
    exact h⟩ }, Nat.zero_le _, trivial⟩
structure Fit (x : Xp) : Prop where
  small : greatS (whS x) = false
  right : rightE 20 x = true
  short : (showE x).length ≤ 400
theorem ok_plus : OkTok (yT [43]) ∧ (yT [43]).kind ≠ 0 := ok_sym1 (by decide)
section
variable {a b c : Xp} (oa : a.ok) (ob : b.ok) (oc : c.ok) (fa : Fit a) (fb : Fit b) (fc : Fit c)
include oa ob oc fa fb fc
theorem is_tri {s s' : Tok} {W : Xp} (hs : OkTok s ∧ s.kind ≠ 0) (hs' : OkTok s' ∧ s'.kind ≠ 0) (ls : (showTok s).length ≤ 10) (ls' : (showTok s').length ≤ 10) (hW : W.ok) (hr : ∀ n, exprP (ts (tri s s' a b c) ++ e0 n) = (some W, e0 n)) (t : List UInt8)
    (ht : t = showE a ++ (32 :: (showTok s ++ (32 :: (showE b ++ (32 :: (showTok s' ++ (32 :: showE c)))))))) : EV 35 [.str t, W.enc] [] = some (.ret (.bool true), []) := by
  have h := render_tri s s' fa.right fb.right fc.right
  have l1 := fa.short
  have l2 := fb.short
  have l3 := fc.short
  have hl : t.length ≤ 2000 := by rw [ht]; simp; omega
  rw [← h] at ht
  refine ev_is14 t W hW (by omega) ?_
  rw [ht] at hl ⊢
  exact parse_text (seq_tri hs hs' fa.right fb.right fc.right oa ob oc) hl hr
end
theorem is_not {a b : Xp} (oa : a.ok) (ob : b.ok) (fa : Fit a) (fb : Fit b) {s : Tok} {W : Xp} (hs : OkTok s ∧ s.kind ≠ 0) (ls : (showTok s).length ≤ 10) (hW : W.ok) (hr : ∀ n, exprP (ts (notD a b s) ++ e0 n) = (some W, e0 n)) (t : List UInt8)
    (ht : t = [78, 79, 84] ++ (32 :: (showE a ++ (32 :: (showTok s ++ (32 :: showE b)))))) : EV 35 [.str t, W.enc] [] = some (.ret (.bool true), []) := by
  have h := render_notD fa.right fb.right s
  have l1 := fa.short
  have l2 := fb.short
  have hl : t.length ≤ 2000 := by rw [ht]; simp; omega
  rw [← h] at ht
  refine ev_is14 t W hW (by omega) ?_
  rw [ht] at hl ⊢
  exact parse_text (seq_notD fa.right fb.right hs oa ob) hl hr
set_option maxRecDepth 100000 in
set_option maxHeartbeats 8000000 in
theorem ev_parseleft (a b c : Xp) (oa : a.ok) (ob : b.ok) (oc : c.ok) : EV 11 [a.enc, b.enc, c.enc] [] = some (.ret (.bool true), []) := by
  have hw := ev_awake14
  rw [EV_mki rfl Tryz.func11 rfl (by kernel_rfl) rfl]
  have ga := ev_great (whS a) (whS_ok oa)
  have gb := ev_great (whS b) (whS_ok ob)
  have gc' := ev_great (whS c) (whS_ok oc)
  have ra := ev_rightexpr a oa
  have rb := ev_rightexpr b ob
  have rc := ev_rightexpr c oc
  have sa := ev_showexpr a oa
  have sb := ev_showexpr b ob
  have sc := ev_showexpr c oc
  obtain ⟨A, hA⟩ : ∃ A, showE a = A := ⟨_, rfl⟩
  obtain ⟨B, hB⟩ : ∃ B, showE b = B := ⟨_, rfl⟩
  obtain ⟨C, hC⟩ : ∃ C, showE c = C := ⟨_, rfl⟩
  have fits : ∀ x : Xp, ∀ X, showE x = X → greatS (whS x) = false → rightE 20 x = true → ¬ 400 < X.length → Fit x := by
    rintro x X rfl h1 h2 h3
    exact ⟨h1, h2, by omega⟩
  have hfa := fits a A hA
  have hfb := fits b B hB
  have hfc := fits c C hC
  rw [hA] at sa
  rw [hB] at sb
  rw [hC] at sc
  have wa : (whS a).enc = .agg [.int .i64 0, .str [], .str [], .str [], .slice .froz [], .slice .froz [], .slice .froz [], .slice .froz [a.enc], .slice .froz [], .slice .froz [], .int .i64 0, .int .i64 0, .bool false, .bool false, .slice .froz []] := by simp [whS, senc_mk, StB.zero]
  have wb : (whS b).enc = .agg [.int .i64 0, .str [], .str [], .str [], .slice .froz [], .slice .froz [], .slice .froz [], .slice .froz [b.enc], .slice .froz [], .slice .froz [], .int .i64 0, .int .i64 0, .bool false, .bool false, .slice .froz []] := by simp [whS, senc_mk, StB.zero]
  have wc : (whS c).enc = .agg [.int .i64 0, .str [], .str [], .str [], .slice .froz [], .slice .froz [], .slice .froz [], .slice .froz [c.enc], .slice .froz [], .slice .froz [], .int .i64 0, .int .i64 0, .bool false, .bool false, .slice .froz []] := by simp [whS, senc_mk, StB.zero]
  rw [wa] at ga
  rw [wb] at gb
  rw [wc] at gc'
  have ca : ∃ (o : List UInt8) (v : Val) (s t : List UInt8) (l : List V), a.enc = .agg [.str o, .int .i64 v.kind, .int .i64 v.n, .str v.s, .str s, .str t, .slice .froz l] := by obtain ⟨o1, v1, a1, c1, k1⟩ := a; exact ⟨_, _, _, _, _, xenc_mk _ _ _ _ _⟩
  have cb : ∃ (o : List UInt8) (v : Val) (s t : List UInt8) (l : List V), b.enc = .agg [.str o, .int .i64 v.kind, .int .i64 v.n, .str v.s, .str s, .str t, .slice .froz l] := by obtain ⟨o1, v1, a1, c1, k1⟩ := b; exact ⟨_, _, _, _, _, xenc_mk _ _ _ _ _⟩
  have cc : ∃ (o : List UInt8) (v : Val) (s t : List UInt8) (l : List V), c.enc = .agg [.str o, .int .i64 v.kind, .int .i64 v.n, .str v.s, .str s, .str t, .slice .froz l] := by obtain ⟨o1, v1, a1, c1, k1⟩ := c; exact ⟨_, _, _, _, _, xenc_mk _ _ _ _ _⟩
  obtain ⟨o1, v1, s1, t1, l1, ea⟩ := ca
  obtain ⟨o2, v2, s2, t2, l2, eb⟩ := cb
  obtain ⟨o3, v3, s3, t3, l3, ec⟩ := cc
  rw [ea] at ga ra sa
  rw [eb] at gb rb sb
  rw [ec] at gc' rc sc
  have last : Fit a → Fit b → Fit c → True := fun _ _ _ => trivial
  rw [ea, eb, ec]
  simp [Tryz.f11, Tryz.ti3, Tryz.ti4, Tryz.ti9, Tryz.ti22, Tryz.ti23, Tryz.ti24, Tryz.ti25, Tryz.ti26, Tryz.ti28, Tryz.ti44, Tryz.ti46, Tryz.ti80, Tryz.ti84, Tryz.ti94, hw, gc, reach, reachFuel, shut, nodup, List.idxOf, List.findIdx, List.findIdx.go, backR, List.range, List.range.loop]
  rw [i_loop (ts := [23, 24, 25, 8, 26, 27, 28, 29, 30, 31, 32, 33, 34, 35, 36, 37, 38, 39, 40, 41])]
  rotate_left
  · kernel_rfl
  refine i_at (fun x : {i : Nat // i ≤ 3 ∧ (1 ≤ i → Fit a) ∧ (2 ≤ i → Fit b) ∧ (3 ≤ i → Fit c)} => 3 - x.1) (fun x env => setV env 22 (.int .i64 x.1)) (fun _ => _) (fun _ => some (.ret (.bool true), [])) ⟨0, by omega, by omega, by omega, by omega⟩ (by simp [s_zero, s_succ]) rfl rfl ?_
  rintro ⟨i, hi, i1, i2, i3⟩ ih
  dsimp only at ih ⊢
  rcases (by omega : i = 0 ∨ i = 1 ∨ i = 2 ∨ i = 3) with rfl | rfl | rfl | rfl
  · cases hg : greatS (whS a)
    · rw [hg] at ga
      cases hr : rightE 20 a
      · rw [hr] at ra
        simp [i_again, roundEnd, dropT, cleanV, Tryz.f11, Tryz.ti3, Tryz.ti4, Tryz.ti9, Tryz.ti22, Tryz.ti23, Tryz.ti24, Tryz.ti25, Tryz.ti26, Tryz.ti28, Tryz.ti44, Tryz.ti46, Tryz.ti80, Tryz.ti84, Tryz.ti94, ga, ra, gc, reach, reachFuel, shut, nodup, List.idxOf, List.findIdx, List.findIdx.go, backR, List.range, List.range.loop]
      · rw [hr] at ra sa
        simp only [if_true] at sa
        by_cases hl : 400 < A.length
        · have hl' : 400 < (A.length : Int) := by omega
          simp [i_again, roundEnd, dropT, cleanV, Tryz.f11, Tryz.ti3, Tryz.ti4, Tryz.ti9, Tryz.ti22, Tryz.ti23, Tryz.ti24, Tryz.ti25, Tryz.ti26, Tryz.ti28, Tryz.ti44, Tryz.ti46, Tryz.ti80, Tryz.ti84, Tryz.ti94, ga, ra, sa, hl', gc, reach, reachFuel, shut, nodup, List.idxOf, List.findIdx, List.findIdx.go, backR, List.range, List.range.loop]
        · have hl' : ¬ 400 < (A.length : Int) := by omega
          have ih := ih ⟨1, by omega, fun _ => hfa hg hr hl, by omega, by omega⟩ (by show 3 - 1 < 3 - 0; omega)
          simp only [s_zero, s_succ, Int.natCast_one, Int.cast_ofNat_Int] at ih
          simp [i_again, roundEnd, dropT, cleanV, Tryz.f11, Tryz.ti3, Tryz.ti4, Tryz.ti9, Tryz.ti22, Tryz.ti23, Tryz.ti24, Tryz.ti25, Tryz.ti26, Tryz.ti28, Tryz.ti44, Tryz.ti46, Tryz.ti80, Tryz.ti84, Tryz.ti94, ga, ra, sa, hl', ih, gc, reach, reachFuel, shut, nodup, List.idxOf, List.findIdx, List.findIdx.go, backR, List.range, List.range.loop]
    · rw [hg] at ga
      simp [i_again, roundEnd, dropT, cleanV, Tryz.f11, Tryz.ti3, Tryz.ti4, Tryz.ti9, Tryz.ti22, Tryz.ti23, Tryz.ti24, Tryz.ti25, Tryz.ti26, Tryz.ti28, Tryz.ti44, Tryz.ti46, Tryz.ti80, Tryz.ti84, Tryz.ti94, ga, gc, reach, reachFuel, shut, nodup, List.idxOf, List.findIdx, List.findIdx.go, backR, List.range, List.range.loop]
  · cases hg : greatS (whS b)
    · rw [hg] at gb
      cases hr : rightE 20 b
      · rw [hr] at rb
        simp [i_again, roundEnd, dropT, cleanV, Tryz.f11, Tryz.ti3, Tryz.ti4, Tryz.ti9, Tryz.ti22, Tryz.ti23, Tryz.ti24, Tryz.ti25, Tryz.ti26, Tryz.ti28, Tryz.ti44, Tryz.ti46, Tryz.ti80, Tryz.ti84, Tryz.ti94, gb, rb, gc, reach, reachFuel, shut, nodup, List.idxOf, List.findIdx, List.findIdx.go, backR, List.range, List.range.loop]
      · rw [hr] at rb sb
        simp only [if_true] at sb
        by_cases hl : 400 < B.length
        · have hl' : 400 < (B.length : Int) := by omega
          simp [i_again, roundEnd, dropT, cleanV, Tryz.f11, Tryz.ti3, Tryz.ti4, Tryz.ti9, Tryz.ti22, Tryz.ti23, Tryz.ti24, Tryz.ti25, Tryz.ti26, Tryz.ti28, Tryz.ti44, Tryz.ti46, Tryz.ti80, Tryz.ti84, Tryz.ti94, gb, rb, sb, hl', gc, reach, reachFuel, shut, nodup, List.idxOf, List.findIdx, List.findIdx.go, backR, List.range, List.range.loop]
        · have hl' : ¬ 400 < (B.length : Int) := by omega
          have ih := ih ⟨2, by omega, fun _ => i1 (by omega), fun _ => hfb hg hr hl, by omega⟩ (by show 3 - 2 < 3 - 1; omega)
          simp only [s_zero, s_succ, Int.natCast_one, Int.cast_ofNat_Int] at ih
          simp [i_again, roundEnd, dropT, cleanV, Tryz.f11, Tryz.ti3, Tryz.ti4, Tryz.ti9, Tryz.ti22, Tryz.ti23, Tryz.ti24, Tryz.ti25, Tryz.ti26, Tryz.ti28, Tryz.ti44, Tryz.ti46, Tryz.ti80, Tryz.ti84, Tryz.ti94, gb, rb, sb, hl', ih, gc, reach, reachFuel, shut, nodup, List.idxOf, List.findIdx, List.findIdx.go, backR, List.range, List.range.loop]
    · rw [hg] at gb
      simp [i_again, roundEnd, dropT, cleanV, Tryz.f11, Tryz.ti3, Tryz.ti4, Tryz.ti9, Tryz.ti22, Tryz.ti23, Tryz.ti24, Tryz.ti25, Tryz.ti26, Tryz.ti28, Tryz.ti44, Tryz.ti46, Tryz.ti80, Tryz.ti84, Tryz.ti94, gb, gc, reach, reachFuel, shut, nodup, List.idxOf, List.findIdx, List.findIdx.go, backR, List.range, List.range.loop]
  · cases hg : greatS (whS c)
    · rw [hg] at gc'
      cases hr : rightE 20 c
      · rw [hr] at rc
        simp [i_again, roundEnd, dropT, cleanV, Tryz.f11, Tryz.ti3, Tryz.ti4, Tryz.ti9, Tryz.ti22, Tryz.ti23, Tryz.ti24, Tryz.ti25, Tryz.ti26, Tryz.ti28, Tryz.ti44, Tryz.ti46, Tryz.ti80, Tryz.ti84, Tryz.ti94, gc', rc, gc, reach, reachFuel, shut, nodup, List.idxOf, List.findIdx, List.findIdx.go, backR, List.range, List.range.loop]
      · rw [hr] at rc sc
        simp only [if_true] at sc
        by_cases hl : 400 < C.length
        · have hl' : 400 < (C.length : Int) := by omega
          simp [i_again, roundEnd, dropT, cleanV, Tryz.f11, Tryz.ti3, Tryz.ti4, Tryz.ti9, Tryz.ti22, Tryz.ti23, Tryz.ti24, Tryz.ti25, Tryz.ti26, Tryz.ti28, Tryz.ti44, Tryz.ti46, Tryz.ti80, Tryz.ti84, Tryz.ti94, gc', rc, sc, hl', gc, reach, reachFuel, shut, nodup, List.idxOf, List.findIdx, List.findIdx.go, backR, List.range, List.range.loop]
        · have hl' : ¬ 400 < (C.length : Int) := by omega
          have ih := ih ⟨3, by omega, fun _ => i1 (by omega), fun _ => i2 (by omega), fun _ => hfc hg hr hl⟩ (by show 3 - 3 < 3 - 2; omega)
          simp only [s_zero, s_succ, Int.natCast_one, Int.cast_ofNat_Int] at ih
          simp [i_again, roundEnd, dropT, cleanV, Tryz.f11, Tryz.ti3, Tryz.ti4, Tryz.ti9, Tryz.ti22, Tryz.ti23, Tryz.ti24, Tryz.ti25, Tryz.ti26, Tryz.ti28, Tryz.ti44, Tryz.ti46, Tryz.ti80, Tryz.ti84, Tryz.ti94, gc', rc, sc, hl', ih, gc, reach, reachFuel, shut, nodup, List.idxOf, List.findIdx, List.findIdx.go, backR, List.range, List.range.loop]
    · rw [hg] at gc'
      simp [i_again, roundEnd, dropT, cleanV, Tryz.f11, Tryz.ti3, Tryz.ti4, Tryz.ti9, Tryz.ti22, Tryz.ti23, Tryz.ti24, Tryz.ti25, Tryz.ti26, Tryz.ti28, Tryz.ti44, Tryz.ti46, Tryz.ti80, Tryz.ti84, Tryz.ti94, gc', gc, reach, reachFuel, shut, nodup, List.idxOf, List.findIdx, List.findIdx.go, backR, List.range, List.range.loop]
  · clear ih
    have fa := i1 (by omega)
    have fb := i2 (by omega)
    have fc := i3 (by omega)
    have rA := fa.right
    have rB := fb.right
    have rC := fc.right
    rw [rA] at sa
    rw [rB] at sb
    rw [rC] at sc
    simp only [if_true] at sa sb sc
    have x2 : ∀ {o : List UInt8} {x y : Xp}, o.length ≤ 1048576 → x.ok → y.ok → (xop o [x, y]).ok := fun h1 h2 h3 => xop2_ok h1 h2 h3
    have x1 : ∀ {o : List UInt8} {x : Xp}, o.length ≤ 1048576 → x.ok → (xop o [x]).ok := fun h1 h2 => xop1_ok h1 h2
    have n0 := ev_node14 [43] a b
    have n1 := ev_node14 [45] (xop [43] [a, b]) c
    have n2 := ev_node14 [42] a b
    have n3 := ev_node14 [42] (xop [42] [a, b]) c
    have n4 := ev_node14 [42] b c
    have n5 := ev_node14 [43] a (xop [42] [b, c])
    have n6 := ev_node14 [43] b c
    have n7 := ev_node14 [60] a (xop [43] [b, c])
    have n8 := ev_node14 oAnd (xop oNot [a]) b
    have n9 := ev_node14 [61] a b
    have n10 := ev_node14 oAnd b c
    have n11 := ev_node14 oOr a (xop oAnd [b, c])
    have n12 := ev_node14 oOr a b
    have n13 := ev_node14 oOr (xop oOr [a, b]) c
    have q0 := is_tri oa ob oc fa fb fc (s := yT [43]) (s' := yT [45]) (ok_sym1 (by decide)) (ok_sym1 (by decide)) (by decide) (by decide) (x2 (by decide) (x2 (by decide) oa ob) oc) (fun n => rd_sum rA rB rC n) (A ++ 32 :: 43 :: 32 :: (B ++ 32 :: 45 :: 32 :: C)) (by rw [hA, hB, hC]; simp [showTok, yT, wT])
    have q1 := is_tri oa ob oc fa fb fc (s := yT [42]) (s' := yT [42]) (ok_sym1 (by decide)) (ok_sym1 (by decide)) (by decide) (by decide) (x2 (by decide) (x2 (by decide) oa ob) oc) (fun n => rd_mul rA rB rC n) (A ++ 32 :: 42 :: 32 :: (B ++ 32 :: 42 :: 32 :: C)) (by rw [hA, hB, hC]; simp [showTok, yT, wT])
    have q2 := is_tri oa ob oc fa fb fc (s := yT [43]) (s' := yT [42]) (ok_sym1 (by decide)) (ok_sym1 (by decide)) (by decide) (by decide) (x2 (by decide) oa (x2 (by decide) ob oc)) (fun n => rd_mix rA rB rC n) (A ++ 32 :: 43 :: 32 :: (B ++ 32 :: 42 :: 32 :: C)) (by rw [hA, hB, hC]; simp [showTok, yT, wT])
    have q3 := is_tri oa ob oc fa fb fc (s := yT [60]) (s' := yT [43]) (ok_sym1 (by decide)) (ok_sym1 (by decide)) (by decide) (by decide) (x2 (by decide) oa (x2 (by decide) ob oc)) (fun n => rd_less rA rB rC n) (A ++ 32 :: 60 :: 32 :: (B ++ 32 :: 43 :: 32 :: C)) (by rw [hA, hB, hC]; simp [showTok, yT, wT])
    have q4 := is_tri oa ob oc fa fb fc (s := wT [79, 82]) (s' := wT [65, 78, 68]) (ok_word (by decide)) (ok_word (by decide)) (by decide) (by decide) (x2 (by decide) oa (x2 (by decide) ob oc)) (fun n => rd_orand rA rB rC n) (A ++ 32 :: 79 :: 82 :: 32 :: (B ++ 32 :: 65 :: 78 :: 68 :: 32 :: C)) (by rw [hA, hB, hC]; simp [showTok, yT, wT])
    have q5 := is_tri oa ob oc fa fb fc (s := wT [79, 82]) (s' := wT [79, 82]) (ok_word (by decide)) (ok_word (by decide)) (by decide) (by decide) (x2 (by decide) (x2 (by decide) oa ob) oc) (fun n => rd_oror rA rB rC n) (A ++ 32 :: 79 :: 82 :: 32 :: (B ++ 32 :: 79 :: 82 :: 32 :: C)) (by rw [hA, hB, hC]; simp [showTok, yT, wT])
    have p0 := is_not oa ob fa fb (s := wT [65, 78, 68]) (ok_word (by decide)) (by decide) (x2 (by decide) (x1 (by decide) oa) ob) (fun n => rd_notand rA rB n) (78 :: 79 :: 84 :: 32 :: (A ++ 32 :: 65 :: 78 :: 68 :: 32 :: B)) (by rw [hA, hB]; simp [showTok, yT, wT])
    have p1 := is_not oa ob fa fb (s := yT [61]) (ok_sym1 (by decide)) (by decide) (x1 (by decide) (x2 (by decide) oa ob)) (fun n => rd_noteq rA rB n) (78 :: 79 :: 84 :: 32 :: (A ++ 32 :: 61 :: 32 :: B)) (by rw [hA, hB]; simp [showTok, yT, wT])
    simp only [xop2_enc, xop1_enc, ea, eb, ec, oAnd, oOr, oNot] at n0 n1 n2 n3 n4 n5 n6 n7 n8 n9 n10 n11 n12 n13 q0 q1 q2 q3 q4 q5 p0 p1
    have lA : A.length ≤ 400 := by rw [← hA]; exact fa.short
    have lB : B.length ≤ 400 := by rw [← hB]; exact fb.short
    have lC : C.length ≤ 400 := by rw [← hC]; exact fc.short
    clear i1 i2 i3 fits hfa hfb hfc last wa wb wc ga gb gc' ra rb rc fa fb fc rA rB rC x1 x2 hA hB hC hw
    simp (disch := first | ((try simp only [List.length_cons, List.length_append, List.length_nil]); omega) | simp [refsL, refs]) [-strBin, sb_add, sb_eql, sb_neq, sb_lss, i_again, roundEnd, dropT, cleanV, Tryz.f11, Tryz.ti3, Tryz.ti4, Tryz.ti9, Tryz.ti22, Tryz.ti23, Tryz.ti24, Tryz.ti25, Tryz.ti26, Tryz.ti28, Tryz.ti44, Tryz.ti46, Tryz.ti80, Tryz.ti84, Tryz.ti94, sa, sb, sc, n0, n1, n2, n3, n4, n5, n6, n7, n8, n9, n10, n11, n12, n13, q0, q1, q2, q3, q4, q5, p0, p1, gc, reach, reachFuel, shut, nodup, List.idxOf, List.findIdx, List.findIdx.go, backR, List.range, List.range.loop]
end Go.Abs

