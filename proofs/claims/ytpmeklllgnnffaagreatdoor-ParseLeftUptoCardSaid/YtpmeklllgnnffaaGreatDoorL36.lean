/- The program's reader of tokens: its small functions. -/
import Derived.Test.YtpmeklllgnnffaaGreatDoorL33
import Derived.Test.YtpmeklllgnnffaaGreatDoorL35
set_option linter.unusedSimpArgs false
set_option linter.unusedVariables false

namespace Go.Abs
set_option linter.unusedSimpArgs false
set_option linter.unusedVariables false
open Go Go.Proofs
attribute [local simp] i_nil i_blk i_skip i_ret i_exit i_seq i_block i_cond i_region' i_ops_nil i_ops i_drawn' d_in a_nil a_cons alt1 h_nil h_one h_two z_nil z_cons z_cells zeqL zeq q_alloc q_some isAlO nxtN i_drh d_hi i_drw_nil i_drw u_nil u_code u_ops u_drw u_lp u_again u_exit u_ret u_panic c_bool o_some o_val o_panic d_some d_val d_panic w_none w_fast wantG q_nil q_zero q_succ t_zero t_succ g_zero g_succ s_zero s_succ s_some s_none v_tmp v_const v_func f_quiet gc_none gc_pure wrap_i64 p_move p_assign p_pick p_alloc p_box p_build p_buildSlice p_load p_store p_nilCheck p_binOp n_tmp n_int n_bool n_str n_ptr n_fun n_iface nilCmp p_unOp p_convert p_makeSlice p_makeInterface p_makeFunc p_slice p_fieldAddr p_field p_indexAddr p_index p_extract p_callv p_callb p_panic quiet_val new_val e_assign e_call e_load e_store e_alloc e_box e_move e_pick e_build e_buildSlice e_nilCheck e_binOp e_unOp e_convert e_makeSlice e_makeInterface e_makeFunc e_slice e_fieldAddr e_field e_indexAddr e_index e_extract e_panic callD fpRead adoptZ fulls adopt adoptL ofValue ofScalar binOpV unOpV intBin strBin eqRes veq veqF eqDepth val? finish resL r_tmp r_cell normL normTop tipIs refsL refs ownRefs single frz frzL ren renL renOwn callOp doCall backR writeBack builtinV loadV storeV cellsAt takeV D.isAgg overlay vcells cellOk fieldAddrV indexAddrV fieldV partV indexV buildV fillV buildSliceV litElems appendV appElems elemOk convertV convV winStr makeSliceV sliceV natOf
attribute [local simp ↓] brB_true brB_false brB_dec brB_not brB_and brB_or brB_beq brB_bne

abbrev rdS (l : List Tok) : St := [[.slice .froz (l.map Tok.enc)]]
def prO {α : Type} (f : α → V) (p : PR α) : Option (Out × St) :=
  match p with
  | (some a, r) => some (.ret (f a), rdS r)
  | (none, r) => some (.panic (faultV (topAt r)), rdS r)
theorem prO_some {α : Type} (f : α → V) (a : α) (r : List Tok) : prO f (some a, r) = some (.ret (f a), rdS r) := rfl
theorem prO_none {α : Type} (f : α → V) (r : List Tok) : prO f (none, r) = some (.panic (faultV (topAt r)), rdS r) := rfl

theorem ev_top (t : Tok) (r : List Tok) : EV 97 [.box 0 0] [[.slice .froz (t.enc :: r.map Tok.enc)]] = some (.ret t.enc, [[.slice .froz (t.enc :: r.map Tok.enc)]]) := by
  rw [EV_mki rfl Tryz.func97 rfl (by kernel_rfl) rfl, Tok.enc_eq t]
  simp [Tryz.f97, Tryz.ti3, Tryz.ti9, Tryz.ti64, Tryz.ti125, Tryz.ti141, gc, reach, reachFuel, shut, nodup, List.idxOf, List.findIdx, List.findIdx.go, List.range, List.range.loop]
theorem ev_no (t : Tok) (r : List Tok) : EV 98 [.box 0 0] [[.slice .froz (t.enc :: r.map Tok.enc)]] = some (.panic (faultV t.at_), [[.slice .froz (t.enc :: r.map Tok.enc)]]) := by
  have h1 := ev_top t r
  have h2 := ev_stop 1 t.at_
  rw [EV_mki rfl Tryz.func98 rfl (by kernel_rfl) rfl]
  rw [Tok.enc_eq t] at h1 ⊢
  simp at h2
  simp [Tryz.f98, Tryz.ti3, Tryz.ti9, Tryz.ti125, h1, h2, faultV, gc, reach, reachFuel, shut, nodup, List.idxOf, List.findIdx, List.findIdx.go, backR, List.range, List.range.loop]
theorem ev_take (t : Tok) (r : List Tok) (hk : t.kind ≠ 0) (hf : ∀ x ∈ r.map Tok.enc, (vcells x).length = 4) : EV 149 [.box 0 0] [[.slice .froz (t.enc :: r.map Tok.enc)]] = some (.ret t.enc, rdS r) := by
  have h1 := ev_top t r
  rw [EV_mki rfl Tryz.func149 rfl (by kernel_rfl) rfl]
  rw [Tok.enc_eq t] at h1 ⊢
  unfold rdS
  generalize r.map Tok.enc = xs at *
  simp only [vcells] at hf
  have hlt : ¬ (xs.length : Int) + 1 < 1 := by omega
  simp +contextual [Tryz.f149, Tryz.ti3, Tryz.ti9, Tryz.ti64, Tryz.ti125, Tryz.ti141, h1, hk, hf, hlt, gc, reach, reachFuel, shut, nodup, List.idxOf, List.findIdx, List.findIdx.go, backR, List.range, List.range.loop]
theorem tok_cells (r : List Tok) : ∀ x ∈ r.map Tok.enc, (vcells x).length = 4 := fun x hx => by obtain ⟨y, _, rfl⟩ := List.mem_map.1 hx; rfl
theorem ev_is (t : Tok) (r : List Tok) (s : List UInt8) : EV 101 [.box 0 0, .str s] [[.slice .froz (t.enc :: r.map Tok.enc)]] = some (.ret (.bool (isT s (t :: r))), [[.slice .froz (t.enc :: r.map Tok.enc)]]) := by
  have h1 := ev_top t r
  rw [EV_mki rfl Tryz.func101 rfl (by kernel_rfl) rfl]
  obtain ⟨k, n, p, w⟩ := t
  rw [Tok.enc_eq] at h1 ⊢
  generalize r.map Tok.enc = xs at *
  simp only [isT]
  by_cases k1 : k = 1
  · subst k1
    simp [Tryz.f101, Tryz.ti3, Tryz.ti9, Tryz.ti125, h1, gc, reach, reachFuel, shut, nodup, List.idxOf, List.findIdx, List.findIdx.go, backR, List.range, List.range.loop]
  · by_cases k5 : k = 5
    · subst k5
      simp [Tryz.f101, Tryz.ti3, Tryz.ti9, Tryz.ti125, h1, gc, reach, reachFuel, shut, nodup, List.idxOf, List.findIdx, List.findIdx.go, backR, List.range, List.range.loop]
    · simp [Tryz.f101, Tryz.ti3, Tryz.ti9, Tryz.ti125, h1, k1, k5, gc, reach, reachFuel, shut, nodup, List.idxOf, List.findIdx, List.findIdx.go, backR, List.range, List.range.loop]
theorem ev_maybe (s : List UInt8) (l : List Tok) (he : Ends l) : EV 142 [.box 0 0, .str s] (rdS l) = some (.ret (.bool (maybeP s l).1), rdS (maybeP s l).2) := by
  obtain ⟨t, r, rfl⟩ := ends_cons he
  have h1 := ev_is t r s
  rw [EV_mki rfl Tryz.func142 rfl (by kernel_rfl) rfl]
  unfold maybeP
  cases hi : isT s (t :: r)
  · rw [hi] at h1
    simp only [rdS, List.map_cons, Bool.false_eq_true, if_false]
    rw [Tok.enc_eq t] at h1 ⊢
    generalize r.map Tok.enc = xs at *
    simp [Tryz.f142, h1, gc, reach, reachFuel, shut, nodup, List.idxOf, List.findIdx, List.findIdx.go, backR, List.range, List.range.loop]
  · rw [hi] at h1
    have h2 := ev_take t r (by have := (isT_kind hi).1; omega) (tok_cells r)
    simp only [rdS, List.map_cons, List.tail_cons, if_true] at h2 ⊢
    rw [Tok.enc_eq t] at h1 h2 ⊢
    generalize r.map Tok.enc = xs at *
    simp [Tryz.f142, h1, h2, gc, reach, reachFuel, shut, nodup, List.idxOf, List.findIdx, List.findIdx.go, backR, List.range, List.range.loop]
theorem ev_must1 (s : List UInt8) (l : List Tok) (he : Ends l) : EV 105 [.box 0 0, .slice .froz [.str s]] (rdS l) = prO (fun _ => .tup []) (needP s l) := by
  obtain ⟨t, r, rfl⟩ := ends_cons he
  have h1 := ev_maybe s (t :: r) he
  have h2 := ev_no t r
  rw [EV_mki rfl Tryz.func105 rfl (by kernel_rfl) rfl]
  unfold needP
  unfold maybeP at h1
  cases hi : isT s (t :: r) <;> rw [hi] at h1
  · simp only [Bool.false_eq_true, if_false] at h1 ⊢
    simp only [rdS, List.map_cons] at h1 ⊢
    rw [prO_none]
    simp [Tryz.f105, Tryz.ti3, Tryz.ti9, Tryz.ti100]
    rw [i_loop (ts := [9, 10, 11, 5, 12, 13, 14, 15, 16, 17, 18])]
    rotate_left
    · kernel_rfl
    rw [i_round]
    simp [Tryz.f105, Tryz.ti3, Tryz.ti9, Tryz.ti100, h1, h2, topAt, faultV, gc, reach, reachFuel, shut, nodup, List.idxOf, List.findIdx, List.findIdx.go, backR, List.range, List.range.loop]
  · simp only [if_true] at h1 ⊢
    simp only [rdS, List.map_cons, List.tail_cons] at h1 ⊢
    rw [prO_some]
    simp [Tryz.f105, Tryz.ti3, Tryz.ti9, Tryz.ti100]
    rw [i_loop (ts := [9, 10, 11, 5, 12, 13, 14, 15, 16, 17, 18])]
    rotate_left
    · kernel_rfl
    rw [i_round]
    simp [i_again, roundEnd, dropT, cleanV, Tryz.f105, Tryz.ti3, Tryz.ti9, Tryz.ti100, h1, gc, reach, reachFuel, shut, nodup, List.idxOf, List.findIdx, List.findIdx.go, backR, List.range, List.range.loop]
    rw [i_round]
    simp [i_again, roundEnd, dropT, cleanV, Tryz.f105, Tryz.ti3, Tryz.ti9, Tryz.ti100, gc, reach, reachFuel, shut, nodup, List.idxOf, List.findIdx, List.findIdx.go, backR, List.range, List.range.loop]
def idxAt (i : Nat) : Nat → Int
  | 0 => -1
  | n + 1 => i + n
theorem one_cons (s : List UInt8) (r : List (List UInt8)) (l : List Tok) (i : Nat) (hi : isT s l = false) : idxAt i (oneP (s :: r) l).1 = idxAt (i + 1) (oneP r l).1 ∧ (oneP (s :: r) l).2 = (oneP r l).2 := by
  rw [oneP]
  simp only [hi, Bool.false_eq_true, if_false]
  cases oneP r l with
  | mk n l' =>
    cases n with
    | zero => exact ⟨rfl, rfl⟩
    | succ n => refine ⟨?_, rfl⟩; simp only [idxAt]; omega
set_option maxHeartbeats 1000000 in
theorem ev_index (ss : List (List UInt8)) (hs : ss.length ≤ 1000) (l : List Tok) (he : Ends l) : EV 173 [.slice .froz (ss.map V.str), .func 142 [.box 0 0] []] (rdS l) = some (.ret (.int .i64 (idxAt 0 (oneP ss l).1)), rdS (oneP ss l).2) := by
  rw [EV_mki rfl Tryz.func173 rfl (by kernel_rfl) rfl]
  simp [Tryz.f173, Tryz.ti3, Tryz.ti9, Tryz.ti100]
  rw [i_loop (ts := [9, 10, 5, 11, 12, 13, 14, 15, 16, 17, 18])]
  rotate_left
  · kernel_rfl
  refine i_at (fun i : {i : Nat // i ≤ ss.length} => ss.length - i.1) (fun i env => setV env 8 (.int .i64 i.1)) (fun i => _) (fun i => some (.ret (.int .i64 (idxAt i.1 (oneP (ss.drop i.1) l).1)), rdS (oneP (ss.drop i.1) l).2)) ⟨0, by omega⟩ (by simp [s_zero, s_succ]) rfl (by simp) ?_
  intro ⟨i, hil⟩ ih
  dsimp only at hil ⊢
  by_cases hi : i < ss.length
  · have ih := ih ⟨i + 1, by omega⟩ (by simp only; omega)
    have hwi : IntKind.i64.wrap ((i : Int) + 1) = (i : Int) + 1 := wrap_i64 (by omega)
    obtain ⟨s, hk⟩ : ∃ m, ss[i] = m := ⟨_, rfl⟩
    have hkk : ss[i]? = some s := by rw [List.getElem?_eq_getElem hi, hk]
    have hm := ev_maybe s l he
    unfold maybeP at hm
    rw [List.drop_eq_getElem_cons hi, hk]
    simp only [s_zero, s_succ, Int.natCast_add, Int.natCast_one, Int.cast_ofNat_Int] at ih
    cases hT : isT s l <;> rw [hT] at hm
    · obtain ⟨e1, e2⟩ := one_cons s (ss.drop (i + 1)) l i hT
      rw [e1, e2]
      simp only [Bool.false_eq_true, if_false] at hm
      simp [i_again, roundEnd, dropT, cleanV, Tryz.f173, Tryz.ti3, Tryz.ti9, Tryz.ti100, hi, hk, hkk, hm, hwi, ih, gc, reach, reachFuel, shut, nodup, List.idxOf, List.findIdx, List.findIdx.go, backR, List.range, List.range.loop]
    · simp only [if_true] at hm
      have e1 : oneP (s :: ss.drop (i + 1)) l = (1, l.tail) := by rw [oneP, if_pos hT]
      rw [e1]
      simp [i_again, roundEnd, dropT, cleanV, Tryz.f173, Tryz.ti3, Tryz.ti9, Tryz.ti100, hi, hk, hkk, hm, idxAt, gc, reach, reachFuel, shut, nodup, List.idxOf, List.findIdx, List.findIdx.go, backR, List.range, List.range.loop]
  · rw [List.drop_of_length_le (by omega)]
    simp [i_again, roundEnd, dropT, cleanV, Tryz.f173, Tryz.ti3, Tryz.ti9, Tryz.ti100, hi, oneP, idxAt, gc, reach, reachFuel, shut, nodup, List.idxOf, List.findIdx, List.findIdx.go, backR, List.range, List.range.loop]
theorem ev_one (ss : List (List UInt8)) (hs : ss.length ≤ 1000) (l : List Tok) (he : Ends l) : EV 141 [.box 0 0, .slice .froz (ss.map V.str)] (rdS l) = some (.ret (.int .i64 (oneP ss l).1), rdS (oneP ss l).2) := by
  have h := ev_index ss hs l he
  have hl := one_le ss l
  rw [EV_mki rfl Tryz.func141 rfl (by kernel_rfl) rfl]
  have hw : IntKind.i64.wrap (idxAt 0 (oneP ss l).1 + 1) = (oneP ss l).1 := by
    have : idxAt 0 (oneP ss l).1 + 1 = ((oneP ss l).1 : Int) := by cases (oneP ss l).1 <;> simp [idxAt]
    rw [this]; exact wrap_i64 (by omega)
  generalize (oneP ss l).1 = n at *
  generalize (oneP ss l).2 = l' at *
  generalize idxAt 0 n = m at *
  simp [Tryz.f141, Tryz.ti3, h, hw, gc, reach, reachFuel, shut, nodup, List.idxOf, List.findIdx, List.findIdx.go, backR, List.range, List.range.loop]
theorem ev_oneOf (ss : List (List UInt8)) (hs : ss.length ≤ 1000) (l : List Tok) (he : Ends l) : EV 103 [.box 0 0, .slice .froz (ss.map V.str)] (rdS l) = prO (fun n : Nat => .int .i64 n) (oneOfP ss l) := by
  have h := ev_one ss hs l he
  have hz := one_zero ss l
  rw [EV_mki rfl Tryz.func103 rfl (by kernel_rfl) rfl]
  unfold oneOfP
  cases ho : oneP ss l with
  | mk n l' =>
    rw [ho] at h hz
    cases n with
    | zero =>
      obtain rfl := hz rfl
      obtain ⟨t, r, rfl⟩ := ends_cons he
      have h2 := ev_no t r
      simp only [prO_none, rdS, List.map_cons] at h ⊢
      simp at h
      simp [Tryz.f103, Tryz.ti3, h, h2, topAt, faultV, gc, reach, reachFuel, shut, nodup, List.idxOf, List.findIdx, List.findIdx.go, backR, List.range, List.range.loop]
    | succ n =>
      have hn : ¬ (n : Int) + 1 = 0 := by omega
      simp only [prO_some, rdS] at h ⊢
      simp at h
      simp [Tryz.f103, Tryz.ti3, h, hn, gc, reach, reachFuel, shut, nodup, List.idxOf, List.findIdx, List.findIdx.go, backR, List.range, List.range.loop]
theorem ev_pname (l : List Tok) (he : Ends l) : EV 104 [.box 0 0] (rdS l) = prO V.str (nameP l) := by
  obtain ⟨t, r, rfl⟩ := ends_cons he
  have h1 := ev_top t r
  have h2 := ev_no t r
  rw [EV_mki rfl Tryz.func104 rfl (by kernel_rfl) rfl]
  simp only [nameP]
  by_cases hk : t.kind = 2
  · have h3 := ev_take t r (by omega) (tok_cells r)
    rw [if_pos hk, prO_some]
    simp only [rdS, List.map_cons] at h3 ⊢
    obtain ⟨k, n, p, w⟩ := t
    dsimp only at hk
    subst hk
    rw [Tok.enc_eq] at h1 h3 ⊢
    generalize r.map Tok.enc = xs at *
    simp [Tryz.f104, Tryz.ti3, Tryz.ti9, Tryz.ti125, h1, h3, gc, reach, reachFuel, shut, nodup, List.idxOf, List.findIdx, List.findIdx.go, backR, List.range, List.range.loop]
  · rw [if_neg hk, prO_none]
    simp only [rdS, List.map_cons, topAt]
    rw [Tok.enc_eq t] at h1 h2 ⊢
    generalize r.map Tok.enc = xs at *
    simp [Tryz.f104, Tryz.ti3, Tryz.ti9, Tryz.ti125, h1, h2, hk, faultV, gc, reach, reachFuel, shut, nodup, List.idxOf, List.findIdx, List.findIdx.go, backR, List.range, List.range.loop]
end Go.Abs

namespace Go.Abs
set_option linter.unusedSimpArgs false
set_option linter.unusedVariables false
open Go Go.Proofs
attribute [local simp] i_nil i_blk i_skip i_ret i_exit i_seq i_block i_cond i_region' i_ops_nil i_ops i_drawn' d_in a_nil a_cons alt1 h_nil h_one h_two z_nil z_cons z_cells zeqL zeq q_alloc q_some isAlO nxtN i_drh d_hi i_drw_nil i_drw u_nil u_code u_ops u_drw u_lp u_again u_exit u_ret u_panic c_bool o_some o_val o_panic d_some d_val d_panic w_none w_fast wantG q_nil q_zero q_succ t_zero t_succ g_zero g_succ s_zero s_succ s_some s_none v_tmp v_const v_func f_quiet gc_none gc_pure wrap_i64 p_move p_assign p_pick p_alloc p_box p_build p_buildSlice p_load p_store p_nilCheck p_binOp n_tmp n_int n_bool n_str n_ptr n_fun n_iface nilCmp p_unOp p_convert p_makeSlice p_makeInterface p_makeFunc p_slice p_fieldAddr p_field p_indexAddr p_index p_extract p_callv p_callb p_panic quiet_val new_val e_assign e_call e_load e_store e_alloc e_box e_move e_pick e_build e_buildSlice e_nilCheck e_binOp e_unOp e_convert e_makeSlice e_makeInterface e_makeFunc e_slice e_fieldAddr e_field e_indexAddr e_index e_extract e_panic callD fpRead adoptZ fulls adopt adoptL ofValue ofScalar binOpV unOpV intBin strBin eqRes veq veqF eqDepth val? finish resL r_tmp r_cell normL normTop tipIs refsL refs ownRefs single frz frzL ren renL renOwn callOp doCall backR writeBack builtinV loadV storeV cellsAt takeV D.isAgg overlay vcells cellOk fieldAddrV indexAddrV fieldV partV indexV buildV fillV buildSliceV litElems appendV appElems elemOk convertV convV winStr makeSliceV sliceV natOf
attribute [local simp ↓] brB_true brB_false brB_dec brB_not brB_and brB_or brB_beq brB_bne

theorem ev_op (s : List UInt8) (kids : List V) : EV 161 [.str s, .slice .froz kids] [] = some (.ret (.agg [.str s, .int .i64 0, .int .i64 0, .str [], .str [], .str [], .slice .froz kids]), []) := by
  rw [EV_mki rfl Tryz.func161 rfl (by kernel_rfl) rfl]
  simp [Tryz.f161, Tryz.ti3, Tryz.ti9, Tryz.ti23, Tryz.ti44, Tryz.ti46]
theorem ev_value (k n : Int) (s : List UInt8) : EV 225 [.agg [.int .i64 k, .int .i64 n, .str s]] [] = some (.ret (xval ⟨k, n, s⟩).enc, []) := by
  rw [EV_mki rfl Tryz.func225 rfl (by kernel_rfl) rfl, xval, xenc_mk]
  simp [Tryz.f225, Tryz.ti3, Tryz.ti9, Tryz.ti23, Tryz.ti44, Tryz.ti46, oValue]

/- which op it is -/
theorem one_op : ∀ (tbl : List (List UInt8 × List UInt8)) (l : List Tok), match opAt tbl l with
    | none => oneP (tbl.map Prod.fst) l = (0, l)
    | some o => ∃ k, oneP (tbl.map Prod.fst) l = (k + 1, l.tail) ∧ (tbl.map Prod.snd)[k]? = some o
  | [], l => rfl
  | (s, o) :: r, l => by
    have ih := one_op r l
    simp only [opAt, List.map_cons]
    cases hi : isT s l
    · simp only [Bool.false_eq_true, if_false]
      rw [oneP]
      simp only [hi, Bool.false_eq_true, if_false]
      cases ho : opAt r l with
      | none => rw [ho] at ih; simp only at ih ⊢; rw [ih]
      | some o' =>
        rw [ho] at ih
        obtain ⟨k, h1, h2⟩ := ih
        simp only
        exact ⟨k + 1, by rw [h1], by simpa using h2⟩
    · simp only [if_true]
      exact ⟨0, by rw [oneP, if_pos hi], rfl⟩

/- how a level goes on: an op was passed (from 1 on), or none (0) -/
def goP (part : List Tok → PR Xp) (tbl : List (List UInt8 × List UInt8)) (k : Nat) (e : Xp) (n : Nat) (l : List Tok) : PR Xp :=
  match n with
  | 0 => (some e, l)
  | n + 1 => thenP (part l) fun f r => moreP part tbl k (xop ((tbl.map Prod.snd).getD n []) [e, f]) r
theorem more_go (part : List Tok → PR Xp) (tbl : List (List UInt8 × List UInt8)) (k : Nat) (e : Xp) (l : List Tok) : moreP part tbl (k + 1) e l = goP part tbl k e (oneP (tbl.map Prod.fst) l).1 (oneP (tbl.map Prod.fst) l).2 := by
  have h := one_op tbl l
  rw [moreP]
  cases ho : opAt tbl l with
  | none => rw [ho] at h; simp only at h ⊢; rw [h]; rfl
  | some o =>
    rw [ho] at h
    obtain ⟨j, h1, h2⟩ := h
    simp only
    rw [h1]
    simp only [goP]
    rw [List.getD_eq_getElem?_getD, h2]
    rfl
theorem one_pos {ss : List (List UInt8)} {l : List Tok} {n : Nat} {l' : List Tok} (h : oneP ss l = (n + 1, l')) : l'.length < l.length ∧ n < ss.length := by
  induction ss generalizing n l' with
  | nil => cases h
  | cons s r ih =>
    rw [oneP] at h
    cases hi : isT s l
    · simp only [hi, Bool.false_eq_true, if_false] at h
      cases ho : oneP r l with
      | mk m l'' =>
        rw [ho] at h
        cases m with
        | zero => cases h
        | succ m => cases h; have := ih ho; exact ⟨this.1, by simp; omega⟩
    · simp only [hi, if_true] at h
      cases h
      exact ⟨tail_len hi, by simp⟩
set_option maxRecDepth 100000 in
set_option maxHeartbeats 4000000 in
theorem ev_chain (fp : FuncId) (part : List Tok → PR Xp) (hk : KeepP part) (tbl : List (List UInt8 × List UInt8)) (ht : tbl.length ≤ 1000) (N : Nat) (hp : ∀ l, Ends l → l.length ≤ N → EV fp [.box 0 0] (rdS l) = prO Xp.enc (part l))
    (l : List Tok) (he : Ends l) (hN : l.length ≤ N) : EV 128 [.box 0 0, .func fp [.box 0 0] [], .slice .froz ((tbl.map Prod.fst).map V.str), .slice .froz ((tbl.map Prod.snd).map V.str)] (rdS l) = prO Xp.enc (chainP part tbl l) := by
  have h0 := hp l he hN
  have k0 := hk l
  have hone := fun l he => ev_one (tbl.map Prod.fst) (by simpa using ht) l he
  have hget0 : ∀ n, n < tbl.length → ((tbl.map Prod.snd).map V.str)[n]? = some (V.str ((tbl.map Prod.snd).getD n [])) := fun n hn => by
    have : n < (tbl.map Prod.snd).length := by simp; omega
    rw [List.getElem?_map, List.getD_eq_getElem?_getD, List.getElem?_eq_getElem this]; rfl
  have hlen : ((tbl.map Prod.snd).map V.str).length = tbl.length := by simp
  generalize (tbl.map Prod.fst).map V.str = SS at hone ⊢
  generalize (tbl.map Prod.snd).map V.str = ops at hget0 hlen ⊢
  rw [EV_mki rfl Tryz.func128 rfl (by kernel_rfl) rfl]
  unfold chainP
  cases hP : part l with
  | mk o r =>
    rw [hP] at h0 k0
    cases o with
    | none =>
      simp only [thenP, prO_none, faultV] at h0 ⊢
      simp [Tryz.f128, Tryz.ti3, Tryz.ti9, Tryz.ti23, Tryz.ti44, Tryz.ti46, Tryz.ti100, h0, gc, reach, reachFuel, shut, nodup, List.idxOf, List.findIdx, List.findIdx.go, backR, List.range, List.range.loop]
    | some e =>
      simp only [thenP, prO_some] at h0 ⊢
      rw [more_go]
      have k1 : Ends r := k0.2 he
      have k2 : r.length ≤ l.length := k0.1
      have h1 := hone r k1
      have l1 := one_len (tbl.map Prod.fst) r
      have e1 := one_ends (tbl.map Prod.fst) k1
      have p1 : ∀ m l', oneP (tbl.map Prod.fst) r = (m + 1, l') → l'.length < r.length ∧ m < tbl.length := fun m l' h => by have := one_pos h; simpa using this
      have b1 := one_le (tbl.map Prod.fst) r
      simp only [List.length_map] at b1
      generalize hon : oneP (tbl.map Prod.fst) r = on at *
      obtain ⟨n, l1'⟩ := on
      dsimp only at h1 l1 e1 b1 ⊢
      obtain ⟨op0, v0, var0, col0, kids0⟩ := e
      rw [xenc_mk] at h0
      simp only [rdS] at h0 h1
      simp only [rdS]
      simp [Tryz.f128, Tryz.ti3, Tryz.ti9, Tryz.ti23, Tryz.ti44, Tryz.ti46, Tryz.ti100, h0, h1, gc, reach, reachFuel, shut, nodup, List.idxOf, List.findIdx, List.findIdx.go, backR, List.range, List.range.loop]
      rw [i_loop (ts := [16, 17, 21, 22, 23, 24, 25, 26, 27, 28, 29, 30, 18, 19, 20])]
      rotate_left
      · kernel_rfl
      refine i_at2 (fun x : {x : Nat × Xp × Nat × List Tok // Ends x.2.2.2 ∧ x.2.2.2.length ≤ r.length ∧ x.2.2.1 ≤ tbl.length ∧ (x.2.2.1 ≠ 0 → x.2.2.2.length < x.1)} => if x.1.2.2.1 = 0 then 0 else x.1.2.2.2.length + 1) (fun x env => setV env 10 (.int .i64 x.1.2.2.1)) (fun x st => (st.set 0 [.slice .froz (x.1.2.2.2.map Tok.enc)]).set 4 (vcells x.1.2.1.enc))
        (fun x => prO Xp.enc (goP part tbl x.1.1 x.1.2.1 x.1.2.2.1 x.1.2.2.2)) ⟨(r.length, .mk op0 v0 var0 col0 kids0, n, l1'), e1, l1, b1, fun hn => by
          obtain ⟨m, rfl⟩ : ∃ m, n = m + 1 := ⟨n - 1, by simp only at hn; omega⟩
          exact (p1 m l1' rfl).1⟩ (by simp [s_zero, s_succ]) (by simp [xenc_mk, vcells]) rfl ?_
      intro ⟨⟨k, e, n, l'⟩, c1, c2, c3, c4⟩ ih
      dsimp only at c1 c2 c3 c4 ih ⊢
      obtain ⟨op, v, var, col, kids⟩ := e
      cases n with
      | zero =>
        clear ih
        simp only [goP, prO_some, xenc_mk, vcells]
        simp [i_again, roundEnd, dropT, cleanV, Tryz.f128, Tryz.ti3, Tryz.ti9, Tryz.ti23, Tryz.ti44, Tryz.ti46, Tryz.ti100, gc, reach, reachFuel, shut, nodup, List.idxOf, List.findIdx, List.findIdx.go, backR, List.range, List.range.loop]
      | succ n =>
        have c4 := c4 (by omega)
        have h0 := hp l' c1 (by omega)
        have k0 := hk l'
        have hwn : IntKind.i64.wrap ((n : Int) + 1 - 1) = n := by rw [show (n : Int) + 1 - 1 = n by omega]; exact wrap_i64 (by omega)
        have hwn2 : IntKind.i64.wrap (n : Int) = n := wrap_i64 (by omega)
        have hnl : (n : Int) < tbl.length := by omega
        have hnl2 : n < tbl.length := by omega
        have hget := hget0 n (by omega)
        simp only [goP]
        generalize (tbl.map Prod.snd).getD n [] = oo at hget ⊢
        have hnl3 : n < ops.length := by omega
        have hg2 : ops[n] = V.str oo := by
          have h := hget
          rw [List.getElem?_eq_getElem hnl3] at h
          exact Option.some.inj h
        have hgt : ¬ (n : Int) + 1 = 0 := by omega
        have hpos : (0 : Int) < (n : Int) + 1 := by omega
        cases hP : part l' with
        | mk o r' =>
          rw [hP] at h0 k0
          cases o with
          | none =>
            clear ih
            simp only [thenP, prO_none, faultV, rdS] at h0 ⊢
            simp [i_again, roundEnd, dropT, cleanV, Tryz.f128, Tryz.ti3, Tryz.ti9, Tryz.ti23, Tryz.ti44, Tryz.ti46, Tryz.ti100, h0, hwn, hwn2, hnl, hnl2, hget, hg2, hlen, hpos, xenc_mk, vcells, gc, reach, reachFuel, shut, nodup, List.idxOf, List.findIdx, List.findIdx.go, backR, List.range, List.range.loop] <;> first | (refine panQ_of ?_; decide +kernel) | (change _ = true; decide +kernel) | kernel_rfl | (refine ⟨?_, ?_⟩ <;> first | (change _ = true; decide +kernel) | kernel_rfl)
          | some f =>
            have k1 : Ends r' := k0.2 c1
            have k2' : r'.length ≤ l'.length := k0.1
            obtain ⟨j, rfl⟩ : ∃ j, k = j + 1 := ⟨k - 1, by omega⟩
            have h1 := hone r' k1
            have l1 := one_len (tbl.map Prod.fst) r'
            have e1 := one_ends (tbl.map Prod.fst) k1
            have p1 : ∀ m l', oneP (tbl.map Prod.fst) r' = (m + 1, l') → l'.length < r'.length ∧ m < tbl.length := fun m l' h => by have := one_pos h; simpa using this
            have b1 := one_le (tbl.map Prod.fst) r'
            simp only [List.length_map] at b1
            have hop := ev_op oo [(Xp.mk op v var col kids).enc, f.enc]
            simp only [thenP, prO_some] at h0 ⊢
            rw [more_go]
            generalize hon : oneP (tbl.map Prod.fst) r' = on at *
            obtain ⟨m, l1'⟩ := on
            dsimp only at h1 l1 e1 b1 ⊢
            have ih := ih ⟨(j, xop oo [.mk op v var col kids, f], m, l1'), e1, by show l1'.length ≤ r.length; omega, b1, fun hn => by
              obtain ⟨m', rfl⟩ : ∃ m', m = m' + 1 := ⟨m - 1, by simp only at hn; omega⟩
              have := (p1 m' l1' rfl).1
              show l1'.length < j
              omega⟩ (by
                show (if m = 0 then 0 else l1'.length + 1) < (if n + 1 = 0 then 0 else l'.length + 1)
                rw [if_neg (Nat.succ_ne_zero n)]
                split
                · omega
                · rename_i hm
                  obtain ⟨m', rfl⟩ : ∃ m', m = m' + 1 := ⟨m - 1, by omega⟩
                  have := (p1 m' l1' rfl).1
                  omega)
            obtain ⟨fop, fv, fvar, fcol, fkids⟩ := f
            simp only [xop, xenc_mk, List.map_cons, List.map_nil, Val.zero, vcells, s_zero, s_succ, List.set_cons_zero, List.set_cons_succ] at ih h0 hop
            simp only [rdS] at h0 h1
            simp [i_again, roundEnd, dropT, cleanV, Tryz.f128, Tryz.ti3, Tryz.ti9, Tryz.ti23, Tryz.ti44, Tryz.ti46, Tryz.ti100, h0, h1, hop, hwn, hwn2, hnl, hnl2, hget, hg2, hlen, hpos, xenc_mk, xop, Val.zero, ih, gc, reach, reachFuel, shut, nodup, List.idxOf, List.findIdx, List.findIdx.go, backR, List.range, List.range.loop]
            intro hf; exfalso; revert hf; rw [imp_false, Bool.not_eq_false]; decide +kernel
end Go.Abs

