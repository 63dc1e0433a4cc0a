/- The program's reader of tokens: its small functions. -/
import Derived.Test.YtpmeklllgnnffaaGreatDoorM30
import Derived.Test.YtpmeklllgnnffaaGreatDoorM32
set_option linter.unusedSimpArgs false
set_option linter.unusedVariables false

namespace Go.Abs
set_option linter.unusedSimpArgs false
set_option linter.unusedVariables false
open Go Go.Proofs
attribute [local simp] i_nil i_blk i_skip i_ret i_exit i_seq i_block i_cond i_region' i_ops_nil i_ops i_drawn' d_in a_nil a_cons alt1 h_nil h_one h_two z_nil z_cons z_cells zeqL zeq q_alloc q_some isAlO nxtN i_drh d_hi i_drw_nil i_drw u_nil u_code u_ops u_drw u_lp u_again u_exit u_ret u_panic c_bool o_some o_val o_panic d_some d_val d_panic w_none w_fast wantG q_nil q_zero q_succ t_zero t_succ g_zero g_succ s_zero s_succ s_some s_none v_tmp v_const v_func f_quiet gc_none gc_pure wrap_i64 p_move p_assign p_pick p_alloc p_box p_build p_buildSlice p_load p_store p_nilCheck p_binOp n_tmp n_int n_bool n_str n_ptr n_fun n_iface nilCmp p_unOp p_convert p_makeSlice p_makeInterface p_makeFunc p_slice p_fieldAddr p_field p_indexAddr p_index p_extract p_callv p_callb p_panic quiet_val new_val e_assign e_call e_load e_store e_alloc e_box e_move e_pick e_build e_buildSlice e_nilCheck e_binOp e_unOp e_convert e_makeSlice e_makeInterface e_makeFunc e_slice e_fieldAddr e_field e_indexAddr e_index e_extract e_panic callD fpRead adoptZ fulls adopt adoptL ofValue ofScalar binOpV unOpV intBin strBin eqRes veq veqF eqDepth val? finish resL r_tmp r_cell normL normTop tipIs refsL refs ownRefs single frz frzL ren renL renOwn callOp doCall backR writeBack builtinV loadV storeV storeW iceT cellsAt takeV D.isAgg overlay vcells cellOk fieldAddrV indexAddrV fieldV partV indexV buildV fillV buildSliceV litElems appendV appElems elemOk convertV convV winStr makeSliceV sliceV natOf
attribute [local simp ↓] brB_true brB_false brB_dec brB_not brB_and brB_or brB_beq brB_bne

abbrev rdS (l : List Tok) : St := [[.slice .froz (l.map Tok.enc)]]
def prO {α : Type} (f : α → V) (p : PR α) : Option (Out × St) :=
  match p with
  | (some a, r) => some (.ret (f a), rdS r)
  | (none, r) => some (.panic (faultV (topAt r)), rdS r)
theorem prO_some {α : Type} (f : α → V) (a : α) (r : List Tok) : prO f (some a, r) = some (.ret (f a), rdS r) := rfl
theorem prO_none {α : Type} (f : α → V) (r : List Tok) : prO f (none, r) = some (.panic (faultV (topAt r)), rdS r) := rfl

theorem ev_top (t : Tok) (r : List Tok) : EV 97 [.box 0 0] [[.slice .froz (t.enc :: r.map Tok.enc)]] = some (.ret t.enc, [[.slice .froz (t.enc :: r.map Tok.enc)]]) := by
  rw [EV_mki rfl Tryz.func97 rfl (by kernel_rfl) rfl, Tok.enc_eq t]
  simp [Tryz.f97, Tryz.ti3, Tryz.ti9, Tryz.ti64, Tryz.ti125, Tryz.ti141, gc, reach, reachFuel, shut, nodup, List.idxOf, List.findIdx, List.findIdx.go, List.range, List.range.loop]
theorem ev_no (t : Tok) (r : List Tok) : EV 98 [.box 0 0] [[.slice .froz (t.enc :: r.map Tok.enc)]] = some (.panic (faultV t.at_), [[.slice .froz (t.enc :: r.map Tok.enc)]]) := by
  have h1 := ev_top t r
  have h2 := ev_stop 1 t.at_
  rw [EV_mki rfl Tryz.func98 rfl (by kernel_rfl) rfl]
  rw [Tok.enc_eq t] at h1 ⊢
  simp at h2
  simp [Tryz.f98, Tryz.ti3, Tryz.ti9, Tryz.ti125, h1, h2, faultV, gc, reach, reachFuel, shut, nodup, List.idxOf, List.findIdx, List.findIdx.go, backR, List.range, List.range.loop]
theorem ev_take (t : Tok) (r : List Tok) (hk : t.kind ≠ 0) (hf : ∀ x ∈ r.map Tok.enc, (vcells x).length = 4) : EV 149 [.box 0 0] [[.slice .froz (t.enc :: r.map Tok.enc)]] = some (.ret t.enc, rdS r) := by
  have h1 := ev_top t r
  rw [EV_mki rfl Tryz.func149 rfl (by kernel_rfl) rfl]
  rw [Tok.enc_eq t] at h1 ⊢
  unfold rdS
  generalize r.map Tok.enc = xs at *
  simp only [vcells] at hf
  have hlt : ¬ (xs.length : Int) + 1 < 1 := by omega
  simp +contextual [Tryz.f149, Tryz.ti3, Tryz.ti9, Tryz.ti64, Tryz.ti125, Tryz.ti141, h1, hk, hf, hlt, gc, reach, reachFuel, shut, nodup, List.idxOf, List.findIdx, List.findIdx.go, backR, List.range, List.range.loop]
theorem tok_cells (r : List Tok) : ∀ x ∈ r.map Tok.enc, (vcells x).length = 4 := fun x hx => by obtain ⟨y, _, rfl⟩ := List.mem_map.1 hx; rfl
theorem ev_is (t : Tok) (r : List Tok) (s : List UInt8) : EV 101 [.box 0 0, .str s] [[.slice .froz (t.enc :: r.map Tok.enc)]] = some (.ret (.bool (isT s (t :: r))), [[.slice .froz (t.enc :: r.map Tok.enc)]]) := by
  have h1 := ev_top t r
  rw [EV_mki rfl Tryz.func101 rfl (by kernel_rfl) rfl]
  obtain ⟨k, n, p, w⟩ := t
  rw [Tok.enc_eq] at h1 ⊢
  generalize r.map Tok.enc = xs at *
  simp only [isT]
  by_cases k1 : k = 1
  · subst k1
    simp [Tryz.f101, Tryz.ti3, Tryz.ti9, Tryz.ti125, h1, gc, reach, reachFuel, shut, nodup, List.idxOf, List.findIdx, List.findIdx.go, backR, List.range, List.range.loop]
  · by_cases k5 : k = 5
    · subst k5
      simp [Tryz.f101, Tryz.ti3, Tryz.ti9, Tryz.ti125, h1, gc, reach, reachFuel, shut, nodup, List.idxOf, List.findIdx, List.findIdx.go, backR, List.range, List.range.loop]
    · simp [Tryz.f101, Tryz.ti3, Tryz.ti9, Tryz.ti125, h1, k1, k5, gc, reach, reachFuel, shut, nodup, List.idxOf, List.findIdx, List.findIdx.go, backR, List.range, List.range.loop]
theorem ev_maybe (s : List UInt8) (l : List Tok) (he : Ends l) : EV 142 [.box 0 0, .str s] (rdS l) = some (.ret (.bool (maybeP s l).1), rdS (maybeP s l).2) := by
  obtain ⟨t, r, rfl⟩ := ends_cons he
  have h1 := ev_is t r s
  rw [EV_mki rfl Tryz.func142 rfl (by kernel_rfl) rfl]
  unfold maybeP
  cases hi : isT s (t :: r)
  · rw [hi] at h1
    simp only [rdS, List.map_cons, Bool.false_eq_true, if_false]
    rw [Tok.enc_eq t] at h1 ⊢
    generalize r.map Tok.enc = xs at *
    simp [Tryz.f142, h1, gc, reach, reachFuel, shut, nodup, List.idxOf, List.findIdx, List.findIdx.go, backR, List.range, List.range.loop]
  · rw [hi] at h1
    have h2 := ev_take t r (by have := (isT_kind hi).1; omega) (tok_cells r)
    simp only [rdS, List.map_cons, List.tail_cons, if_true] at h2 ⊢
    rw [Tok.enc_eq t] at h1 h2 ⊢
    generalize r.map Tok.enc = xs at *
    simp [Tryz.f142, h1, h2, gc, reach, reachFuel, shut, nodup, List.idxOf, List.findIdx, List.findIdx.go, backR, List.range, List.range.loop]
theorem ev_must1 (s : List UInt8) (l : List Tok) (he : Ends l) : EV 105 [.box 0 0, .slice .froz [.str s]] (rdS l) = prO (fun _ => .tup []) (needP s l) := by
  obtain ⟨t, r, rfl⟩ := ends_cons he
  have h1 := ev_maybe s (t :: r) he
  have h2 := ev_no t r
  rw [EV_mki rfl Tryz.func105 rfl (by kernel_rfl) rfl]
  unfold needP
  unfold maybeP at h1
  cases hi : isT s (t :: r) <;> rw [hi] at h1
  · simp only [Bool.false_eq_true, if_false] at h1 ⊢
    simp only [rdS, List.map_cons] at h1 ⊢
    rw [prO_none]
    simp [Tryz.f105, Tryz.ti3, Tryz.ti9, Tryz.ti100]
    rw [i_loop (ts := [9, 10, 11, 5, 12, 13, 14, 15, 16, 17, 18])]
    rotate_left
    · kernel_rfl
    rw [i_round]
    simp [Tryz.f105, Tryz.ti3, Tryz.ti9, Tryz.ti100, h1, h2, topAt, faultV, gc, reach, reachFuel, shut, nodup, List.idxOf, List.findIdx, List.findIdx.go, backR, List.range, List.range.loop]
  · simp only [if_true] at h1 ⊢
    simp only [rdS, List.map_cons, List.tail_cons] at h1 ⊢
    rw [prO_some]
    simp [Tryz.f105, Tryz.ti3, Tryz.ti9, Tryz.ti100]
    rw [i_loop (ts := [9, 10, 11, 5, 12, 13, 14, 15, 16, 17, 18])]
    rotate_left
    · kernel_rfl
    rw [i_round]
    simp [i_again, roundEnd, dropT, cleanV, Tryz.f105, Tryz.ti3, Tryz.ti9, Tryz.ti100, h1, gc, reach, reachFuel, shut, nodup, List.idxOf, List.findIdx, List.findIdx.go, backR, List.range, List.range.loop]
    rw [i_round]
    simp [i_again, roundEnd, dropT, cleanV, Tryz.f105, Tryz.ti3, Tryz.ti9, Tryz.ti100, gc, reach, reachFuel, shut, nodup, List.idxOf, List.findIdx, List.findIdx.go, backR, List.range, List.range.loop]
def idxAt (i : Nat) : Nat → Int
  | 0 => -1
  | n + 1 => i + n
theorem one_cons (s : List UInt8) (r : List (List UInt8)) (l : List Tok) (i : Nat) (hi : isT s l = false) : idxAt i (oneP (s :: r) l).1 = idxAt (i + 1) (oneP r l).1 ∧ (oneP (s :: r) l).2 = (oneP r l).2 := by
  rw [oneP]
  simp only [hi, Bool.false_eq_true, if_false]
  cases oneP r l with
  | mk n l' =>
    cases n with
    | zero => exact ⟨rfl, rfl⟩
    | succ n => refine ⟨?_, rfl⟩; simp only [idxAt]; omega
set_option maxHeartbeats 1000000 in
theorem ev_index (ss : List (List UInt8)) (hs : ss.length ≤ 1000) (l : List Tok) (he : Ends l) : EV 173 [.slice .froz (ss.map V.str), .func 142 [.box 0 0] []] (rdS l) = some (.ret (.int .i64 (idxAt 0 (oneP ss l).1)), rdS (oneP ss l).2) := by
  rw [EV_mki rfl Tryz.func173 rfl (by kernel_rfl) rfl]
  simp [Tryz.f173, Tryz.ti3, Tryz.ti9, Tryz.ti100]
  rw [i_loop (ts := [9, 10, 5, 11, 12, 13, 14, 15, 16, 17, 18])]
  rotate_left
  · kernel_rfl
  refine i_at (fun i : {i : Nat // i ≤ ss.length} => ss.length - i.1) (fun i env => setV env 8 (.int .i64 i.1)) (fun i => _) (fun i => some (.ret (.int .i64 (idxAt i.1 (oneP (ss.drop i.1) l).1)), rdS (oneP (ss.drop i.1) l).2)) ⟨0, by omega⟩ (by simp [s_zero, s_succ]) rfl (by simp) ?_
  intro ⟨i, hil⟩ ih
  dsimp only at hil ⊢
  by_cases hi : i < ss.length
  · have ih := ih ⟨i + 1, by omega⟩ (by simp only; omega)
    have hwi : IntKind.i64.wrap ((i : Int) + 1) = (i : Int) + 1 := wrap_i64 (by omega)
    obtain ⟨s, hk⟩ : ∃ m, ss[i] = m := ⟨_, rfl⟩
    have hkk : ss[i]? = some s := by rw [List.getElem?_eq_getElem hi, hk]
    have hm := ev_maybe s l he
    unfold maybeP at hm
    rw [List.drop_eq_getElem_cons hi, hk]
    simp only [s_zero, s_succ, Int.natCast_add, Int.natCast_one, Int.cast_ofNat_Int] at ih
    cases hT : isT s l <;> rw [hT] at hm
    · obtain ⟨e1, e2⟩ := one_cons s (ss.drop (i + 1)) l i hT
      rw [e1, e2]
      simp only [Bool.false_eq_true, if_false] at hm
      simp [i_again, roundEnd, dropT, cleanV, Tryz.f173, Tryz.ti3, Tryz.ti9, Tryz.ti100, hi, hk, hkk, hm, hwi, ih, gc, reach, reachFuel, shut, nodup, List.idxOf, List.findIdx, List.findIdx.go, backR, List.range, List.range.loop]
    · simp only [if_true] at hm
      have e1 : oneP (s :: ss.drop (i + 1)) l = (1, l.tail) := by rw [oneP, if_pos hT]
      rw [e1]
      simp [i_again, roundEnd, dropT, cleanV, Tryz.f173, Tryz.ti3, Tryz.ti9, Tryz.ti100, hi, hk, hkk, hm, idxAt, gc, reach, reachFuel, shut, nodup, List.idxOf, List.findIdx, List.findIdx.go, backR, List.range, List.range.loop]
  · rw [List.drop_of_length_le (by omega)]
    simp [i_again, roundEnd, dropT, cleanV, Tryz.f173, Tryz.ti3, Tryz.ti9, Tryz.ti100, hi, oneP, idxAt, gc, reach, reachFuel, shut, nodup, List.idxOf, List.findIdx, List.findIdx.go, backR, List.range, List.range.loop]
theorem ev_one (ss : List (List UInt8)) (hs : ss.length ≤ 1000) (l : List Tok) (he : Ends l) : EV 141 [.box 0 0, .slice .froz (ss.map V.str)] (rdS l) = some (.ret (.int .i64 (oneP ss l).1), rdS (oneP ss l).2) := by
  have h := ev_index ss hs l he
  have hl := one_le ss l
  rw [EV_mki rfl Tryz.func141 rfl (by kernel_rfl) rfl]
  have hw : IntKind.i64.wrap (idxAt 0 (oneP ss l).1 + 1) = (oneP ss l).1 := by
    have : idxAt 0 (oneP ss l).1 + 1 = ((oneP ss l).1 : Int) := by cases (oneP ss l).1 <;> simp [idxAt]
    rw [this]; exact wrap_i64 (by omega)
  generalize (oneP ss l).1 = n at *
  generalize (oneP ss l).2 = l' at *
  generalize idxAt 0 n = m at *
  simp [Tryz.f141, Tryz.ti3, h, hw, gc, reach, reachFuel, shut, nodup, List.idxOf, List.findIdx, List.findIdx.go, backR, List.range, List.range.loop]
theorem ev_oneOf (ss : List (List UInt8)) (hs : ss.length ≤ 1000) (l : List Tok) (he : Ends l) : EV 103 [.box 0 0, .slice .froz (ss.map V.str)] (rdS l) = prO (fun n : Nat => .int .i64 n) (oneOfP ss l) := by
  have h := ev_one ss hs l he
  have hz := one_zero ss l
  rw [EV_mki rfl Tryz.func103 rfl (by kernel_rfl) rfl]
  unfold oneOfP
  cases ho : oneP ss l with
  | mk n l' =>
    rw [ho] at h hz
    cases n with
    | zero =>
      obtain rfl := hz rfl
      obtain ⟨t, r, rfl⟩ := ends_cons he
      have h2 := ev_no t r
      simp only [prO_none, rdS, List.map_cons] at h ⊢
      simp at h
      simp [Tryz.f103, Tryz.ti3, h, h2, topAt, faultV, gc, reach, reachFuel, shut, nodup, List.idxOf, List.findIdx, List.findIdx.go, backR, List.range, List.range.loop]
    | succ n =>
      have hn : ¬ (n : Int) + 1 = 0 := by omega
      simp only [prO_some, rdS] at h ⊢
      simp at h
      simp [Tryz.f103, Tryz.ti3, h, hn, gc, reach, reachFuel, shut, nodup, List.idxOf, List.findIdx, List.findIdx.go, backR, List.range, List.range.loop]
theorem ev_pname (l : List Tok) (he : Ends l) : EV 104 [.box 0 0] (rdS l) = prO V.str (nameP l) := by
  obtain ⟨t, r, rfl⟩ := ends_cons he
  have h1 := ev_top t r
  have h2 := ev_no t r
  rw [EV_mki rfl Tryz.func104 rfl (by kernel_rfl) rfl]
  simp only [nameP]
  by_cases hk : t.kind = 2
  · have h3 := ev_take t r (by omega) (tok_cells r)
    rw [if_pos hk, prO_some]
    simp only [rdS, List.map_cons] at h3 ⊢
    obtain ⟨k, n, p, w⟩ := t
    dsimp only at hk
    subst hk
    rw [Tok.enc_eq] at h1 h3 ⊢
    generalize r.map Tok.enc = xs at *
    simp [Tryz.f104, Tryz.ti3, Tryz.ti9, Tryz.ti125, h1, h3, gc, reach, reachFuel, shut, nodup, List.idxOf, List.findIdx, List.findIdx.go, backR, List.range, List.range.loop]
  · rw [if_neg hk, prO_none]
    simp only [rdS, List.map_cons, topAt]
    rw [Tok.enc_eq t] at h1 h2 ⊢
    generalize r.map Tok.enc = xs at *
    simp [Tryz.f104, Tryz.ti3, Tryz.ti9, Tryz.ti125, h1, h2, hk, faultV, gc, reach, reachFuel, shut, nodup, List.idxOf, List.findIdx, List.findIdx.go, backR, List.range, List.range.loop]
end Go.Abs

namespace Go.Abs
set_option linter.unusedSimpArgs false
set_option linter.unusedVariables false
open Go Go.Proofs
attribute [local simp] i_nil i_blk i_skip i_ret i_exit i_seq i_block i_cond i_region' i_ops_nil i_ops i_drawn' d_in a_nil a_cons alt1 h_nil h_one h_two z_nil z_cons z_cells zeqL zeq q_alloc q_some isAlO nxtN i_drh d_hi i_drw_nil i_drw u_nil u_code u_ops u_drw u_lp u_again u_exit u_ret u_panic c_bool o_some o_val o_panic d_some d_val d_panic w_none w_fast wantG q_nil q_zero q_succ t_zero t_succ g_zero g_succ s_zero s_succ s_some s_none v_tmp v_const v_func f_quiet gc_none gc_pure wrap_i64 p_move p_assign p_pick p_alloc p_box p_build p_buildSlice p_load p_store p_nilCheck p_binOp n_tmp n_int n_bool n_str n_ptr n_fun n_iface nilCmp p_unOp p_convert p_makeSlice p_makeInterface p_makeFunc p_slice p_fieldAddr p_field p_indexAddr p_index p_extract p_callv p_callb p_panic quiet_val new_val e_assign e_call e_load e_store e_alloc e_box e_move e_pick e_build e_buildSlice e_nilCheck e_binOp e_unOp e_convert e_makeSlice e_makeInterface e_makeFunc e_slice e_fieldAddr e_field e_indexAddr e_index e_extract e_panic callD fpRead adoptZ fulls adopt adoptL ofValue ofScalar binOpV unOpV intBin strBin eqRes veq veqF eqDepth val? finish resL r_tmp r_cell normL normTop tipIs refsL refs ownRefs single frz frzL ren renL renOwn callOp doCall backR writeBack builtinV loadV storeV storeW iceT cellsAt takeV D.isAgg overlay vcells cellOk fieldAddrV indexAddrV fieldV partV indexV buildV fillV buildSliceV litElems appendV appElems elemOk convertV convV winStr makeSliceV sliceV natOf
attribute [local simp ↓] brB_true brB_false brB_dec brB_not brB_and brB_or brB_beq brB_bne

/- tokens, the place, whether it has failed -/
abbrev rpS (L : List Tok) (i : Nat) (b : Bool) : St := [[.slice .froz (L.map Tok.enc), .int .i64 i, .bool b]]
def seesR (L : List Tok) (i : Nat) (b : Bool) (s : List UInt8) : Bool := !b && isT s (L.drop i)
theorem at_cons {L : List Tok} {i : Nat} {t : Tok} {q : List Tok} (h : L.drop i = t :: q) : (L.map Tok.enc)[i]? = some t.enc ∧ i < L.length ∧ L.drop (i + 1) = q := by
  have h1 : i < L.length := by
    have := congrArg List.length h
    simp at this
    omega
  have h2 : L[i]? = some t := by
    have := congrArg (·[0]?) h
    simpa using this
  refine ⟨by rw [List.getElem?_map, h2]; rfl, h1, ?_⟩
  have := congrArg List.tail h
  simpa using this
theorem ev_sees (L : List Tok) (i : Nat) (b : Bool) (s : List UInt8) (he : Ends (L.drop i)) (hL : L.length ≤ 100000) : EV 112 [.box 0 0, .str s] (rpS L i b) = some (.ret (.bool (seesR L i b s)), rpS L i b) := by
  obtain ⟨t, q, hq⟩ := ends_cons he
  obtain ⟨h1, h2, h3⟩ := at_cons hq
  rw [EV_mki rfl Tryz.func112 rfl (by kernel_rfl) rfl]
  unfold seesR rpS
  rw [hq]
  obtain ⟨k, n, p, w⟩ := t
  rw [Tok.enc_eq] at h1
  have hlen : (L.map Tok.enc).length = L.length := by simp
  generalize L.map Tok.enc = xs at *
  simp only [isT]
  have h2' : i < xs.length := by omega
  have hget : xs[i] = .agg [.int .i64 k, .int .i64 n, .int .i64 p, .str w] := by
    rw [List.getElem?_eq_getElem h2'] at h1
    exact Option.some.inj h1
  cases b
  · by_cases k1 : k = 1
    · subst k1
      simp [Tryz.f112, Tryz.ti3, Tryz.ti4, Tryz.ti9, Tryz.ti112, Tryz.ti117, Tryz.ti120, hget, h2', gc, reach, reachFuel, shut, nodup, List.idxOf, List.findIdx, List.findIdx.go, backR, List.range, List.range.loop] <;> first | (refine panQ_of ?_; decide +kernel) | (change _ = true; decide +kernel) | kernel_rfl | (refine ⟨?_, ?_⟩ <;> first | (change _ = true; decide +kernel) | kernel_rfl)
    · by_cases k5 : k = 5
      · subst k5
        simp [Tryz.f112, Tryz.ti3, Tryz.ti4, Tryz.ti9, Tryz.ti112, Tryz.ti117, Tryz.ti120, hget, h2', gc, reach, reachFuel, shut, nodup, List.idxOf, List.findIdx, List.findIdx.go, backR, List.range, List.range.loop] <;> first | (refine panQ_of ?_; decide +kernel) | (change _ = true; decide +kernel) | kernel_rfl | (refine ⟨?_, ?_⟩ <;> first | (change _ = true; decide +kernel) | kernel_rfl)
      · simp [Tryz.f112, Tryz.ti3, Tryz.ti4, Tryz.ti9, Tryz.ti112, Tryz.ti117, Tryz.ti120, hget, k1, k5, h2', gc, reach, reachFuel, shut, nodup, List.idxOf, List.findIdx, List.findIdx.go, backR, List.range, List.range.loop] <;> first | (refine panQ_of ?_; decide +kernel) | (change _ = true; decide +kernel) | kernel_rfl | (refine ⟨?_, ?_⟩ <;> first | (change _ = true; decide +kernel) | kernel_rfl)
  · simp [Tryz.f112, Tryz.ti3, Tryz.ti4, Tryz.ti9, Tryz.ti112, Tryz.ti117, Tryz.ti120, hget, h2', gc, reach, reachFuel, shut, nodup, List.idxOf, List.findIdx, List.findIdx.go, backR, List.range, List.range.loop] <;> first | (refine panQ_of ?_; decide +kernel) | (change _ = true; decide +kernel) | kernel_rfl | (refine ⟨?_, ?_⟩ <;> first | (change _ = true; decide +kernel) | kernel_rfl)
/- has: the token's taken -/
def hasR (L : List Tok) (i : Nat) (b : Bool) (s : List UInt8) : Bool × Nat := if seesR L i b s then (true, i + 1) else (false, i)
theorem ev_has (L : List Tok) (i : Nat) (b : Bool) (s : List UInt8) (he : Ends (L.drop i)) (hL : L.length ≤ 100000) : EV 118 [.box 0 0, .str s] (rpS L i b) = some (.ret (.bool (hasR L i b s).1), rpS L (hasR L i b s).2 b) := by
  have h1 := ev_sees L i b s he hL
  obtain ⟨t, q, hq⟩ := ends_cons he
  obtain ⟨_, h2, _⟩ := at_cons hq
  have hw : IntKind.i64.wrap ((i : Int) + 1) = (i : Int) + 1 := wrap_i64 (by omega)
  rw [EV_mki rfl Tryz.func118 rfl (by kernel_rfl) rfl]
  unfold hasR rpS at *
  cases hs : seesR L i b s
  · rw [hs] at h1
    simp [Tryz.f118, Tryz.ti3, Tryz.ti4, Tryz.ti9, Tryz.ti112, Tryz.ti117, Tryz.ti120, h1, gc, reach, reachFuel, shut, nodup, List.idxOf, List.findIdx, List.findIdx.go, backR, List.range, List.range.loop]
  · rw [hs] at h1
    simp [Tryz.f118, Tryz.ti3, Tryz.ti4, Tryz.ti9, Tryz.ti112, Tryz.ti117, Tryz.ti120, h1, hw, gc, reach, reachFuel, shut, nodup, List.idxOf, List.findIdx, List.findIdx.go, backR, List.range, List.range.loop]
theorem ev_rneed (L : List Tok) (i : Nat) (b : Bool) (s : List UInt8) (he : Ends (L.drop i)) (hL : L.length ≤ 100000) : EV 116 [.box 0 0, .str s] (rpS L i b) = some (.ret (.tup []), rpS L (hasR L i b s).2 (b || !(hasR L i b s).1)) := by
  have h1 := ev_has L i b s he hL
  rw [EV_mki rfl Tryz.func116 rfl (by kernel_rfl) rfl]
  unfold rpS at *
  cases hs : (hasR L i b s).1
  · rw [hs] at h1
    simp [Tryz.f116, Tryz.ti3, Tryz.ti4, Tryz.ti9, Tryz.ti112, Tryz.ti117, Tryz.ti120, h1, gc, reach, reachFuel, shut, nodup, List.idxOf, List.findIdx, List.findIdx.go, backR, List.range, List.range.loop]
  · rw [hs] at h1
    simp [Tryz.f116, Tryz.ti3, Tryz.ti4, Tryz.ti9, Tryz.ti112, Tryz.ti117, Tryz.ti120, h1, gc, reach, reachFuel, shut, nodup, List.idxOf, List.findIdx, List.findIdx.go, backR, List.range, List.range.loop]
theorem ev_num14 (n : Int) : EV 226 [.int .i64 n] [] = some (.ret (xval ⟨2, n, []⟩).enc, []) := by
  rw [EV_mki rfl Tryz.func226 rfl (by kernel_rfl) rfl]
  simp only [xval, xenc_mk, List.map_nil]
  simp [Tryz.f226, Tryz.ti3, Tryz.ti9, Tryz.ti31, Tryz.ti44, Tryz.ti50, oValue, gc, reach, reachFuel, shut, nodup, List.idxOf, List.findIdx, List.findIdx.go, backR, List.range, List.range.loop]
end Go.Abs

