/- The program's reader: expressions. -/
import Derived.Test.YtpmeklllgnnffaaGreatDoorM33
set_option linter.unusedSimpArgs false
set_option linter.unusedVariables false

namespace Go.Abs
set_option linter.unusedSimpArgs false
set_option linter.unusedVariables false
open Go Go.Proofs
attribute [local simp] i_nil i_blk i_skip i_ret i_exit i_seq i_block i_cond i_region' i_ops_nil i_ops i_drawn' d_in a_nil a_cons alt1 h_nil h_one h_two z_nil z_cons z_cells zeqL zeq q_alloc q_some isAlO nxtN i_drh d_hi i_drw_nil i_drw u_nil u_code u_ops u_drw u_lp u_again u_exit u_ret u_panic c_bool o_some o_val o_panic d_some d_val d_panic w_none w_fast wantG q_nil q_zero q_succ t_zero t_succ g_zero g_succ s_zero s_succ s_some s_none v_tmp v_const v_func f_quiet gc_none gc_pure wrap_i64 p_move p_assign p_pick p_alloc p_box p_build p_buildSlice p_load p_store p_nilCheck p_binOp n_tmp n_int n_bool n_str n_ptr n_fun n_iface nilCmp p_unOp p_convert p_makeSlice p_makeInterface p_makeFunc p_slice p_fieldAddr p_field p_indexAddr p_index p_extract p_callv p_callb p_panic quiet_val new_val e_assign e_call e_load e_store e_alloc e_box e_move e_pick e_build e_buildSlice e_nilCheck e_binOp e_unOp e_convert e_makeSlice e_makeInterface e_makeFunc e_slice e_fieldAddr e_field e_indexAddr e_index e_extract e_panic callD fpRead adoptZ fulls adopt adoptL ofValue ofScalar binOpV unOpV intBin strBin eqRes veq veqF eqDepth val? finish resL r_tmp r_cell normL normTop tipIs refsL refs ownRefs single frz frzL ren renL renOwn callOp doCall backR writeBack builtinV loadV storeV storeW iceT cellsAt takeV D.isAgg overlay vcells cellOk fieldAddrV indexAddrV fieldV partV indexV buildV fillV buildSliceV litElems appendV appElems elemOk convertV convV winStr makeSliceV sliceV natOf
attribute [local simp ↓] brB_true brB_false brB_dec brB_not brB_and brB_or brB_beq brB_bne

theorem ev_op (s : List UInt8) (kids : List V) : EV 161 [.str s, .slice .froz kids] [] = some (.ret (.agg [.str s, .int .i64 0, .int .i64 0, .str [], .str [], .str [], .slice .froz kids]), []) := by
  rw [EV_mki rfl Tryz.func161 rfl (by kernel_rfl) rfl]
  simp [Tryz.f161, Tryz.ti3, Tryz.ti9, Tryz.ti23, Tryz.ti44, Tryz.ti46]
theorem ev_value (k n : Int) (s : List UInt8) : EV 225 [.agg [.int .i64 k, .int .i64 n, .str s]] [] = some (.ret (xval ⟨k, n, s⟩).enc, []) := by
  rw [EV_mki rfl Tryz.func225 rfl (by kernel_rfl) rfl, xval, xenc_mk]
  simp [Tryz.f225, Tryz.ti3, Tryz.ti9, Tryz.ti23, Tryz.ti44, Tryz.ti46, oValue]

/- which op it is -/
theorem one_op : ∀ (tbl : List (List UInt8 × List UInt8)) (l : List Tok), match opAt tbl l with
    | none => oneP (tbl.map Prod.fst) l = (0, l)
    | some o => ∃ k, oneP (tbl.map Prod.fst) l = (k + 1, l.tail) ∧ (tbl.map Prod.snd)[k]? = some o
  | [], l => rfl
  | (s, o) :: r, l => by
    have ih := one_op r l
    simp only [opAt, List.map_cons]
    cases hi : isT s l
    · simp only [Bool.false_eq_true, if_false]
      rw [oneP]
      simp only [hi, Bool.false_eq_true, if_false]
      cases ho : opAt r l with
      | none => rw [ho] at ih; simp only at ih ⊢; rw [ih]
      | some o' =>
        rw [ho] at ih
        obtain ⟨k, h1, h2⟩ := ih
        simp only
        exact ⟨k + 1, by rw [h1], by simpa using h2⟩
    · simp only [if_true]
      exact ⟨0, by rw [oneP, if_pos hi], rfl⟩

/- how a level goes on: an op was passed (from 1 on), or none (0) -/
def goP (part : List Tok → PR Xp) (tbl : List (List UInt8 × List UInt8)) (k : Nat) (e : Xp) (n : Nat) (l : List Tok) : PR Xp :=
  match n with
  | 0 => (some e, l)
  | n + 1 => thenP (part l) fun f r => moreP part tbl k (xop ((tbl.map Prod.snd).getD n []) [e, f]) r
theorem more_go (part : List Tok → PR Xp) (tbl : List (List UInt8 × List UInt8)) (k : Nat) (e : Xp) (l : List Tok) : moreP part tbl (k + 1) e l = goP part tbl k e (oneP (tbl.map Prod.fst) l).1 (oneP (tbl.map Prod.fst) l).2 := by
  have h := one_op tbl l
  rw [moreP]
  cases ho : opAt tbl l with
  | none => rw [ho] at h; simp only at h ⊢; rw [h]; rfl
  | some o =>
    rw [ho] at h
    obtain ⟨j, h1, h2⟩ := h
    simp only
    rw [h1]
    simp only [goP]
    rw [List.getD_eq_getElem?_getD, h2]
    rfl
theorem one_pos {ss : List (List UInt8)} {l : List Tok} {n : Nat} {l' : List Tok} (h : oneP ss l = (n + 1, l')) : l'.length < l.length ∧ n < ss.length := by
  induction ss generalizing n l' with
  | nil => cases h
  | cons s r ih =>
    rw [oneP] at h
    cases hi : isT s l
    · simp only [hi, Bool.false_eq_true, if_false] at h
      cases ho : oneP r l with
      | mk m l'' =>
        rw [ho] at h
        cases m with
        | zero => cases h
        | succ m => cases h; have := ih ho; exact ⟨this.1, by simp; omega⟩
    · simp only [hi, if_true] at h
      cases h
      exact ⟨tail_len hi, by simp⟩
set_option maxRecDepth 100000 in
set_option maxHeartbeats 4000000 in
theorem ev_chain (fp : FuncId) (part : List Tok → PR Xp) (hk : KeepP part) (tbl : List (List UInt8 × List UInt8)) (ht : tbl.length ≤ 1000) (N : Nat) (hp : ∀ l, Ends l → l.length ≤ N → EV fp [.box 0 0] (rdS l) = prO Xp.enc (part l))
    (l : List Tok) (he : Ends l) (hN : l.length ≤ N) : EV 128 [.box 0 0, .func fp [.box 0 0] [], .slice .froz ((tbl.map Prod.fst).map V.str), .slice .froz ((tbl.map Prod.snd).map V.str)] (rdS l) = prO Xp.enc (chainP part tbl l) := by
  have h0 := hp l he hN
  have k0 := hk l
  have hone := fun l he => ev_one (tbl.map Prod.fst) (by simpa using ht) l he
  have hget0 : ∀ n, n < tbl.length → ((tbl.map Prod.snd).map V.str)[n]? = some (V.str ((tbl.map Prod.snd).getD n [])) := fun n hn => by
    have : n < (tbl.map Prod.snd).length := by simp; omega
    rw [List.getElem?_map, List.getD_eq_getElem?_getD, List.getElem?_eq_getElem this]; rfl
  have hlen : ((tbl.map Prod.snd).map V.str).length = tbl.length := by simp
  generalize (tbl.map Prod.fst).map V.str = SS at hone ⊢
  generalize (tbl.map Prod.snd).map V.str = ops at hget0 hlen ⊢
  rw [EV_mki rfl Tryz.func128 rfl (by kernel_rfl) rfl]
  unfold chainP
  cases hP : part l with
  | mk o r =>
    rw [hP] at h0 k0
    cases o with
    | none =>
      simp only [thenP, prO_none, faultV] at h0 ⊢
      simp [Tryz.f128, Tryz.ti3, Tryz.ti9, Tryz.ti23, Tryz.ti44, Tryz.ti46, Tryz.ti100, h0, gc, reach, reachFuel, shut, nodup, List.idxOf, List.findIdx, List.findIdx.go, backR, List.range, List.range.loop]
    | some e =>
      simp only [thenP, prO_some] at h0 ⊢
      rw [more_go]
      have k1 : Ends r := k0.2 he
      have k2 : r.length ≤ l.length := k0.1
      have h1 := hone r k1
      have l1 := one_len (tbl.map Prod.fst) r
      have e1 := one_ends (tbl.map Prod.fst) k1
      have p1 : ∀ m l', oneP (tbl.map Prod.fst) r = (m + 1, l') → l'.length < r.length ∧ m < tbl.length := fun m l' h => by have := one_pos h; simpa using this
      have b1 := one_le (tbl.map Prod.fst) r
      simp only [List.length_map] at b1
      generalize hon : oneP (tbl.map Prod.fst) r = on at *
      obtain ⟨n, l1'⟩ := on
      dsimp only at h1 l1 e1 b1 ⊢
      obtain ⟨op0, v0, var0, col0, kids0⟩ := e
      rw [xenc_mk] at h0
      simp only [rdS] at h0 h1
      simp only [rdS]
      simp [Tryz.f128, Tryz.ti3, Tryz.ti9, Tryz.ti23, Tryz.ti44, Tryz.ti46, Tryz.ti100, h0, h1, gc, reach, reachFuel, shut, nodup, List.idxOf, List.findIdx, List.findIdx.go, backR, List.range, List.range.loop]
      rw [i_loop (ts := [16, 17, 21, 22, 23, 24, 25, 26, 27, 28, 29, 30, 18, 19, 20])]
      rotate_left
      · kernel_rfl
      refine i_at2 (fun x : {x : Nat × Xp × Nat × List Tok // Ends x.2.2.2 ∧ x.2.2.2.length ≤ r.length ∧ x.2.2.1 ≤ tbl.length ∧ (x.2.2.1 ≠ 0 → x.2.2.2.length < x.1)} => if x.1.2.2.1 = 0 then 0 else x.1.2.2.2.length + 1) (fun x env => setV env 10 (.int .i64 x.1.2.2.1)) (fun x st => (st.set 0 [.slice .froz (x.1.2.2.2.map Tok.enc)]).set 4 (vcells x.1.2.1.enc))
        (fun x => prO Xp.enc (goP part tbl x.1.1 x.1.2.1 x.1.2.2.1 x.1.2.2.2)) ⟨(r.length, .mk op0 v0 var0 col0 kids0, n, l1'), e1, l1, b1, fun hn => by
          obtain ⟨m, rfl⟩ : ∃ m, n = m + 1 := ⟨n - 1, by simp only at hn; omega⟩
          exact (p1 m l1' rfl).1⟩ (by simp [s_zero, s_succ]) (by simp [xenc_mk, vcells]) rfl ?_
      intro ⟨⟨k, e, n, l'⟩, c1, c2, c3, c4⟩ ih
      dsimp only at c1 c2 c3 c4 ih ⊢
      obtain ⟨op, v, var, col, kids⟩ := e
      cases n with
      | zero =>
        clear ih
        simp only [goP, prO_some, xenc_mk, vcells]
        simp [i_again, roundEnd, dropT, cleanV, Tryz.f128, Tryz.ti3, Tryz.ti9, Tryz.ti23, Tryz.ti44, Tryz.ti46, Tryz.ti100, gc, reach, reachFuel, shut, nodup, List.idxOf, List.findIdx, List.findIdx.go, backR, List.range, List.range.loop]
      | succ n =>
        have c4 := c4 (by omega)
        have h0 := hp l' c1 (by omega)
        have k0 := hk l'
        have hwn : IntKind.i64.wrap ((n : Int) + 1 - 1) = n := by rw [show (n : Int) + 1 - 1 = n by omega]; exact wrap_i64 (by omega)
        have hwn2 : IntKind.i64.wrap (n : Int) = n := wrap_i64 (by omega)
        have hnl : (n : Int) < tbl.length := by omega
        have hnl2 : n < tbl.length := by omega
        have hget := hget0 n (by omega)
        simp only [goP]
        generalize (tbl.map Prod.snd).getD n [] = oo at hget ⊢
        have hnl3 : n < ops.length := by omega
        have hg2 : ops[n] = V.str oo := by
          have h := hget
          rw [List.getElem?_eq_getElem hnl3] at h
          exact Option.some.inj h
        have hgt : ¬ (n : Int) + 1 = 0 := by omega
        have hpos : (0 : Int) < (n : Int) + 1 := by omega
        cases hP : part l' with
        | mk o r' =>
          rw [hP] at h0 k0
          cases o with
          | none =>
            clear ih
            simp only [thenP, prO_none, faultV, rdS] at h0 ⊢
            simp [i_again, roundEnd, dropT, cleanV, Tryz.f128, Tryz.ti3, Tryz.ti9, Tryz.ti23, Tryz.ti44, Tryz.ti46, Tryz.ti100, h0, hwn, hwn2, hnl, hnl2, hget, hg2, hlen, hpos, xenc_mk, vcells, gc, reach, reachFuel, shut, nodup, List.idxOf, List.findIdx, List.findIdx.go, backR, List.range, List.range.loop] <;> first | (refine panQ_of ?_; decide +kernel) | (change _ = true; decide +kernel) | kernel_rfl | (refine ⟨?_, ?_⟩ <;> first | (change _ = true; decide +kernel) | kernel_rfl)
          | some f =>
            have k1 : Ends r' := k0.2 c1
            have k2' : r'.length ≤ l'.length := k0.1
            obtain ⟨j, rfl⟩ : ∃ j, k = j + 1 := ⟨k - 1, by omega⟩
            have h1 := hone r' k1
            have l1 := one_len (tbl.map Prod.fst) r'
            have e1 := one_ends (tbl.map Prod.fst) k1
            have p1 : ∀ m l', oneP (tbl.map Prod.fst) r' = (m + 1, l') → l'.length < r'.length ∧ m < tbl.length := fun m l' h => by have := one_pos h; simpa using this
            have b1 := one_le (tbl.map Prod.fst) r'
            simp only [List.length_map] at b1
            have hop := ev_op oo [(Xp.mk op v var col kids).enc, f.enc]
            simp only [thenP, prO_some] at h0 ⊢
            rw [more_go]
            generalize hon : oneP (tbl.map Prod.fst) r' = on at *
            obtain ⟨m, l1'⟩ := on
            dsimp only at h1 l1 e1 b1 ⊢
            have ih := ih ⟨(j, xop oo [.mk op v var col kids, f], m, l1'), e1, by show l1'.length ≤ r.length; omega, b1, fun hn => by
              obtain ⟨m', rfl⟩ : ∃ m', m = m' + 1 := ⟨m - 1, by simp only at hn; omega⟩
              have := (p1 m' l1' rfl).1
              show l1'.length < j
              omega⟩ (by
                show (if m = 0 then 0 else l1'.length + 1) < (if n + 1 = 0 then 0 else l'.length + 1)
                rw [if_neg (Nat.succ_ne_zero n)]
                split
                · omega
                · rename_i hm
                  obtain ⟨m', rfl⟩ : ∃ m', m = m' + 1 := ⟨m - 1, by omega⟩
                  have := (p1 m' l1' rfl).1
                  omega)
            obtain ⟨fop, fv, fvar, fcol, fkids⟩ := f
            simp only [xop, xenc_mk, List.map_cons, List.map_nil, Val.zero, vcells, s_zero, s_succ, List.set_cons_zero, List.set_cons_succ] at ih h0 hop
            simp only [rdS] at h0 h1
            simp [i_again, roundEnd, dropT, cleanV, Tryz.f128, Tryz.ti3, Tryz.ti9, Tryz.ti23, Tryz.ti44, Tryz.ti46, Tryz.ti100, h0, h1, hop, hwn, hwn2, hnl, hnl2, hget, hg2, hlen, hpos, xenc_mk, xop, Val.zero, ih, gc, reach, reachFuel, shut, nodup, List.idxOf, List.findIdx, List.findIdx.go, backR, List.range, List.range.loop]
            intro hf; exfalso; revert hf; rw [imp_false, Bool.not_eq_false]; decide +kernel
end Go.Abs

