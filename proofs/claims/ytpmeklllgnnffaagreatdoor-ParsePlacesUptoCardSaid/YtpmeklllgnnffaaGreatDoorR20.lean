/- The program's reader: lists, sources, sets, columns, conditions. -/
import Derived.Test.YtpmeklllgnnffaaGreatDoorR19
set_option linter.unusedSimpArgs false
set_option linter.unusedVariables false

namespace Go.Abs
set_option linter.unusedSimpArgs false
set_option linter.unusedVariables false
open Go Go.Proofs
attribute [local simp] i_nil i_blk i_skip i_ret i_exit i_seq i_block i_cond i_region' i_ops_nil i_ops i_drawn' k_none k_0 k_1 k_2 k_3 k_4 k_5 d_in a_nil a_cons alt1 h_nil h_one h_two z_nil z_cons z_cells zeqL zeq q_alloc q_some nxtN i_drh d_hi i_drw_nil i_drw u_nil u_code u_ops u_drw u_lp u_again u_exit u_ret u_panic c_bool o_some o_val o_panic d_some d_val d_panic w_none w_fast wantG q_nil q_zero q_succ t_zero t_succ g_zero g_succ s_zero s_succ s_some s_none v_tmp v_const v_func f_quiet gc_none gc_pure wrap_i64 p_move p_assign p_pick p_alloc p_box p_build p_buildSlice p_load p_store p_nilCheck p_binOp n_tmp n_int n_bool n_str n_ptr n_fun n_iface nilCmp p_unOp p_convert p_makeSlice p_makeInterface p_makeFunc p_slice p_fieldAddr p_field p_indexAddr p_index p_extract p_callv p_callb p_panic quiet_val new_val e_assign e_call e_load e_store e_alloc e_box e_move e_pick e_build e_buildSlice e_nilCheck e_binOp e_unOp e_convert e_makeSlice e_makeInterface e_makeFunc e_slice e_fieldAddr e_field e_indexAddr e_index e_extract e_panic callD fpRead adoptZ fulls adopt adoptL ofValue ofScalar binOpV unOpV intBin strBin eqRes veq veqF eqDepth val? finish resL r_tmp r_cell normL normTop tipIs refsL refs ownRefs single frz frzL ren renL renOwn callOp doCall backR writeBack builtinV loadV storeV storeW iceT cellsAt takeV D.isAgg overlay vcells cellOk fieldAddrV indexAddrV fieldV partV indexV buildV fillV buildSliceV litElems appendV appElems elemOk convertV convV winStr makeSliceV sliceV natOf
attribute [local simp ↓] brB_true brB_false brB_dec brB_not brB_and brB_or brB_beq brB_bne
def goL {α : Type} (f : List Tok → PR α) (k : Nat) (acc : List α) (r : List Tok) : PR (List α) :=
 if isT [44] r then thenP (listP f k r.tail) fun xs r' => (some (acc ++ xs), r') else (some acc, r)
theorem list_go {α : Type} (f : List Tok → PR α) (k : Nat) (l : List Tok) : listP f (k + 1) l = thenP (f l) fun a r => goL f k [a] r := rfl
theorem go_go {α : Type} (f : List Tok → PR α) (k : Nat) (acc : List α) (r : List Tok) (h : isT [44] r = true) : goL f (k + 1) acc r = thenP (f r.tail) fun a r' => goL f k (acc ++ [a]) r' := by
 unfold goL
 rw [if_pos h, list_go]
 unfold goL
 cases hf : f r.tail with
 | mk o r1 =>
  cases o with
  | none => rfl
  | some a =>
   simp only [thenP]
   cases isT [44] r1
   ·rfl
   ·simp only [if_true]
    cases listP f k r1.tail with
    | mk o2 r2 => cases o2 <;> simp
def prL {α : Type} (f : α → V) (p : PR (List α)) : Option (Out × St) :=
 match p with
 | (some a, r) => some (.ret (.slice (.own 1) (a.map f)), [[.slice .froz (r.map Tok.enc)], [.tip a.length]])
 | (none, r) => some (.panic (faultV (topAt r)), rdS r)
theorem prL_some {α : Type} (f : α → V) (a : List α) (r : List Tok) : prL f (some a, r) = some (.ret (.slice (.own 1) (a.map f)), [[.slice .froz (r.map Tok.enc)], [.tip a.length]]) := rfl
theorem prL_none {α : Type} (f : α → V) (r : List Tok) : prL f (none, r) = some (.panic (faultV (topAt r)), rdS r) := rfl
set_option maxRecDepth 100000 in
set_option maxHeartbeats 4000000 in
theorem ev_list_xpP (fp : FuncId) (part : List Tok → PR Xp) (hk : KeepP part) (N : Nat) (hp : ∀ l, Ends l → l.length ≤ N → EV fp [.box 0 0] (rdS l) = prO Xp.enc (part l)) (l : List Tok) (he : Ends l) (hN : l.length ≤ N) (hB : l.length ≤ 1000000) :
  EV 143 [.box 0 0, .func fp [.box 0 0] []] (rdS l) = prL Xp.enc (listP part (l.length + 1) l) := by
 have h0 := hp l he hN
 have k0 := hk l
 rw [EV_mki rfl Tryz.func143 rfl (by kernel_rfl) rfl, list_go]
 cases hP : part l with
 | mk o r =>
  rw [hP] at h0 k0
  cases o with
  | none =>
   simp only [thenP, prO_none, prL_none, faultV] at h0 ⊢
   simp [Tryz.f143, Tryz.ti3, Tryz.ti9, Tryz.ti23, Tryz.ti44, Tryz.ti46, h0, gc, reach, reachFuel, shut, nodup, List.idxOf, List.findIdx, List.findIdx.go, backR, List.range, List.range.loop, -List.map_tail]
  | some e =>
   simp only [thenP, prO_some] at h0 ⊢
   have k1 : Ends r := k0.2 he
   have k2 : r.length ≤ l.length := k0.1
   have hz : Xp.enc e = Xp.enc e := rfl
   generalize hL : goL part l.length [e] r = RS
   have hcell : [Xp.enc e] = [e].map Xp.enc := rfl
   obtain ⟨xs0, hx0⟩ : ∃ xs0, [Xp.enc e] = xs0 := ⟨_, rfl⟩
   obtain ⟨op, v, var, col, kids⟩ := e
   simp only [xenc_mk] at h0
   simp only [rdS] at h0 ⊢
   simp [Tryz.f143, Tryz.ti3, Tryz.ti9, Tryz.ti23, Tryz.ti44, Tryz.ti46, h0, gc, reach, reachFuel, shut, nodup, List.idxOf, List.findIdx, List.findIdx.go, backR, List.range, List.range.loop, -List.map_tail]
   rw [i_loop (ts := [9, 10, 11, 12, 13, 14, 15])]
   rotate_left
   ·kernel_rfl
   refine i_at2 (fun x : {x : Nat × List Xp × List Tok // Ends x.2.2 ∧ x.2.2.length ≤ l.length ∧ x.2.2.length ≤ x.1 ∧ x.2.1.length + x.2.2.length ≤ l.length + 1} => x.1.2.2.length) (fun x env => setV env 5 (.slice (.own 2) (x.1.2.1.map Xp.enc))) (fun x st => (st.set 0 [.slice .froz (x.1.2.2.map Tok.enc)]).set 2 [.tip x.1.2.1.length])
    (fun x => prL Xp.enc (goL part x.1.1 x.1.2.1 x.1.2.2)) ⟨(l.length, [⟨op, v, var, col, kids⟩], r), k1, k2, k2, by show 1 + r.length ≤ l.length + 1; omega⟩ (by simp [s_zero, s_succ, xenc_mk]) (by simp) (by rw [← hL]) ?_
   clear hL h0 hx0 hcell hz k0 hP
   intro ⟨⟨k, acc, r'⟩, c1, c2, c3, c4⟩ ih
   dsimp only at c1 c2 c3 c4 ih ⊢
   have hm := ev_maybe [44] r' c1
   unfold maybeP at hm
   have hlen : (acc.map Xp.enc).length = acc.length := by simp
   have hf : ∀ x ∈ acc.map Xp.enc, (vcells x).length = 7 := fun x hx => by obtain ⟨⟨op, v, var, col, kids⟩, _, rfl⟩ := List.mem_map.1 hx; rw [xenc_mk]; rfl
   cases hi : isT [44] r'
   ·rw [hi] at hm
    clear ih
    have e1 : goL part k acc r' = (some acc, r') := by simp [goL, hi]
    rw [e1, prL_some]
    simp only [Bool.false_eq_true, if_false, rdS] at hm
    generalize acc.map Xp.enc = xs at *
    simp [i_again, roundEnd, dropT, cleanV, Tryz.f143, Tryz.ti3, Tryz.ti9, Tryz.ti23, Tryz.ti44, Tryz.ti46, hm, hlen, gc, reach, reachFuel, shut, nodup, List.idxOf, List.findIdx, List.findIdx.go, backR, List.range, List.range.loop, -List.map_tail]
   ·rw [hi] at hm
    have htl := tail_len hi
    have het := ends_tail c1 hi
    obtain ⟨j, rfl⟩ : ∃ j, k = j + 1 := ⟨k - 1, by omega⟩
    rw [go_go part j acc r' hi]
    have h0 := hp r'.tail het (by omega)
    have k0 := hk r'.tail
    simp only [if_true, rdS] at hm
    cases hP : part r'.tail with
    | mk o r2 =>
     rw [hP] at h0 k0
     cases o with
     | none =>
      clear ih
      simp only [thenP, prO_none, prL_none, faultV, rdS] at h0 ⊢
      generalize acc.map Xp.enc = xs at *
      simp [i_again, roundEnd, dropT, cleanV, Tryz.f143, Tryz.ti3, Tryz.ti9, Tryz.ti23, Tryz.ti44, Tryz.ti46, hm, h0, gc, reach, reachFuel, shut, nodup, List.idxOf, List.findIdx, List.findIdx.go, backR, List.range, List.range.loop, -List.map_tail]
     | some e =>
      have k1' : Ends r2 := k0.2 het
      have k2' : r2.length ≤ r'.tail.length := k0.1
      have ih := ih ⟨(j, acc ++ [e], r2), k1', by show r2.length ≤ l.length; omega, by show r2.length ≤ j; omega, by show (acc ++ [e]).length + r2.length ≤ l.length + 1; simp; omega⟩ (by show r2.length < r'.length; omega)
      have hbc : acc.length + 1 ≤ 70368744177664 := by omega
      have hb24 : (acc.length + 1) * 24 ≤ 70368744177664 := by omega
      have hb32 : (acc.length + 1) * 32 ≤ 70368744177664 := by omega
      have hb40 : (acc.length + 1) * 40 ≤ 70368744177664 := by omega
      have hb48 : (acc.length + 1) * 48 ≤ 70368744177664 := by omega
      have hb104 : (acc.length + 1) * 104 ≤ 70368744177664 := by omega
      have hb112 : (acc.length + 1) * 112 ≤ 70368744177664 := by omega
      have hb120 : (acc.length + 1) * 120 ≤ 70368744177664 := by omega
      have hb128 : (acc.length + 1) * 128 ≤ 70368744177664 := by omega
      simp only [thenP, prO_some, rdS] at h0 ⊢
      simp only [List.map_append, List.map_cons, List.map_nil, List.length_append, List.length_cons, List.length_nil] at ih
      obtain ⟨op, v, var, col, kids⟩ := e
      simp only [xenc_mk, s_zero, s_succ, List.set_cons_zero, List.set_cons_succ] at ih h0
      generalize acc.map Xp.enc = xs at *
      simp only [vcells] at hf
      simp +contextual [i_again, roundEnd, dropT, cleanV, Tryz.f143, Tryz.ti3, Tryz.ti9, Tryz.ti23, Tryz.ti44, Tryz.ti46, hm, h0, hlen, hf, hbc, hb24, hb32, hb40, hb48, hb104, hb112, hb120, hb128, ih, gc, reach, reachFuel, shut, nodup, List.idxOf, List.findIdx, List.findIdx.go, backR, List.range, List.range.loop, -List.map_tail]
set_option maxRecDepth 100000 in
set_option maxHeartbeats 4000000 in
theorem ev_list_setP (fp : FuncId) (part : List Tok → PR SetE) (hk : KeepP part) (N : Nat) (hp : ∀ l, Ends l → l.length ≤ N → EV fp [.box 0 0] (rdS l) = prO SetE.enc (part l)) (l : List Tok) (he : Ends l) (hN : l.length ≤ N) (hB : l.length ≤ 1000000) :
  EV 144 [.box 0 0, .func fp [.box 0 0] []] (rdS l) = prL SetE.enc (listP part (l.length + 1) l) := by
 have h0 := hp l he hN
 have k0 := hk l
 rw [EV_mki rfl Tryz.func144 rfl (by kernel_rfl) rfl, list_go]
 cases hP : part l with
 | mk o r =>
  rw [hP] at h0 k0
  cases o with
  | none =>
   simp only [thenP, prO_none, prL_none, faultV] at h0 ⊢
   simp [Tryz.f144, Tryz.ti3, Tryz.ti9, Tryz.ti23, Tryz.ti24, Tryz.ti44, Tryz.ti46, Tryz.ti80, h0, gc, reach, reachFuel, shut, nodup, List.idxOf, List.findIdx, List.findIdx.go, backR, List.range, List.range.loop, -List.map_tail]
  | some e =>
   simp only [thenP, prO_some] at h0 ⊢
   have k1 : Ends r := k0.2 he
   have k2 : r.length ≤ l.length := k0.1
   have hz : SetE.enc e = SetE.enc e := rfl
   generalize hL : goL part l.length [e] r = RS
   have hcell : [SetE.enc e] = [e].map SetE.enc := rfl
   obtain ⟨xs0, hx0⟩ : ∃ xs0, [SetE.enc e] = xs0 := ⟨_, rfl⟩
   obtain ⟨sc, ⟨op, v, var, col, kids⟩⟩ := e
   simp only [SetE.enc, xenc_mk, vcells] at h0
   simp only [rdS] at h0 ⊢
   simp [Tryz.f144, Tryz.ti3, Tryz.ti9, Tryz.ti23, Tryz.ti24, Tryz.ti44, Tryz.ti46, Tryz.ti80, h0, gc, reach, reachFuel, shut, nodup, List.idxOf, List.findIdx, List.findIdx.go, backR, List.range, List.range.loop, -List.map_tail]
   rw [i_loop (ts := [9, 10, 11, 12, 13, 14, 15])]
   rotate_left
   ·kernel_rfl
   refine i_at2 (fun x : {x : Nat × List SetE × List Tok // Ends x.2.2 ∧ x.2.2.length ≤ l.length ∧ x.2.2.length ≤ x.1 ∧ x.2.1.length + x.2.2.length ≤ l.length + 1} => x.1.2.2.length) (fun x env => setV env 5 (.slice (.own 2) (x.1.2.1.map SetE.enc))) (fun x st => (st.set 0 [.slice .froz (x.1.2.2.map Tok.enc)]).set 2 [.tip x.1.2.1.length])
    (fun x => prL SetE.enc (goL part x.1.1 x.1.2.1 x.1.2.2)) ⟨(l.length, [⟨sc, ⟨op, v, var, col, kids⟩⟩], r), k1, k2, k2, by show 1 + r.length ≤ l.length + 1; omega⟩ (by simp [s_zero, s_succ, SetE.enc, xenc_mk, vcells]) (by simp) (by rw [← hL]) ?_
   clear hL h0 hx0 hcell hz k0 hP
   intro ⟨⟨k, acc, r'⟩, c1, c2, c3, c4⟩ ih
   dsimp only at c1 c2 c3 c4 ih ⊢
   have hm := ev_maybe [44] r' c1
   unfold maybeP at hm
   have hlen : (acc.map SetE.enc).length = acc.length := by simp
   have hf : ∀ x ∈ acc.map SetE.enc, (vcells x).length = 8 := fun x hx => by obtain ⟨⟨sc, ⟨op, v, var, col, kids⟩⟩, _, rfl⟩ := List.mem_map.1 hx; simp only [SetE.enc, xenc_mk]; rfl
   cases hi : isT [44] r'
   ·rw [hi] at hm
    clear ih
    have e1 : goL part k acc r' = (some acc, r') := by simp [goL, hi]
    rw [e1, prL_some]
    simp only [Bool.false_eq_true, if_false, rdS] at hm
    generalize acc.map SetE.enc = xs at *
    simp [i_again, roundEnd, dropT, cleanV, Tryz.f144, Tryz.ti3, Tryz.ti9, Tryz.ti23, Tryz.ti24, Tryz.ti44, Tryz.ti46, Tryz.ti80, hm, hlen, gc, reach, reachFuel, shut, nodup, List.idxOf, List.findIdx, List.findIdx.go, backR, List.range, List.range.loop, -List.map_tail]
   ·rw [hi] at hm
    have htl := tail_len hi
    have het := ends_tail c1 hi
    obtain ⟨j, rfl⟩ : ∃ j, k = j + 1 := ⟨k - 1, by omega⟩
    rw [go_go part j acc r' hi]
    have h0 := hp r'.tail het (by omega)
    have k0 := hk r'.tail
    simp only [if_true, rdS] at hm
    cases hP : part r'.tail with
    | mk o r2 =>
     rw [hP] at h0 k0
     cases o with
     | none =>
      clear ih
      simp only [thenP, prO_none, prL_none, faultV, rdS] at h0 ⊢
      generalize acc.map SetE.enc = xs at *
      simp [i_again, roundEnd, dropT, cleanV, Tryz.f144, Tryz.ti3, Tryz.ti9, Tryz.ti23, Tryz.ti24, Tryz.ti44, Tryz.ti46, Tryz.ti80, hm, h0, gc, reach, reachFuel, shut, nodup, List.idxOf, List.findIdx, List.findIdx.go, backR, List.range, List.range.loop, -List.map_tail]
     | some e =>
      have k1' : Ends r2 := k0.2 het
      have k2' : r2.length ≤ r'.tail.length := k0.1
      have ih := ih ⟨(j, acc ++ [e], r2), k1', by show r2.length ≤ l.length; omega, by show r2.length ≤ j; omega, by show (acc ++ [e]).length + r2.length ≤ l.length + 1; simp; omega⟩ (by show r2.length < r'.length; omega)
      have hbc : acc.length + 1 ≤ 70368744177664 := by omega
      have hb24 : (acc.length + 1) * 24 ≤ 70368744177664 := by omega
      have hb32 : (acc.length + 1) * 32 ≤ 70368744177664 := by omega
      have hb40 : (acc.length + 1) * 40 ≤ 70368744177664 := by omega
      have hb48 : (acc.length + 1) * 48 ≤ 70368744177664 := by omega
      have hb104 : (acc.length + 1) * 104 ≤ 70368744177664 := by omega
      have hb112 : (acc.length + 1) * 112 ≤ 70368744177664 := by omega
      have hb120 : (acc.length + 1) * 120 ≤ 70368744177664 := by omega
      have hb128 : (acc.length + 1) * 128 ≤ 70368744177664 := by omega
      simp only [thenP, prO_some, rdS] at h0 ⊢
      simp only [List.map_append, List.map_cons, List.map_nil, List.length_append, List.length_cons, List.length_nil] at ih
      obtain ⟨sc, ⟨op, v, var, col, kids⟩⟩ := e
      simp only [SetE.enc, xenc_mk, vcells, s_zero, s_succ, List.set_cons_zero, List.set_cons_succ] at ih h0
      generalize acc.map SetE.enc = xs at *
      simp only [vcells] at hf
      simp +contextual [i_again, roundEnd, dropT, cleanV, Tryz.f144, Tryz.ti3, Tryz.ti9, Tryz.ti23, Tryz.ti24, Tryz.ti44, Tryz.ti46, Tryz.ti80, hm, h0, hlen, hf, hbc, hb24, hb32, hb40, hb48, hb104, hb112, hb120, hb128, ih, gc, reach, reachFuel, shut, nodup, List.idxOf, List.findIdx, List.findIdx.go, backR, List.range, List.range.loop, -List.map_tail]
set_option maxRecDepth 100000 in
set_option maxHeartbeats 4000000 in
theorem ev_list_srcP (fp : FuncId) (part : List Tok → PR Src) (hk : KeepP part) (N : Nat) (hp : ∀ l, Ends l → l.length ≤ N → EV fp [.box 0 0] (rdS l) = prO Src.enc (part l)) (l : List Tok) (he : Ends l) (hN : l.length ≤ N) (hB : l.length ≤ 1000000) :
  EV 147 [.box 0 0, .func fp [.box 0 0] []] (rdS l) = prL Src.enc (listP part (l.length + 1) l) := by
 have h0 := hp l he hN
 have k0 := hk l
 rw [EV_mki rfl Tryz.func147 rfl (by kernel_rfl) rfl, list_go]
 cases hP : part l with
 | mk o r =>
  rw [hP] at h0 k0
  cases o with
  | none =>
   simp only [thenP, prO_none, prL_none, faultV] at h0 ⊢
   simp [Tryz.f147, Tryz.ti3, Tryz.ti9, Tryz.ti25, Tryz.ti84, h0, gc, reach, reachFuel, shut, nodup, List.idxOf, List.findIdx, List.findIdx.go, backR, List.range, List.range.loop, -List.map_tail]
  | some e =>
   simp only [thenP, prO_some] at h0 ⊢
   have k1 : Ends r := k0.2 he
   have k2 : r.length ≤ l.length := k0.1
   have hz : Src.enc e = Src.enc e := rfl
   generalize hL : goL part l.length [e] r = RS
   have hcell : [Src.enc e] = [e].map Src.enc := rfl
   obtain ⟨xs0, hx0⟩ : ∃ xs0, [Src.enc e] = xs0 := ⟨_, rfl⟩
   obtain ⟨sk, st, sv⟩ := e
   simp only [Src.enc, Src.cells] at h0
   simp only [rdS] at h0 ⊢
   simp [Tryz.f147, Tryz.ti3, Tryz.ti9, Tryz.ti25, Tryz.ti84, h0, gc, reach, reachFuel, shut, nodup, List.idxOf, List.findIdx, List.findIdx.go, backR, List.range, List.range.loop, -List.map_tail]
   rw [i_loop (ts := [9, 10, 11, 12, 13, 14, 15])]
   rotate_left
   ·kernel_rfl
   refine i_at2 (fun x : {x : Nat × List Src × List Tok // Ends x.2.2 ∧ x.2.2.length ≤ l.length ∧ x.2.2.length ≤ x.1 ∧ x.2.1.length + x.2.2.length ≤ l.length + 1} => x.1.2.2.length) (fun x env => setV env 5 (.slice (.own 2) (x.1.2.1.map Src.enc))) (fun x st => (st.set 0 [.slice .froz (x.1.2.2.map Tok.enc)]).set 2 [.tip x.1.2.1.length])
    (fun x => prL Src.enc (goL part x.1.1 x.1.2.1 x.1.2.2)) ⟨(l.length, [⟨sk, st, sv⟩], r), k1, k2, k2, by show 1 + r.length ≤ l.length + 1; omega⟩ (by simp [s_zero, s_succ, Src.enc, Src.cells]) (by simp) (by rw [← hL]) ?_
   clear hL h0 hx0 hcell hz k0 hP
   intro ⟨⟨k, acc, r'⟩, c1, c2, c3, c4⟩ ih
   dsimp only at c1 c2 c3 c4 ih ⊢
   have hm := ev_maybe [44] r' c1
   unfold maybeP at hm
   have hlen : (acc.map Src.enc).length = acc.length := by simp
   have hf : ∀ x ∈ acc.map Src.enc, (vcells x).length = 3 := fun x hx => by obtain ⟨y, _, rfl⟩ := List.mem_map.1 hx; rfl
   cases hi : isT [44] r'
   ·rw [hi] at hm
    clear ih
    have e1 : goL part k acc r' = (some acc, r') := by simp [goL, hi]
    rw [e1, prL_some]
    simp only [Bool.false_eq_true, if_false, rdS] at hm
    generalize acc.map Src.enc = xs at *
    simp [i_again, roundEnd, dropT, cleanV, Tryz.f147, Tryz.ti3, Tryz.ti9, Tryz.ti25, Tryz.ti84, hm, hlen, gc, reach, reachFuel, shut, nodup, List.idxOf, List.findIdx, List.findIdx.go, backR, List.range, List.range.loop, -List.map_tail]
   ·rw [hi] at hm
    have htl := tail_len hi
    have het := ends_tail c1 hi
    obtain ⟨j, rfl⟩ : ∃ j, k = j + 1 := ⟨k - 1, by omega⟩
    rw [go_go part j acc r' hi]
    have h0 := hp r'.tail het (by omega)
    have k0 := hk r'.tail
    simp only [if_true, rdS] at hm
    cases hP : part r'.tail with
    | mk o r2 =>
     rw [hP] at h0 k0
     cases o with
     | none =>
      clear ih
      simp only [thenP, prO_none, prL_none, faultV, rdS] at h0 ⊢
      generalize acc.map Src.enc = xs at *
      simp [i_again, roundEnd, dropT, cleanV, Tryz.f147, Tryz.ti3, Tryz.ti9, Tryz.ti25, Tryz.ti84, hm, h0, gc, reach, reachFuel, shut, nodup, List.idxOf, List.findIdx, List.findIdx.go, backR, List.range, List.range.loop, -List.map_tail]
     | some e =>
      have k1' : Ends r2 := k0.2 het
      have k2' : r2.length ≤ r'.tail.length := k0.1
      have ih := ih ⟨(j, acc ++ [e], r2), k1', by show r2.length ≤ l.length; omega, by show r2.length ≤ j; omega, by show (acc ++ [e]).length + r2.length ≤ l.length + 1; simp; omega⟩ (by show r2.length < r'.length; omega)
      have hbc : acc.length + 1 ≤ 70368744177664 := by omega
      have hb24 : (acc.length + 1) * 24 ≤ 70368744177664 := by omega
      have hb32 : (acc.length + 1) * 32 ≤ 70368744177664 := by omega
      have hb40 : (acc.length + 1) * 40 ≤ 70368744177664 := by omega
      have hb48 : (acc.length + 1) * 48 ≤ 70368744177664 := by omega
      have hb104 : (acc.length + 1) * 104 ≤ 70368744177664 := by omega
      have hb112 : (acc.length + 1) * 112 ≤ 70368744177664 := by omega
      have hb120 : (acc.length + 1) * 120 ≤ 70368744177664 := by omega
      have hb128 : (acc.length + 1) * 128 ≤ 70368744177664 := by omega
      simp only [thenP, prO_some, rdS] at h0 ⊢
      simp only [List.map_append, List.map_cons, List.map_nil, List.length_append, List.length_cons, List.length_nil] at ih
      obtain ⟨sk, st, sv⟩ := e
      simp only [Src.enc, Src.cells, s_zero, s_succ, List.set_cons_zero, List.set_cons_succ] at ih h0
      generalize acc.map Src.enc = xs at *
      simp only [vcells] at hf
      simp +contextual [i_again, roundEnd, dropT, cleanV, Tryz.f147, Tryz.ti3, Tryz.ti9, Tryz.ti25, Tryz.ti84, hm, h0, hlen, hf, hbc, hb24, hb32, hb40, hb48, hb104, hb112, hb120, hb128, ih, gc, reach, reachFuel, shut, nodup, List.idxOf, List.findIdx, List.findIdx.go, backR, List.range, List.range.loop, -List.map_tail]
set_option maxRecDepth 100000 in
set_option maxHeartbeats 4000000 in
theorem ev_list_colP (fp : FuncId) (part : List Tok → PR Col) (hk : KeepP part) (N : Nat) (hp : ∀ l, Ends l → l.length ≤ N → EV fp [.box 0 0] (rdS l) = prO Col.enc (part l)) (l : List Tok) (he : Ends l) (hN : l.length ≤ N) (hB : l.length ≤ 1000000) :
  EV 150 [.box 0 0, .func fp [.box 0 0] []] (rdS l) = prL Col.enc (listP part (l.length + 1) l) := by
 have h0 := hp l he hN
 have k0 := hk l
 rw [EV_mki rfl Tryz.func150 rfl (by kernel_rfl) rfl, list_go]
 cases hP : part l with
 | mk o r =>
  rw [hP] at h0 k0
  cases o with
  | none =>
   simp only [thenP, prO_none, prL_none, faultV] at h0 ⊢
   simp [Tryz.f150, Tryz.ti3, Tryz.ti4, Tryz.ti9, Tryz.ti22, Tryz.ti94, h0, gc, reach, reachFuel, shut, nodup, List.idxOf, List.findIdx, List.findIdx.go, backR, List.range, List.range.loop, -List.map_tail]
  | some e =>
   simp only [thenP, prO_some] at h0 ⊢
   have k1 : Ends r := k0.2 he
   have k2 : r.length ≤ l.length := k0.1
   have hz : Col.enc e = Col.enc e := rfl
   generalize hL : goL part l.length [e] r = RS
   have hcell : [Col.enc e] = [e].map Col.enc := rfl
   obtain ⟨xs0, hx0⟩ : ∃ xs0, [Col.enc e] = xs0 := ⟨_, rfl⟩
   obtain ⟨cn, ct, ca, cu⟩ := e
   simp only [Col.enc, Col.cells] at h0
   simp only [rdS] at h0 ⊢
   simp [Tryz.f150, Tryz.ti3, Tryz.ti4, Tryz.ti9, Tryz.ti22, Tryz.ti94, h0, gc, reach, reachFuel, shut, nodup, List.idxOf, List.findIdx, List.findIdx.go, backR, List.range, List.range.loop, -List.map_tail]
   rw [i_loop (ts := [9, 10, 11, 12, 13, 14, 15])]
   rotate_left
   ·kernel_rfl
   refine i_at2 (fun x : {x : Nat × List Col × List Tok // Ends x.2.2 ∧ x.2.2.length ≤ l.length ∧ x.2.2.length ≤ x.1 ∧ x.2.1.length + x.2.2.length ≤ l.length + 1} => x.1.2.2.length) (fun x env => setV env 5 (.slice (.own 2) (x.1.2.1.map Col.enc))) (fun x st => (st.set 0 [.slice .froz (x.1.2.2.map Tok.enc)]).set 2 [.tip x.1.2.1.length])
    (fun x => prL Col.enc (goL part x.1.1 x.1.2.1 x.1.2.2)) ⟨(l.length, [⟨cn, ct, ca, cu⟩], r), k1, k2, k2, by show 1 + r.length ≤ l.length + 1; omega⟩ (by simp [s_zero, s_succ, Col.enc, Col.cells]) (by simp) (by rw [← hL]) ?_
   clear hL h0 hx0 hcell hz k0 hP
   intro ⟨⟨k, acc, r'⟩, c1, c2, c3, c4⟩ ih
   dsimp only at c1 c2 c3 c4 ih ⊢
   have hm := ev_maybe [44] r' c1
   unfold maybeP at hm
   have hlen : (acc.map Col.enc).length = acc.length := by simp
   have hf : ∀ x ∈ acc.map Col.enc, (vcells x).length = 4 := fun x hx => by obtain ⟨y, _, rfl⟩ := List.mem_map.1 hx; rfl
   cases hi : isT [44] r'
   ·rw [hi] at hm
    clear ih
    have e1 : goL part k acc r' = (some acc, r') := by simp [goL, hi]
    rw [e1, prL_some]
    simp only [Bool.false_eq_true, if_false, rdS] at hm
    generalize acc.map Col.enc = xs at *
    simp [i_again, roundEnd, dropT, cleanV, Tryz.f150, Tryz.ti3, Tryz.ti4, Tryz.ti9, Tryz.ti22, Tryz.ti94, hm, hlen, gc, reach, reachFuel, shut, nodup, List.idxOf, List.findIdx, List.findIdx.go, backR, List.range, List.range.loop, -List.map_tail]
   ·rw [hi] at hm
    have htl := tail_len hi
    have het := ends_tail c1 hi
    obtain ⟨j, rfl⟩ : ∃ j, k = j + 1 := ⟨k - 1, by omega⟩
    rw [go_go part j acc r' hi]
    have h0 := hp r'.tail het (by omega)
    have k0 := hk r'.tail
    simp only [if_true, rdS] at hm
    cases hP : part r'.tail with
    | mk o r2 =>
     rw [hP] at h0 k0
     cases o with
     | none =>
      clear ih
      simp only [thenP, prO_none, prL_none, faultV, rdS] at h0 ⊢
      generalize acc.map Col.enc = xs at *
      simp [i_again, roundEnd, dropT, cleanV, Tryz.f150, Tryz.ti3, Tryz.ti4, Tryz.ti9, Tryz.ti22, Tryz.ti94, hm, h0, gc, reach, reachFuel, shut, nodup, List.idxOf, List.findIdx, List.findIdx.go, backR, List.range, List.range.loop, -List.map_tail]
     | some e =>
      have k1' : Ends r2 := k0.2 het
      have k2' : r2.length ≤ r'.tail.length := k0.1
      have ih := ih ⟨(j, acc ++ [e], r2), k1', by show r2.length ≤ l.length; omega, by show r2.length ≤ j; omega, by show (acc ++ [e]).length + r2.length ≤ l.length + 1; simp; omega⟩ (by show r2.length < r'.length; omega)
      have hbc : acc.length + 1 ≤ 70368744177664 := by omega
      have hb24 : (acc.length + 1) * 24 ≤ 70368744177664 := by omega
      have hb32 : (acc.length + 1) * 32 ≤ 70368744177664 := by omega
      have hb40 : (acc.length + 1) * 40 ≤ 70368744177664 := by omega
      have hb48 : (acc.length + 1) * 48 ≤ 70368744177664 := by omega
      have hb104 : (acc.length + 1) * 104 ≤ 70368744177664 := by omega
      have hb112 : (acc.length + 1) * 112 ≤ 70368744177664 := by omega
      have hb120 : (acc.length + 1) * 120 ≤ 70368744177664 := by omega
      have hb128 : (acc.length + 1) * 128 ≤ 70368744177664 := by omega
      simp only [thenP, prO_some, rdS] at h0 ⊢
      simp only [List.map_append, List.map_cons, List.map_nil, List.length_append, List.length_cons, List.length_nil] at ih
      obtain ⟨cn, ct, ca, cu⟩ := e
      simp only [Col.enc, Col.cells, s_zero, s_succ, List.set_cons_zero, List.set_cons_succ] at ih h0
      generalize acc.map Col.enc = xs at *
      simp only [vcells] at hf
      simp +contextual [i_again, roundEnd, dropT, cleanV, Tryz.f150, Tryz.ti3, Tryz.ti4, Tryz.ti9, Tryz.ti22, Tryz.ti94, hm, h0, hlen, hf, hbc, hb24, hb32, hb40, hb48, hb104, hb112, hb120, hb128, ih, gc, reach, reachFuel, shut, nodup, List.idxOf, List.findIdx, List.findIdx.go, backR, List.range, List.range.loop, -List.map_tail]
theorem ev_pwhere (l : List Tok) (he : Ends l) : EV 146 [.box 0 0] (rdS l) = prL Xp.enc (whereP l) := by
 have hm := ev_maybe [87, 72, 69, 82, 69] l he
 unfold maybeP at hm
 rw [EV_mki rfl Tryz.func146 rfl (by kernel_rfl) rfl]
 unfold whereP
 cases hi : isT [87, 72, 69, 82, 69] l
 ·rw [hi] at hm
  simp only [Bool.false_eq_true, if_false, prL_some, rdS] at hm ⊢
  simp [Tryz.f146, Tryz.ti3, Tryz.ti9, Tryz.ti23, Tryz.ti44, Tryz.ti46, hm, gc, reach, reachFuel, shut, nodup, List.idxOf, List.findIdx, List.findIdx.go, backR, List.range, List.range.loop, -List.map_tail]
 ·rw [hi] at hm
  have h0 := ev_or l.tail (ends_tail he hi)
  simp only [if_true, rdS] at hm ⊢
  cases hP : exprP l.tail with
  | mk o r =>
   rw [hP] at h0
   cases o with
   | none =>
    simp only [thenP, prO_none, prL_none, faultV, rdS] at h0 ⊢
    simp [Tryz.f146, Tryz.ti3, Tryz.ti9, Tryz.ti23, Tryz.ti44, Tryz.ti46, hm, h0, gc, reach, reachFuel, shut, nodup, List.idxOf, List.findIdx, List.findIdx.go, backR, List.range, List.range.loop, -List.map_tail]
   | some e =>
    obtain ⟨op, v, var, col, kids⟩ := e
    simp only [thenP, prO_some, prL_some, rdS, xenc_mk, List.map_cons, List.map_nil] at h0 ⊢
    simp [Tryz.f146, Tryz.ti3, Tryz.ti9, Tryz.ti23, Tryz.ti44, Tryz.ti46, hm, h0, gc, reach, reachFuel, shut, nodup, List.idxOf, List.findIdx, List.findIdx.go, backR, List.range, List.range.loop, -List.map_tail]
theorem ev_psource (l : List Tok) (he : Ends l) : EV 148 [.box 0 0] (rdS l) = prO Src.enc (sourceP l) := by
 have h1 := ev_one [[73, 78, 83, 69, 82, 84, 69, 68], [68, 69, 76, 69, 84, 69, 68], [79, 76, 68], [78, 69, 87]] (by simp) l he
 have e1 := @one_ends [[73, 78, 83, 69, 82, 84, 69, 68], [68, 69, 76, 69, 84, 69, 68], [79, 76, 68], [78, 69, 87]] l he
 have z1 := one_zero [[73, 78, 83, 69, 82, 84, 69, 68], [68, 69, 76, 69, 84, 69, 68], [79, 76, 68], [78, 69, 87]] l
 rw [EV_mki rfl Tryz.func148 rfl (by kernel_rfl) rfl]
 unfold sourceP
 cases hon : oneP [[73, 78, 83, 69, 82, 84, 69, 68], [68, 69, 76, 69, 84, 69, 68], [79, 76, 68], [78, 69, 87]] l with
 | mk n r =>
  rw [hon] at h1 e1 z1
  simp only [List.map_cons, List.map_nil, rdS] at h1 ⊢
  have var : ∀ r : List Tok, Ends r → ∃ t q, r = t :: q ∧ EV 97 [.box 0 0] [[.slice .froz (r.map Tok.enc)]] = some (.ret t.enc, [[.slice .froz (r.map Tok.enc)]]) ∧
    ((t.kind = 2 ∧ EV 104 [.box 0 0] [[.slice .froz (r.map Tok.enc)]] = some (.ret (.str t.s), [[.slice .froz (q.map Tok.enc)]]) ∧ varP r = (t.s, q)) ∨ (t.kind ≠ 2 ∧ varP r = ([], r))) := by
   intro r hr
   obtain ⟨t, q, rfl⟩ := ends_cons hr
   refine ⟨t, q, rfl, by simpa using ev_top t q, ?_⟩
   by_cases hk : t.kind = 2
   ·have hn := ev_pname (t :: q) hr
    have en : nameP (t :: q) = (some t.s, q) := by simp [nameP, hk]
    rw [en] at hn
    exact .inl ⟨hk, hn, by simp [varP, hk]⟩
   ·exact .inr ⟨hk, by simp [varP, hk]⟩
  cases n with
  | zero =>
   obtain rfl := z1 rfl
   replace e1 : Ends r := e1
   dsimp only
   have hn := ev_pname r e1
   cases hP : nameP r with
   | mk o r2 =>
    rw [hP] at hn
    have kr := kp_name r
    rw [hP] at kr
    cases o with
    | none =>
     simp only [thenP, prO_none, faultV, rdS] at hn ⊢
     simp [-List.map_tail] at h1
     simp [Tryz.f148, Tryz.ti3, Tryz.ti9, Tryz.ti84, Tryz.ti100, Tryz.ti125, h1, hn, gc, reach, reachFuel, shut, nodup, List.idxOf, List.findIdx, List.findIdx.go, backR, List.range, List.range.loop, -List.map_tail]
    | some tb =>
     obtain ⟨t, q, hq, ht, hc⟩ := var r2 (kr.2 e1)
     simp only [thenP, prO_some, rdS] at hn ⊢
     simp [-List.map_tail] at h1
     obtain ⟨tk, tn, tp, tw⟩ := t
     rw [Tok.enc_eq] at ht
     rcases hc with ⟨hk, hnm, hv⟩ | ⟨hk, hv⟩
     ·rw [hv]
      simp only at hk
      subst hk
      generalize r2.map Tok.enc = ys at *
      simp [Tryz.f148, Tryz.ti3, Tryz.ti9, Tryz.ti84, Tryz.ti100, Tryz.ti125, h1, hn, ht, hnm, Src.enc, Src.cells, gc, reach, reachFuel, shut, nodup, List.idxOf, List.findIdx, List.findIdx.go, backR, List.range, List.range.loop, -List.map_tail]
     ·rw [hv]
      simp only at hk
      generalize r2.map Tok.enc = ys at *
      simp [Tryz.f148, Tryz.ti3, Tryz.ti9, Tryz.ti84, Tryz.ti100, Tryz.ti125, h1, hn, ht, hk, Src.enc, Src.cells, gc, reach, reachFuel, shut, nodup, List.idxOf, List.findIdx, List.findIdx.go, backR, List.range, List.range.loop, -List.map_tail]
  | succ n =>
   obtain ⟨t, q, hq, ht, hc⟩ := var r e1
   have hn0 : ¬ (n : Int) + 1 = 0 := by omega
   simp only [prO_some, rdS]
   simp [-List.map_tail] at h1
   obtain ⟨tk, tn, tp, tw⟩ := t
   rw [Tok.enc_eq] at ht
   rcases hc with ⟨hk, hnm, hv⟩ | ⟨hk, hv⟩
   ·rw [hv]
    simp only at hk
    subst hk
    generalize r.map Tok.enc = ys at *
    simp [Tryz.f148, Tryz.ti3, Tryz.ti9, Tryz.ti84, Tryz.ti100, Tryz.ti125, h1, hn0, ht, hnm, Src.enc, Src.cells, gc, reach, reachFuel, shut, nodup, List.idxOf, List.findIdx, List.findIdx.go, backR, List.range, List.range.loop, -List.map_tail]
   ·rw [hv]
    simp only at hk
    generalize r.map Tok.enc = ys at *
    simp [Tryz.f148, Tryz.ti3, Tryz.ti9, Tryz.ti84, Tryz.ti100, Tryz.ti125, h1, hn0, ht, hk, Src.enc, Src.cells, gc, reach, reachFuel, shut, nodup, List.idxOf, List.findIdx, List.findIdx.go, backR, List.range, List.range.loop, -List.map_tail]
theorem ev_pset (l : List Tok) (he : Ends l) : EV 145 [.box 0 0] (rdS l) = prO SetE.enc (setP l) := by
 have hn := ev_pname l he
 have kn := kp_name l
 rw [EV_mki rfl Tryz.func145 rfl (by kernel_rfl) rfl]
 unfold setP
 cases hP : nameP l with
 | mk o r =>
  rw [hP] at hn kn
  cases o with
  | none =>
   simp only [thenP, prO_none, faultV, rdS] at hn ⊢
   simp [Tryz.f145, Tryz.ti3, Tryz.ti9, Tryz.ti23, Tryz.ti44, Tryz.ti46, Tryz.ti80, Tryz.ti100, hn, gc, reach, reachFuel, shut, nodup, List.idxOf, List.findIdx, List.findIdx.go, backR, List.range, List.range.loop, -List.map_tail]
  | some c =>
   have hm := ev_must1 [61] r (kn.2 he)
   have km := kp_need [61] r
   simp only [thenP, prO_some, rdS] at hn ⊢
   cases hQ : needP [61] r with
   | mk o2 r2 =>
    rw [hQ] at hm km
    cases o2 with
    | none =>
     simp only [prO_none, faultV, rdS] at hm ⊢
     simp [Tryz.f145, Tryz.ti3, Tryz.ti9, Tryz.ti23, Tryz.ti44, Tryz.ti46, Tryz.ti80, Tryz.ti100, hn, hm, gc, reach, reachFuel, shut, nodup, List.idxOf, List.findIdx, List.findIdx.go, backR, List.range, List.range.loop, -List.map_tail]
    | some u =>
     have h0 := ev_or r2 (km.2 (kn.2 he))
     simp only [prO_some, rdS] at hm ⊢
     cases hE : exprP r2 with
     | mk o3 r3 =>
      rw [hE] at h0
      cases o3 with
      | none =>
       simp only [prO_none, faultV, rdS] at h0 ⊢
       simp [Tryz.f145, Tryz.ti3, Tryz.ti9, Tryz.ti23, Tryz.ti44, Tryz.ti46, Tryz.ti80, Tryz.ti100, hn, hm, h0, gc, reach, reachFuel, shut, nodup, List.idxOf, List.findIdx, List.findIdx.go, backR, List.range, List.range.loop, -List.map_tail]
      | some e =>
       obtain ⟨op, v, var, col, kids⟩ := e
       simp only [prO_some, rdS, SetE.enc, xenc_mk, vcells] at h0 ⊢
       simp [Tryz.f145, Tryz.ti3, Tryz.ti9, Tryz.ti23, Tryz.ti44, Tryz.ti46, Tryz.ti80, Tryz.ti100, hn, hm, h0, gc, reach, reachFuel, shut, nodup, List.idxOf, List.findIdx, List.findIdx.go, backR, List.range, List.range.loop, -List.map_tail]
theorem ev_pcolumn (l : List Tok) (he : Ends l) : EV 151 [.box 0 0] (rdS l) = prO Col.enc (columnP l) := by
 have hn := ev_pname l he
 have kn := kp_name l
 rw [EV_mki rfl Tryz.func151 rfl (by kernel_rfl) rfl]
 unfold columnP typeP
 cases hP : nameP l with
 | mk o r =>
  rw [hP] at hn kn
  cases o with
  | none =>
   simp only [thenP, prO_none, faultV, rdS] at hn ⊢
   simp [Tryz.f151, Tryz.ti3, Tryz.ti4, Tryz.ti9, Tryz.ti94, Tryz.ti100, hn, gc, reach, reachFuel, shut, nodup, List.idxOf, List.findIdx, List.findIdx.go, backR, List.range, List.range.loop, -List.map_tail]
  | some c =>
   have hm := ev_oneOf [[66, 79, 79, 76], [73, 78, 84], [84, 69, 88, 84]] (by simp) r (kn.2 he)
   have km := kp_oneOf [[66, 79, 79, 76], [73, 78, 84], [84, 69, 88, 84]] r
   simp only [List.map_cons, List.map_nil] at hm
   simp only [thenP, prO_some, rdS] at hn ⊢
   cases hQ : oneOfP [[66, 79, 79, 76], [73, 78, 84], [84, 69, 88, 84]] r with
   | mk o2 r2 =>
    rw [hQ] at hm km
    cases o2 with
    | none =>
     simp only [prO_none, faultV, rdS] at hm ⊢
     simp [Tryz.f151, Tryz.ti3, Tryz.ti4, Tryz.ti9, Tryz.ti94, Tryz.ti100, hn, hm, gc, reach, reachFuel, shut, nodup, List.idxOf, List.findIdx, List.findIdx.go, backR, List.range, List.range.loop, -List.map_tail]
    | some ty =>
     have e2 : Ends r2 := km.2 (kn.2 he)
     have h3 := ev_maybe [78, 79, 84] r2 e2
     unfold maybeP at h3
     simp only [prO_some, rdS] at hm ⊢
     cases hi : isT [78, 79, 84] r2
     ·rw [hi] at h3
      have h4 := ev_maybe [85, 78, 73, 81, 85, 69] r2 e2
      simp only [Bool.false_eq_true, if_false, rdS, prO_some, Col.enc, Col.cells] at h3 h4 ⊢
      generalize maybeP [85, 78, 73, 81, 85, 69] r2 = q at *
      obtain ⟨qb, qr⟩ := q
      simp [Tryz.f151, Tryz.ti3, Tryz.ti4, Tryz.ti9, Tryz.ti94, Tryz.ti100, hn, hm, h3, h4, gc, reach, reachFuel, shut, nodup, List.idxOf, List.findIdx, List.findIdx.go, backR, List.range, List.range.loop, -List.map_tail]
     ·rw [hi] at h3
      have h5 := ev_must1 [78, 85, 76, 76] r2.tail (ends_tail e2 hi)
      have k5 := kp_need [78, 85, 76, 76] r2.tail
      simp only [if_true, rdS] at h3 ⊢
      cases hR : needP [78, 85, 76, 76] r2.tail with
      | mk o4 r4 =>
       rw [hR] at h5 k5
       cases o4 with
       | none =>
        simp only [prO_none, faultV, rdS] at h5 ⊢
        simp [Tryz.f151, Tryz.ti3, Tryz.ti4, Tryz.ti9, Tryz.ti94, Tryz.ti100, hn, hm, h3, h5, gc, reach, reachFuel, shut, nodup, List.idxOf, List.findIdx, List.findIdx.go, backR, List.range, List.range.loop, -List.map_tail]
       | some u =>
        have h4 := ev_maybe [85, 78, 73, 81, 85, 69] r4 (k5.2 (ends_tail e2 hi))
        simp only [rdS, prO_some, Col.enc, Col.cells] at h5 h4 ⊢
        generalize maybeP [85, 78, 73, 81, 85, 69] r4 = q at *
        obtain ⟨qb, qr⟩ := q
        simp [Tryz.f151, Tryz.ti3, Tryz.ti4, Tryz.ti9, Tryz.ti94, Tryz.ti100, hn, hm, h3, h5, h4, gc, reach, reachFuel, shut, nodup, List.idxOf, List.findIdx, List.findIdx.go, backR, List.range, List.range.loop, -List.map_tail]
end Go.Abs
