/- Plain: a statement that is read is within bounds. -/
import Derived.Test.YtpmeklllgnnffaaGreatDoorP23
import Derived.Test.YtpmeklllgnnffaaGreatDoorP25
import Derived.Test.YtpmeklllgnnffaaGreatDoorP17
set_option linter.unusedSimpArgs false
set_option linter.unusedVariables false

namespace Go.Abs
set_option linter.unusedSimpArgs false
set_option linter.unusedVariables false
open Go
theorem maybe_then {α : Type} {Q : α → Prop} {s : List UInt8} {f : Bool → List Tok → PR α} (h : ∀ b, OkP Q (f b)) : OkP Q (fun l => f (maybeP s l).1 (maybeP s l).2) := fun l hl => h _ _ (maybe_ok s l hl)
theorem op_column : OkP Col.ok columnP := by
  refine op_then op_name fun n hn => op_then (op_oneOf _) fun t ht => ?_
  simp only [List.length_cons, List.length_nil] at ht
  refine op_if (A := fun r => thenP (needP [78, 85, 76, 76] r) fun _ r => (some (⟨n, t, true, (maybeP [85, 78, 73, 81, 85, 69] r).1⟩ : Col), (maybeP [85, 78, 73, 81, 85, 69] r).2)) (op_then (op_need _) fun _ _ l hl => ?_) fun l hl => ?_
  · exact ⟨maybe_ok _ l hl, fun a ha => by cases ha; exact ⟨hn, inIk (by show (-100 : Int) ≤ (t : Int); omega) (by show (t : Int) ≤ 100; omega)⟩⟩
  · exact ⟨maybe_ok _ l hl, fun a ha => by cases ha; exact ⟨hn, inIk (by show (-100 : Int) ≤ (t : Int); omega) (by show (t : Int) ≤ 100; omega)⟩⟩
theorem op_num : OkP inI numP := by
  intro l hl
  cases l with
  | nil => exact ⟨hl, fun a ha => by cases ha⟩
  | cons t r =>
    simp only [numP]
    split
    · exact ⟨tb_next hl, fun a ha => by cases ha; exact (hl.2 t (.head _)).1⟩
    · exact ⟨hl, fun a ha => by cases ha⟩
def ActsQ (n : Nat) (xs : List Stm) : Prop := Stm.oks xs ∧ xs.length ≤ n
theorem op_acts : ∀ n, OkP (ActsQ n) (actsP n)
  | 0 => op_none
  | n + 1 => by
    refine op_then op_act fun o ho => ?_
    cases o with
    | none => exact op_none
    | some b =>
      have hb := ho b rfl
      have h1 : (Stm.mk b []).ok := ⟨hb, by simp, trivial⟩
      exact op_if (A := fun r => thenP (actsP n r) fun xs r' => (some (Stm.mk b [] :: xs), r')) (op_then (op_acts n) fun xs hx => op_ret ⟨⟨h1, hx.1⟩, by simpa using hx.2⟩) (op_ret ⟨⟨h1, trivial⟩, by simp⟩)
theorem op_when : OkP (fun p : List Src × List Xp => Lst Src.ok p.1 ∧ Lst Xp.ok p.2) whenP := by
  refine op_then (op_oneOf _) fun n _ => ?_
  by_cases h : n = 2
  · simp only [if_pos h]
    exact op_then (op_lst op_source) fun ss hs => op_then op_where fun w hw => op_ret ⟨hs, hw⟩
  · simp only [if_neg h]
    exact op_ret ⟨lst_nil, lst_nil⟩
theorem op_do : OkP (fun o : Option (List Stm) => Stm.oks (o.getD []) ∧ (o.getD []).length ≤ 1048576) doP := by
  refine op_then (op_need _) fun _ _ => op_if (A := fun r => (some none, r)) (op_ret ⟨trivial, by simp⟩) fun l hl => ?_
  obtain ⟨h1, h2⟩ := op_acts (l.length + 1) l hl
  exact op_then (Q := ActsQ (l.length + 1)) (P := actsP (l.length + 1)) (f := fun xs r => thenP (needP [69, 78, 68] r) fun _ r => (some (some xs), r)) (op_acts _) (fun xs hx => op_then (op_need _) fun _ _ => op_ret (show Stm.oks ((some xs).getD []) ∧ ((some xs).getD []).length ≤ 1048576 from ⟨hx.1, by have := hx.2; have := hl.1; simp only [Option.getD]; omega⟩)) l hl
theorem op_rule (n : List UInt8) (hn : Sm n) : OkP Stm.ok (ruleP n) := by
  refine op_then (op_need _) fun _ _ => op_then op_num fun p hp => op_then (op_need _) fun _ _ => op_then (op_oneOf _) fun e he => op_then (op_need _) fun _ _ => op_then op_name fun t ht => ?_
  simp only [List.length_cons, List.length_nil] at he
  refine maybe_then (f := fun df r => thenP (whenP r) fun w r' => thenP (doP r') fun d r' => (some (Stm.mk { StB.zero with kind := 8, name := n, table := t, src := w.1, wher := w.2, prio := p, event := e, deferred := df, rolls := d.isNone } (d.getD [])), r')) fun df => ?_
  refine op_then op_when fun w hw => op_then op_do fun d hd => op_ret ⟨?_, hd.2, hd.1⟩
  exact { zb_ok with kind := inIk (by simp) (by simp), name := hn, table := ht, src := hw.1, wher := hw.2, prio := hp, event := inIk (by show (-100 : Int) ≤ (e : Int); omega) (by show (e : Int) ≤ 100; omega) }
theorem op_create : OkP Stm.ok createP := by
  refine op_then (op_oneOf _) fun k _ => op_then op_name fun n hn => ?_
  by_cases h1 : k = 1
  · simp only [if_pos h1]
    exact op_then (op_need _) fun _ _ => op_then (op_lst op_column) fun cs hc => op_then (op_need _) fun _ _ => op_ret ⟨{ zb_ok with kind := inIk (by simp) (by simp), name := hn, cols := hc }, by simp, trivial⟩
  · by_cases h2 : k = 2
    · simp only [if_neg h1, if_pos h2]
      exact op_then (op_need _) fun _ _ => op_then op_name fun t ht => op_then (op_need _) fun _ _ => op_then op_name fun c hc => op_then (op_need _) fun _ _ => op_ret ⟨{ zb_ok with kind := inIk (by simp) (by simp), name := hn, table := ht, col := hc }, by simp, trivial⟩
    · simp only [if_neg h1, if_neg h2]
      exact op_rule n hn
theorem op_drop : OkP Stm.ok dropP := by
  refine op_then (op_oneOf _) fun k hk => op_then op_name fun n hn => op_ret ⟨?_, by simp, trivial⟩
  simp only [List.length_cons, List.length_nil] at hk
  exact { zb_ok with kind := inIk (by show (-100 : Int) ≤ 8 + (k : Int); omega) (by show 8 + (k : Int) ≤ 100; omega), name := hn }
theorem op_small (k : Nat) (hk : k ≤ 7) : OkP Stm.ok (smallP k) := by
  unfold smallP
  by_cases h1 : k ≤ 3
  · simp only [if_pos h1]; exact op_ret ⟨{ zb_ok with kind := inIk (by show (-100 : Int) ≤ (k : Int); omega) (by show (k : Int) ≤ 100; omega) }, by simp, trivial⟩
  by_cases h2 : k = 4
  · simp only [if_neg h1, if_pos h2]; exact op_then op_name fun n hn => op_ret ⟨{ zb_ok with kind := inIk (by simp) (by simp), name := hn }, by simp, trivial⟩
  by_cases h3 : k = 5
  · simp only [if_neg h1, if_neg h2, if_pos h3]; exact op_then (op_need _) fun _ _ => op_then op_name fun n hn => op_ret ⟨{ zb_ok with kind := inIk (by simp) (by simp), name := hn }, by simp, trivial⟩
  by_cases h4 : k = 6
  · simp only [if_neg h1, if_neg h2, if_neg h3, if_pos h4]; exact op_create
  · simp only [if_neg h1, if_neg h2, if_neg h3, if_neg h4]; exact op_drop
theorem op_stmt : OkP Stm.ok stmtP := op_then op_act fun o ho => by
  cases o with
  | some b => exact op_ret ⟨ho b rfl, by simp, trivial⟩
  | none =>
    intro l hl
    simp only
    cases isT [83, 69, 76, 69, 67, 84] l
    · simp only [Bool.false_eq_true, if_false]
      exact op_then (op_oneOf _) (fun k hk => op_small k (by simpa using hk)) l hl
    · simp only [if_true]
      exact op_then op_query (fun q hq => op_ret ⟨{ zb_ok with kind := inIk (by simp) (by simp), items := hq.items, src := hq.src, wher := hq.wher }, by simp, trivial⟩) l hl
theorem parse_okS (s : List UInt8) : (parseS s).1.ok := by
  unfold parseS readP
  have hz : Stm.zero.ok := ⟨zb_ok, by simp, trivial⟩
  split
  · exact hz
  · rename_i hl
    cases ht : toksS (s.length + 1) 0 s with
    | error e => exact hz
    | ok l =>
      dsimp only
      have := (op_stmt l (toks_tsm (by omega) ht)).2
      cases hP : stmtP l with
      | mk o r =>
        cases o with
        | none => exact hz
        | some e =>
          dsimp only
          split
          · split
            · exact this e (by rw [hP])
            · exact hz
          · exact hz
end Go.Abs
namespace Go.Abs
set_option linter.unusedSimpArgs false
set_option linter.unusedVariables false
open Go Go.Proofs
attribute [local simp] i_nil i_blk i_skip i_ret i_exit i_seq i_block i_cond i_region' i_ops_nil i_ops i_drawn' k_none k_0 k_1 k_2 k_3 k_4 k_5 d_in a_nil a_cons alt1 h_nil h_one h_two z_nil z_cons z_cells zeqL zeq q_alloc q_some nxtN i_drh d_hi i_drw_nil i_drw u_nil u_code u_ops u_drw u_lp u_again u_exit u_ret u_panic c_bool o_some o_val o_panic d_some d_val d_panic w_none w_fast wantG q_nil q_zero q_succ t_zero t_succ g_zero g_succ s_zero s_succ s_some s_none v_tmp v_const v_func f_quiet gc_none gc_pure wrap_i64 p_move p_assign p_pick p_alloc p_box p_build p_buildSlice p_load p_store p_nilCheck p_binOp n_tmp n_int n_bool n_str n_ptr n_fun n_iface nilCmp p_unOp p_convert p_makeSlice p_makeInterface p_makeFunc p_slice p_fieldAddr p_field p_indexAddr p_index p_extract p_callv p_callb p_panic quiet_val new_val e_assign e_call e_load e_store e_alloc e_box e_move e_pick e_build e_buildSlice e_nilCheck e_binOp e_unOp e_convert e_makeSlice e_makeInterface e_makeFunc e_slice e_fieldAddr e_field e_indexAddr e_index e_extract e_panic callD fpRead adoptZ fulls adopt adoptL ofValue ofScalar binOpV unOpV intBin strBin eqRes veq veqF eqDepth val? finish resL r_tmp r_cell normL normTop tipIs refsL refs ownRefs single frz frzL ren renL renOwn callOp doCall backR writeBack builtinV loadV storeV storeW iceT cellsAt takeV D.isAgg overlay vcells cellOk fieldAddrV indexAddrV fieldV partV indexV buildV fillV buildSliceV litElems appendV appElems elemOk convertV convV winStr makeSliceV sliceV natOf
attribute [local simp ↓] brB_true brB_false brB_dec brB_not brB_and brB_or brB_beq brB_bne
set_option maxRecDepth 100000 in
theorem ev_parse1 (l : List Tok) (he : Ends l) (hn : l.length ≤ 100000) : EV 70 [.box 0 0, .box 1 0] [[.slice .froz (l.map Tok.enc)], stZ 0 [] .full] =
  match stmtP l with
  | (some e, r) => some (.ret (.tup []), [[.slice .froz (r.map Tok.enc)], vcells e.enc])
  | (none, r) => some (.panic (faultV (topAt r)), [[.slice .froz (r.map Tok.enc)], stZ 0 [] .full]) := by
 have h0 := ev_pstmt l he hn
 rw [EV_mki rfl Tryz.func70 rfl (by kernel_rfl) rfl]
 unfold stZ
 cases hP : stmtP l with
 | mk o r =>
  rw [hP] at h0
  cases o with
  | none =>
   simp only [prO_none, faultV, rdS] at h0 ⊢
   simp [Tryz.f70, Tryz.ti3, Tryz.ti4, Tryz.ti9, Tryz.ti22, Tryz.ti23, Tryz.ti24, Tryz.ti25, Tryz.ti26, Tryz.ti28, Tryz.ti44, Tryz.ti46, Tryz.ti80, Tryz.ti84, Tryz.ti94, h0, gc, reach, reachFuel, shut, nodup, List.idxOf, List.findIdx, List.findIdx.go, backR, List.range, List.range.loop, -List.map_tail]
  | some e =>
   obtain ⟨⟨kind, name, table, col, cols, values, items, wher, sets, src, prio, event, deferred, rolls⟩, acts⟩ := e
   simp only [prO_some, rdS, senc_mk, vcells] at h0 ⊢
   simp [Tryz.f70, Tryz.ti3, Tryz.ti4, Tryz.ti9, Tryz.ti22, Tryz.ti23, Tryz.ti24, Tryz.ti25, Tryz.ti26, Tryz.ti28, Tryz.ti44, Tryz.ti46, Tryz.ti80, Tryz.ti84, Tryz.ti94, h0, gc, reach, reachFuel, shut, nodup, List.idxOf, List.findIdx, List.findIdx.go, backR, List.range, List.range.loop, -List.map_tail]
theorem ev_parse2 (e : Stm) (ho : e.ok) : EV 72 [.box 0 0] [vcells e.enc] = some (.ret (.bool (rightStm e)), [vcells e.enc]) := by
 have h0 := ev_rightstm e ho
 rw [EV_mki rfl Tryz.func72 rfl (by kernel_rfl) rfl]
 obtain ⟨⟨kind, name, table, col, cols, values, items, wher, sets, src, prio, event, deferred, rolls⟩, acts⟩ := e
 simp only [senc_mk, vcells] at h0 ⊢
 simp [Tryz.f72, Tryz.ti3, Tryz.ti4, Tryz.ti9, Tryz.ti22, Tryz.ti23, Tryz.ti24, Tryz.ti25, Tryz.ti26, Tryz.ti28, Tryz.ti44, Tryz.ti46, Tryz.ti80, Tryz.ti84, Tryz.ti94, h0, gc, reach, reachFuel, shut, nodup, List.idxOf, List.findIdx, List.findIdx.go, backR, List.range, List.range.loop, -List.map_tail]
def rdT (x : List V) (l : List Tok) : St := [[.func 70 [] [.box 1 0]], x, [.box 3 0], [.slice .froz (l.map Tok.enc)], [.func 72 [] [.box 1 0]]]
def rdSO (l : List Tok) : Option (Out × St) :=
 match stmtP l with
 | (none, r) => some (.panic (kindV 1 (topAt r)), rdT (stZ 0 [] .full) r)
 | (some e, r) => if topK r = 0 then (if rightStm e = true then some (.ret (.tup []), rdT (vcells e.enc) r) else some (.panic (kindV 8 0), rdT (vcells e.enc) r)) else some (.panic (kindV 1 (topAt r)), rdT (vcells e.enc) r)
set_option maxRecDepth 100000 in
theorem ev_read1T (l : List Tok) (he : Ends l) (hn : l.length ≤ 100000) (hok : ∀ e r, stmtP l = (some e, r) → e.ok) : EV 96 [.box 0 0, .box 2 0, .box 4 0] (rdT (stZ 0 [] .full) l) = rdSO l := by
 have h1 := ev_parse1 l he hn
 have k0 := kp_stmt l
 rw [EV_mki rfl Tryz.func96 rfl (by kernel_rfl) rfl]
 unfold rdSO rdT stZ at *
 cases hP : stmtP l with
 | mk o r =>
  rw [hP] at h1 k0
  cases o with
  | none =>
   simp only [faultV] at h1
   simp [Tryz.f96, Tryz.ti3, Tryz.ti9, Tryz.ti29, Tryz.ti64, Tryz.ti109, Tryz.ti111, Tryz.ti125, Tryz.ti141, h1, kindV, gc, reach, reachFuel, shut, nodup, List.idxOf, List.findIdx, List.findIdx.go, backR, List.range, List.range.loop, -List.map_tail]
  | some e =>
   have e1 : Ends r := k0.2 he
   obtain ⟨t, q, rfl⟩ := ends_cons e1
   have h2 := ev_top t q
   have h3 := ev_no t q
   have h4 := ev_parse2 e (hok e _ hP)
   have h5 := ev_check 8
   obtain ⟨⟨kind, name, table, col, cols, values, items, wher, sets, src, prio, event, deferred, rolls⟩, acts⟩ := e
   obtain ⟨tk, tn, tp, tw⟩ := t
   simp only [faultV] at h3
   simp at h5
   simp only [senc_mk, vcells] at h1 h4 ⊢
   simp only [topK, topAt, List.map_cons, Tok.enc_eq] at h1 h2 h3 ⊢
   generalize q.map Tok.enc = xs at *
   by_cases hk : tk = 0
   ·subst hk
    cases hR : rightStm (.mk ⟨kind, name, table, col, cols, values, items, wher, sets, src, prio, event, deferred, rolls⟩ acts)
    ·rw [hR] at h4
     simp [Tryz.f96, Tryz.ti3, Tryz.ti9, Tryz.ti29, Tryz.ti64, Tryz.ti109, Tryz.ti111, Tryz.ti125, Tryz.ti141, h1, h2, h3, h4, h5, kindV, gc, reach, reachFuel, shut, nodup, List.idxOf, List.findIdx, List.findIdx.go, backR, List.range, List.range.loop, -List.map_tail]
    ·rw [hR] at h4
     simp [Tryz.f96, Tryz.ti3, Tryz.ti9, Tryz.ti29, Tryz.ti64, Tryz.ti109, Tryz.ti111, Tryz.ti125, Tryz.ti141, h1, h2, h3, h4, kindV, gc, reach, reachFuel, shut, nodup, List.idxOf, List.findIdx, List.findIdx.go, backR, List.range, List.range.loop, -List.map_tail]
   ·simp [Tryz.f96, Tryz.ti3, Tryz.ti9, Tryz.ti29, Tryz.ti64, Tryz.ti109, Tryz.ti111, Tryz.ti125, Tryz.ti141, h1, h2, h3, hk, kindV, gc, reach, reachFuel, shut, nodup, List.idxOf, List.findIdx, List.findIdx.go, backR, List.range, List.range.loop, -List.map_tail]
def readSS (s : List UInt8) : Option Stm × Int × Int :=
 if 2000 < s.length then (none, 8, 0) else match toksS (s.length + 1) 0 s with
  | .error e => (none, 1, e)
  | .ok l => match stmtP l with
   | (none, r) => (none, 1, topAt r)
   | (some e, r) => if topK r = 0 then (if rightStm e = true then (some e, 0, 0) else (some e, 8, 0)) else (some e, 1, topAt r)
def cellT (o : Option Stm) (z : List V) : List V := o.elim z fun e => vcells e.enc
def catT (l : List Tok) : Option (Out × St) :=
 match stmtP l with
 | (none, r) => some (.ret (errV 1 (topAt r)), rdT (stZ 0 [] .full) r)
 | (some e, r) => if topK r = 0 then (if rightStm e = true then some (.ret (errV 0 0), rdT (vcells e.enc) r) else some (.ret (errV 8 0), rdT (vcells e.enc) r)) else some (.ret (errV 1 (topAt r)), rdT (vcells e.enc) r)
set_option maxRecDepth 100000 in
theorem ev_catchT (l : List Tok) (he : Ends l) (ht : TSs l) : EV 75 [.func 96 [] [.box 0 0, .box 2 0, .box 4 0]] (rdT (stZ 0 [] .full) l) = catT l := by
 have h := ev_read1T l he ht.1 (fun e r hx => ((op_stmt l ht).2 e (by rw [hx])))
 rw [ev_grab]
 unfold rdSO kindV at h
 unfold catT errV
 cases hP : stmtP l with
 | mk o r =>
  rw [hP] at h
  cases o with
  | none =>
   unfold rdT stZ at *
   simp only at h ⊢
   simp [primRun, reach, reachFuel, shut, nodup, List.idxOf, List.findIdx, List.findIdx.go, h, catchRes, gc, List.range, List.range.loop, backR]
  | some e =>
   obtain ⟨⟨kind, name, table, col, cols, values, items, wher, sets, src, prio, event, deferred, rolls⟩, acts⟩ := e
   unfold rdT stZ at *
   simp only [senc_mk, vcells] at h ⊢
   split at h <;> rename_i hk
   ·rw [if_pos hk]
    split at h <;> rename_i hR
    ·rw [if_pos hR]
     simp [primRun, reach, reachFuel, shut, nodup, List.idxOf, List.findIdx, List.findIdx.go, h, catchRes, gc, List.range, List.range.loop, backR]
    ·rw [if_neg hR]
     simp [primRun, reach, reachFuel, shut, nodup, List.idxOf, List.findIdx, List.findIdx.go, h, catchRes, gc, List.range, List.range.loop, backR]
   ·rw [if_neg hk]
    simp [primRun, reach, reachFuel, shut, nodup, List.idxOf, List.findIdx, List.findIdx.go, h, catchRes, gc, List.range, List.range.loop, backR]
set_option maxRecDepth 100000 in
theorem ev_readT (s : List UInt8) : EV 69 [.str s, .func 70 [] [.box 0 0], .func 72 [] [.box 0 0]] [stZ 0 [] .full] =
  some (.ret (errV (readSS s).2.1 (readSS s).2.2), [cellT (readSS s).1 (stZ 0 [] .full)]) := by
 rw [EV_mki rfl Tryz.func69 rfl (by kernel_rfl) rfl]
 unfold readSS
 by_cases hl : 2000 < s.length
 ·have hl' : 2000 < (s.length : Int) := by omega
  simp only [hl, if_true, cellT, Option.elim, errV, stZ]
  simp [Tryz.f69, Tryz.ti3, Tryz.ti9, Tryz.ti29, Tryz.ti56, Tryz.ti58, Tryz.ti64, Tryz.ti109, Tryz.ti111, Tryz.ti125, Tryz.ti141, hl', gc, reach, reachFuel, shut, nodup, List.idxOf, List.findIdx, List.findIdx.go, backR, List.range, List.range.loop, -List.map_tail]
 ·have hl' : ¬ 2000 < (s.length : Int) := by omega
  have h1 := ev_tokens s (by omega)
  simp only [hl, if_false]
  cases ht : toksS (s.length + 1) 0 s with
  | error e =>
   rw [ht] at h1
   simp only [toksO] at h1
   simp only [cellT, Option.elim, errV, stZ]
   simp [Tryz.f69, Tryz.ti3, Tryz.ti9, Tryz.ti29, Tryz.ti56, Tryz.ti58, Tryz.ti64, Tryz.ti109, Tryz.ti111, Tryz.ti125, Tryz.ti141, h1, hl', gc, reach, reachFuel, shut, nodup, List.idxOf, List.findIdx, List.findIdx.go, backR, List.range, List.range.loop, -List.map_tail]
  | ok l =>
   rw [ht] at h1
   have hc := ev_catchT l (toks_ends ht) (toks_tsm (by omega) ht)
   simp only [toksO] at h1
   unfold catT at hc
   simp only
   cases hP : stmtP l with
   | mk o r =>
    rw [hP] at hc
    cases o with
    | none =>
     unfold rdT stZ errV at *
     simp only [cellT, Option.elim] at hc ⊢
     simp [Tryz.f69, Tryz.ti3, Tryz.ti9, Tryz.ti29, Tryz.ti56, Tryz.ti58, Tryz.ti64, Tryz.ti109, Tryz.ti111, Tryz.ti125, Tryz.ti141, h1, hl', hc, gc, reach, reachFuel, shut, nodup, List.idxOf, List.findIdx, List.findIdx.go, backR, List.range, List.range.loop, -List.map_tail]
    | some e =>
     obtain ⟨⟨kind, name, table, col, cols, values, items, wher, sets, src, prio, event, deferred, rolls⟩, acts⟩ := e
     unfold rdT stZ errV at *
     simp only [senc_mk, vcells] at hc ⊢
     split at hc <;> rename_i hk
     ·rw [if_pos hk]
      split at hc <;> rename_i hR
      ·rw [if_pos hR]
       simp only [cellT, Option.elim, senc_mk, vcells]
       simp [Tryz.f69, Tryz.ti3, Tryz.ti9, Tryz.ti29, Tryz.ti56, Tryz.ti58, Tryz.ti64, Tryz.ti109, Tryz.ti111, Tryz.ti125, Tryz.ti141, h1, hl', hc, gc, reach, reachFuel, shut, nodup, List.idxOf, List.findIdx, List.findIdx.go, backR, List.range, List.range.loop, -List.map_tail]
      ·rw [if_neg hR]
       simp only [cellT, Option.elim, senc_mk, vcells]
       simp [Tryz.f69, Tryz.ti3, Tryz.ti9, Tryz.ti29, Tryz.ti56, Tryz.ti58, Tryz.ti64, Tryz.ti109, Tryz.ti111, Tryz.ti125, Tryz.ti141, h1, hl', hc, gc, reach, reachFuel, shut, nodup, List.idxOf, List.findIdx, List.findIdx.go, backR, List.range, List.range.loop, -List.map_tail]
     ·rw [if_neg hk]
      simp only [cellT, Option.elim, senc_mk, vcells]
      simp [Tryz.f69, Tryz.ti3, Tryz.ti9, Tryz.ti29, Tryz.ti56, Tryz.ti58, Tryz.ti64, Tryz.ti109, Tryz.ti111, Tryz.ti125, Tryz.ti141, h1, hl', hc, gc, reach, reachFuel, shut, nodup, List.idxOf, List.findIdx, List.findIdx.go, backR, List.range, List.range.loop, -List.map_tail]
theorem readT_parse (s : List UInt8) : (∃ e, readSS s = (some e, 0, 0) ∧ parseS s = (e, 0, 0)) ∨ (∃ o k q, readSS s = (o, k, q) ∧ k ≠ 0 ∧ parseS s = (Stm.zero, k, q)) := by
 unfold readSS parseS readP
 by_cases hl : 2000 < s.length
 ·exact .inr ⟨none, 8, 0, by simp [hl], by decide, by simp [hl]⟩
 ·simp only [hl, if_false]
  cases toksS (s.length + 1) 0 s with
  | error e => exact .inr ⟨none, 1, e, rfl, by decide, rfl⟩
  | ok l =>
   simp only
   cases stmtP l with
   | mk o r =>
    cases o with
    | none => exact .inr ⟨none, 1, topAt r, rfl, by decide, rfl⟩
    | some e =>
     simp only
     by_cases hk : topK r = 0
     ·by_cases hR : rightStm e = true
      ·exact .inl ⟨e, by simp [hk, hR], by simp [hk, hR]⟩
      ·exact .inr ⟨some e, 8, 0, by simp [hk, hR], by decide, by simp [hk, hR]⟩
     ·exact .inr ⟨some e, 1, topAt r, by simp [hk], by decide, by simp [hk]⟩
def stmO (s : List UInt8) : Option (Out × St) := some (.ret (.tup [(parseS s).1.enc, errV (parseS s).2.1 (parseS s).2.2]), [])
set_option maxRecDepth 100000 in
theorem ev_pparse (s : List UInt8) : EV 28 [.str s] [] = stmO s := by
 have h1 := ev_readT s
 rw [EV_mki rfl Tryz.func28 rfl (by kernel_rfl) rfl]
 unfold stmO
 rcases readT_parse s with ⟨e, hr, hp⟩ | ⟨o, k, q, hr, hk, hp⟩
 ·rw [hr] at h1
  rw [hp]
  obtain ⟨⟨kind, name, table, col, cols, values, items, wher, sets, src, prio, event, deferred, rolls⟩, acts⟩ := e
  simp only [cellT, Option.elim, senc_mk, vcells, errV, stZ] at h1 ⊢
  simp [Tryz.f28, Tryz.ti3, Tryz.ti4, Tryz.ti9, Tryz.ti22, Tryz.ti23, Tryz.ti24, Tryz.ti25, Tryz.ti26, Tryz.ti28, Tryz.ti44, Tryz.ti46, Tryz.ti56, Tryz.ti58, Tryz.ti80, Tryz.ti84, Tryz.ti94, h1, gc, reach, reachFuel, shut, nodup, List.idxOf, List.findIdx, List.findIdx.go, backR, List.range, List.range.loop, -List.map_tail] <;> first | (refine panQ_of ?_; decide +kernel) | (change _ = true; decide +kernel) | kernel_rfl | (refine ⟨?_, ?_⟩ <;> first | (change _ = true; decide +kernel) | kernel_rfl)
 ·rw [hr] at h1
  rw [hp]
  cases o with
  | none =>
   simp only [cellT, Option.elim, senc_mk, vcells, errV, stZ, Stm.zero, StB.zero, List.map_nil] at h1 ⊢
   simp [Tryz.f28, Tryz.ti3, Tryz.ti4, Tryz.ti9, Tryz.ti22, Tryz.ti23, Tryz.ti24, Tryz.ti25, Tryz.ti26, Tryz.ti28, Tryz.ti44, Tryz.ti46, Tryz.ti56, Tryz.ti58, Tryz.ti80, Tryz.ti84, Tryz.ti94, h1, hk, gc, reach, reachFuel, shut, nodup, List.idxOf, List.findIdx, List.findIdx.go, backR, List.range, List.range.loop, -List.map_tail] <;> first | (refine panQ_of ?_; decide +kernel) | (change _ = true; decide +kernel) | kernel_rfl | (refine ⟨?_, ?_⟩ <;> first | (change _ = true; decide +kernel) | kernel_rfl)
  | some e =>
   obtain ⟨⟨kind, name, table, col, cols, values, items, wher, sets, src, prio, event, deferred, rolls⟩, acts⟩ := e
   simp only [cellT, Option.elim, senc_mk, vcells, errV, stZ, Stm.zero, StB.zero, List.map_nil] at h1 ⊢
   simp [Tryz.f28, Tryz.ti3, Tryz.ti4, Tryz.ti9, Tryz.ti22, Tryz.ti23, Tryz.ti24, Tryz.ti25, Tryz.ti26, Tryz.ti28, Tryz.ti44, Tryz.ti46, Tryz.ti56, Tryz.ti58, Tryz.ti80, Tryz.ti84, Tryz.ti94, h1, hk, gc, reach, reachFuel, shut, nodup, List.idxOf, List.findIdx, List.findIdx.go, backR, List.range, List.range.loop, -List.map_tail] <;> first | (refine panQ_of ?_; decide +kernel) | (change _ = true; decide +kernel) | kernel_rfl | (refine ⟨?_, ?_⟩ <;> first | (change _ = true; decide +kernel) | kernel_rfl)
theorem from_parts {src : List Src} {wher : List Xp} {least : Int} (h : rightFromS src wher least = true) : (∀ x ∈ src, rightSrc x = true) ∧ src.length ≤ 3 ∧ least ≤ (src.length : Int) ∧ rightsE wher 0 1 = true := by
  simp only [rightFromS, Bool.and_eq_true, List.all_eq_true, decide_eq_true_eq] at h
  obtain ⟨h1, h2, h3, h4⟩ := h
  refine ⟨h1, by omega, h2, ?_⟩
  simp only [rightsE, Bool.and_eq_true, List.all_eq_true, decide_eq_true_eq] at h4 ⊢
  refine ⟨h4.1, h4.2.1, ?_⟩
  have := h4.2.2
  split at this <;> omega
theorem ev_srcs {src : List Src} (h : ∀ x ∈ src, rightSrc x = true) (hl : src.length ≤ 3) : EV 90 [.slice .froz (src.map Src.enc), .func 91 [] []] [] = some (.ret (.str (commaS (src.map showSrcS))), []) ∧ (commaS (src.map showSrcS)).length ≤ 1000000002000 :=
  ⟨ev_list_src showSrcS src (by omega) (fun x hx => (ev_showsource x (h x hx)).1) (fun x hx => by have := (ev_showsource x (h x hx)).2; omega),
   comma_len _ (by simp; omega) (fun x hx => by obtain ⟨y, hy, rfl⟩ := List.mem_map.1 hx; have := (ev_showsource y (h y hy)).2; omega)⟩
theorem ev_xps {l : List Xp} (h : ∀ x ∈ l, rightE 20 x = true) (ho : ∀ x ∈ l, x.ok) (hl : l.length ≤ 1000) : EV 53 [.slice .froz (l.map Xp.enc), .func 54 [] []] [] = some (.ret (.str (commaS (l.map showE))), []) ∧ (commaS (l.map showE)).length ≤ 1000000002000 :=
  ⟨ev_list_xp showE l hl (fun x hx => (right_shows (h x hx) (ho x hx)).1) (fun x hx => by have := (right_shows (h x hx) (ho x hx)).2; omega),
   comma_len _ (by simp; omega) (fun x hx => by obtain ⟨y, hy, rfl⟩ := List.mem_map.1 hx; have := (right_shows (h y hy) (ho y hy)).2; omega)⟩
set_option maxRecDepth 100000 in
set_option maxHeartbeats 4000000 in
theorem ev_query (b : StB) (acts : List Stm) (h : b.ok) (hi : rightsE b.items 0 40 = true) (hf : rightFromS b.src b.wher 1 = true) : EV 55 [(Stm.mk b acts).enc] [] = some (.ret (.str (queryS b)), []) ∧ (queryS b).length ≤ 3000000000000 := by
  obtain ⟨f1, f2, f3, f4⟩ := from_parts hf
  obtain ⟨i1, _, i3⟩ := rights_all hi
  obtain ⟨hw, hwl⟩ := ev_where b acts f4 h.wher.2
  obtain ⟨hs, hsl⟩ := ev_srcs f1 f2
  obtain ⟨hx, hxl⟩ := ev_xps i1 h.items.2 (by omega)
  constructor
  · rw [EV_mki rfl Tryz.func55 rfl (by kernel_rfl) rfl]
    simp only [queryS, itemsS]
    rw [senc_mk] at hw ⊢
    obtain ⟨kind, name, table, col, cols, values, items, wher, sets, src, prio, event, deferred, rolls⟩ := b
    dsimp only at hw hs hx hwl hsl hxl ⊢
    generalize whereS wher = W at hw hwl ⊢
    generalize commaS (src.map showSrcS) = S at hs hsl ⊢
    by_cases h0 : items = []
    · subst h0
      simp only [List.map_nil] at hw
      simp (disch := first | ((try simp only [List.length_cons, List.length_append, List.length_nil]); omega) | simp [refsL, refs]) [-strBin, sb_add, sb_eql, sb_neq, sb_lss, Tryz.f55, Tryz.ti3, Tryz.ti4, Tryz.ti9, Tryz.ti22, Tryz.ti23, Tryz.ti24, Tryz.ti25, Tryz.ti26, Tryz.ti28, Tryz.ti44, Tryz.ti46, Tryz.ti80, Tryz.ti84, Tryz.ti94, hs, hw] <;> first | (refine panQ_of ?_; decide +kernel) | (change _ = true; decide +kernel) | kernel_rfl | (refine ⟨?_, ?_⟩ <;> first | (change _ = true; decide +kernel) | kernel_rfl)
    · generalize commaS (items.map showE) = I at hx hxl ⊢
      have hpos : 0 < items.length := List.length_pos_iff.2 h0
      simp (disch := first | ((try simp only [List.length_cons, List.length_append, List.length_nil]); omega) | simp [refsL, refs]) [-strBin, sb_add, sb_eql, sb_neq, sb_lss, Tryz.f55, Tryz.ti3, Tryz.ti4, Tryz.ti9, Tryz.ti22, Tryz.ti23, Tryz.ti24, Tryz.ti25, Tryz.ti26, Tryz.ti28, Tryz.ti44, Tryz.ti46, Tryz.ti80, Tryz.ti84, Tryz.ti94, hs, hw, hx, h0, hpos] <;> first | (refine panQ_of ?_; decide +kernel) | (change _ = true; decide +kernel) | kernel_rfl | (refine ⟨?_, ?_⟩ <;> first | (change _ = true; decide +kernel) | kernel_rfl)
  · simp only [queryS, itemsS]
    split <;> simp <;> omega
theorem itoa_len (n : Int) (h : inI n) : (Lib.itoa n).length ≤ 21 := Lib.itoa_length_le n h.1 h.2
theorem eventW_len (k : Int) : (eventW k).length ≤ 6 := by
  unfold eventW
  repeat' split
  all_goals simp
def ruleTail (b : StB) (acts : List (List UInt8)) : List UInt8 := if b.rolls = true then ruleHead b ++ [32, 68, 79, 32, 82, 79, 76, 76, 66, 65, 67, 75] else ruleHead b ++ ([32, 68, 79, 32] ++ (Lib.join acts [59, 32] ++ [32, 69, 78, 68]))
theorem rule_parts {b : StB} {n : Nat} {ra : Bool} (h : rightRuleS b n ra = true) : ra = true ∧ 0 ≤ b.prio ∧ b.prio ≤ 999 ∧ (b.event = 1 ∨ b.event = 2 ∨ b.event = 3) ∧ rightFromS b.src b.wher 0 = true ∧ (b.rolls = true ↔ n = 0) ∧ n ≤ 4 := by
  simp only [rightRuleS, Bool.and_eq_true, decide_eq_true_eq] at h
  obtain ⟨h1, h2, h3, h4, h5, h6, h7, h8⟩ := h
  refine ⟨h1, h2, h3, by omega, h6, ?_, by omega⟩
  rw [h7, decide_eq_true_eq]
  omega
theorem ruleHead_len (b : StB) (h : b.ok) (hn : nameS b.name = true) (ht : nameS b.table = true) (hf : rightFromS b.src b.wher 0 = true) : (ruleHead b).length ≤ 2000000000000 := by
  obtain ⟨f1, f2, f3, f4⟩ := from_parts hf
  have hwl := (ev_where b [] f4 h.wher.2).2
  have hsl := (ev_srcs f1 f2).2
  have n1 := name_len hn
  have n2 := name_len ht
  have hil := itoa_len b.prio h.prio
  have hel := eventW_len b.event
  unfold ruleHead
  split <;> split <;> simp <;> omega
set_option maxRecDepth 100000 in
set_option maxHeartbeats 8000000 in
theorem ev_rule (b : StB) (acts : List Stm) (g : Stm → List UInt8) (h : b.ok) (hn : nameS b.name = true) (ht : nameS b.table = true) (ra : Bool) (hr : rightRuleS b acts.length ra = true)
    (hc : ∀ a ∈ acts, EV 17 [a.enc] [] = some (.ret (.str (g a)), [])) (hg : ∀ a ∈ acts, (g a).length ≤ 10000000000000) :
    EV 52 [(Stm.mk b acts).enc] [] = some (.ret (.str (ruleTail b (acts.map g))), []) := by
  obtain ⟨_, _, _, hev, hf, hrolls, hal⟩ := rule_parts hr
  have hhl := ruleHead_len b h hn ht hf
  obtain ⟨f1, f2, f3, f4⟩ := from_parts hf
  obtain ⟨hw, hwl⟩ := ev_where b acts f4 h.wher.2
  obtain ⟨hs, hsl⟩ := ev_srcs f1 f2
  have n1 := name_len hn
  have n2 := name_len ht
  have hil := itoa_len b.prio h.prio
  have hit := ev_itoa b.prio h.prio
  have hjl : (Lib.join (acts.map g) [59, 32]).length ≤ 100000000000000 := by
    have := join_len (acts.map g) [59, 32] 10000000000000 (fun x hx => by obtain ⟨t, h, rfl⟩ := List.mem_map.1 hx; exact hg t h)
    have h3 : (acts.map g).length * (10000000000000 + 2) ≤ 4 * 10000000000002 := Nat.mul_le_mul (by simpa using hal) (by omega)
    simp only [List.length_cons, List.length_nil] at this
    omega
  have hj := ev_join (acts.map g) [59, 32] (by simp; omega) (by omega)
  unfold ruleTail
  rw [EV_mki rfl Tryz.func52 rfl (by kernel_rfl) rfl, senc_mk]
  rw [senc_mk] at hw
  have hh : ruleHead b = ruleHead b := rfl
  unfold ruleHead at hhl ⊢
  obtain ⟨kind, name, table, col, cols, values, items, wher, sets, src, prio, event, deferred, rolls⟩ := b
  dsimp only at hw hs hwl hsl n1 n2 hil hit hev hrolls hhl ⊢
  generalize whereS wher = W at hw hwl hhl ⊢
  generalize commaS (src.map showSrcS) = S at hs hsl hhl ⊢
  generalize Lib.itoa prio = I at hil hit hhl ⊢
  cases rolls with
  | true =>
    have ha : acts = [] := List.eq_nil_of_length_eq_zero (hrolls.1 rfl)
    subst ha
    simp only [List.map_nil] at hw
    by_cases h0 : src = []
    · subst h0
      simp only [List.map_nil] at hw
      rcases hev with rfl | rfl | rfl <;> cases deferred <;> simp (disch := first | ((try simp only [List.length_cons, List.length_append, List.length_nil]); omega) | simp [refsL, refs]) [-strBin, sb_add, sb_eql, sb_neq, sb_lss, Tryz.f52, Tryz.ti3, Tryz.ti4, Tryz.ti9, Tryz.ti22, Tryz.ti23, Tryz.ti24, Tryz.ti25, Tryz.ti26, Tryz.ti28, Tryz.ti44, Tryz.ti46, Tryz.ti80, Tryz.ti84, Tryz.ti94, Tryz.ti100, hw, hit, eventW] <;> first | (refine panQ_of ?_; decide +kernel) | (change _ = true; decide +kernel) | kernel_rfl | (refine ⟨?_, ?_⟩ <;> first | (change _ = true; decide +kernel) | kernel_rfl)
    · rcases hev with rfl | rfl | rfl <;> cases deferred <;> simp (disch := first | ((try simp only [List.length_cons, List.length_append, List.length_nil]); omega) | simp [refsL, refs]) [-strBin, sb_add, sb_eql, sb_neq, sb_lss, Tryz.f52, Tryz.ti3, Tryz.ti4, Tryz.ti9, Tryz.ti22, Tryz.ti23, Tryz.ti24, Tryz.ti25, Tryz.ti26, Tryz.ti28, Tryz.ti44, Tryz.ti46, Tryz.ti80, Tryz.ti84, Tryz.ti94, Tryz.ti100, hs, hw, hit, h0, eventW] <;> first | (refine panQ_of ?_; decide +kernel) | (change _ = true; decide +kernel) | kernel_rfl | (refine ⟨?_, ?_⟩ <;> first | (change _ = true; decide +kernel) | kernel_rfl)
  | false =>
    by_cases h0 : src = []
    · subst h0
      simp only [List.map_nil] at hw
      rcases hev with rfl | rfl | rfl <;> cases deferred <;> simp (disch := first | ((try simp only [List.length_cons, List.length_append, List.length_nil]); omega) | simp [refsL, refs]) [-strBin, sb_add, sb_eql, sb_neq, sb_lss, Tryz.f52, Tryz.ti3, Tryz.ti4, Tryz.ti9, Tryz.ti22, Tryz.ti23, Tryz.ti24, Tryz.ti25, Tryz.ti26, Tryz.ti28, Tryz.ti44, Tryz.ti46, Tryz.ti80, Tryz.ti84, Tryz.ti94, Tryz.ti100, hw, hit, eventW]
      all_goals
        rw [i_loop (ts := [53, 54, 55, 6, 56, 57, 58, 59, 60, 61])]
        rotate_left
        · kernel_rfl
        refine i_at2 (fun i : {i : Nat // i ≤ acts.length} => acts.length - i.1) (fun i env => setV (setV env 52 (.int .i64 i.1)) 4 (.slice (.own 1) (((acts.take i.1).map g).map V.str))) (fun i st => st.set 1 [.tip i.1]) (fun _ => _) ⟨0, by omega⟩ (by simp [s_zero, s_succ]) rfl rfl ?_
        intro ⟨i, hil⟩ ih
        dsimp only at hil ⊢
        by_cases hi : i < acts.length
        · have ih := ih ⟨i + 1, by omega⟩ (by simp only; omega)
          have hwi : IntKind.i64.wrap ((i : Int) + 1) = (i : Int) + 1 := wrap_i64 (by omega)
          have hlen : (((acts.take i).map g).map V.str).length = i := by simp; omega
          have hcx := hc acts[i] (List.getElem_mem hi)
          obtain ⟨t, hk⟩ : ∃ m, acts[i] = m := ⟨_, rfl⟩
          have ht2 : ((acts.take (i + 1)).map g).map V.str = ((acts.take i).map g).map V.str ++ [V.str (g t)] := by rw [List.take_succ_eq_append_getElem hi, hk]; simp
          have hff : ∀ x ∈ ((acts.take i).map g).map V.str, (vcells x).length = 1 := fun x hx => by obtain ⟨y, _, rfl⟩ := List.mem_map.1 hx; rfl
          rw [hk] at hcx
          simp only at ih
          rw [ht2] at ih
          clear ht2
          generalize ((acts.take i).map g).map V.str = xs at *
          obtain ⟨tb, ta⟩ := t
          rw [senc_mk] at hcx
          simp only [s_zero, s_succ, Int.natCast_add, Int.natCast_one, Int.cast_ofNat_Int, List.set] at ih
          simp only [vcells] at hff
          have hbb : (i + 1) * 16 ≤ 70368744177664 := by omega
          have hbc : i + 1 ≤ 70368744177664 := by omega
          simp +contextual [i_again, roundEnd, dropT, cleanV, Tryz.f52, Tryz.ti3, Tryz.ti4, Tryz.ti9, Tryz.ti22, Tryz.ti23, Tryz.ti24, Tryz.ti25, Tryz.ti26, Tryz.ti28, Tryz.ti44, Tryz.ti46, Tryz.ti80, Tryz.ti84, Tryz.ti94, Tryz.ti100, hi, hk, senc_mk, hwi, hlen, hbb, hbc, hff, ih, hcx]
        · have ht2 : acts.take i = acts := List.take_of_length_le (by omega)
          rw [ht2]
          generalize (acts.map g).map V.str = xs at hj
          have hi2 : i = acts.length := by omega
          clear ih
          simp (disch := first | ((try simp only [List.length_cons, List.length_append, List.length_nil]); omega) | simp [refsL, refs]) [-strBin, sb_add, sb_eql, sb_neq, sb_lss, i_again, roundEnd, dropT, cleanV, Tryz.f52, Tryz.ti3, Tryz.ti4, Tryz.ti9, Tryz.ti22, Tryz.ti23, Tryz.ti24, Tryz.ti25, Tryz.ti26, Tryz.ti28, Tryz.ti44, Tryz.ti46, Tryz.ti80, Tryz.ti84, Tryz.ti94, Tryz.ti100, hi, hj]
    · rcases hev with rfl | rfl | rfl <;> cases deferred <;> simp (disch := first | ((try simp only [List.length_cons, List.length_append, List.length_nil]); omega) | simp [refsL, refs]) [-strBin, sb_add, sb_eql, sb_neq, sb_lss, Tryz.f52, Tryz.ti3, Tryz.ti4, Tryz.ti9, Tryz.ti22, Tryz.ti23, Tryz.ti24, Tryz.ti25, Tryz.ti26, Tryz.ti28, Tryz.ti44, Tryz.ti46, Tryz.ti80, Tryz.ti84, Tryz.ti94, Tryz.ti100, hs, hw, hit, h0, eventW]
      all_goals
        rw [i_loop (ts := [53, 54, 55, 6, 56, 57, 58, 59, 60, 61])]
        rotate_left
        · kernel_rfl
        refine i_at2 (fun i : {i : Nat // i ≤ acts.length} => acts.length - i.1) (fun i env => setV (setV env 52 (.int .i64 i.1)) 4 (.slice (.own 1) (((acts.take i.1).map g).map V.str))) (fun i st => st.set 1 [.tip i.1]) (fun _ => _) ⟨0, by omega⟩ (by simp [s_zero, s_succ]) rfl rfl ?_
        intro ⟨i, hil⟩ ih
        dsimp only at hil ⊢
        by_cases hi : i < acts.length
        · have ih := ih ⟨i + 1, by omega⟩ (by simp only; omega)
          have hwi : IntKind.i64.wrap ((i : Int) + 1) = (i : Int) + 1 := wrap_i64 (by omega)
          have hlen : (((acts.take i).map g).map V.str).length = i := by simp; omega
          have hcx := hc acts[i] (List.getElem_mem hi)
          obtain ⟨t, hk⟩ : ∃ m, acts[i] = m := ⟨_, rfl⟩
          have ht2 : ((acts.take (i + 1)).map g).map V.str = ((acts.take i).map g).map V.str ++ [V.str (g t)] := by rw [List.take_succ_eq_append_getElem hi, hk]; simp
          have hff : ∀ x ∈ ((acts.take i).map g).map V.str, (vcells x).length = 1 := fun x hx => by obtain ⟨y, _, rfl⟩ := List.mem_map.1 hx; rfl
          rw [hk] at hcx
          simp only at ih
          rw [ht2] at ih
          clear ht2
          generalize ((acts.take i).map g).map V.str = xs at *
          obtain ⟨tb, ta⟩ := t
          rw [senc_mk] at hcx
          simp only [s_zero, s_succ, Int.natCast_add, Int.natCast_one, Int.cast_ofNat_Int, List.set] at ih
          simp only [vcells] at hff
          have hbb : (i + 1) * 16 ≤ 70368744177664 := by omega
          have hbc : i + 1 ≤ 70368744177664 := by omega
          simp +contextual [i_again, roundEnd, dropT, cleanV, Tryz.f52, Tryz.ti3, Tryz.ti4, Tryz.ti9, Tryz.ti22, Tryz.ti23, Tryz.ti24, Tryz.ti25, Tryz.ti26, Tryz.ti28, Tryz.ti44, Tryz.ti46, Tryz.ti80, Tryz.ti84, Tryz.ti94, Tryz.ti100, hi, hk, senc_mk, hwi, hlen, hbb, hbc, hff, ih, hcx]
        · have ht2 : acts.take i = acts := List.take_of_length_le (by omega)
          rw [ht2]
          generalize (acts.map g).map V.str = xs at hj
          have hi2 : i = acts.length := by omega
          clear ih
          simp (disch := first | ((try simp only [List.length_cons, List.length_append, List.length_nil]); omega) | simp [refsL, refs]) [-strBin, sb_add, sb_eql, sb_neq, sb_lss, i_again, roundEnd, dropT, cleanV, Tryz.f52, Tryz.ti3, Tryz.ti4, Tryz.ti9, Tryz.ti22, Tryz.ti23, Tryz.ti24, Tryz.ti25, Tryz.ti26, Tryz.ti28, Tryz.ti44, Tryz.ti46, Tryz.ti80, Tryz.ti84, Tryz.ti94, Tryz.ti100, hi, hj]
section
variable (b : StB) (acts : List Stm) (h : b.ok)
theorem rightK_of (hr : rightStm (.mk b acts) = true) : rightK b acts.length (rightActs acts) = true := by
  simp only [rightStm, Bool.and_eq_true] at hr
  exact hr.2
include h
omit h in
theorem ev_show_wrong (hs : EV 15 [(Stm.mk b acts).enc] [] = some (.ret (.bool false), [])) : EV 17 [(Stm.mk b acts).enc] [] = some (.ret (.str []), []) := by
  rw [EV_mki rfl Tryz.func17 rfl (by kernel_rfl) rfl, senc_mk]
  rw [senc_mk] at hs
  simp [Tryz.f17, Tryz.ti3, Tryz.ti4, Tryz.ti9, Tryz.ti22, Tryz.ti23, Tryz.ti24, Tryz.ti25, Tryz.ti26, Tryz.ti28, Tryz.ti44, Tryz.ti46, Tryz.ti80, Tryz.ti84, Tryz.ti94, hs]
set_option maxRecDepth 100000 in
set_option maxHeartbeats 8000000 in
theorem ev_show_small (hs : EV 15 [(Stm.mk b acts).enc] [] = some (.ret (.bool true), [])) (hr : rightK b acts.length (rightActs acts) = true) (hk : ¬ b.kind = 6) (hk7 : ¬ b.kind = 7) (hk8 : ¬ b.kind = 8) (hk12 : ¬ b.kind = 12) (hk13 : ¬ b.kind = 13) (hk14 : ¬ b.kind = 14) (hk15 : ¬ b.kind = 15) :
    EV 17 [(Stm.mk b acts).enc] [] = some (.ret (.str (showStm (.mk b acts))), []) := by
  have hl := h.name
  rw [EV_mki rfl Tryz.func17 rfl (by kernel_rfl) rfl, senc_mk]
  rw [senc_mk] at hs
  simp only [rightK, nameK] at hr
  simp only [showStm]
  obtain ⟨kind, name, table, col, cols, values, items, wher, sets, src, prio, event, deferred, rolls⟩ := b
  dsimp only at hs hr hk hk7 hk8 hk12 hk13 hk14 hk15 hl ⊢
  by_cases k123 : kind = 1 ∨ kind = 2 ∨ kind = 3
  · rcases k123 with rfl | rfl | rfl <;> simp [Tryz.f17, Tryz.ti3, Tryz.ti4, Tryz.ti9, Tryz.ti22, Tryz.ti23, Tryz.ti24, Tryz.ti25, Tryz.ti26, Tryz.ti28, Tryz.ti44, Tryz.ti46, Tryz.ti80, Tryz.ti84, Tryz.ti94, hs]
  by_cases kn : kind = 4 ∨ kind = 5 ∨ kind = 9 ∨ kind = 10 ∨ kind = 11
  · rcases kn with rfl | rfl | rfl | rfl | rfl <;> simp (disch := first | ((try simp only [List.length_cons, List.length_append, List.length_nil]); omega) | simp [refsL, refs]) [-strBin, sb_add, sb_eql, sb_neq, sb_lss, Tryz.f17, Tryz.ti3, Tryz.ti4, Tryz.ti9, Tryz.ti22, Tryz.ti23, Tryz.ti24, Tryz.ti25, Tryz.ti26, Tryz.ti28, Tryz.ti44, Tryz.ti46, Tryz.ti80, Tryz.ti84, Tryz.ti94, hs]
  simp [k123, kn, hk, hk7, hk8, hk12, hk13, hk14, hk15] at hr
set_option maxRecDepth 100000 in
set_option maxHeartbeats 8000000 in
theorem ev_show_table (hs : EV 15 [(Stm.mk b acts).enc] [] = some (.ret (.bool true), [])) (hr : rightK b acts.length (rightActs acts) = true) (hk : b.kind = 6) :
    EV 17 [(Stm.mk b acts).enc] [] = some (.ret (.str (showStm (.mk b acts))), []) := by
  have hr2 : nameS b.name = true ∧ colsS b.cols = 0 := by simpa [rightK, nameK, hk] using hr
  have n1 := name_len hr2.1
  obtain ⟨hco, hcl⟩ := cols_ok hr2.2
  have hlist := ev_list_col showColS b.cols (by omega) (fun x hx => (ev_showcolumn x (hco x hx)).1) (fun x hx => by have := (ev_showcolumn x (hco x hx)).2; omega)
  have hll := comma_len (b.cols.map showColS) (by simp; omega) (fun x hx => by obtain ⟨y, hy, rfl⟩ := List.mem_map.1 hx; have := (ev_showcolumn y (hco y hy)).2; omega)
  have hsh : showStm (.mk b acts) = [67, 82, 69, 65, 84, 69, 32, 84, 65, 66, 76, 69, 32] ++ (b.name ++ ([32, 40] ++ (commaS (b.cols.map showColS) ++ [41]))) := by simp [showStm, hk]
  have hlc : EV 50 [.slice .froz (b.cols.map Col.enc), .func 51 [] []] [] = some (.ret (.str (commaS (b.cols.map showColS))), []) := hlist
  rw [hsh, EV_mki rfl Tryz.func17 rfl (by kernel_rfl) rfl, senc_mk]
  rw [senc_mk] at hs
  generalize commaS (b.cols.map showColS) = C at hlc hll ⊢
  obtain ⟨kind, name, table, col, cols, values, items, wher, sets, src, prio, event, deferred, rolls⟩ := b
  dsimp only at hs hk n1 hlc ⊢
  subst hk
  simp (disch := first | ((try simp only [List.length_cons, List.length_append, List.length_nil]); omega) | simp [refsL, refs]) [-strBin, sb_add, sb_eql, sb_neq, sb_lss, Tryz.f17, Tryz.ti3, Tryz.ti4, Tryz.ti9, Tryz.ti22, Tryz.ti23, Tryz.ti24, Tryz.ti25, Tryz.ti26, Tryz.ti28, Tryz.ti44, Tryz.ti46, Tryz.ti80, Tryz.ti84, Tryz.ti94, hs, hlc] <;> first | (refine panQ_of ?_; decide +kernel) | (change _ = true; decide +kernel) | kernel_rfl | (refine ⟨?_, ?_⟩ <;> first | (change _ = true; decide +kernel) | kernel_rfl)
set_option maxRecDepth 100000 in
set_option maxHeartbeats 8000000 in
theorem ev_show_index (hs : EV 15 [(Stm.mk b acts).enc] [] = some (.ret (.bool true), [])) (hr : rightK b acts.length (rightActs acts) = true) (hk : b.kind = 7) :
    EV 17 [(Stm.mk b acts).enc] [] = some (.ret (.str (showStm (.mk b acts))), []) := by
  have n1 := h.name
  have n2 := h.table
  have n3 := h.col
  rw [EV_mki rfl Tryz.func17 rfl (by kernel_rfl) rfl, senc_mk]
  rw [senc_mk] at hs
  simp only [showStm]
  obtain ⟨kind, name, table, col, cols, values, items, wher, sets, src, prio, event, deferred, rolls⟩ := b
  dsimp only at hs hk n1 n2 n3 ⊢
  subst hk
  simp (disch := first | ((try simp only [List.length_cons, List.length_append, List.length_nil]); omega) | simp [refsL, refs]) [-strBin, sb_add, sb_eql, sb_neq, sb_lss, Tryz.f17, Tryz.ti3, Tryz.ti4, Tryz.ti9, Tryz.ti22, Tryz.ti23, Tryz.ti24, Tryz.ti25, Tryz.ti26, Tryz.ti28, Tryz.ti44, Tryz.ti46, Tryz.ti80, Tryz.ti84, Tryz.ti94, hs]
set_option maxRecDepth 100000 in
set_option maxHeartbeats 8000000 in
theorem ev_show_rule (hs : EV 15 [(Stm.mk b acts).enc] [] = some (.ret (.bool true), [])) (hr : rightK b acts.length (rightActs acts) = true) (hk : b.kind = 8)
    (hc : ∀ a ∈ acts, EV 17 [a.enc] [] = some (.ret (.str (showStm a)), [])) (hg : ∀ a ∈ acts, (showStm a).length ≤ 10000000000000) :
    EV 17 [(Stm.mk b acts).enc] [] = some (.ret (.str (showStm (.mk b acts))), []) := by
  have hr2 : nameS b.name = true ∧ nameS b.table = true ∧ rightRuleS b acts.length (rightActs acts) = true := by simpa [rightK, nameK, hk] using hr
  have hru := ev_rule b acts showStm h hr2.1 hr2.2.1 _ hr2.2.2 hc hg
  have hsh : showStm (.mk b acts) = ruleTail b (acts.map showStm) := by simp [showStm, hk, ruleTail, showStms_eq]
  rw [hsh, EV_mki rfl Tryz.func17 rfl (by kernel_rfl) rfl, senc_mk]
  rw [senc_mk] at hs hru
  generalize ruleTail b (acts.map showStm) = R at hru ⊢
  obtain ⟨kind, name, table, col, cols, values, items, wher, sets, src, prio, event, deferred, rolls⟩ := b
  dsimp only at hs hk hru ⊢
  subst hk
  simp [Tryz.f17, Tryz.ti3, Tryz.ti4, Tryz.ti9, Tryz.ti22, Tryz.ti23, Tryz.ti24, Tryz.ti25, Tryz.ti26, Tryz.ti28, Tryz.ti44, Tryz.ti46, Tryz.ti80, Tryz.ti84, Tryz.ti94, hs, hru]
omit h in
theorem insert_parts (hr : rightK b acts.length (rightActs acts) = true) (hk : b.kind = 12) : nameS b.table = true ∧ ((b.values = [] ∧ rightsE b.items 0 40 = true ∧ rightFromS b.src b.wher 1 = true) ∨ (b.values ≠ [] ∧ rightsE b.values 1 6 = true ∧ b.items = [] ∧ b.src = [] ∧ b.wher = [])) := by
  simp only [rightK, nameK, hk] at hr
  by_cases h0 : b.values = []
  · simp [h0] at hr
    exact ⟨hr.1, .inl ⟨h0, hr.2⟩⟩
  · have hp : 0 < b.values.length := List.length_pos_iff.2 h0
    simp [hp] at hr
    obtain ⟨h1, h2, h3⟩ := hr
    have e1 : b.items.length = 0 := by omega
    have e2 : b.src.length = 0 := by omega
    have e3 : b.wher.length = 0 := by omega
    exact ⟨h1, .inr ⟨h0, h2, List.eq_nil_of_length_eq_zero e1, List.eq_nil_of_length_eq_zero e2, List.eq_nil_of_length_eq_zero e3⟩⟩
set_option maxRecDepth 100000 in
set_option maxHeartbeats 8000000 in
theorem ev_show_insert (hs : EV 15 [(Stm.mk b acts).enc] [] = some (.ret (.bool true), [])) (hr : rightK b acts.length (rightActs acts) = true) (hk : b.kind = 12) :
    EV 17 [(Stm.mk b acts).enc] [] = some (.ret (.str (showStm (.mk b acts))), []) ∧ (showStm (.mk b acts)).length ≤ 10000000000000 := by
  obtain ⟨ht, hcase⟩ := insert_parts b acts hr hk
  have n2 := name_len ht
  rcases hcase with ⟨h0, hi, hf⟩ | ⟨h0, hv, _⟩
  · obtain ⟨hq, hql⟩ := ev_query b acts h hi hf
    have hsh : showStm (.mk b acts) = [73, 78, 83, 69, 82, 84, 32, 73, 78, 84, 79, 32] ++ (b.table ++ 32 :: queryS b) := by simp [showStm, hk, h0]
    rw [hsh]
    refine ⟨?_, by simp; omega⟩
    rw [EV_mki rfl Tryz.func17 rfl (by kernel_rfl) rfl, senc_mk]
    rw [senc_mk] at hs hq
    generalize queryS b = Q at hq hql ⊢
    obtain ⟨kind, name, table, col, cols, values, items, wher, sets, src, prio, event, deferred, rolls⟩ := b
    dsimp only at hs hk hq n2 h0 ⊢
    subst hk
    subst h0
    simp only [List.map_nil] at hs hq
    simp (disch := first | ((try simp only [List.length_cons, List.length_append, List.length_nil]); omega) | simp [refsL, refs]) [-strBin, sb_add, sb_eql, sb_neq, sb_lss, Tryz.f17, Tryz.ti3, Tryz.ti4, Tryz.ti9, Tryz.ti22, Tryz.ti23, Tryz.ti24, Tryz.ti25, Tryz.ti26, Tryz.ti28, Tryz.ti44, Tryz.ti46, Tryz.ti80, Tryz.ti84, Tryz.ti94, hs, hq] <;> first | (refine panQ_of ?_; decide +kernel) | (change _ = true; decide +kernel) | kernel_rfl | (refine ⟨?_, ?_⟩ <;> first | (change _ = true; decide +kernel) | kernel_rfl)
  · obtain ⟨v1, _, v3⟩ := rights_all hv
    obtain ⟨hx, hxl⟩ := ev_xps v1 h.values.2 (by omega)
    have hsh : showStm (.mk b acts) = [73, 78, 83, 69, 82, 84, 32, 73, 78, 84, 79, 32] ++ (b.table ++ ([32, 86, 65, 76, 85, 69, 83, 32, 40] ++ (commaS (b.values.map showE) ++ [41]))) := by simp [showStm, hk, h0]
    rw [hsh]
    refine ⟨?_, by simp; omega⟩
    rw [EV_mki rfl Tryz.func17 rfl (by kernel_rfl) rfl, senc_mk]
    rw [senc_mk] at hs
    generalize commaS (b.values.map showE) = C at hx hxl ⊢
    obtain ⟨kind, name, table, col, cols, values, items, wher, sets, src, prio, event, deferred, rolls⟩ := b
    dsimp only at hs hk hx n2 h0 ⊢
    subst hk
    have hp : 0 < values.length := List.length_pos_iff.2 h0
    simp (disch := first | ((try simp only [List.length_cons, List.length_append, List.length_nil]); omega) | simp [refsL, refs]) [-strBin, sb_add, sb_eql, sb_neq, sb_lss, Tryz.f17, Tryz.ti3, Tryz.ti4, Tryz.ti9, Tryz.ti22, Tryz.ti23, Tryz.ti24, Tryz.ti25, Tryz.ti26, Tryz.ti28, Tryz.ti44, Tryz.ti46, Tryz.ti80, Tryz.ti84, Tryz.ti94, hs, hx, hp, h0] <;> first | (refine panQ_of ?_; decide +kernel) | (change _ = true; decide +kernel) | kernel_rfl | (refine ⟨?_, ?_⟩ <;> first | (change _ = true; decide +kernel) | kernel_rfl)
set_option maxRecDepth 100000 in
set_option maxHeartbeats 8000000 in
theorem ev_show_update (hs : EV 15 [(Stm.mk b acts).enc] [] = some (.ret (.bool true), [])) (hr : rightK b acts.length (rightActs acts) = true) (hk : b.kind = 13) :
    EV 17 [(Stm.mk b acts).enc] [] = some (.ret (.str (showStm (.mk b acts))), []) ∧ (showStm (.mk b acts)).length ≤ 10000000000000 := by
  have hr2 : nameS b.table = true ∧ rightSetsS b.sets = true ∧ rightsE b.wher 0 1 = true := by simpa [rightK, nameK, hk] using hr
  have n2 := name_len hr2.1
  obtain ⟨hw, hwl⟩ := ev_where b acts hr2.2.2 h.wher.2
  have hset := hr2.2.1
  simp only [rightSetsS, Bool.and_eq_true, List.all_eq_true, decide_eq_true_eq] at hset
  obtain ⟨hs1, hs2, hs3⟩ := hset
  have hso : ∀ x ∈ b.sets, EV 57 [x.enc] [] = some (.ret (.str (showSetS x)), []) ∧ (showSetS x).length ≤ 67108900 := fun x hx => ev_showset x (hs1 x hx).1 (hs1 x hx).2 (h.sets.2 x hx).2
  have hlist := ev_list_set showSetS b.sets (by omega) (fun x hx => (hso x hx).1) (fun x hx => by have := (hso x hx).2; omega)
  have hll := comma_len (b.sets.map showSetS) (by simp; omega) (fun x hx => by obtain ⟨y, hy, rfl⟩ := List.mem_map.1 hx; have := (hso y hy).2; omega)
  have hlc : EV 56 [.slice .froz (b.sets.map SetE.enc), .func 57 [] []] [] = some (.ret (.str (commaS (b.sets.map showSetS))), []) := hlist
  have hsh : showStm (.mk b acts) = [85, 80, 68, 65, 84, 69, 32] ++ (b.table ++ ([32, 83, 69, 84, 32] ++ (commaS (b.sets.map showSetS) ++ whereS b.wher))) := by simp [showStm, hk]
  rw [hsh]
  refine ⟨?_, by simp; omega⟩
  rw [EV_mki rfl Tryz.func17 rfl (by kernel_rfl) rfl, senc_mk]
  rw [senc_mk] at hs hw
  generalize commaS (b.sets.map showSetS) = C at hlc hll ⊢
  generalize whereS b.wher = W at hw hwl ⊢
  obtain ⟨kind, name, table, col, cols, values, items, wher, sets, src, prio, event, deferred, rolls⟩ := b
  dsimp only at hs hk hlc hw n2 ⊢
  subst hk
  simp (disch := first | ((try simp only [List.length_cons, List.length_append, List.length_nil]); omega) | simp [refsL, refs]) [-strBin, sb_add, sb_eql, sb_neq, sb_lss, Tryz.f17, Tryz.ti3, Tryz.ti4, Tryz.ti9, Tryz.ti22, Tryz.ti23, Tryz.ti24, Tryz.ti25, Tryz.ti26, Tryz.ti28, Tryz.ti44, Tryz.ti46, Tryz.ti80, Tryz.ti84, Tryz.ti94, hs, hlc, hw] <;> first | (refine panQ_of ?_; decide +kernel) | (change _ = true; decide +kernel) | kernel_rfl | (refine ⟨?_, ?_⟩ <;> first | (change _ = true; decide +kernel) | kernel_rfl)
set_option maxRecDepth 100000 in
set_option maxHeartbeats 8000000 in
theorem ev_show_delete (hs : EV 15 [(Stm.mk b acts).enc] [] = some (.ret (.bool true), [])) (hr : rightK b acts.length (rightActs acts) = true) (hk : b.kind = 14) :
    EV 17 [(Stm.mk b acts).enc] [] = some (.ret (.str (showStm (.mk b acts))), []) ∧ (showStm (.mk b acts)).length ≤ 10000000000000 := by
  have hr2 : nameS b.table = true ∧ rightsE b.wher 0 1 = true := by simpa [rightK, nameK, hk] using hr
  have n2 := name_len hr2.1
  obtain ⟨hw, hwl⟩ := ev_where b acts hr2.2 h.wher.2
  have hsh : showStm (.mk b acts) = [68, 69, 76, 69, 84, 69, 32, 70, 82, 79, 77, 32] ++ (b.table ++ whereS b.wher) := by simp [showStm, hk]
  rw [hsh]
  refine ⟨?_, by simp; omega⟩
  rw [EV_mki rfl Tryz.func17 rfl (by kernel_rfl) rfl, senc_mk]
  rw [senc_mk] at hs hw
  generalize whereS b.wher = W at hw hwl ⊢
  obtain ⟨kind, name, table, col, cols, values, items, wher, sets, src, prio, event, deferred, rolls⟩ := b
  dsimp only at hs hk hw n2 ⊢
  subst hk
  simp (disch := first | ((try simp only [List.length_cons, List.length_append, List.length_nil]); omega) | simp [refsL, refs]) [-strBin, sb_add, sb_eql, sb_neq, sb_lss, Tryz.f17, Tryz.ti3, Tryz.ti4, Tryz.ti9, Tryz.ti22, Tryz.ti23, Tryz.ti24, Tryz.ti25, Tryz.ti26, Tryz.ti28, Tryz.ti44, Tryz.ti46, Tryz.ti80, Tryz.ti84, Tryz.ti94, hs, hw] <;> first | (refine panQ_of ?_; decide +kernel) | (change _ = true; decide +kernel) | kernel_rfl | (refine ⟨?_, ?_⟩ <;> first | (change _ = true; decide +kernel) | kernel_rfl)
set_option maxRecDepth 100000 in
set_option maxHeartbeats 8000000 in
theorem ev_show_select (hs : EV 15 [(Stm.mk b acts).enc] [] = some (.ret (.bool true), [])) (hr : rightK b acts.length (rightActs acts) = true) (hk : b.kind = 15) :
    EV 17 [(Stm.mk b acts).enc] [] = some (.ret (.str (showStm (.mk b acts))), []) := by
  have hr2 : rightsE b.items 0 40 = true ∧ rightFromS b.src b.wher 1 = true := by simpa [rightK, nameK, hk] using hr
  obtain ⟨hq, hql⟩ := ev_query b acts h hr2.1 hr2.2
  have hsh : showStm (.mk b acts) = queryS b := by simp [showStm, hk]
  rw [hsh, EV_mki rfl Tryz.func17 rfl (by kernel_rfl) rfl, senc_mk]
  rw [senc_mk] at hs hq
  generalize queryS b = Q at hq hql ⊢
  obtain ⟨kind, name, table, col, cols, values, items, wher, sets, src, prio, event, deferred, rolls⟩ := b
  dsimp only at hs hk hq ⊢
  subst hk
  simp [Tryz.f17, Tryz.ti3, Tryz.ti4, Tryz.ti9, Tryz.ti22, Tryz.ti23, Tryz.ti24, Tryz.ti25, Tryz.ti26, Tryz.ti28, Tryz.ti44, Tryz.ti46, Tryz.ti80, Tryz.ti84, Tryz.ti94, hs, hq]
end
theorem acts_right : ∀ {l : List Stm}, rightActs l = true → ∀ a ∈ l, (a.b.kind = 12 ∨ a.b.kind = 13 ∨ a.b.kind = 14) ∧ rightStm a = true
  | [], _, a, ha => by cases ha
  | s :: l, h, a, ha => by
    simp only [rightActs, Bool.and_eq_true, decide_eq_true_eq] at h
    rcases List.mem_cons.1 ha with rfl | ha
    · exact ⟨by omega, h.1.2.2⟩
    · exact acts_right h.2 a ha
theorem act_shows (a : Stm) (ho : a.ok) (hk : a.b.kind = 12 ∨ a.b.kind = 13 ∨ a.b.kind = 14) (hr : rightStm a = true) : EV 17 [a.enc] [] = some (.ret (.str (showStm a)), []) ∧ (showStm a).length ≤ 10000000000000 := by
  obtain ⟨b, acts⟩ := a
  have hs := ev_rightstm (.mk b acts) ho
  rw [hr] at hs
  have hk' := rightK_of b acts hr
  rcases hk with hk | hk | hk
  · exact ev_show_insert b acts ho.1 hs hk' hk
  · exact ev_show_update b acts ho.1 hs hk' hk
  · exact ev_show_delete b acts ho.1 hs hk' hk
theorem ev_showstm (s : Stm) (ho : s.ok) : EV 17 [s.enc] [] = some (.ret (.str (if rightStm s = true then showStm s else [])), []) := by
  obtain ⟨b, acts⟩ := s
  have hs := ev_rightstm (.mk b acts) ho
  cases hr : rightStm (.mk b acts) with
  | false =>
    rw [hr] at hs
    exact ev_show_wrong b acts hs
  | true =>
    rw [hr] at hs
    rw [if_pos rfl]
    have hk := rightK_of b acts hr
    by_cases k6 : b.kind = 6
    · exact ev_show_table b acts ho.1 hs hk k6
    by_cases k7 : b.kind = 7
    · exact ev_show_index b acts ho.1 hs hk k7
    by_cases k8 : b.kind = 8
    · have hra : rightActs acts = true := by
        have hr2 : nameS b.name = true ∧ nameS b.table = true ∧ rightRuleS b acts.length (rightActs acts) = true := by simpa [rightK, nameK, k8] using hk
        exact (rule_parts hr2.2.2).1
      have hall : ∀ a ∈ acts, EV 17 [a.enc] [] = some (.ret (.str (showStm a)), []) ∧ (showStm a).length ≤ 10000000000000 := fun a ha => by
        obtain ⟨h1, h2⟩ := acts_right hra a ha
        exact act_shows a ((soks_iff acts).1 ho.2.2 a ha) h1 h2
      exact ev_show_rule b acts ho.1 hs hk k8 (fun a ha => (hall a ha).1) (fun a ha => (hall a ha).2)
    by_cases k12 : b.kind = 12
    · exact (ev_show_insert b acts ho.1 hs hk k12).1
    by_cases k13 : b.kind = 13
    · exact (ev_show_update b acts ho.1 hs hk k13).1
    by_cases k14 : b.kind = 14
    · exact (ev_show_delete b acts ho.1 hs hk k14).1
    by_cases k15 : b.kind = 15
    · exact ev_show_select b acts ho.1 hs hk k15
    exact ev_show_small b acts ho.1 hs hk k6 k7 k8 k12 k13 k14 k15
end Go.Abs
