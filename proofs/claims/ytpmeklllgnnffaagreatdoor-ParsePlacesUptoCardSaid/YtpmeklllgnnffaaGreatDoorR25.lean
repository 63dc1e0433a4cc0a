/- Plain: a statement that is read is within bounds. -/
import Derived.Test.YtpmeklllgnnffaaGreatDoorR22
import Derived.Test.YtpmeklllgnnffaaGreatDoorR24
import Derived.Test.YtpmeklllgnnffaaGreatDoorR11
import Derived.Test.YtpmeklllgnnffaaGreatDoorR17
set_option linter.unusedSimpArgs false
set_option linter.unusedVariables false

namespace Go.Abs
set_option linter.unusedSimpArgs false
set_option linter.unusedVariables false
open Go
theorem maybe_then {α : Type} {Q : α → Prop} {s : List UInt8} {f : Bool → List Tok → PR α} (h : ∀ b, OkP Q (f b)) : OkP Q (fun l => f (maybeP s l).1 (maybeP s l).2) := fun l hl => h _ _ (maybe_ok s l hl)
theorem op_column : OkP Col.ok columnP := by
  refine op_then op_name fun n hn => op_then (op_oneOf _) fun t ht => ?_
  simp only [List.length_cons, List.length_nil] at ht
  refine op_if (A := fun r => thenP (needP [78, 85, 76, 76] r) fun _ r => (some (⟨n, t, true, (maybeP [85, 78, 73, 81, 85, 69] r).1⟩ : Col), (maybeP [85, 78, 73, 81, 85, 69] r).2)) (op_then (op_need _) fun _ _ l hl => ?_) fun l hl => ?_
  · exact ⟨maybe_ok _ l hl, fun a ha => by cases ha; exact ⟨hn, inIk (by show (-100 : Int) ≤ (t : Int); omega) (by show (t : Int) ≤ 100; omega)⟩⟩
  · exact ⟨maybe_ok _ l hl, fun a ha => by cases ha; exact ⟨hn, inIk (by show (-100 : Int) ≤ (t : Int); omega) (by show (t : Int) ≤ 100; omega)⟩⟩
theorem op_num : OkP inI numP := by
  intro l hl
  cases l with
  | nil => exact ⟨hl, fun a ha => by cases ha⟩
  | cons t r =>
    simp only [numP]
    split
    · exact ⟨tb_next hl, fun a ha => by cases ha; exact (hl.2 t (.head _)).1⟩
    · exact ⟨hl, fun a ha => by cases ha⟩
def ActsQ (n : Nat) (xs : List Stm) : Prop := Stm.oks xs ∧ xs.length ≤ n
theorem op_acts : ∀ n, OkP (ActsQ n) (actsP n)
  | 0 => op_none
  | n + 1 => by
    refine op_then op_act fun o ho => ?_
    cases o with
    | none => exact op_none
    | some b =>
      have hb := ho b rfl
      have h1 : (Stm.mk b []).ok := ⟨hb, by simp, trivial⟩
      exact op_if (A := fun r => thenP (actsP n r) fun xs r' => (some (Stm.mk b [] :: xs), r')) (op_then (op_acts n) fun xs hx => op_ret ⟨⟨h1, hx.1⟩, by simpa using hx.2⟩) (op_ret ⟨⟨h1, trivial⟩, by simp⟩)
theorem op_when : OkP (fun p : List Src × List Xp => Lst Src.ok p.1 ∧ Lst Xp.ok p.2) whenP := by
  refine op_then (op_oneOf _) fun n _ => ?_
  by_cases h : n = 2
  · simp only [if_pos h]
    exact op_then (op_lst op_source) fun ss hs => op_then op_where fun w hw => op_ret ⟨hs, hw⟩
  · simp only [if_neg h]
    exact op_ret ⟨lst_nil, lst_nil⟩
theorem op_do : OkP (fun o : Option (List Stm) => Stm.oks (o.getD []) ∧ (o.getD []).length ≤ 1048576) doP := by
  refine op_then (op_need _) fun _ _ => op_if (A := fun r => (some none, r)) (op_ret ⟨trivial, by simp⟩) fun l hl => ?_
  obtain ⟨h1, h2⟩ := op_acts (l.length + 1) l hl
  exact op_then (Q := ActsQ (l.length + 1)) (P := actsP (l.length + 1)) (f := fun xs r => thenP (needP [69, 78, 68] r) fun _ r => (some (some xs), r)) (op_acts _) (fun xs hx => op_then (op_need _) fun _ _ => op_ret (show Stm.oks ((some xs).getD []) ∧ ((some xs).getD []).length ≤ 1048576 from ⟨hx.1, by have := hx.2; have := hl.1; simp only [Option.getD]; omega⟩)) l hl
theorem op_rule (n : List UInt8) (hn : Sm n) : OkP Stm.ok (ruleP n) := by
  refine op_then (op_need _) fun _ _ => op_then op_num fun p hp => op_then (op_need _) fun _ _ => op_then (op_oneOf _) fun e he => op_then (op_need _) fun _ _ => op_then op_name fun t ht => ?_
  simp only [List.length_cons, List.length_nil] at he
  refine maybe_then (f := fun df r => thenP (whenP r) fun w r' => thenP (doP r') fun d r' => (some (Stm.mk { StB.zero with kind := 8, name := n, table := t, src := w.1, wher := w.2, prio := p, event := e, deferred := df, rolls := d.isNone } (d.getD [])), r')) fun df => ?_
  refine op_then op_when fun w hw => op_then op_do fun d hd => op_ret ⟨?_, hd.2, hd.1⟩
  exact { zb_ok with kind := inIk (by simp) (by simp), name := hn, table := ht, src := hw.1, wher := hw.2, prio := hp, event := inIk (by show (-100 : Int) ≤ (e : Int); omega) (by show (e : Int) ≤ 100; omega) }
theorem op_create : OkP Stm.ok createP := by
  refine op_then (op_oneOf _) fun k _ => op_then op_name fun n hn => ?_
  by_cases h1 : k = 1
  · simp only [if_pos h1]
    exact op_then (op_need _) fun _ _ => op_then (op_lst op_column) fun cs hc => op_then (op_need _) fun _ _ => op_ret ⟨{ zb_ok with kind := inIk (by simp) (by simp), name := hn, cols := hc }, by simp, trivial⟩
  · by_cases h2 : k = 2
    · simp only [if_neg h1, if_pos h2]
      exact op_then (op_need _) fun _ _ => op_then op_name fun t ht => op_then (op_need _) fun _ _ => op_then op_name fun c hc => op_then (op_need _) fun _ _ => op_ret ⟨{ zb_ok with kind := inIk (by simp) (by simp), name := hn, table := ht, col := hc }, by simp, trivial⟩
    · simp only [if_neg h1, if_neg h2]
      exact op_rule n hn
theorem op_drop : OkP Stm.ok dropP := by
  refine op_then (op_oneOf _) fun k hk => op_then op_name fun n hn => op_ret ⟨?_, by simp, trivial⟩
  simp only [List.length_cons, List.length_nil] at hk
  exact { zb_ok with kind := inIk (by show (-100 : Int) ≤ 8 + (k : Int); omega) (by show 8 + (k : Int) ≤ 100; omega), name := hn }
theorem op_small (k : Nat) (hk : k ≤ 7) : OkP Stm.ok (smallP k) := by
  unfold smallP
  by_cases h1 : k ≤ 3
  · simp only [if_pos h1]; exact op_ret ⟨{ zb_ok with kind := inIk (by show (-100 : Int) ≤ (k : Int); omega) (by show (k : Int) ≤ 100; omega) }, by simp, trivial⟩
  by_cases h2 : k = 4
  · simp only [if_neg h1, if_pos h2]; exact op_then op_name fun n hn => op_ret ⟨{ zb_ok with kind := inIk (by simp) (by simp), name := hn }, by simp, trivial⟩
  by_cases h3 : k = 5
  · simp only [if_neg h1, if_neg h2, if_pos h3]; exact op_then (op_need _) fun _ _ => op_then op_name fun n hn => op_ret ⟨{ zb_ok with kind := inIk (by simp) (by simp), name := hn }, by simp, trivial⟩
  by_cases h4 : k = 6
  · simp only [if_neg h1, if_neg h2, if_neg h3, if_pos h4]; exact op_create
  · simp only [if_neg h1, if_neg h2, if_neg h3, if_neg h4]; exact op_drop
theorem op_stmt : OkP Stm.ok stmtP := op_then op_act fun o ho => by
  cases o with
  | some b => exact op_ret ⟨ho b rfl, by simp, trivial⟩
  | none =>
    intro l hl
    simp only
    cases isT [83, 69, 76, 69, 67, 84] l
    · simp only [Bool.false_eq_true, if_false]
      exact op_then (op_oneOf _) (fun k hk => op_small k (by simpa using hk)) l hl
    · simp only [if_true]
      exact op_then op_query (fun q hq => op_ret ⟨{ zb_ok with kind := inIk (by simp) (by simp), items := hq.items, src := hq.src, wher := hq.wher }, by simp, trivial⟩) l hl
theorem parse_okS (s : List UInt8) : (parseS s).1.ok := by
  unfold parseS readP
  have hz : Stm.zero.ok := ⟨zb_ok, by simp, trivial⟩
  split
  · exact hz
  · rename_i hl
    cases ht : toksS (s.length + 1) 0 s with
    | error e => exact hz
    | ok l =>
      dsimp only
      have := (op_stmt l (toks_tsm (by omega) ht)).2
      cases hP : stmtP l with
      | mk o r =>
        cases o with
        | none => exact hz
        | some e =>
          dsimp only
          split
          · split
            · exact this e (by rw [hP])
            · exact hz
          · exact hz
end Go.Abs
namespace Go.Abs
set_option linter.unusedSimpArgs false
set_option linter.unusedVariables false
open Go Go.Proofs
attribute [local simp] i_nil i_blk i_skip i_ret i_exit i_seq i_block i_cond i_region' i_ops_nil i_ops i_drawn' k_none k_0 k_1 k_2 k_3 k_4 k_5 d_in a_nil a_cons alt1 h_nil h_one h_two z_nil z_cons z_cells zeqL zeq q_alloc q_some nxtN i_drh d_hi i_drw_nil i_drw u_nil u_code u_ops u_drw u_lp u_again u_exit u_ret u_panic c_bool o_some o_val o_panic d_some d_val d_panic w_none w_fast wantG q_nil q_zero q_succ t_zero t_succ g_zero g_succ s_zero s_succ s_some s_none v_tmp v_const v_func f_quiet gc_none gc_pure wrap_i64 p_move p_assign p_pick p_alloc p_box p_build p_buildSlice p_load p_store p_nilCheck p_binOp n_tmp n_int n_bool n_str n_ptr n_fun n_iface nilCmp p_unOp p_convert p_makeSlice p_makeInterface p_makeFunc p_slice p_fieldAddr p_field p_indexAddr p_index p_extract p_callv p_callb p_panic quiet_val new_val e_assign e_call e_load e_store e_alloc e_box e_move e_pick e_build e_buildSlice e_nilCheck e_binOp e_unOp e_convert e_makeSlice e_makeInterface e_makeFunc e_slice e_fieldAddr e_field e_indexAddr e_index e_extract e_panic callD fpRead adoptZ fulls adopt adoptL ofValue ofScalar binOpV unOpV intBin strBin eqRes veq veqF eqDepth val? finish resL r_tmp r_cell normL normTop tipIs refsL refs ownRefs single frz frzL ren renL renOwn callOp doCall backR writeBack builtinV loadV storeV storeW iceT cellsAt takeV D.isAgg overlay vcells cellOk fieldAddrV indexAddrV fieldV partV indexV buildV fillV buildSliceV litElems appendV appElems elemOk convertV convV winStr makeSliceV sliceV natOf
attribute [local simp ↓] brB_true brB_false brB_dec brB_not brB_and brB_or brB_beq brB_bne
set_option maxRecDepth 100000 in
theorem ev_parse1 (l : List Tok) (he : Ends l) (hn : l.length ≤ 100000) : EV 70 [.box 0 0, .box 1 0] [[.slice .froz (l.map Tok.enc)], stZ 0 [] .full] =
  match stmtP l with
  | (some e, r) => some (.ret (.tup []), [[.slice .froz (r.map Tok.enc)], vcells e.enc])
  | (none, r) => some (.panic (faultV (topAt r)), [[.slice .froz (r.map Tok.enc)], stZ 0 [] .full]) := by
 have h0 := ev_pstmt l he hn
 rw [EV_mki rfl Tryz.func70 rfl (by kernel_rfl) rfl]
 unfold stZ
 cases hP : stmtP l with
 | mk o r =>
  rw [hP] at h0
  cases o with
  | none =>
   simp only [prO_none, faultV, rdS] at h0 ⊢
   simp [Tryz.f70, Tryz.ti3, Tryz.ti4, Tryz.ti9, Tryz.ti22, Tryz.ti23, Tryz.ti24, Tryz.ti25, Tryz.ti26, Tryz.ti28, Tryz.ti44, Tryz.ti46, Tryz.ti80, Tryz.ti84, Tryz.ti94, h0, gc, reach, reachFuel, shut, nodup, List.idxOf, List.findIdx, List.findIdx.go, backR, List.range, List.range.loop, -List.map_tail]
  | some e =>
   obtain ⟨⟨kind, name, table, col, cols, values, items, wher, sets, src, prio, event, deferred, rolls⟩, acts⟩ := e
   simp only [prO_some, rdS, senc_mk, vcells] at h0 ⊢
   simp [Tryz.f70, Tryz.ti3, Tryz.ti4, Tryz.ti9, Tryz.ti22, Tryz.ti23, Tryz.ti24, Tryz.ti25, Tryz.ti26, Tryz.ti28, Tryz.ti44, Tryz.ti46, Tryz.ti80, Tryz.ti84, Tryz.ti94, h0, gc, reach, reachFuel, shut, nodup, List.idxOf, List.findIdx, List.findIdx.go, backR, List.range, List.range.loop, -List.map_tail]
theorem ev_parse2 (e : Stm) (ho : e.ok) : EV 72 [.box 0 0] [vcells e.enc] = some (.ret (.bool (rightStm e)), [vcells e.enc]) := by
 have h0 := ev_rightstm e ho
 rw [EV_mki rfl Tryz.func72 rfl (by kernel_rfl) rfl]
 obtain ⟨⟨kind, name, table, col, cols, values, items, wher, sets, src, prio, event, deferred, rolls⟩, acts⟩ := e
 simp only [senc_mk, vcells] at h0 ⊢
 simp [Tryz.f72, Tryz.ti3, Tryz.ti4, Tryz.ti9, Tryz.ti22, Tryz.ti23, Tryz.ti24, Tryz.ti25, Tryz.ti26, Tryz.ti28, Tryz.ti44, Tryz.ti46, Tryz.ti80, Tryz.ti84, Tryz.ti94, h0, gc, reach, reachFuel, shut, nodup, List.idxOf, List.findIdx, List.findIdx.go, backR, List.range, List.range.loop, -List.map_tail]
def rdT (x : List V) (l : List Tok) : St := [[.func 70 [] [.box 1 0]], x, [.box 3 0], [.slice .froz (l.map Tok.enc)], [.func 72 [] [.box 1 0]]]
def rdSO (l : List Tok) : Option (Out × St) :=
 match stmtP l with
 | (none, r) => some (.panic (kindV 1 (topAt r)), rdT (stZ 0 [] .full) r)
 | (some e, r) => if topK r = 0 then (if rightStm e = true then some (.ret (.tup []), rdT (vcells e.enc) r) else some (.panic (kindV 8 0), rdT (vcells e.enc) r)) else some (.panic (kindV 1 (topAt r)), rdT (vcells e.enc) r)
set_option maxRecDepth 100000 in
theorem ev_read1T (l : List Tok) (he : Ends l) (hn : l.length ≤ 100000) (hok : ∀ e r, stmtP l = (some e, r) → e.ok) : EV 96 [.box 0 0, .box 2 0, .box 4 0] (rdT (stZ 0 [] .full) l) = rdSO l := by
 have h1 := ev_parse1 l he hn
 have k0 := kp_stmt l
 rw [EV_mki rfl Tryz.func96 rfl (by kernel_rfl) rfl]
 unfold rdSO rdT stZ at *
 cases hP : stmtP l with
 | mk o r =>
  rw [hP] at h1 k0
  cases o with
  | none =>
   simp only [faultV] at h1
   simp [Tryz.f96, Tryz.ti3, Tryz.ti9, Tryz.ti29, Tryz.ti64, Tryz.ti109, Tryz.ti111, Tryz.ti125, Tryz.ti141, h1, kindV, gc, reach, reachFuel, shut, nodup, List.idxOf, List.findIdx, List.findIdx.go, backR, List.range, List.range.loop, -List.map_tail]
  | some e =>
   have e1 : Ends r := k0.2 he
   obtain ⟨t, q, rfl⟩ := ends_cons e1
   have h2 := ev_top t q
   have h3 := ev_no t q
   have h4 := ev_parse2 e (hok e _ hP)
   have h5 := ev_check 8
   obtain ⟨⟨kind, name, table, col, cols, values, items, wher, sets, src, prio, event, deferred, rolls⟩, acts⟩ := e
   obtain ⟨tk, tn, tp, tw⟩ := t
   simp only [faultV] at h3
   simp at h5
   simp only [senc_mk, vcells] at h1 h4 ⊢
   simp only [topK, topAt, List.map_cons, Tok.enc_eq] at h1 h2 h3 ⊢
   generalize q.map Tok.enc = xs at *
   by_cases hk : tk = 0
   ·subst hk
    cases hR : rightStm (.mk ⟨kind, name, table, col, cols, values, items, wher, sets, src, prio, event, deferred, rolls⟩ acts)
    ·rw [hR] at h4
     simp [Tryz.f96, Tryz.ti3, Tryz.ti9, Tryz.ti29, Tryz.ti64, Tryz.ti109, Tryz.ti111, Tryz.ti125, Tryz.ti141, h1, h2, h3, h4, h5, kindV, gc, reach, reachFuel, shut, nodup, List.idxOf, List.findIdx, List.findIdx.go, backR, List.range, List.range.loop, -List.map_tail]
    ·rw [hR] at h4
     simp [Tryz.f96, Tryz.ti3, Tryz.ti9, Tryz.ti29, Tryz.ti64, Tryz.ti109, Tryz.ti111, Tryz.ti125, Tryz.ti141, h1, h2, h3, h4, kindV, gc, reach, reachFuel, shut, nodup, List.idxOf, List.findIdx, List.findIdx.go, backR, List.range, List.range.loop, -List.map_tail]
   ·simp [Tryz.f96, Tryz.ti3, Tryz.ti9, Tryz.ti29, Tryz.ti64, Tryz.ti109, Tryz.ti111, Tryz.ti125, Tryz.ti141, h1, h2, h3, hk, kindV, gc, reach, reachFuel, shut, nodup, List.idxOf, List.findIdx, List.findIdx.go, backR, List.range, List.range.loop, -List.map_tail]
def readSS (s : List UInt8) : Option Stm × Int × Int :=
 if 2000 < s.length then (none, 8, 0) else match toksS (s.length + 1) 0 s with
  | .error e => (none, 1, e)
  | .ok l => match stmtP l with
   | (none, r) => (none, 1, topAt r)
   | (some e, r) => if topK r = 0 then (if rightStm e = true then (some e, 0, 0) else (some e, 8, 0)) else (some e, 1, topAt r)
def cellT (o : Option Stm) (z : List V) : List V := o.elim z fun e => vcells e.enc
def catT (l : List Tok) : Option (Out × St) :=
 match stmtP l with
 | (none, r) => some (.ret (errV 1 (topAt r)), rdT (stZ 0 [] .full) r)
 | (some e, r) => if topK r = 0 then (if rightStm e = true then some (.ret (errV 0 0), rdT (vcells e.enc) r) else some (.ret (errV 8 0), rdT (vcells e.enc) r)) else some (.ret (errV 1 (topAt r)), rdT (vcells e.enc) r)
set_option maxRecDepth 100000 in
theorem ev_catchT (l : List Tok) (he : Ends l) (ht : TSs l) : EV 75 [.func 96 [] [.box 0 0, .box 2 0, .box 4 0]] (rdT (stZ 0 [] .full) l) = catT l := by
 have h := ev_read1T l he ht.1 (fun e r hx => ((op_stmt l ht).2 e (by rw [hx])))
 rw [ev_grab]
 unfold rdSO kindV at h
 unfold catT errV
 cases hP : stmtP l with
 | mk o r =>
  rw [hP] at h
  cases o with
  | none =>
   unfold rdT stZ at *
   simp only at h ⊢
   simp [primRun, reach, reachFuel, shut, nodup, List.idxOf, List.findIdx, List.findIdx.go, h, catchRes, gc, List.range, List.range.loop, backR]
  | some e =>
   obtain ⟨⟨kind, name, table, col, cols, values, items, wher, sets, src, prio, event, deferred, rolls⟩, acts⟩ := e
   unfold rdT stZ at *
   simp only [senc_mk, vcells] at h ⊢
   split at h <;> rename_i hk
   ·rw [if_pos hk]
    split at h <;> rename_i hR
    ·rw [if_pos hR]
     simp [primRun, reach, reachFuel, shut, nodup, List.idxOf, List.findIdx, List.findIdx.go, h, catchRes, gc, List.range, List.range.loop, backR]
    ·rw [if_neg hR]
     simp [primRun, reach, reachFuel, shut, nodup, List.idxOf, List.findIdx, List.findIdx.go, h, catchRes, gc, List.range, List.range.loop, backR]
   ·rw [if_neg hk]
    simp [primRun, reach, reachFuel, shut, nodup, List.idxOf, List.findIdx, List.findIdx.go, h, catchRes, gc, List.range, List.range.loop, backR]
set_option maxRecDepth 100000 in
theorem ev_readT (s : List UInt8) : EV 69 [.str s, .func 70 [] [.box 0 0], .func 72 [] [.box 0 0]] [stZ 0 [] .full] =
  some (.ret (errV (readSS s).2.1 (readSS s).2.2), [cellT (readSS s).1 (stZ 0 [] .full)]) := by
 rw [EV_mki rfl Tryz.func69 rfl (by kernel_rfl) rfl]
 unfold readSS
 by_cases hl : 2000 < s.length
 ·have hl' : 2000 < (s.length : Int) := by omega
  simp only [hl, if_true, cellT, Option.elim, errV, stZ]
  simp [Tryz.f69, Tryz.ti3, Tryz.ti9, Tryz.ti29, Tryz.ti56, Tryz.ti58, Tryz.ti64, Tryz.ti109, Tryz.ti111, Tryz.ti125, Tryz.ti141, hl', gc, reach, reachFuel, shut, nodup, List.idxOf, List.findIdx, List.findIdx.go, backR, List.range, List.range.loop, -List.map_tail]
 ·have hl' : ¬ 2000 < (s.length : Int) := by omega
  have h1 := ev_tokens s (by omega)
  simp only [hl, if_false]
  cases ht : toksS (s.length + 1) 0 s with
  | error e =>
   rw [ht] at h1
   simp only [toksO] at h1
   simp only [cellT, Option.elim, errV, stZ]
   simp [Tryz.f69, Tryz.ti3, Tryz.ti9, Tryz.ti29, Tryz.ti56, Tryz.ti58, Tryz.ti64, Tryz.ti109, Tryz.ti111, Tryz.ti125, Tryz.ti141, h1, hl', gc, reach, reachFuel, shut, nodup, List.idxOf, List.findIdx, List.findIdx.go, backR, List.range, List.range.loop, -List.map_tail]
  | ok l =>
   rw [ht] at h1
   have hc := ev_catchT l (toks_ends ht) (toks_tsm (by omega) ht)
   simp only [toksO] at h1
   unfold catT at hc
   simp only
   cases hP : stmtP l with
   | mk o r =>
    rw [hP] at hc
    cases o with
    | none =>
     unfold rdT stZ errV at *
     simp only [cellT, Option.elim] at hc ⊢
     simp [Tryz.f69, Tryz.ti3, Tryz.ti9, Tryz.ti29, Tryz.ti56, Tryz.ti58, Tryz.ti64, Tryz.ti109, Tryz.ti111, Tryz.ti125, Tryz.ti141, h1, hl', hc, gc, reach, reachFuel, shut, nodup, List.idxOf, List.findIdx, List.findIdx.go, backR, List.range, List.range.loop, -List.map_tail]
    | some e =>
     obtain ⟨⟨kind, name, table, col, cols, values, items, wher, sets, src, prio, event, deferred, rolls⟩, acts⟩ := e
     unfold rdT stZ errV at *
     simp only [senc_mk, vcells] at hc ⊢
     split at hc <;> rename_i hk
     ·rw [if_pos hk]
      split at hc <;> rename_i hR
      ·rw [if_pos hR]
       simp only [cellT, Option.elim, senc_mk, vcells]
       simp [Tryz.f69, Tryz.ti3, Tryz.ti9, Tryz.ti29, Tryz.ti56, Tryz.ti58, Tryz.ti64, Tryz.ti109, Tryz.ti111, Tryz.ti125, Tryz.ti141, h1, hl', hc, gc, reach, reachFuel, shut, nodup, List.idxOf, List.findIdx, List.findIdx.go, backR, List.range, List.range.loop, -List.map_tail]
      ·rw [if_neg hR]
       simp only [cellT, Option.elim, senc_mk, vcells]
       simp [Tryz.f69, Tryz.ti3, Tryz.ti9, Tryz.ti29, Tryz.ti56, Tryz.ti58, Tryz.ti64, Tryz.ti109, Tryz.ti111, Tryz.ti125, Tryz.ti141, h1, hl', hc, gc, reach, reachFuel, shut, nodup, List.idxOf, List.findIdx, List.findIdx.go, backR, List.range, List.range.loop, -List.map_tail]
     ·rw [if_neg hk]
      simp only [cellT, Option.elim, senc_mk, vcells]
      simp [Tryz.f69, Tryz.ti3, Tryz.ti9, Tryz.ti29, Tryz.ti56, Tryz.ti58, Tryz.ti64, Tryz.ti109, Tryz.ti111, Tryz.ti125, Tryz.ti141, h1, hl', hc, gc, reach, reachFuel, shut, nodup, List.idxOf, List.findIdx, List.findIdx.go, backR, List.range, List.range.loop, -List.map_tail]
theorem readT_parse (s : List UInt8) : (∃ e, readSS s = (some e, 0, 0) ∧ parseS s = (e, 0, 0)) ∨ (∃ o k q, readSS s = (o, k, q) ∧ k ≠ 0 ∧ parseS s = (Stm.zero, k, q)) := by
 unfold readSS parseS readP
 by_cases hl : 2000 < s.length
 ·exact .inr ⟨none, 8, 0, by simp [hl], by decide, by simp [hl]⟩
 ·simp only [hl, if_false]
  cases toksS (s.length + 1) 0 s with
  | error e => exact .inr ⟨none, 1, e, rfl, by decide, rfl⟩
  | ok l =>
   simp only
   cases stmtP l with
   | mk o r =>
    cases o with
    | none => exact .inr ⟨none, 1, topAt r, rfl, by decide, rfl⟩
    | some e =>
     simp only
     by_cases hk : topK r = 0
     ·by_cases hR : rightStm e = true
      ·exact .inl ⟨e, by simp [hk, hR], by simp [hk, hR]⟩
      ·exact .inr ⟨some e, 8, 0, by simp [hk, hR], by decide, by simp [hk, hR]⟩
     ·exact .inr ⟨some e, 1, topAt r, by simp [hk], by decide, by simp [hk]⟩
def stmO (s : List UInt8) : Option (Out × St) := some (.ret (.tup [(parseS s).1.enc, errV (parseS s).2.1 (parseS s).2.2]), [])
set_option maxRecDepth 100000 in
theorem ev_pparse (s : List UInt8) : EV 28 [.str s] [] = stmO s := by
 have h1 := ev_readT s
 rw [EV_mki rfl Tryz.func28 rfl (by kernel_rfl) rfl]
 unfold stmO
 rcases readT_parse s with ⟨e, hr, hp⟩ | ⟨o, k, q, hr, hk, hp⟩
 ·rw [hr] at h1
  rw [hp]
  obtain ⟨⟨kind, name, table, col, cols, values, items, wher, sets, src, prio, event, deferred, rolls⟩, acts⟩ := e
  simp only [cellT, Option.elim, senc_mk, vcells, errV, stZ] at h1 ⊢
  simp [Tryz.f28, Tryz.ti3, Tryz.ti4, Tryz.ti9, Tryz.ti22, Tryz.ti23, Tryz.ti24, Tryz.ti25, Tryz.ti26, Tryz.ti28, Tryz.ti44, Tryz.ti46, Tryz.ti56, Tryz.ti58, Tryz.ti80, Tryz.ti84, Tryz.ti94, h1, gc, reach, reachFuel, shut, nodup, List.idxOf, List.findIdx, List.findIdx.go, backR, List.range, List.range.loop, -List.map_tail] <;> first | (refine panQ_of ?_; decide +kernel) | (change _ = true; decide +kernel) | kernel_rfl | (refine ⟨?_, ?_⟩ <;> first | (change _ = true; decide +kernel) | kernel_rfl)
 ·rw [hr] at h1
  rw [hp]
  cases o with
  | none =>
   simp only [cellT, Option.elim, senc_mk, vcells, errV, stZ, Stm.zero, StB.zero, List.map_nil] at h1 ⊢
   simp [Tryz.f28, Tryz.ti3, Tryz.ti4, Tryz.ti9, Tryz.ti22, Tryz.ti23, Tryz.ti24, Tryz.ti25, Tryz.ti26, Tryz.ti28, Tryz.ti44, Tryz.ti46, Tryz.ti56, Tryz.ti58, Tryz.ti80, Tryz.ti84, Tryz.ti94, h1, hk, gc, reach, reachFuel, shut, nodup, List.idxOf, List.findIdx, List.findIdx.go, backR, List.range, List.range.loop, -List.map_tail] <;> first | (refine panQ_of ?_; decide +kernel) | (change _ = true; decide +kernel) | kernel_rfl | (refine ⟨?_, ?_⟩ <;> first | (change _ = true; decide +kernel) | kernel_rfl)
  | some e =>
   obtain ⟨⟨kind, name, table, col, cols, values, items, wher, sets, src, prio, event, deferred, rolls⟩, acts⟩ := e
   simp only [cellT, Option.elim, senc_mk, vcells, errV, stZ, Stm.zero, StB.zero, List.map_nil] at h1 ⊢
   simp [Tryz.f28, Tryz.ti3, Tryz.ti4, Tryz.ti9, Tryz.ti22, Tryz.ti23, Tryz.ti24, Tryz.ti25, Tryz.ti26, Tryz.ti28, Tryz.ti44, Tryz.ti46, Tryz.ti56, Tryz.ti58, Tryz.ti80, Tryz.ti84, Tryz.ti94, h1, hk, gc, reach, reachFuel, shut, nodup, List.idxOf, List.findIdx, List.findIdx.go, backR, List.range, List.range.loop, -List.map_tail] <;> first | (refine panQ_of ?_; decide +kernel) | (change _ = true; decide +kernel) | kernel_rfl | (refine ⟨?_, ?_⟩ <;> first | (change _ = true; decide +kernel) | kernel_rfl)
end Go.Abs
namespace Go.Abs
open Go Go.Proofs
theorem ev_awake14 : EV 27 [] [] = some (.ret (.bool true), []) := ev_some.2 ⟨200, by kernel_rfl⟩
end Go.Abs
namespace Go.Abs
set_option linter.unusedSimpArgs false
set_option linter.unusedVariables false
open Go
structure LP {α : Type} (K K' : Nat) (P P' : List Tok → PR α) : Prop where
  suf : ∀ l, (P l).2 <:+ l
  rel : ∀ (a m b : List Tok) (e : Tok) (o : Option α), e.kind = 0 → b ≠ [] → a.length + 1 ≤ K → (a ++ m).length ≤ K' → P (a ++ [e]) = (o, b ++ [e]) → P' (a ++ m) = (o, b ++ m)
theorem suf_split {r a : List Tok} {e : Tok} (h : r <:+ a ++ [e]) (hn : r ≠ []) : ∃ b, r = b ++ [e] ∧ b <:+ a := by
  obtain ⟨x, hx⟩ := h
  obtain ⟨b, f, rfl⟩ : ∃ b f, r = b ++ [f] := ⟨r.dropLast, r.getLast hn, (List.dropLast_concat_getLast hn).symm⟩
  rw [← List.append_assoc] at hx
  obtain ⟨h1, h2⟩ := List.append_inj' hx rfl
  cases h2
  exact ⟨b, rfl, ⟨x, h1⟩⟩
theorem suf_len {r l : List Tok} (h : r <:+ l) : r.length ≤ l.length := h.length_le
theorem lp_ret {α : Type} {K K' : Nat} (x : α) : LP K K' (fun r => (some x, r)) (fun r => (some x, r)) :=
  ⟨fun l => List.suffix_refl l, fun a m b e o _ _ _ _ h => by
    simp only [Prod.mk.injEq] at h ⊢
    obtain ⟨h1, _⟩ := List.append_inj' h.2 rfl
    exact ⟨h.1, by rw [h1]⟩⟩
theorem lp_none {α : Type} {K K' : Nat} : LP K K' (fun r => ((none : Option α), r)) (fun r => ((none : Option α), r)) :=
  ⟨fun l => List.suffix_refl l, fun a m b e o _ _ _ _ h => by
    simp only [Prod.mk.injEq] at h ⊢
    obtain ⟨h1, _⟩ := List.append_inj' h.2 rfl
    exact ⟨h.1, by rw [h1]⟩⟩
theorem lp_then {α β : Type} {K K' : Nat} {P P' : List Tok → PR α} {f f' : α → List Tok → PR β} (hp : LP K K' P P') (hf : ∀ x, LP K K' (f x) (f' x)) : LP K K' (fun l => thenP (P l) f) (fun l => thenP (P' l) f') := by
  refine ⟨fun l => ?_, fun a m b e o he hb hK hK' h => ?_⟩
  · have h := hp.suf l
    simp only [thenP]
    cases hP : P l with
    | mk o r =>
      rw [hP] at h
      cases o with
      | none => exact h
      | some x => exact ((hf x).suf r).trans h
  · simp only [thenP] at h ⊢
    have hs := hp.suf (a ++ [e])
    cases hP : P (a ++ [e]) with
    | mk o1 r1 =>
      rw [hP] at h hs
      simp only at hs
      cases o1 with
      | none =>
        simp only [Prod.mk.injEq] at h
        obtain ⟨rfl, rfl⟩ := h
        rw [hp.rel a m b e none he hb hK hK' hP]
      | some x =>
        simp only at h
        have hs2 := (hf x).suf r1
        rw [h] at hs2
        simp only at hs2
        have hn : r1 ≠ [] := by rintro rfl; have := suf_len hs2; simp at this
        obtain ⟨b1, rfl, hb1⟩ := suf_split hs hn
        have hbl := suf_len hs2
        simp only [List.length_append, List.length_singleton] at hbl
        have hb1n : b1 ≠ [] := by
          intro h0
          have : 0 < b.length := List.length_pos_iff.2 hb
          rw [h0] at hbl
          simp only [List.length_nil] at hbl
          omega
        rw [hp.rel a m b1 e (some x) he hb1n hK hK' hP]
        have hl1 := suf_len hb1
        exact (hf x).rel b1 m b e o he hb (by omega) (by simp only [List.length_append] at hK' ⊢; omega) h
theorem lp_head {α : Type} {P : List Tok → PR α} (hs : ∀ l, (P l).2 <:+ l) {a b : List Tok} {e : Tok} {o : Option α} (hb : b ≠ []) (h : P (a ++ [e]) = (o, b ++ [e])) : ∃ t a', a = t :: a' := by
  cases a with
  | cons t a => exact ⟨t, a, rfl⟩
  | nil =>
    have h2 := suf_len (hs ([] ++ [e]))
    rw [h] at h2
    have : 0 < b.length := List.length_pos_iff.2 hb
    simp only [List.length_append, List.length_singleton, List.length_nil] at h2
    omega
theorem isT_head (s : List UInt8) (t : Tok) (l m : List Tok) : isT s (t :: l) = isT s (t :: m) := rfl
theorem tail_suf (l : List Tok) : l.tail <:+ l := List.tail_suffix l
theorem lp_if {α : Type} {K K' : Nat} {s : List UInt8} {A A' B B' : List Tok → PR α} (ha : LP (K - 1) (K' - 1) A A') (hb : LP K K' B B') : LP K K' (fun l => if isT s l then A l.tail else B l) (fun l => if isT s l then A' l.tail else B' l) := by
  have hs : ∀ l, (if isT s l then A l.tail else B l).2 <:+ l := fun l => by
    cases isT s l
    · exact hb.suf l
    · exact (ha.suf l.tail).trans (tail_suf l)
  refine ⟨hs, fun a m b e o he hbn hK hK' h => ?_⟩
  obtain ⟨t, a', rfl⟩ := lp_head (P := fun l => if isT s l then A l.tail else B l) hs hbn h
  simp only [List.cons_append, List.tail_cons] at h ⊢
  simp only [List.length_cons, List.cons_append, List.length_append] at hK hK'
  cases hi : isT s (t :: (a' ++ [e]))
  · have hi' : isT s (t :: (a' ++ m)) = false := hi
    simp only [hi, hi', Bool.false_eq_true, if_false] at h ⊢
    exact hb.rel (t :: a') m b e o he hbn (by simpa using hK) (by simp; omega) h
  · have hi' : isT s (t :: (a' ++ m)) = true := hi
    simp only [hi, hi', if_true] at h ⊢
    exact ha.rel a' m b e o he hbn (by omega) (by simp; omega) h
theorem lp_need {K K' : Nat} (s : List UInt8) : LP K K' (needP s) (needP s) := lp_if (lp_ret ()) lp_none
theorem lp_mono {α : Type} {K K' L L' : Nat} {P P' : List Tok → PR α} (h : LP K K' P P') (h1 : L ≤ K) (h2 : L' ≤ K') : LP L L' P P' := ⟨h.suf, fun a m b e o he hb hK hK' hP => h.rel a m b e o he hb (by omega) (by omega) hP⟩
theorem lp_tok {α : Type} {K K' : Nat} {c : Tok → Bool} {f : Tok → α} : LP K K' (fun l => match l with
    | [] => (none, [])
    | t :: r => if c t = true then (some (f t), r) else (none, t :: r)) (fun l => match l with
    | [] => (none, [])
    | t :: r => if c t = true then (some (f t), r) else (none, t :: r)) := by
  have hs : ∀ l : List Tok, ((match l with
    | [] => (none, [])
    | t :: r => if c t = true then (some (f t), r) else (none, t :: r)) : PR α).2 <:+ l := fun l => by
    cases l with
    | nil => exact List.suffix_refl _
    | cons t r =>
      simp only
      split
      · exact List.suffix_cons t r
      · exact List.suffix_refl _
  refine ⟨hs, fun a m b e o he hb hK hK' h => ?_⟩
  obtain ⟨t, a', rfl⟩ := lp_head hs hb h
  simp only [List.cons_append] at h ⊢
  cases hc : c t <;> rw [hc] at h <;> simp only [Bool.false_eq_true, if_false, if_true, Prod.mk.injEq] at h ⊢
  · rw [← List.cons_append] at h ⊢
    obtain ⟨h1, _⟩ := List.append_inj' h.2 rfl
    exact ⟨h.1, by rw [h1]⟩
  · obtain ⟨h1, _⟩ := List.append_inj' h.2 rfl
    exact ⟨h.1, by rw [h1]⟩
theorem lp_name {K K' : Nat} : LP K K' nameP nameP := by
  have := lp_tok (K := K) (K' := K') (c := fun t => decide (t.kind = 2)) (f := fun t => t.s)
  simp only [decide_eq_true_eq] at this
  have e : nameP = fun l => match l with
    | [] => (none, [])
    | t :: r => if t.kind = 2 then (some t.s, r) else (none, t :: r) := by funext l; cases l <;> rfl
  rw [e]; exact this
theorem lp_num {K K' : Nat} : LP K K' numP numP := by
  have := lp_tok (K := K) (K' := K') (c := fun t => decide (t.kind = 3)) (f := fun t => t.n)
  simp only [decide_eq_true_eq] at this
  have e : numP = fun l => match l with
    | [] => (none, [])
    | t :: r => if t.kind = 3 then (some t.n, r) else (none, t :: r) := by funext l; cases l <;> rfl
  rw [e]; exact this
theorem one_lp {K K' : Nat} : ∀ (ss : List (List UInt8)), LP K K' (fun l => ((some (oneP ss l).1 : Option Nat), (oneP ss l).2)) (fun l => ((some (oneP ss l).1 : Option Nat), (oneP ss l).2))
  | [] => lp_ret 0
  | s :: r => by
    have ih := one_lp (K := K) (K' := K') r
    have hq : (fun l => ((some (oneP (s :: r) l).1 : Option Nat), (oneP (s :: r) l).2)) = fun l => if isT s l then (fun l => ((some 1 : Option Nat), l)) l.tail else (fun l => thenP ((some (oneP r l).1 : Option Nat), (oneP r l).2) fun n l => (some (if n = 0 then 0 else n + 1), l)) l := by
      funext l
      simp only [oneP]
      cases isT s l
      · simp only [Bool.false_eq_true, if_false, thenP]
        cases oneP r l with
        | mk n l' => cases n <;> simp
      · simp
    rw [hq]
    exact lp_if (lp_ret 1) (lp_then ih fun n => lp_ret _)
theorem lp_oneOf {K K' : Nat} (ss : List (List UInt8)) : LP K K' (oneOfP ss) (oneOfP ss) := by
  have hq : oneOfP ss = fun l => thenP ((some (oneP ss l).1 : Option Nat), (oneP ss l).2) fun n l => if n = 0 then (none, l) else (some n, l) := by
    funext l
    unfold oneOfP
    cases oneP ss l with
    | mk n l' => cases n <;> simp [thenP]
  rw [hq]
  refine lp_then (one_lp ss) fun n => ?_
  by_cases h : n = 0
  · simp only [if_pos h]; exact lp_none
  · simp only [if_neg h]; exact lp_ret n
theorem maybe_lp {α : Type} {K K' : Nat} {s : List UInt8} {f f' : Bool → List Tok → PR α} (h : ∀ b, LP K K' (f b) (f' b)) : LP K K' (fun l => f (maybeP s l).1 (maybeP s l).2) (fun l => f' (maybeP s l).1 (maybeP s l).2) := by
  have e : ∀ g : Bool → List Tok → PR α, (fun l => g (maybeP s l).1 (maybeP s l).2) = fun l => if isT s l then g true l.tail else g false l := fun g => by
    funext l
    unfold maybeP
    cases isT s l <;> rfl
  rw [e, e]
  exact lp_if (lp_mono (h true) (by omega) (by omega)) (h false)
theorem lp_fuel {α : Type} {K K' : Nat} {F F' : Nat → List Tok → PR α} (hs : ∀ n l, (F n l).2 <:+ l) (h : ∀ n n' L L', L ≤ K → L' ≤ K' → L ≤ n → L' ≤ n' → LP L L' (F n) (F' n')) : LP K K' (fun l => F (l.length + 1) l) (fun l => F' (l.length + 1) l) :=
  ⟨fun l => hs _ l, fun a m b e o he hb hK hK' hP => (h ((a ++ [e]).length + 1) ((a ++ m).length + 1) (a.length + 1) (a ++ m).length hK hK' (by simp) (by simp)).rel a m b e o he hb (Nat.le_refl _) (Nat.le_refl _) hP⟩
def SufP {α : Type} (P : List Tok → PR α) : Prop := ∀ l, (P l).2 <:+ l
theorem lp_zero {α : Type} {K' : Nat} {P P' : List Tok → PR α} (hs : SufP P) : LP 0 K' P P' := ⟨hs, fun a m b e o _ _ hK _ _ => by omega⟩
theorem lp_zero' {α : Type} {K : Nat} {P P' : List Tok → PR α} (hs : SufP P) : LP K 0 P P' := ⟨hs, fun a m b e o _ hb _ hK' hP => by
  obtain ⟨t, a', rfl⟩ := lp_head hs hb hP
  simp at hK'⟩
theorem su_then {α β : Type} {P : List Tok → PR α} {f : α → List Tok → PR β} (hp : SufP P) (hf : ∀ x, SufP (f x)) : SufP (fun l => thenP (P l) f) := fun l => by
  have h := hp l
  simp only [thenP]
  cases hP : P l with
  | mk o r =>
    rw [hP] at h
    cases o with
    | none => exact h
    | some x => exact (hf x r).trans h
theorem su_if {α : Type} {s : List UInt8} {A B : List Tok → PR α} (ha : SufP A) (hb : SufP B) : SufP (fun l => if isT s l then A l.tail else B l) := fun l => by
  simp only
  cases isT s l
  · exact hb l
  · exact (ha l.tail).trans (tail_suf l)
theorem su_ret {α : Type} (x : α) : SufP (fun r => (some x, r)) := fun l => List.suffix_refl l
theorem su_none {α : Type} : SufP (fun r => ((none : Option α), r)) := fun l => List.suffix_refl l
theorem su_list {α : Type} {f : List Tok → PR α} (hf : SufP f) : ∀ n, SufP (listP f n)
  | 0 => su_none
  | n + 1 => su_then hf fun a => su_if (A := fun r => thenP (listP f n r) fun xs r' => (some (a :: xs), r')) (su_then (su_list hf n) fun xs => su_ret _) (su_ret _)
theorem lp_list {α : Type} {f f' : List Tok → PR α} : ∀ (n n' K K' : Nat), LP K K' f f' → K ≤ n → K' ≤ n' → LP K K' (listP f n) (listP f' n')
  | 0, n', K, K', hf, hn, _ => by
    obtain rfl : K = 0 := by omega
    exact lp_zero (su_list hf.suf 0)
  | n + 1, 0, K, K', hf, _, hn => by
    obtain rfl : K' = 0 := by omega
    exact lp_zero' (su_list hf.suf _)
  | n + 1, n' + 1, K, K', hf, h1, h2 => lp_then hf fun a => lp_if (A := fun r => thenP (listP f n r) fun xs r' => (some (a :: xs), r')) (A' := fun r => thenP (listP f' n' r) fun xs r' => (some (a :: xs), r'))
      (lp_then (lp_list n n' (K - 1) (K' - 1) (lp_mono hf (by omega) (by omega)) (by omega) (by omega)) fun xs => lp_ret _) (lp_ret _)
theorem lp_lst {α : Type} {K K' : Nat} {f f' : List Tok → PR α} (hf : LP K K' f f') : LP K K' (fun l => listP f (l.length + 1) l) (fun l => listP f' (l.length + 1) l) :=
  lp_fuel (fun n => su_list hf.suf n) fun n n' L L' h1 h2 h3 h4 => lp_list n n' L L' (lp_mono hf h1 h2) h3 h4
theorem opAt_head (tbl : List (List UInt8 × List UInt8)) (t : Tok) (l m : List Tok) : opAt tbl (t :: l) = opAt tbl (t :: m) := by
  induction tbl with
  | nil => rfl
  | cons p r ih => obtain ⟨s, o⟩ := p; simp only [opAt, isT_head s t l m, ih]
theorem lp_opAt {α : Type} {K K' : Nat} {tbl : List (List UInt8 × List UInt8)} {A A' : List UInt8 → List Tok → PR α} {B B' : List Tok → PR α} (ha : ∀ o, LP (K - 1) (K' - 1) (A o) (A' o)) (hb : LP K K' B B') :
    LP K K' (fun l => match opAt tbl l with
      | none => B l
      | some o => A o l.tail) (fun l => match opAt tbl l with
      | none => B' l
      | some o => A' o l.tail) := by
  have hs : ∀ l, (match opAt tbl l with
      | none => B l
      | some o => A o l.tail).2 <:+ l := fun l => by
    cases opAt tbl l with
    | none => exact hb.suf l
    | some o => exact ((ha o).suf l.tail).trans (tail_suf l)
  refine ⟨hs, fun a m b e o he hbn hK hK' h => ?_⟩
  obtain ⟨t, a', rfl⟩ := lp_head (P := fun l => match opAt tbl l with
      | none => B l
      | some o => A o l.tail) hs hbn h
  simp only [List.cons_append, List.tail_cons] at h ⊢
  simp only [List.length_cons, List.cons_append, List.length_append] at hK hK'
  cases hi : opAt tbl (t :: (a' ++ [e])) with
  | none =>
    have hi' : opAt tbl (t :: (a' ++ m)) = none := by rw [← hi]; exact opAt_head tbl t _ _
    simp only [hi, hi'] at h ⊢
    exact hb.rel (t :: a') m b e o he hbn (by simpa using hK) (by simp; omega) h
  | some q =>
    have hi' : opAt tbl (t :: (a' ++ m)) = some q := by rw [← hi]; exact opAt_head tbl t _ _
    simp only [hi, hi'] at h ⊢
    exact (ha q).rel a' m b e o he hbn (by omega) (by simp; omega) h
theorem su_opAt {α : Type} {tbl : List (List UInt8 × List UInt8)} {A : List UInt8 → List Tok → PR α} {B : List Tok → PR α} (ha : ∀ o, SufP (A o)) (hb : SufP B) : SufP (fun l => match opAt tbl l with
      | none => B l
      | some o => A o l.tail) := fun l => by
  simp only
  cases opAt tbl l with
  | none => exact hb l
  | some o => exact (ha o l.tail).trans (tail_suf l)
theorem more_eq (part : List Tok → PR Xp) (tbl : List (List UInt8 × List UInt8)) (n : Nat) (e : Xp) : moreP part tbl (n + 1) e = fun l => match opAt tbl l with
    | none => (fun r => (some e, r)) l
    | some o => (fun l => thenP (part l) fun f r => moreP part tbl n (xop o [e, f]) r) l.tail := rfl
theorem su_more {part : List Tok → PR Xp} (hp : SufP part) (tbl : List (List UInt8 × List UInt8)) : ∀ n e, SufP (moreP part tbl n e)
  | 0, e => su_none
  | n + 1, e => by
    rw [more_eq]
    exact su_opAt (A := fun o l => thenP (part l) fun f r => moreP part tbl n (xop o [e, f]) r) (fun o => su_then hp fun f => su_more hp tbl n _) (su_ret e)
theorem lp_more {part part' : List Tok → PR Xp} (tbl : List (List UInt8 × List UInt8)) : ∀ (n n' K K' : Nat) (e : Xp), LP K K' part part' → K ≤ n → K' ≤ n' → LP K K' (moreP part tbl n e) (moreP part' tbl n' e)
  | 0, n', K, K', e, hf, hn, _ => by
    obtain rfl : K = 0 := by omega
    exact lp_zero (su_more hf.suf tbl 0 e)
  | n + 1, 0, K, K', e, hf, _, hn => by
    obtain rfl : K' = 0 := by omega
    exact lp_zero' (su_more hf.suf tbl _ e)
  | n + 1, n' + 1, K, K', e, hf, h1, h2 => by
    rw [more_eq, more_eq]
    exact lp_opAt (A := fun o l => thenP (part l) fun f r => moreP part tbl n (xop o [e, f]) r) (A' := fun o l => thenP (part' l) fun f r => moreP part' tbl n' (xop o [e, f]) r)
      (fun o => lp_then (lp_mono hf (by omega) (by omega)) fun f => lp_more tbl n n' (K - 1) (K' - 1) _ (lp_mono hf (by omega) (by omega)) (by omega) (by omega)) (lp_ret e)
theorem lp_chain {K K' : Nat} {part part' : List Tok → PR Xp} (hp : LP K K' part part') (tbl : List (List UInt8 × List UInt8)) : LP K K' (chainP part tbl) (chainP part' tbl) :=
  lp_then hp fun e => lp_fuel (fun n => su_more hp.suf tbl n e) fun n n' L L' h1 h2 h3 h4 => lp_more tbl n n' L L' e (lp_mono hp h1 h2) h3 h4
theorem su_chain {part : List Tok → PR Xp} (hp : SufP part) (tbl : List (List UInt8 × List UInt8)) : SufP (chainP part tbl) := su_then hp fun e l => su_more hp tbl _ e l
theorem lp_paren {K K' : Nat} {or or' : List Tok → PR Xp} (ho : LP K K' or or') : LP K K' (parenP or) (parenP or') :=
  lp_then ho fun e => lp_if (A := fun r => (some e, r)) (A' := fun r => (some e, r)) (lp_ret _) lp_none
theorem su_paren {or : List Tok → PR Xp} (ho : SufP or) : SufP (parenP or) := su_then ho fun e => su_if (A := fun r => (some e, r)) (su_ret _) su_none
theorem su_name : SufP nameP := (lp_name (K := 0) (K' := 0)).suf
theorem su_atom {or : List Tok → PR Xp} (ho : SufP or) : SufP (atomP or) := by
  intro l
  cases l with
  | nil => exact List.suffix_refl _
  | cons t r =>
    have st : ∀ {p : PR Xp}, p.2 <:+ r → p.2 <:+ t :: r := fun h => h.trans (List.suffix_cons t r)
    have hd := su_if (s := [46]) (A := fun r => thenP (nameP r) fun c r' => (some (Xp.mk oColumn Val.zero t.s c []), r')) (B := fun r => (some (Xp.mk oColumn Val.zero [] t.s []), r)) (su_then su_name fun c => su_ret _) (su_ret _) r
    simp only [atomP]
    split
    · exact st (List.suffix_refl _)
    · split
      · exact st (List.suffix_refl _)
      · split
        · exact st hd
        · split
          · exact st (List.suffix_refl _)
          · split
            · exact st (List.suffix_refl _)
            · split
              · exact st (List.suffix_refl _)
              · split
                · exact st (su_paren ho r)
                · exact List.suffix_refl _
theorem lp_atom {K K' : Nat} {or or' : List Tok → PR Xp} (ho : LP (K - 1) (K' - 1) or or') : LP K K' (atomP or) (atomP or') := by
  refine ⟨su_atom ho.suf, fun a m b e o he hb hK hK' h => ?_⟩
  obtain ⟨t, a', rfl⟩ := lp_head (su_atom ho.suf) hb h
  simp only [List.length_cons, List.cons_append, List.length_append] at hK hK'
  have hd := lp_if (K := K - 1) (K' := K' - 1) (s := [46]) (A := fun r => thenP (nameP r) fun c r' => (some (Xp.mk oColumn Val.zero t.s c []), r')) (A' := fun r => thenP (nameP r) fun c r' => (some (Xp.mk oColumn Val.zero t.s c []), r'))
    (B := fun r => (some (Xp.mk oColumn Val.zero [] t.s []), r)) (B' := fun r => (some (Xp.mk oColumn Val.zero [] t.s []), r)) (lp_then lp_name fun c => lp_ret _) (lp_ret _)
  have k1 : a'.length + 1 ≤ K - 1 := by omega
  have k2 : (a' ++ m).length ≤ K' - 1 := by simp; omega
  have val : ∀ (x : Xp), ((some x, a' ++ [e]) : PR Xp) = (o, b ++ [e]) → ((some x, a' ++ m) : PR Xp) = (o, b ++ m) := fun x hx => (lp_ret (K := K - 1) (K' := K' - 1) x).rel a' m b e o he hb k1 k2 hx
  simp only [List.cons_append, atomP] at h ⊢
  have e1 : ∀ s, isT s (t :: (a' ++ [e])) = isT s (t :: (a' ++ m)) := fun s => rfl
  simp only [e1] at h
  split at h <;> rename_i c1
  · rw [if_pos c1]; exact val _ h
  · rw [if_neg c1]
    split at h <;> rename_i c2
    · rw [if_pos c2]; exact val _ h
    · rw [if_neg c2]
      split at h <;> rename_i c3
      · rw [if_pos c3]; exact hd.rel a' m b e o he hb k1 k2 h
      · rw [if_neg c3]
        split at h <;> rename_i c4
        · rw [if_pos c4]; exact val _ h
        · rw [if_neg c4]
          split at h <;> rename_i c5
          · rw [if_pos c5]; exact val _ h
          · rw [if_neg c5]
            split at h <;> rename_i c6
            · rw [if_pos c6]; exact val _ h
            · rw [if_neg c6]
              split at h <;> rename_i c7
              · rw [if_pos c7]; exact (lp_paren ho).rel a' m b e o he hb k1 k2 h
              · rw [if_neg c7]
                exact (lp_none (K := K) (K' := K')).rel (t :: a') m b e o he hb (by simpa using hK) (by simp; omega) h
theorem su_unary {or : List Tok → PR Xp} (ho : SufP or) : ∀ k, SufP (unaryP or k)
  | 0 => su_none
  | k + 1 => su_if (A := fun l => thenP (unaryP or k l) fun e r => (some (xop oNeg [e]), r)) (su_then (su_unary ho k) fun e => su_ret _) (su_atom ho)
theorem lp_unary {or or' : List Tok → PR Xp} : ∀ (n n' K K' : Nat), LP (K - 1) (K' - 1) or or' → K ≤ n → K' ≤ n' → LP K K' (unaryP or n) (unaryP or' n')
  | 0, n', K, K', ho, hn, _ => by
    obtain rfl : K = 0 := by omega
    exact lp_zero (su_unary ho.suf 0)
  | n + 1, 0, K, K', ho, _, hn => by
    obtain rfl : K' = 0 := by omega
    exact lp_zero' (su_unary ho.suf _)
  | n + 1, n' + 1, K, K', ho, h1, h2 =>
    lp_if (A := fun l => thenP (unaryP or n l) fun e r => (some (xop oNeg [e]), r)) (A' := fun l => thenP (unaryP or' n' l) fun e r => (some (xop oNeg [e]), r))
      (lp_then (lp_unary n n' (K - 1) (K' - 1) (lp_mono ho (by omega) (by omega)) (by omega) (by omega)) fun e => lp_ret _) (lp_atom ho)
theorem su_is (e : Xp) : SufP (isP e) :=
  su_if (A := fun l => (thenP (needP [78, 85, 76, 76] (maybeP [78, 79, 84] l).2) fun _ r' => (some (if (maybeP [78, 79, 84] l).1 = true then xop oNot [xop oNull [e]] else xop oNull [e]), r')))
    (maybe_lp (K := 0) (K' := 0) (f := fun b l => thenP (needP [78, 85, 76, 76] l) fun _ r' => (some (if b = true then xop oNot [xop oNull [e]] else xop oNull [e]), r')) (f' := fun b l => thenP (needP [78, 85, 76, 76] l) fun _ r' => (some (if b = true then xop oNot [xop oNull [e]] else xop oNull [e]), r')) fun b => lp_then (lp_need _) fun _ => lp_ret _).suf (su_ret e)
theorem lp_is {K K' : Nat} (e : Xp) : LP K K' (isP e) (isP e) :=
  lp_if (A := fun l => (thenP (needP [78, 85, 76, 76] (maybeP [78, 79, 84] l).2) fun _ r' => (some (if (maybeP [78, 79, 84] l).1 = true then xop oNot [xop oNull [e]] else xop oNull [e]), r'))) (A' := fun l => (thenP (needP [78, 85, 76, 76] (maybeP [78, 79, 84] l).2) fun _ r' => (some (if (maybeP [78, 79, 84] l).1 = true then xop oNot [xop oNull [e]] else xop oNull [e]), r')))
    (maybe_lp (f := fun b l => thenP (needP [78, 85, 76, 76] l) fun _ r' => (some (if b = true then xop oNot [xop oNull [e]] else xop oNull [e]), r')) (f' := fun b l => thenP (needP [78, 85, 76, 76] l) fun _ r' => (some (if b = true then xop oNot [xop oNull [e]] else xop oNull [e]), r')) fun b => lp_then (lp_need _) fun _ => lp_ret _) (lp_ret e)
theorem cmp_eq (sum : List Tok → PR Xp) : cmpP sum = fun l => thenP (sum l) fun e r => match opAt cmpTbl r with
    | none => isP e r
    | some o => (fun l => thenP (sum l) fun f r' => (some (xop o [e, f]), r')) r.tail := by
  funext l
  unfold cmpP
  congr 1
  funext e r
  cases opAt cmpTbl r <;> rfl
theorem su_cmp {sum : List Tok → PR Xp} (hs : SufP sum) : SufP (cmpP sum) := by
  rw [cmp_eq]
  exact su_then hs fun e => su_opAt (A := fun o l => thenP (sum l) fun f r' => (some (xop o [e, f]), r')) (fun o => su_then hs fun f => su_ret _) (su_is e)
theorem lp_cmp {K K' : Nat} {sum sum' : List Tok → PR Xp} (hs : LP K K' sum sum') : LP K K' (cmpP sum) (cmpP sum') := by
  rw [cmp_eq, cmp_eq]
  exact lp_then hs fun e => lp_opAt (A := fun o l => thenP (sum l) fun f r' => (some (xop o [e, f]), r')) (A' := fun o l => thenP (sum' l) fun f r' => (some (xop o [e, f]), r')) (fun o => lp_then (lp_mono hs (by omega) (by omega)) fun f => lp_ret _) (lp_is e)
theorem su_not {cmp : List Tok → PR Xp} (hc : SufP cmp) : ∀ k, SufP (notP cmp k)
  | 0 => su_none
  | k + 1 => su_if (A := fun l => thenP (notP cmp k l) fun e r => (some (xop oNot [e]), r)) (su_then (su_not hc k) fun e => su_ret _) hc
theorem lp_not {cmp cmp' : List Tok → PR Xp} : ∀ (n n' K K' : Nat), LP K K' cmp cmp' → K ≤ n → K' ≤ n' → LP K K' (notP cmp n) (notP cmp' n')
  | 0, n', K, K', ho, hn, _ => by
    obtain rfl : K = 0 := by omega
    exact lp_zero (su_not ho.suf 0)
  | n + 1, 0, K, K', ho, _, hn => by
    obtain rfl : K' = 0 := by omega
    exact lp_zero' (su_not ho.suf _)
  | n + 1, n' + 1, K, K', ho, h1, h2 =>
    lp_if (A := fun l => thenP (notP cmp n l) fun e r => (some (xop oNot [e]), r)) (A' := fun l => thenP (notP cmp' n' l) fun e r => (some (xop oNot [e]), r))
      (lp_then (lp_not n n' (K - 1) (K' - 1) (lp_mono ho (by omega) (by omega)) (by omega) (by omega)) fun e => lp_ret _) ho
section
variable {or : List Tok → PR Xp} (ho : SufP or)
include ho
theorem su_unaryL : SufP (unaryL or) := fun l => su_unary ho _ l
theorem su_term : SufP (termP or) := su_chain (su_unaryL ho) termTbl
theorem su_sum : SufP (sumP or) := su_chain (su_term ho) sumTbl
theorem su_notL : SufP (notL or) := fun l => su_not (su_cmp (su_sum ho)) _ l
theorem su_and : SufP (andP or) := su_chain (su_notL ho) andTbl
end
theorem su_or : ∀ n, SufP (orP n)
  | 0 => su_none
  | n + 1 => su_chain (su_and (su_or n)) orTbl
section
variable {K K' : Nat} {or or' : List Tok → PR Xp} (ho : LP (K - 1) (K' - 1) or or')
include ho
theorem lp_unaryL : LP K K' (unaryL or) (unaryL or') := lp_fuel (fun n => su_unary ho.suf n) fun n n' L L' h1 h2 h3 h4 => lp_unary n n' L L' (lp_mono ho (by omega) (by omega)) h3 h4
theorem lp_term : LP K K' (termP or) (termP or') := lp_chain (lp_unaryL ho) termTbl
theorem lp_sum : LP K K' (sumP or) (sumP or') := lp_chain (lp_term ho) sumTbl
theorem lp_notL : LP K K' (notL or) (notL or') := lp_fuel (fun n => su_not (su_cmp (su_sum ho.suf)) n) fun n n' L L' h1 h2 h3 h4 => lp_not n n' L L' (lp_mono (lp_cmp (lp_sum ho)) h1 h2) h3 h4
theorem lp_and : LP K K' (andP or) (andP or') := lp_chain (lp_notL ho) andTbl
end
theorem lp_or : ∀ (n n' K K' : Nat), K ≤ n → K' ≤ n' → LP K K' (orP n) (orP n')
  | 0, n', K, K', hn, _ => by
    obtain rfl : K = 0 := by omega
    exact lp_zero (su_or 0)
  | n + 1, 0, K, K', _, hn => by
    obtain rfl : K' = 0 := by omega
    exact lp_zero' (su_or _)
  | n + 1, n' + 1, K, K', h1, h2 => lp_chain (lp_and (lp_or n n' (K - 1) (K' - 1) (by omega) (by omega))) orTbl
theorem lp_expr {K K' : Nat} : LP K K' exprP exprP := lp_fuel su_or fun n n' L L' _ _ h3 h4 => lp_or n n' L L' h3 h4
theorem lp_where {K K' : Nat} : LP K K' whereP whereP := lp_if (A := fun l => thenP (exprP l) fun e r => (some [e], r)) (A' := fun l => thenP (exprP l) fun e r => (some [e], r)) (lp_then lp_expr fun e => lp_ret _) (lp_ret _)
theorem lp_var {α : Type} {K K' : Nat} (f : List UInt8 → α) : LP K K' (fun l => (some (f (varP l).1), (varP l).2)) (fun l => (some (f (varP l).1), (varP l).2)) := by
  have hs : SufP (fun l => (some (f (varP l).1), (varP l).2)) := fun l => by
    cases l with
    | nil => exact List.suffix_refl _
    | cons t r =>
      simp only [varP]
      split
      · exact List.suffix_cons t r
      · exact List.suffix_refl _
  refine ⟨hs, fun a m b e o he hb hK hK' h => ?_⟩
  obtain ⟨t, a', rfl⟩ := lp_head hs hb h
  simp only [List.cons_append, varP] at h ⊢
  split at h <;> rename_i hk
  · rw [if_pos hk]
    simp only [Prod.mk.injEq] at h ⊢
    obtain ⟨h1, _⟩ := List.append_inj' h.2 rfl
    exact ⟨h.1, by rw [h1]⟩
  · rw [if_neg hk]
    simp only [Prod.mk.injEq] at h ⊢
    rw [← List.cons_append] at h ⊢
    obtain ⟨h1, _⟩ := List.append_inj' h.2 rfl
    exact ⟨h.1, by rw [h1]⟩
theorem lp_source {K K' : Nat} : LP K K' sourceP sourceP := by
  have hq : sourceP = fun l => thenP ((some (oneP [[73, 78, 83, 69, 82, 84, 69, 68], [68, 69, 76, 69, 84, 69, 68], [79, 76, 68], [78, 69, 87]] l).1 : Option Nat), (oneP [[73, 78, 83, 69, 82, 84, 69, 68], [68, 69, 76, 69, 84, 69, 68], [79, 76, 68], [78, 69, 87]] l).2) fun n l =>
      if n = 0 then thenP (nameP l) fun t r' => (some ⟨0, t, (varP r').1⟩, (varP r').2) else (some ⟨n, [], (varP l).1⟩, (varP l).2) := by
    funext l
    unfold sourceP
    cases oneP [[73, 78, 83, 69, 82, 84, 69, 68], [68, 69, 76, 69, 84, 69, 68], [79, 76, 68], [78, 69, 87]] l with
    | mk n l' => cases n <;> simp [thenP]
  rw [hq]
  refine lp_then (one_lp _) fun n => ?_
  by_cases h : n = 0
  · simp only [if_pos h]; exact lp_then lp_name fun t => lp_var fun v => (⟨0, t, v⟩ : Src)
  · simp only [if_neg h]; exact lp_var fun v => (⟨n, [], v⟩ : Src)
theorem lp_items {K K' : Nat} : LP K K' itemsP itemsP := lp_if (A := fun r => (some [], r)) (A' := fun r => (some [], r)) (lp_ret _) (lp_lst lp_expr)
theorem lp_query {K K' : Nat} : LP K K' queryP queryP :=
  lp_then (lp_need _) fun _ => lp_then lp_items fun is => lp_then (lp_need _) fun _ => lp_then (lp_lst lp_source) fun ss => lp_then lp_where fun w => lp_ret _
theorem lp_set {K K' : Nat} : LP K K' setP setP := lp_then lp_name fun c => lp_then (lp_need _) fun _ => lp_then lp_expr fun e => lp_ret _
theorem lp_ins {K K' : Nat} : LP K K' insP insP :=
  lp_then (lp_need _) fun _ => lp_then lp_name fun t =>
    lp_if (A := fun r => thenP (needP [40] r) fun _ r => thenP (listP exprP (r.length + 1) r) fun vs r => thenP (needP [41] r) fun _ r => (some { StB.zero with kind := 12, table := t, values := vs }, r))
      (A' := fun r => thenP (needP [40] r) fun _ r => thenP (listP exprP (r.length + 1) r) fun vs r => thenP (needP [41] r) fun _ r => (some { StB.zero with kind := 12, table := t, values := vs }, r))
      (lp_then (lp_need _) fun _ => lp_then (lp_lst lp_expr) fun vs => lp_then (lp_need _) fun _ => lp_ret _) (lp_then lp_query fun q => lp_ret _)
theorem lp_upd {K K' : Nat} : LP K K' updP updP := lp_then lp_name fun t => lp_then (lp_need _) fun _ => lp_then (lp_lst lp_set) fun ss => lp_then lp_where fun w => lp_ret _
theorem lp_del {K K' : Nat} : LP K K' delP delP := lp_then (lp_need _) fun _ => lp_then lp_name fun t => lp_then lp_where fun w => lp_ret _
theorem lp_act {K K' : Nat} : LP K K' actP actP :=
  lp_if (A := fun l => thenP (insP l) fun b r => (some (some b), r)) (A' := fun l => thenP (insP l) fun b r => (some (some b), r)) (lp_then lp_ins fun b => lp_ret _)
    (lp_if (A := fun l => thenP (updP l) fun b r => (some (some b), r)) (A' := fun l => thenP (updP l) fun b r => (some (some b), r)) (lp_then lp_upd fun b => lp_ret _)
      (lp_if (A := fun l => thenP (delP l) fun b r => (some (some b), r)) (A' := fun l => thenP (delP l) fun b r => (some (some b), r)) (lp_then lp_del fun b => lp_ret _) (lp_ret _)))
theorem lp_column {K K' : Nat} : LP K K' columnP columnP :=
  lp_then lp_name fun n => lp_then (lp_oneOf _) fun t => lp_if (A := fun r => thenP (needP [78, 85, 76, 76] r) fun _ r => (some (⟨n, t, true, (maybeP [85, 78, 73, 81, 85, 69] r).1⟩ : Col), (maybeP [85, 78, 73, 81, 85, 69] r).2)) (A' := fun r => thenP (needP [78, 85, 76, 76] r) fun _ r => (some (⟨n, t, true, (maybeP [85, 78, 73, 81, 85, 69] r).1⟩ : Col), (maybeP [85, 78, 73, 81, 85, 69] r).2))
    (lp_then (lp_need _) fun _ => maybe_lp (f := fun b r => (some (⟨n, t, true, b⟩ : Col), r)) (f' := fun b r => (some (⟨n, t, true, b⟩ : Col), r)) fun b => lp_ret _)
    (maybe_lp (f := fun b r => (some (⟨n, t, false, b⟩ : Col), r)) (f' := fun b r => (some (⟨n, t, false, b⟩ : Col), r)) fun b => lp_ret _)
theorem acts_eq (n : Nat) : actsP (n + 1) = fun l => thenP (actP l) fun o r => match o with
    | none => (none, r)
    | some b => if isT [59] r then (fun r => thenP (actsP n r) fun xs r' => (some (Stm.mk b [] :: xs), r')) r.tail else (fun r => (some [Stm.mk b []], r)) r := rfl
theorem su_acts : ∀ n, SufP (actsP n)
  | 0 => su_none
  | n + 1 => by
    rw [acts_eq]
    exact su_then (lp_act (K := 0) (K' := 0)).suf fun o => match o with
      | none => su_none
      | some b => su_if (A := fun r => thenP (actsP n r) fun xs r' => (some (Stm.mk b [] :: xs), r')) (su_then (su_acts n) fun xs => su_ret _) (su_ret _)
theorem lp_acts : ∀ (n n' K K' : Nat), K ≤ n → K' ≤ n' → LP K K' (actsP n) (actsP n')
  | 0, n', K, K', hn, _ => by
    obtain rfl : K = 0 := by omega
    exact lp_zero (su_acts 0)
  | n + 1, 0, K, K', _, hn => by
    obtain rfl : K' = 0 := by omega
    exact lp_zero' (su_acts _)
  | n + 1, n' + 1, K, K', h1, h2 => by
    rw [acts_eq, acts_eq]
    exact lp_then lp_act fun o => match o with
      | none => lp_none
      | some b => lp_if (A := fun r => thenP (actsP n r) fun xs r' => (some (Stm.mk b [] :: xs), r')) (A' := fun r => thenP (actsP n' r) fun xs r' => (some (Stm.mk b [] :: xs), r'))
        (lp_then (lp_acts n n' (K - 1) (K' - 1) (by omega) (by omega)) fun xs => lp_ret _) (lp_ret _)
theorem lp_when {K K' : Nat} : LP K K' whenP whenP := lp_then (lp_oneOf _) fun n => by
  by_cases h : n = 2
  · simp only [if_pos h]
    exact lp_then (lp_lst lp_source) fun ss => lp_then lp_where fun w => lp_ret _
  · simp only [if_neg h]
    exact lp_ret _
theorem lp_do {K K' : Nat} : LP K K' doP doP := lp_then (lp_need _) fun _ => lp_if (A := fun r => (some none, r)) (A' := fun r => (some none, r)) (lp_ret _)
  (lp_then (lp_fuel su_acts fun n n' L L' _ _ h3 h4 => lp_acts n n' L L' h3 h4) fun xs => lp_then (lp_need _) fun _ => lp_ret _)
theorem lp_rule {K K' : Nat} (n : List UInt8) : LP K K' (ruleP n) (ruleP n) :=
  lp_then (lp_need _) fun _ => lp_then lp_num fun p => lp_then (lp_need _) fun _ => lp_then (lp_oneOf _) fun e => lp_then (lp_need _) fun _ => lp_then lp_name fun t =>
    maybe_lp (f := fun df r => thenP (whenP r) fun w r' => thenP (doP r') fun d r' => (some (Stm.mk { StB.zero with kind := 8, name := n, table := t, src := w.1, wher := w.2, prio := p, event := e, deferred := df, rolls := d.isNone } (d.getD [])), r'))
      (f' := fun df r => thenP (whenP r) fun w r' => thenP (doP r') fun d r' => (some (Stm.mk { StB.zero with kind := 8, name := n, table := t, src := w.1, wher := w.2, prio := p, event := e, deferred := df, rolls := d.isNone } (d.getD [])), r'))
      fun df => lp_then lp_when fun w => lp_then lp_do fun d => lp_ret _
theorem lp_create {K K' : Nat} : LP K K' createP createP := lp_then (lp_oneOf _) fun k => lp_then lp_name fun n => by
  by_cases h1 : k = 1
  · simp only [if_pos h1]
    exact lp_then (lp_need _) fun _ => lp_then (lp_lst lp_column) fun cs => lp_then (lp_need _) fun _ => lp_ret _
  · by_cases h2 : k = 2
    · simp only [if_neg h1, if_pos h2]
      exact lp_then (lp_need _) fun _ => lp_then lp_name fun t => lp_then (lp_need _) fun _ => lp_then lp_name fun c => lp_then (lp_need _) fun _ => lp_ret _
    · simp only [if_neg h1, if_neg h2]
      exact lp_rule n
theorem lp_drop {K K' : Nat} : LP K K' dropP dropP := lp_then (lp_oneOf _) fun k => lp_then lp_name fun n => lp_ret _
theorem lp_small {K K' : Nat} (k : Nat) : LP K K' (smallP k) (smallP k) := by
  by_cases h1 : k ≤ 3
  · have e : smallP k = fun r => (some (Stm.mk { StB.zero with kind := k } []), r) := by funext r; simp [smallP, h1]
    rw [e]; exact lp_ret _
  by_cases h2 : k = 4
  · have e : smallP k = fun r => thenP (nameP r) fun n r => (some (Stm.mk { StB.zero with kind := 4, name := n } []), r) := by funext r; simp [smallP, h2]
    rw [e]; exact lp_then lp_name fun n => lp_ret _
  by_cases h3 : k = 5
  · have e : smallP k = fun r => thenP (needP [84, 79] r) fun _ r => thenP (nameP r) fun n r => (some (Stm.mk { StB.zero with kind := 5, name := n } []), r) := by funext r; simp [smallP, h3]
    rw [e]; exact lp_then (lp_need _) fun _ => lp_then lp_name fun n => lp_ret _
  by_cases h4 : k = 6
  · have e : smallP k = createP := by funext r; simp [smallP, h4]
    rw [e]; exact lp_create
  · have e : smallP k = dropP := by funext r; simp [smallP, h1, h2, h3, h4]
    rw [e]; exact lp_drop
theorem stmt_eq : stmtP = fun l => thenP (actP l) fun o r => match o with
    | some b => (some (.mk b []), r)
    | none => if isT [83, 69, 76, 69, 67, 84] r then thenP (queryP r) fun q r => (some (.mk { StB.zero with kind := 15, items := q.items, src := q.src, wher := q.wher } []), r)
      else thenP (oneOfP [[66, 69, 71, 73, 78], [67, 79, 77, 77, 73, 84], [65, 66, 79, 82, 84], [83, 65, 86, 69, 80, 79, 73, 78, 84], [82, 79, 76, 76, 66, 65, 67, 75], [67, 82, 69, 65, 84, 69], [68, 82, 79, 80]] r) fun k r => smallP k r := rfl
theorem lp_look {α : Type} {K K' : Nat} {s : List UInt8} {A A' B B' : List Tok → PR α} (ha : LP K K' A A') (hb : LP K K' B B') : LP K K' (fun l => if isT s l then A l else B l) (fun l => if isT s l then A' l else B' l) := by
  have hs : SufP (fun l => if isT s l then A l else B l) := fun l => by
    simp only
    cases isT s l
    · exact hb.suf l
    · exact ha.suf l
  refine ⟨hs, fun a m b e o he hbn hK hK' h => ?_⟩
  obtain ⟨t, a', rfl⟩ := lp_head hs hbn h
  have hi' : isT s (t :: a' ++ m) = isT s (t :: a' ++ [e]) := rfl
  simp only [hi'] at h ⊢
  cases hi : isT s (t :: a' ++ [e])
  · simp only [hi, Bool.false_eq_true, if_false] at h ⊢
    exact hb.rel (t :: a') m b e o he hbn hK hK' h
  · simp only [hi, if_true] at h ⊢
    exact ha.rel (t :: a') m b e o he hbn hK hK' h
theorem lp_stmt {K K' : Nat} : LP K K' stmtP stmtP := by
  rw [stmt_eq]
  exact lp_then lp_act fun o => match o with
    | some b => lp_ret _
    | none => lp_look (A := fun r => thenP (queryP r) fun q r => (some (Stm.mk { StB.zero with kind := 15, items := q.items, src := q.src, wher := q.wher } []), r)) (lp_then lp_query fun q => lp_ret _) (lp_then (lp_oneOf _) fun k => lp_small k)
end Go.Abs
