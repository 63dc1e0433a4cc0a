/- What a text's tokens come to. -/
import Derived.Test.YtpmeklllgnnffaaGreatDoorR17
import Derived.Test.YtpmeklllgnnffaaGreatDoorR15
set_option linter.unusedSimpArgs false
set_option linter.unusedVariables false

namespace Go.Abs
set_option linter.unusedSimpArgs false
set_option linter.unusedVariables false
open Go Go.Proofs
attribute [local simp] i_nil i_blk i_skip i_ret i_exit i_seq i_block i_cond i_region' i_ops_nil i_ops i_drawn' k_none k_0 k_1 k_2 k_3 k_4 k_5 d_in a_nil a_cons alt1 h_nil h_one h_two z_nil z_cons z_cells zeqL zeq q_alloc q_some nxtN i_drh d_hi i_drw_nil i_drw u_nil u_code u_ops u_drw u_lp u_again u_exit u_ret u_panic c_bool o_some o_val o_panic d_some d_val d_panic w_none w_fast wantG q_nil q_zero q_succ t_zero t_succ g_zero g_succ s_zero s_succ s_some s_none v_tmp v_const v_func f_quiet gc_none gc_pure wrap_i64 p_move p_assign p_pick p_alloc p_box p_build p_buildSlice p_load p_store p_nilCheck p_binOp n_tmp n_int n_bool n_str n_ptr n_fun n_iface nilCmp p_unOp p_convert p_makeSlice p_makeInterface p_makeFunc p_slice p_fieldAddr p_field p_indexAddr p_index p_extract p_callv p_callb p_panic quiet_val new_val e_assign e_call e_load e_store e_alloc e_box e_move e_pick e_build e_buildSlice e_nilCheck e_binOp e_unOp e_convert e_makeSlice e_makeInterface e_makeFunc e_slice e_fieldAddr e_field e_indexAddr e_index e_extract e_panic callD fpRead adoptZ fulls adopt adoptL ofValue ofScalar binOpV unOpV intBin strBin eqRes veq veqF eqDepth val? finish resL r_tmp r_cell normL normTop tipIs refsL refs ownRefs single frz frzL ren renL renOwn callOp doCall backR writeBack builtinV loadV storeV storeW iceT cellsAt takeV D.isAgg overlay vcells cellOk fieldAddrV indexAddrV fieldV partV indexV buildV fillV buildSliceV litElems appendV appElems elemOk convertV convV winStr makeSliceV sliceV natOf
attribute [local simp ↓] brB_true brB_false brB_dec brB_not brB_and brB_or brB_beq brB_bne
def errQ (s : List UInt8) (k : Nat) : Int := match nextO s k with
  | some (_, [[_, .int _ q]]) => q
  | _ => 0
theorem quote_drop : ∀ (acc t a u : List UInt8), quoteS acc t = some (a, u) → ∃ n, u = t.drop n ∧ n ≤ t.length
  | acc, [], a, u, h => by simp [quoteS] at h
  | acc, [c], a, u, h => by
    simp only [quoteS] at h
    split at h
    · simp only [Option.some.injEq, Prod.mk.injEq] at h; exact ⟨1, by simp [h.2], by simp⟩
    · cases h
  | acc, c :: d :: r, a, u, h => by
    simp only [quoteS] at h
    split at h
    · split at h
      · obtain ⟨n, h1, h2⟩ := quote_drop _ _ _ _ h
        exact ⟨n + 2, by simpa using h1, by simp; omega⟩
      · simp only [Option.some.injEq, Prod.mk.injEq] at h
        exact ⟨1, by simp [h.2], by simp⟩
    · obtain ⟨n, h1, h2⟩ := quote_drop _ _ _ _ h
      exact ⟨n + 1, by simpa using h1, by simpa using h2⟩
theorem sym_le (c : UInt8) (t : List UInt8) : symS (c :: t) ≤ (c :: t).length := by
  cases t with
  | nil => simp only [symS]; split <;> simp
  | cons d r =>
    simp only [symS]
    split
    · simp
    · split <;> simp
def faultV (e : Int) : V := .iface 58 (.agg [.int .i64 1, .int .i64 e])
def Told (s : List UInt8) (k : Nat) : Except Nat (Tok × List UInt8) → Prop
  | .ok (t, u) => nextO s k = some (.ret t.enc, [[.str s, .int .i64 ((s.length - u.length : Nat) : Int)]]) ∧ (∃ n, u = (s.drop k).drop n ∧ n ≤ (s.drop k).length ∧ (t.kind ≠ 0 → 1 ≤ n)) ∧ (t.kind = 0 → u = [])
  | .error e => nextO s k = some (.panic (faultV e), [[.str s, .int .i64 (errQ s k)]])
theorem runS_kind {p : Int} {w : List UInt8} {t : Tok} (h : runS p w = some t) : ¬ t.kind = 0 := by
  unfold runS at h
  split at h
  · cases h; simp
  · split at h
    · cases h; simp
    · split at h
      · cases h; simp
      · cases h
theorem dropWhile_drop {p : UInt8 → Bool} : ∀ l : List UInt8, l.dropWhile p = l.drop (l.takeWhile p).length
  | [] => rfl
  | c :: l => by
    by_cases h : p c = true
    · simp [h, dropWhile_drop l]
    · simp [h]
theorem next_tok (s : List UInt8) (k : Nat) (hk : k ≤ s.length) : Told s k (tokS k (s.drop k)) := by
  cases hd : s.drop k with
  | nil =>
    have hks : k = s.length := by have := congrArg List.length hd; simp at this; omega
    simp only [tokS, Told]
    refine ⟨?_, ⟨0, by simp [hd], by simp, by simp⟩, by simp⟩
    simp [nextO, hd, tokO, hks]
  | cons c t =>
    have hlen : (c :: t).length = s.length - k := by rw [← hd]; simp
    have err : ∀ q, nextO s k = tokO k s q none → nextO s k = some (.panic (faultV k), [[.str s, .int .i64 (errQ s k)]]) := by
      intro q e
      have : errQ s k = q := by simp only [errQ, e, tokO]
      rw [this, e]; rfl
    simp only [tokS]
    by_cases c1 : isRun c = true
    · rw [if_pos c1]
      have hn : nextO s k = tokO k s ((k : Int) + ((c :: t).takeWhile isRun).length) (runS k ((c :: t).takeWhile isRun)) := by simp only [nextO, hd, c1, if_true]
      have hdw : (c :: t).dropWhile isRun = (c :: t).drop ((c :: t).takeWhile isRun).length := dropWhile_drop _
      have hw1 : 1 ≤ ((c :: t).takeWhile isRun).length := by rw [List.takeWhile_cons, if_pos c1]; simp
      have hwl := takeWhile_len (p := isRun) (c :: t)
      generalize hwd : (c :: t).takeWhile isRun = w at *
      cases hr : runS k w with
      | none => exact err _ (by rw [hn, hr])
      | some x =>
        simp only [Told]
        refine ⟨?_, ⟨w.length, by rw [hd]; exact hdw, by rw [hd]; exact hwl, fun _ => hw1⟩, fun h => absurd h (runS_kind hr)⟩
        rw [hn, hr, tokO, hdw]
        have : (k : Int) + w.length = ((s.length - ((c :: t).drop w.length).length : Nat) : Int) := by rw [List.length_drop]; omega
        rw [this]
    · rw [if_neg c1]
      by_cases c2 : c = 39
      · rw [if_pos c2]
        have hn : nextO s k = textO k s (quoteS [] t) := by unfold nextO; rw [hd]; simp only; rw [if_neg c1, if_pos c2]
        cases hq : quoteS [] t with
        | none => exact err _ (by rw [hn, hq]; rfl)
        | some p =>
          obtain ⟨a, u⟩ := p
          rw [hq] at hn
          obtain ⟨n, hu, hnl⟩ := quote_drop _ _ _ _ hq
          simp only
          by_cases h24 : a.length ≤ 24
          · rw [if_pos h24]
            simp only [Told]
            refine ⟨?_, ⟨n + 1, by rw [hd]; simpa using hu, by rw [hd]; simp; omega, fun _ => by omega⟩, fun h => by simp at h⟩
            rw [hn, textO, if_pos h24, tokO]
            have hul : u.length ≤ t.length := by rw [hu, List.length_drop]; omega
            have : (s.length : Int) - u.length = ((s.length - u.length : Nat) : Int) := by simp only [List.length_cons] at hlen; omega
            rw [this]
          · rw [if_neg h24]
            exact err _ (by rw [hn, textO, if_neg h24])
      · rw [if_neg c2]
        have hn : nextO s k = symO k s (symL.find? (pfx (c :: t) ·)) := by unfold nextO; rw [hd]; simp only; rw [if_neg c1, if_neg c2]
        rw [sym_find] at hn
        have hle := sym_le c t
        by_cases h0 : symS (c :: t) = 0
        · rw [if_pos h0]
          rw [if_pos h0] at hn
          exact err _ hn
        · rw [if_neg h0]
          rw [if_neg h0] at hn
          simp only [Told]
          refine ⟨?_, ⟨symS (c :: t), by rw [hd], by rw [hd]; exact hle, fun _ => by omega⟩, fun h => by simp at h⟩
          rw [hn, symO, tokO]
          have : (k : Int) + ((c :: t).take (symS (c :: t))).length = ((s.length - ((c :: t).drop (symS (c :: t))).length : Nat) : Int) := by
            rw [List.length_drop, List.length_take]; omega
          rw [this]
def lexR (s : List UInt8) : Nat → Nat → List Tok → List Tok × Int × Option Nat
  | 0, j, acc => (acc, j, some j)
  | f + 1, j, acc => match tokS (j + blanks (s.drop j)) (s.drop (j + blanks (s.drop j))) with
    | .error e => (acc, errQ s (j + blanks (s.drop j)), some e)
    | .ok (t, u) => if t.kind = 0 then (acc ++ [t], ((s.length - u.length : Nat) : Int), none) else lexR s f (s.length - u.length) (acc ++ [t])
def lexSt (s : List UInt8) (acc : List Tok) (q : Int) : St := [[.slice (.own 1) (acc.map Tok.enc)], [.tip acc.length], [.box 3 0], [.str s, .int .i64 q]]
def lexO (s : List UInt8) : List Tok × Int × Option Nat → Option (Out × St)
  | (acc, q, none) => some (.ret (.tup []), lexSt s acc q)
  | (acc, q, some e) => some (.panic (faultV e), lexSt s acc q)
def lastOk (acc : List Tok) : Prop := ∀ t, acc.getLast? = some t → ¬ t.kind = 0
theorem lastOk_nil : lastOk [] := fun t h => by simp at h
theorem lastOk_app {acc : List Tok} {t : Tok} (h : ¬ t.kind = 0) : lastOk (acc ++ [t]) := fun x hx => by simp at hx; subst hx; exact h
theorem unblank_drop (s : List UInt8) (j : Nat) : unblank (s.drop j) = s.drop (j + blanks (s.drop j)) := by
  unfold unblank blanks
  rw [dropWhile_drop, List.drop_drop]
set_option maxRecDepth 100000 in
set_option maxHeartbeats 4000000 in
theorem ev_lexc (s : List UInt8) (hs : s.length ≤ 1048576) : EV 76 [.box 0 0, .box 2 0] (lexSt s [] 0) = lexO s (lexR s (s.length + 1) 0 []) := by
  rw [EV_mki rfl Tryz.func76 rfl (by kernel_rfl) rfl]
  simp [Tryz.f76, Tryz.ti3, Tryz.ti9, Tryz.ti64, Tryz.ti121, Tryz.ti123, Tryz.ti125, lexSt]
  rw [i_loop (ts := [2, 3, 4, 5, 6, 7, 8, 9, 10, 11, 12, 13, 14, 15, 16, 17, 18, 19])]
  rotate_left
  · kernel_rfl
  refine i_at (fun x : {x : Nat × Nat × List Tok × Bool // x.2.1 ≤ s.length ∧ x.2.2.1.length ≤ x.2.1 + 1 ∧ (x.2.2.2 = false → lastOk x.2.2.1 ∧ x.2.2.1.length ≤ x.2.1 ∧ s.length < x.1 + x.2.1) ∧ (x.2.2.2 = true → ∃ a t, x.2.2.1 = a ++ [t] ∧ t.kind = 0)} => 2 * (s.length - x.1.2.1) + (if x.1.2.2.2 then 0 else 1)) (fun _ env => env)
    (fun x => lexSt s x.1.2.2.1 x.1.2.1) (fun x => if x.1.2.2.2 then lexO s (x.1.2.2.1, x.1.2.1, none) else lexO s (lexR s x.1.1 x.1.2.1 x.1.2.2.1)) ⟨(s.length + 1, 0, [], false), by simp, by simp, fun _ => ⟨lastOk_nil, by simp, by simp⟩, by simp⟩ rfl rfl rfl ?_
  intro ⟨(f, j, acc, done), hj, hacc, hnd, hd⟩ ih
  dsimp only at hj hacc hnd hd ⊢
  cases done with
  | true =>
    obtain ⟨a, t, rfl, hk⟩ := hd rfl
    clear ih
    have hwm : IntKind.i64.wrap ((a.length : Int) + 1 - 1) = a.length := by rw [show (a.length : Int) + 1 - 1 = a.length by omega]; exact wrap_i64 (by simp at hacc; omega)
    have hnz : ¬ (a.length : Int) + 1 = 0 := by omega
    have hwl : IntKind.i64.wrap (a.length : Int) = a.length := wrap_i64 (by simp at hacc; omega)
    have hget : ∀ v : V, (a.map Tok.enc ++ [v])[a.length]? = some v := fun v => by simp
    have hlt : (a.length : Int) < a.length + 1 := by omega
    simp only [lexO, lexSt, if_true]
    simp [i_again, roundEnd, dropT, cleanV, Tryz.f76, Tryz.ti3, Tryz.ti9, Tryz.ti64, Tryz.ti121, Tryz.ti123, Tryz.ti125, hwm, hnz, hwl, hlt, hget, Tok.enc_eq, hk, gc, reach, reachFuel, shut, nodup, List.idxOf, List.findIdx, List.findIdx.go, List.range, List.range.loop]
  | false =>
    obtain ⟨hlast, hal, hf⟩ := hnd rfl
    cases f with
    | zero => omega
    | succ f =>
      have hn := ev_next s hs j hj
      have hle := takeWhile_len (p := isBlk) (s.drop j)
      rw [List.length_drop] at hle
      have hkl : j + blanks (s.drop j) ≤ s.length := by have : ((s.drop j).takeWhile isBlk).length = blanks (s.drop j) := rfl; omega
      have ht := next_tok s _ hkl
      have hjk : j ≤ j + blanks (s.drop j) := by omega
      simp only [lexR]
      clear hle
      generalize j + blanks (s.drop j) = k at *
      have hcase : acc = [] ∨ ∃ a t, acc = a ++ [t] ∧ ¬ t.kind = 0 := by
        rcases List.eq_nil_or_concat acc with h | ⟨a, t, h⟩
        · exact .inl h
        · refine .inr ⟨a, t, by rw [h]; simp, hlast t (by rw [h]; simp)⟩
      cases hr : tokS k (s.drop k) with
      | error e =>
        rw [hr] at ht
        simp only [Told] at ht
        rw [ht] at hn
        clear ih
        rcases hcase with rfl | ⟨a, t', rfl, hk'⟩
        · simp only [lexO, lexSt, faultV, if_false, Bool.false_eq_true] at hn ⊢
          simp [i_again, roundEnd, dropT, cleanV, Tryz.f76, Tryz.ti3, Tryz.ti9, Tryz.ti64, Tryz.ti121, Tryz.ti123, Tryz.ti125, hn, gc, reach, reachFuel, shut, nodup, List.idxOf, List.findIdx, List.findIdx.go, List.range, List.range.loop, backR] <;> first | (refine panQ_of ?_; decide +kernel) | (change _ = true; decide +kernel) | kernel_rfl | (refine ⟨?_, ?_⟩ <;> first | (change _ = true; decide +kernel) | kernel_rfl)
        · have hwl : IntKind.i64.wrap (a.length : Int) = a.length := wrap_i64 (by simp at hacc; omega)
          have hget : ∀ v : V, (a.map Tok.enc ++ [v])[a.length]? = some v := fun v => by simp
          have hlt : (a.length : Int) < a.length + 1 := by omega
          have hwm : IntKind.i64.wrap ((a.length : Int) + 1 - 1) = a.length := by rw [show (a.length : Int) + 1 - 1 = a.length by omega]; exact wrap_i64 (by simp at hacc; omega)
          have hnz : ¬ (a.length : Int) + 1 = 0 := by omega
          simp only [lexO, lexSt, faultV, if_false, Bool.false_eq_true] at hn ⊢
          simp [i_again, roundEnd, dropT, cleanV, Tryz.f76, Tryz.ti3, Tryz.ti9, Tryz.ti64, Tryz.ti121, Tryz.ti123, Tryz.ti125, hn, hwm, hnz, hwl, hlt, hget, Tok.enc_eq, hk', gc, reach, reachFuel, shut, nodup, List.idxOf, List.findIdx, List.findIdx.go, List.range, List.range.loop, backR] <;> first | (refine panQ_of ?_; decide +kernel) | (change _ = true; decide +kernel) | kernel_rfl | (refine ⟨?_, ?_⟩ <;> first | (change _ = true; decide +kernel) | kernel_rfl)
      | ok p =>
        obtain ⟨t, u⟩ := p
        rw [hr] at ht
        obtain ⟨h1, ⟨n, hu, hnl, hn1⟩, hu0⟩ := ht
        rw [h1] at hn
        have hul : u.length = s.length - k - n := by rw [hu, List.length_drop, List.length_drop]
        rw [List.length_drop] at hnl
        obtain ⟨q, hq⟩ : ∃ q, s.length - u.length = q := ⟨_, rfl⟩
        have hqk : q = k + n := by omega
        simp only [hq] at hn ⊢
        have hb : acc.length + 1 ≤ 70368744177664 := by omega
        have hb2 : (acc.length + 1) * 40 ≤ 70368744177664 := by omega
        by_cases hk0 : t.kind = 0
        · have ih := ih ⟨(f, q, acc ++ [t], true), by show q ≤ s.length; omega, by show (acc ++ [t]).length ≤ q + 1; simp; omega, by simp, fun _ => ⟨acc, t, rfl, hk0⟩⟩ (by simp only [if_true, if_false, Bool.false_eq_true]; have := hu0 hk0; rw [this] at hq; simp at hq; omega)
          simp only [hk0, if_true, if_false, Bool.false_eq_true] at ih ⊢
          simp only [s_zero, s_succ, lexSt, List.map_append, List.map_cons, List.map_nil, List.length_append, List.length_singleton, Tok.enc_eq t] at ih ⊢
          generalize lexO s (acc ++ [t], (q : Int), none) = RR at ih ⊢
          rcases hcase with rfl | ⟨a, t', rfl, hk'⟩
          · simp only [List.map_nil, List.nil_append, List.length_nil, Nat.zero_add] at ih ⊢
            simp [i_again, roundEnd, dropT, cleanV, Tryz.f76, Tryz.ti3, Tryz.ti9, Tryz.ti64, Tryz.ti121, Tryz.ti123, Tryz.ti125, hn, Tok.enc_eq t, appFp, gc, reach, reachFuel, shut, nodup, List.idxOf, List.findIdx, List.findIdx.go, List.range, List.range.loop, backR, ih]
            intro hf; exfalso; revert hf; rw [imp_false, Bool.not_eq_false]; decide +kernel
          · have hwl : IntKind.i64.wrap (a.length : Int) = a.length := wrap_i64 (by simp at hacc; omega)
            have hget : ∀ v : V, (a.map Tok.enc ++ [v])[a.length]? = some v := fun v => by simp
            have hlt : (a.length : Int) < a.length + 1 := by omega
            have hwm : IntKind.i64.wrap ((a.length : Int) + 1 - 1) = a.length := by rw [show (a.length : Int) + 1 - 1 = a.length by omega]; exact hwl
            have hnz : ¬ (a.length : Int) + 1 = 0 := by omega
            have hf4 : ∀ x ∈ a.map Tok.enc, (vcells x).length = 4 := fun x hx => by obtain ⟨y, _, rfl⟩ := List.mem_map.1 hx; rfl
            have hlm : (a.map Tok.enc).length = a.length := by simp
            simp only [List.map_append, List.map_cons, List.map_nil, List.length_append, List.length_singleton, List.append_assoc, List.cons_append, List.nil_append, Tok.enc_eq t'] at ih hb hb2 hget hf4 ⊢
            generalize a.map Tok.enc = xs at ih hget hf4 hlm ⊢
            simp only [vcells] at hf4
            simp +contextual [i_again, roundEnd, dropT, cleanV, Tryz.f76, Tryz.ti3, Tryz.ti9, Tryz.ti64, Tryz.ti121, Tryz.ti123, Tryz.ti125, hn, hwm, hnz, hwl, hlt, hget, hlm, hf4, hb, hb2, hk', Tok.enc_eq t, appFp, gc, reach, reachFuel, shut, nodup, List.idxOf, List.findIdx, List.findIdx.go, List.range, List.range.loop, backR, ih]
            intro hf; exfalso; revert hf; rw [imp_false, Bool.not_eq_false]; decide +kernel
        · have hn1 := hn1 hk0
          have ih := ih ⟨(f, q, acc ++ [t], false), by show q ≤ s.length; omega, by show (acc ++ [t]).length ≤ q + 1; simp; omega, fun _ => ⟨lastOk_app hk0, by show (acc ++ [t]).length ≤ q; simp; omega, by show s.length < f + q; omega⟩, by simp⟩ (by simp only [if_true, if_false, Bool.false_eq_true]; omega)
          simp only [hk0, if_true, if_false, Bool.false_eq_true] at ih ⊢
          simp only [s_zero, s_succ, lexSt, List.map_append, List.map_cons, List.map_nil, List.length_append, List.length_singleton, Tok.enc_eq t] at ih ⊢
          generalize lexO s (lexR s f q (acc ++ [t])) = RR at ih ⊢
          rcases hcase with rfl | ⟨a, t', rfl, hk'⟩
          · simp only [List.map_nil, List.nil_append, List.length_nil, Nat.zero_add] at ih ⊢
            simp [i_again, roundEnd, dropT, cleanV, Tryz.f76, Tryz.ti3, Tryz.ti9, Tryz.ti64, Tryz.ti121, Tryz.ti123, Tryz.ti125, hn, Tok.enc_eq t, appFp, gc, reach, reachFuel, shut, nodup, List.idxOf, List.findIdx, List.findIdx.go, List.range, List.range.loop, backR, ih]
            intro hf; exfalso; revert hf; rw [imp_false, Bool.not_eq_false]; decide +kernel
          · have hwl : IntKind.i64.wrap (a.length : Int) = a.length := wrap_i64 (by simp at hacc; omega)
            have hget : ∀ v : V, (a.map Tok.enc ++ [v])[a.length]? = some v := fun v => by simp
            have hlt : (a.length : Int) < a.length + 1 := by omega
            have hwm : IntKind.i64.wrap ((a.length : Int) + 1 - 1) = a.length := by rw [show (a.length : Int) + 1 - 1 = a.length by omega]; exact hwl
            have hnz : ¬ (a.length : Int) + 1 = 0 := by omega
            have hf4 : ∀ x ∈ a.map Tok.enc, (vcells x).length = 4 := fun x hx => by obtain ⟨y, _, rfl⟩ := List.mem_map.1 hx; rfl
            have hlm : (a.map Tok.enc).length = a.length := by simp
            simp only [List.map_append, List.map_cons, List.map_nil, List.length_append, List.length_singleton, List.append_assoc, List.cons_append, List.nil_append, Tok.enc_eq t'] at ih hb hb2 hget hf4 ⊢
            generalize a.map Tok.enc = xs at ih hget hf4 hlm ⊢
            simp only [vcells] at hf4
            simp +contextual [i_again, roundEnd, dropT, cleanV, Tryz.f76, Tryz.ti3, Tryz.ti9, Tryz.ti64, Tryz.ti121, Tryz.ti123, Tryz.ti125, hn, hwm, hnz, hwl, hlt, hget, hlm, hf4, hb, hb2, hk', Tok.enc_eq t, appFp, gc, reach, reachFuel, shut, nodup, List.idxOf, List.findIdx, List.findIdx.go, List.range, List.range.loop, backR, ih]
            intro hf; exfalso; revert hf; rw [imp_false, Bool.not_eq_false]; decide +kernel
theorem lexR_toks (s : List UInt8) : ∀ (f j : Nat) (acc : List Tok), j ≤ s.length → s.length < f + j → match toksS f j (s.drop j) with
    | .ok l => ∃ q, lexR s f j acc = (acc ++ l, q, none)
    | .error e => ∃ a q, lexR s f j acc = (a, q, some e)
  | 0, j, acc, hj, hf => by omega
  | f + 1, j, acc, hj, hf => by
    have hle := takeWhile_len (p := isBlk) (s.drop j)
    rw [List.length_drop] at hle
    have hkl : j + blanks (s.drop j) ≤ s.length := by have : ((s.drop j).takeWhile isBlk).length = blanks (s.drop j) := rfl; omega
    have ht := next_tok s _ hkl
    have hn : nextTok j (s.drop j) = tokS (j + blanks (s.drop j)) (s.drop (j + blanks (s.drop j))) := by unfold nextTok; rw [unblank_drop]
    have hjk : j ≤ j + blanks (s.drop j) := by omega
    simp only [toksS, lexR, hn]
    generalize j + blanks (s.drop j) = k at *
    cases hr : tokS k (s.drop k) with
    | error e => exact ⟨_, _, rfl⟩
    | ok p =>
      obtain ⟨t, u⟩ := p
      rw [hr] at ht
      obtain ⟨_, ⟨n, hu, hnl, hn1⟩, hu0⟩ := ht
      have hul : u.length = s.length - k - n := by rw [hu, List.length_drop, List.length_drop]
      rw [List.length_drop] at hnl
      simp only
      by_cases hk0 : t.kind = 0
      · simp only [hk0, if_true]
        exact ⟨_, rfl⟩
      · simp only [hk0, if_false]
        have hn1 := hn1 hk0
        have hq : s.length - u.length = k + n := by omega
        have hq2 : j + ((s.drop j).length - u.length) = k + n := by rw [List.length_drop]; omega
        have hud : u = s.drop (k + n) := by rw [hu, List.drop_drop]
        rw [hq, hq2]
        have := lexR_toks s f (k + n) (acc ++ [t]) (by omega) (by omega)
        rw [← hud] at this
        cases hx : toksS f (k + n) u with
        | ok l =>
          rw [hx] at this
          obtain ⟨q, hq⟩ := this
          exact ⟨q, by rw [hq]; simp⟩
        | error e =>
          rw [hx] at this
          exact this
def toksO : Except Nat (List Tok) → Option (Out × St)
  | .ok l => some (.ret (.tup [.slice .froz (l.map Tok.enc), .agg [.int .i64 0, .int .i64 0]]), [])
  | .error e => some (.ret (.tup [.slice .froz [], .agg [.int .i64 1, .int .i64 e]]), [])
set_option maxRecDepth 100000 in
theorem ev_tokens (s : List UInt8) (hs : s.length ≤ 1048576) : EV 30 [.str s] [] = toksO (toksS (s.length + 1) 0 s) := by
  have hc := ev_lexc s hs
  have hr := lexR_toks s (s.length + 1) 0 [] (by omega) (by omega)
  rw [List.drop_zero] at hr
  rw [EV_mki rfl Tryz.func30 rfl (by kernel_rfl) rfl]
  cases hx : toksS (s.length + 1) 0 s with
  | ok l =>
    rw [hx] at hr
    obtain ⟨q, hq⟩ := hr
    rw [hq] at hc
    simp only [List.nil_append, lexO, lexSt, List.map_nil, List.length_nil, Int.ofNat_zero] at hc
    have hg : EV 75 [.func 76 [] [.box 0 0, .box 2 0]] [[.slice (.own 1) []], [.tip 0], [.box 3 0], [.str s, .int .i64 0]] =
      some (.ret (.agg [.int .i64 0, .int .i64 0]), [[.slice (.own 1) (l.map Tok.enc)], [.tip l.length], [.box 3 0], [.str s, .int .i64 q]]) := by
      rw [ev_grab]
      simp [primRun, reach, reachFuel, shut, nodup, List.idxOf, List.findIdx, List.findIdx.go, hc, catchRes, gc, List.range, List.range.loop, backR]
    have hxl : l.length = (l.map Tok.enc).length := by simp
    simp only [toksO]
    generalize l.map Tok.enc = xs at hg hxl ⊢
    simp [Tryz.f30, Tryz.ti3, Tryz.ti9, Tryz.ti56, Tryz.ti58, Tryz.ti64, Tryz.ti121, Tryz.ti123, Tryz.ti125, reach, reachFuel, shut, nodup, List.idxOf, List.findIdx, List.findIdx.go, backR, hg, hxl, gc, List.range, List.range.loop] <;> first | (refine panQ_of ?_; decide +kernel) | (change _ = true; decide +kernel) | kernel_rfl | (refine ⟨?_, ?_⟩ <;> first | (change _ = true; decide +kernel) | kernel_rfl)
  | error e =>
    rw [hx] at hr
    obtain ⟨a, q, hq⟩ := hr
    rw [hq] at hc
    simp only [lexO, lexSt, List.map_nil, List.length_nil, faultV, Int.ofNat_zero] at hc
    have hg : EV 75 [.func 76 [] [.box 0 0, .box 2 0]] [[.slice (.own 1) []], [.tip 0], [.box 3 0], [.str s, .int .i64 0]] =
      some (.ret (.agg [.int .i64 1, .int .i64 e]), [[.slice (.own 1) (a.map Tok.enc)], [.tip a.length], [.box 3 0], [.str s, .int .i64 q]]) := by
      rw [ev_grab]
      simp [primRun, reach, reachFuel, shut, nodup, List.idxOf, List.findIdx, List.findIdx.go, hc, catchRes, gc, List.range, List.range.loop, backR]
    simp only [toksO]
    generalize a.map Tok.enc = xs at hg ⊢
    simp [Tryz.f30, Tryz.ti3, Tryz.ti9, Tryz.ti56, Tryz.ti58, Tryz.ti64, Tryz.ti121, Tryz.ti123, Tryz.ti125, reach, reachFuel, shut, nodup, List.idxOf, List.findIdx, List.findIdx.go, backR, hg, gc, List.range, List.range.loop] <;> first | (refine panQ_of ?_; decide +kernel) | (change _ = true; decide +kernel) | kernel_rfl | (refine ⟨?_, ?_⟩ <;> first | (change _ = true; decide +kernel) | kernel_rfl)
abbrev rdS (l : List Tok) : St := [[.slice .froz (l.map Tok.enc)]]
def prO {α : Type} (f : α → V) (p : PR α) : Option (Out × St) :=
  match p with
  | (some a, r) => some (.ret (f a), rdS r)
  | (none, r) => some (.panic (faultV (topAt r)), rdS r)
theorem prO_some {α : Type} (f : α → V) (a : α) (r : List Tok) : prO f (some a, r) = some (.ret (f a), rdS r) := rfl
theorem prO_none {α : Type} (f : α → V) (r : List Tok) : prO f (none, r) = some (.panic (faultV (topAt r)), rdS r) := rfl
theorem ev_top (t : Tok) (r : List Tok) : EV 97 [.box 0 0] [[.slice .froz (t.enc :: r.map Tok.enc)]] = some (.ret t.enc, [[.slice .froz (t.enc :: r.map Tok.enc)]]) := by
  rw [EV_mki rfl Tryz.func97 rfl (by kernel_rfl) rfl, Tok.enc_eq t]
  simp [Tryz.f97, Tryz.ti3, Tryz.ti9, Tryz.ti64, Tryz.ti125, Tryz.ti141, gc, reach, reachFuel, shut, nodup, List.idxOf, List.findIdx, List.findIdx.go, List.range, List.range.loop]
theorem ev_no (t : Tok) (r : List Tok) : EV 98 [.box 0 0] [[.slice .froz (t.enc :: r.map Tok.enc)]] = some (.panic (faultV t.at_), [[.slice .froz (t.enc :: r.map Tok.enc)]]) := by
  have h1 := ev_top t r
  have h2 := ev_stop 1 t.at_
  rw [EV_mki rfl Tryz.func98 rfl (by kernel_rfl) rfl]
  rw [Tok.enc_eq t] at h1 ⊢
  simp at h2
  simp [Tryz.f98, Tryz.ti3, Tryz.ti9, Tryz.ti125, h1, h2, faultV, gc, reach, reachFuel, shut, nodup, List.idxOf, List.findIdx, List.findIdx.go, backR, List.range, List.range.loop]
theorem ev_take (t : Tok) (r : List Tok) (hk : t.kind ≠ 0) (hf : ∀ x ∈ r.map Tok.enc, (vcells x).length = 4) : EV 149 [.box 0 0] [[.slice .froz (t.enc :: r.map Tok.enc)]] = some (.ret t.enc, rdS r) := by
  have h1 := ev_top t r
  rw [EV_mki rfl Tryz.func149 rfl (by kernel_rfl) rfl]
  rw [Tok.enc_eq t] at h1 ⊢
  unfold rdS
  generalize r.map Tok.enc = xs at *
  simp only [vcells] at hf
  have hlt : ¬ (xs.length : Int) + 1 < 1 := by omega
  simp +contextual [Tryz.f149, Tryz.ti3, Tryz.ti9, Tryz.ti64, Tryz.ti125, Tryz.ti141, h1, hk, hf, hlt, gc, reach, reachFuel, shut, nodup, List.idxOf, List.findIdx, List.findIdx.go, backR, List.range, List.range.loop]
theorem tok_cells (r : List Tok) : ∀ x ∈ r.map Tok.enc, (vcells x).length = 4 := fun x hx => by obtain ⟨y, _, rfl⟩ := List.mem_map.1 hx; rfl
theorem ev_is (t : Tok) (r : List Tok) (s : List UInt8) : EV 101 [.box 0 0, .str s] [[.slice .froz (t.enc :: r.map Tok.enc)]] = some (.ret (.bool (isT s (t :: r))), [[.slice .froz (t.enc :: r.map Tok.enc)]]) := by
  have h1 := ev_top t r
  rw [EV_mki rfl Tryz.func101 rfl (by kernel_rfl) rfl]
  obtain ⟨k, n, p, w⟩ := t
  rw [Tok.enc_eq] at h1 ⊢
  generalize r.map Tok.enc = xs at *
  simp only [isT]
  by_cases k1 : k = 1
  · subst k1
    simp [Tryz.f101, Tryz.ti3, Tryz.ti9, Tryz.ti125, h1, gc, reach, reachFuel, shut, nodup, List.idxOf, List.findIdx, List.findIdx.go, backR, List.range, List.range.loop]
  · by_cases k5 : k = 5
    · subst k5
      simp [Tryz.f101, Tryz.ti3, Tryz.ti9, Tryz.ti125, h1, gc, reach, reachFuel, shut, nodup, List.idxOf, List.findIdx, List.findIdx.go, backR, List.range, List.range.loop]
    · simp [Tryz.f101, Tryz.ti3, Tryz.ti9, Tryz.ti125, h1, k1, k5, gc, reach, reachFuel, shut, nodup, List.idxOf, List.findIdx, List.findIdx.go, backR, List.range, List.range.loop]
theorem ev_maybe (s : List UInt8) (l : List Tok) (he : Ends l) : EV 142 [.box 0 0, .str s] (rdS l) = some (.ret (.bool (maybeP s l).1), rdS (maybeP s l).2) := by
  obtain ⟨t, r, rfl⟩ := ends_cons he
  have h1 := ev_is t r s
  rw [EV_mki rfl Tryz.func142 rfl (by kernel_rfl) rfl]
  unfold maybeP
  cases hi : isT s (t :: r)
  · rw [hi] at h1
    simp only [rdS, List.map_cons, Bool.false_eq_true, if_false]
    rw [Tok.enc_eq t] at h1 ⊢
    generalize r.map Tok.enc = xs at *
    simp [Tryz.f142, h1, gc, reach, reachFuel, shut, nodup, List.idxOf, List.findIdx, List.findIdx.go, backR, List.range, List.range.loop]
  · rw [hi] at h1
    have h2 := ev_take t r (by have := (isT_kind hi).1; omega) (tok_cells r)
    simp only [rdS, List.map_cons, List.tail_cons, if_true] at h2 ⊢
    rw [Tok.enc_eq t] at h1 h2 ⊢
    generalize r.map Tok.enc = xs at *
    simp [Tryz.f142, h1, h2, gc, reach, reachFuel, shut, nodup, List.idxOf, List.findIdx, List.findIdx.go, backR, List.range, List.range.loop]
theorem ev_must1 (s : List UInt8) (l : List Tok) (he : Ends l) : EV 105 [.box 0 0, .slice .froz [.str s]] (rdS l) = prO (fun _ => .tup []) (needP s l) := by
  obtain ⟨t, r, rfl⟩ := ends_cons he
  have h1 := ev_maybe s (t :: r) he
  have h2 := ev_no t r
  rw [EV_mki rfl Tryz.func105 rfl (by kernel_rfl) rfl]
  unfold needP
  unfold maybeP at h1
  cases hi : isT s (t :: r) <;> rw [hi] at h1
  · simp only [Bool.false_eq_true, if_false] at h1 ⊢
    simp only [rdS, List.map_cons] at h1 ⊢
    rw [prO_none]
    simp [Tryz.f105, Tryz.ti3, Tryz.ti9, Tryz.ti100]
    rw [i_loop (ts := [9, 10, 11, 5, 12, 13, 14, 15, 16, 17, 18])]
    rotate_left
    · kernel_rfl
    rw [i_round]
    simp [Tryz.f105, Tryz.ti3, Tryz.ti9, Tryz.ti100, h1, h2, topAt, faultV, gc, reach, reachFuel, shut, nodup, List.idxOf, List.findIdx, List.findIdx.go, backR, List.range, List.range.loop]
  · simp only [if_true] at h1 ⊢
    simp only [rdS, List.map_cons, List.tail_cons] at h1 ⊢
    rw [prO_some]
    simp [Tryz.f105, Tryz.ti3, Tryz.ti9, Tryz.ti100]
    rw [i_loop (ts := [9, 10, 11, 5, 12, 13, 14, 15, 16, 17, 18])]
    rotate_left
    · kernel_rfl
    rw [i_round]
    simp [i_again, roundEnd, dropT, cleanV, Tryz.f105, Tryz.ti3, Tryz.ti9, Tryz.ti100, h1, gc, reach, reachFuel, shut, nodup, List.idxOf, List.findIdx, List.findIdx.go, backR, List.range, List.range.loop]
    rw [i_round]
    simp [i_again, roundEnd, dropT, cleanV, Tryz.f105, Tryz.ti3, Tryz.ti9, Tryz.ti100, gc, reach, reachFuel, shut, nodup, List.idxOf, List.findIdx, List.findIdx.go, backR, List.range, List.range.loop]
def idxAt (i : Nat) : Nat → Int
  | 0 => -1
  | n + 1 => i + n
theorem one_cons (s : List UInt8) (r : List (List UInt8)) (l : List Tok) (i : Nat) (hi : isT s l = false) : idxAt i (oneP (s :: r) l).1 = idxAt (i + 1) (oneP r l).1 ∧ (oneP (s :: r) l).2 = (oneP r l).2 := by
  rw [oneP]
  simp only [hi, Bool.false_eq_true, if_false]
  cases oneP r l with
  | mk n l' =>
    cases n with
    | zero => exact ⟨rfl, rfl⟩
    | succ n => refine ⟨?_, rfl⟩; simp only [idxAt]; omega
set_option maxHeartbeats 1000000 in
theorem ev_index (ss : List (List UInt8)) (hs : ss.length ≤ 1000) (l : List Tok) (he : Ends l) : EV 173 [.slice .froz (ss.map V.str), .func 142 [.box 0 0] []] (rdS l) = some (.ret (.int .i64 (idxAt 0 (oneP ss l).1)), rdS (oneP ss l).2) := by
  rw [EV_mki rfl Tryz.func173 rfl (by kernel_rfl) rfl]
  simp [Tryz.f173, Tryz.ti3, Tryz.ti9, Tryz.ti100]
  rw [i_loop (ts := [9, 10, 5, 11, 12, 13, 14, 15, 16, 17, 18])]
  rotate_left
  · kernel_rfl
  refine i_at (fun i : {i : Nat // i ≤ ss.length} => ss.length - i.1) (fun i env => setV env 8 (.int .i64 i.1)) (fun i => _) (fun i => some (.ret (.int .i64 (idxAt i.1 (oneP (ss.drop i.1) l).1)), rdS (oneP (ss.drop i.1) l).2)) ⟨0, by omega⟩ (by simp [s_zero, s_succ]) rfl (by simp) ?_
  intro ⟨i, hil⟩ ih
  dsimp only at hil ⊢
  by_cases hi : i < ss.length
  · have ih := ih ⟨i + 1, by omega⟩ (by simp only; omega)
    have hwi : IntKind.i64.wrap ((i : Int) + 1) = (i : Int) + 1 := wrap_i64 (by omega)
    obtain ⟨s, hk⟩ : ∃ m, ss[i] = m := ⟨_, rfl⟩
    have hkk : ss[i]? = some s := by rw [List.getElem?_eq_getElem hi, hk]
    have hm := ev_maybe s l he
    unfold maybeP at hm
    rw [List.drop_eq_getElem_cons hi, hk]
    simp only [s_zero, s_succ, Int.natCast_add, Int.natCast_one, Int.cast_ofNat_Int] at ih
    cases hT : isT s l <;> rw [hT] at hm
    · obtain ⟨e1, e2⟩ := one_cons s (ss.drop (i + 1)) l i hT
      rw [e1, e2]
      simp only [Bool.false_eq_true, if_false] at hm
      simp [i_again, roundEnd, dropT, cleanV, Tryz.f173, Tryz.ti3, Tryz.ti9, Tryz.ti100, hi, hk, hkk, hm, hwi, ih, gc, reach, reachFuel, shut, nodup, List.idxOf, List.findIdx, List.findIdx.go, backR, List.range, List.range.loop]
    · simp only [if_true] at hm
      have e1 : oneP (s :: ss.drop (i + 1)) l = (1, l.tail) := by rw [oneP, if_pos hT]
      rw [e1]
      simp [i_again, roundEnd, dropT, cleanV, Tryz.f173, Tryz.ti3, Tryz.ti9, Tryz.ti100, hi, hk, hkk, hm, idxAt, gc, reach, reachFuel, shut, nodup, List.idxOf, List.findIdx, List.findIdx.go, backR, List.range, List.range.loop]
  · rw [List.drop_of_length_le (by omega)]
    simp [i_again, roundEnd, dropT, cleanV, Tryz.f173, Tryz.ti3, Tryz.ti9, Tryz.ti100, hi, oneP, idxAt, gc, reach, reachFuel, shut, nodup, List.idxOf, List.findIdx, List.findIdx.go, backR, List.range, List.range.loop]
theorem ev_one (ss : List (List UInt8)) (hs : ss.length ≤ 1000) (l : List Tok) (he : Ends l) : EV 141 [.box 0 0, .slice .froz (ss.map V.str)] (rdS l) = some (.ret (.int .i64 (oneP ss l).1), rdS (oneP ss l).2) := by
  have h := ev_index ss hs l he
  have hl := one_le ss l
  rw [EV_mki rfl Tryz.func141 rfl (by kernel_rfl) rfl]
  have hw : IntKind.i64.wrap (idxAt 0 (oneP ss l).1 + 1) = (oneP ss l).1 := by
    have : idxAt 0 (oneP ss l).1 + 1 = ((oneP ss l).1 : Int) := by cases (oneP ss l).1 <;> simp [idxAt]
    rw [this]; exact wrap_i64 (by omega)
  generalize (oneP ss l).1 = n at *
  generalize (oneP ss l).2 = l' at *
  generalize idxAt 0 n = m at *
  simp [Tryz.f141, Tryz.ti3, h, hw, gc, reach, reachFuel, shut, nodup, List.idxOf, List.findIdx, List.findIdx.go, backR, List.range, List.range.loop]
theorem ev_oneOf (ss : List (List UInt8)) (hs : ss.length ≤ 1000) (l : List Tok) (he : Ends l) : EV 103 [.box 0 0, .slice .froz (ss.map V.str)] (rdS l) = prO (fun n : Nat => .int .i64 n) (oneOfP ss l) := by
  have h := ev_one ss hs l he
  have hz := one_zero ss l
  rw [EV_mki rfl Tryz.func103 rfl (by kernel_rfl) rfl]
  unfold oneOfP
  cases ho : oneP ss l with
  | mk n l' =>
    rw [ho] at h hz
    cases n with
    | zero =>
      obtain rfl := hz rfl
      obtain ⟨t, r, rfl⟩ := ends_cons he
      have h2 := ev_no t r
      simp only [prO_none, rdS, List.map_cons] at h ⊢
      simp at h
      simp [Tryz.f103, Tryz.ti3, h, h2, topAt, faultV, gc, reach, reachFuel, shut, nodup, List.idxOf, List.findIdx, List.findIdx.go, backR, List.range, List.range.loop]
    | succ n =>
      have hn : ¬ (n : Int) + 1 = 0 := by omega
      simp only [prO_some, rdS] at h ⊢
      simp at h
      simp [Tryz.f103, Tryz.ti3, h, hn, gc, reach, reachFuel, shut, nodup, List.idxOf, List.findIdx, List.findIdx.go, backR, List.range, List.range.loop]
theorem ev_pname (l : List Tok) (he : Ends l) : EV 104 [.box 0 0] (rdS l) = prO V.str (nameP l) := by
  obtain ⟨t, r, rfl⟩ := ends_cons he
  have h1 := ev_top t r
  have h2 := ev_no t r
  rw [EV_mki rfl Tryz.func104 rfl (by kernel_rfl) rfl]
  simp only [nameP]
  by_cases hk : t.kind = 2
  · have h3 := ev_take t r (by omega) (tok_cells r)
    rw [if_pos hk, prO_some]
    simp only [rdS, List.map_cons] at h3 ⊢
    obtain ⟨k, n, p, w⟩ := t
    dsimp only at hk
    subst hk
    rw [Tok.enc_eq] at h1 h3 ⊢
    generalize r.map Tok.enc = xs at *
    simp [Tryz.f104, Tryz.ti3, Tryz.ti9, Tryz.ti125, h1, h3, gc, reach, reachFuel, shut, nodup, List.idxOf, List.findIdx, List.findIdx.go, backR, List.range, List.range.loop]
  · rw [if_neg hk, prO_none]
    simp only [rdS, List.map_cons, topAt]
    rw [Tok.enc_eq t] at h1 h2 ⊢
    generalize r.map Tok.enc = xs at *
    simp [Tryz.f104, Tryz.ti3, Tryz.ti9, Tryz.ti125, h1, h2, hk, faultV, gc, reach, reachFuel, shut, nodup, List.idxOf, List.findIdx, List.findIdx.go, backR, List.range, List.range.loop]
theorem ev_op (s : List UInt8) (kids : List V) : EV 161 [.str s, .slice .froz kids] [] = some (.ret (.agg [.str s, .int .i64 0, .int .i64 0, .str [], .str [], .str [], .slice .froz kids]), []) := by
  rw [EV_mki rfl Tryz.func161 rfl (by kernel_rfl) rfl]
  simp [Tryz.f161, Tryz.ti3, Tryz.ti9, Tryz.ti23, Tryz.ti44, Tryz.ti46]
theorem ev_value (k n : Int) (s : List UInt8) : EV 225 [.agg [.int .i64 k, .int .i64 n, .str s]] [] = some (.ret (xval ⟨k, n, s⟩).enc, []) := by
  rw [EV_mki rfl Tryz.func225 rfl (by kernel_rfl) rfl, xval, xenc_mk]
  simp [Tryz.f225, Tryz.ti3, Tryz.ti9, Tryz.ti23, Tryz.ti44, Tryz.ti46, oValue]
theorem one_op : ∀ (tbl : List (List UInt8 × List UInt8)) (l : List Tok), match opAt tbl l with
    | none => oneP (tbl.map Prod.fst) l = (0, l)
    | some o => ∃ k, oneP (tbl.map Prod.fst) l = (k + 1, l.tail) ∧ (tbl.map Prod.snd)[k]? = some o
  | [], l => rfl
  | (s, o) :: r, l => by
    have ih := one_op r l
    simp only [opAt, List.map_cons]
    cases hi : isT s l
    · simp only [Bool.false_eq_true, if_false]
      rw [oneP]
      simp only [hi, Bool.false_eq_true, if_false]
      cases ho : opAt r l with
      | none => rw [ho] at ih; simp only at ih ⊢; rw [ih]
      | some o' =>
        rw [ho] at ih
        obtain ⟨k, h1, h2⟩ := ih
        simp only
        exact ⟨k + 1, by rw [h1], by simpa using h2⟩
    · simp only [if_true]
      exact ⟨0, by rw [oneP, if_pos hi], rfl⟩
def goP (part : List Tok → PR Xp) (tbl : List (List UInt8 × List UInt8)) (k : Nat) (e : Xp) (n : Nat) (l : List Tok) : PR Xp :=
  match n with
  | 0 => (some e, l)
  | n + 1 => thenP (part l) fun f r => moreP part tbl k (xop ((tbl.map Prod.snd).getD n []) [e, f]) r
theorem more_go (part : List Tok → PR Xp) (tbl : List (List UInt8 × List UInt8)) (k : Nat) (e : Xp) (l : List Tok) : moreP part tbl (k + 1) e l = goP part tbl k e (oneP (tbl.map Prod.fst) l).1 (oneP (tbl.map Prod.fst) l).2 := by
  have h := one_op tbl l
  rw [moreP]
  cases ho : opAt tbl l with
  | none => rw [ho] at h; simp only at h ⊢; rw [h]; rfl
  | some o =>
    rw [ho] at h
    obtain ⟨j, h1, h2⟩ := h
    simp only
    rw [h1]
    simp only [goP]
    rw [List.getD_eq_getElem?_getD, h2]
    rfl
theorem one_pos {ss : List (List UInt8)} {l : List Tok} {n : Nat} {l' : List Tok} (h : oneP ss l = (n + 1, l')) : l'.length < l.length ∧ n < ss.length := by
  induction ss generalizing n l' with
  | nil => cases h
  | cons s r ih =>
    rw [oneP] at h
    cases hi : isT s l
    · simp only [hi, Bool.false_eq_true, if_false] at h
      cases ho : oneP r l with
      | mk m l'' =>
        rw [ho] at h
        cases m with
        | zero => cases h
        | succ m => cases h; have := ih ho; exact ⟨this.1, by simp; omega⟩
    · simp only [hi, if_true] at h
      cases h
      exact ⟨tail_len hi, by simp⟩
set_option maxRecDepth 100000 in
set_option maxHeartbeats 4000000 in
theorem ev_chain (fp : FuncId) (part : List Tok → PR Xp) (hk : KeepP part) (tbl : List (List UInt8 × List UInt8)) (ht : tbl.length ≤ 1000) (N : Nat) (hp : ∀ l, Ends l → l.length ≤ N → EV fp [.box 0 0] (rdS l) = prO Xp.enc (part l))
    (l : List Tok) (he : Ends l) (hN : l.length ≤ N) : EV 128 [.box 0 0, .func fp [.box 0 0] [], .slice .froz ((tbl.map Prod.fst).map V.str), .slice .froz ((tbl.map Prod.snd).map V.str)] (rdS l) = prO Xp.enc (chainP part tbl l) := by
  have h0 := hp l he hN
  have k0 := hk l
  have hone := fun l he => ev_one (tbl.map Prod.fst) (by simpa using ht) l he
  have hget0 : ∀ n, n < tbl.length → ((tbl.map Prod.snd).map V.str)[n]? = some (V.str ((tbl.map Prod.snd).getD n [])) := fun n hn => by
    have : n < (tbl.map Prod.snd).length := by simp; omega
    rw [List.getElem?_map, List.getD_eq_getElem?_getD, List.getElem?_eq_getElem this]; rfl
  have hlen : ((tbl.map Prod.snd).map V.str).length = tbl.length := by simp
  generalize (tbl.map Prod.fst).map V.str = SS at hone ⊢
  generalize (tbl.map Prod.snd).map V.str = ops at hget0 hlen ⊢
  rw [EV_mki rfl Tryz.func128 rfl (by kernel_rfl) rfl]
  unfold chainP
  cases hP : part l with
  | mk o r =>
    rw [hP] at h0 k0
    cases o with
    | none =>
      simp only [thenP, prO_none, faultV] at h0 ⊢
      simp [Tryz.f128, Tryz.ti3, Tryz.ti9, Tryz.ti23, Tryz.ti44, Tryz.ti46, Tryz.ti100, h0, gc, reach, reachFuel, shut, nodup, List.idxOf, List.findIdx, List.findIdx.go, backR, List.range, List.range.loop]
    | some e =>
      simp only [thenP, prO_some] at h0 ⊢
      rw [more_go]
      have k1 : Ends r := k0.2 he
      have k2 : r.length ≤ l.length := k0.1
      have h1 := hone r k1
      have l1 := one_len (tbl.map Prod.fst) r
      have e1 := one_ends (tbl.map Prod.fst) k1
      have p1 : ∀ m l', oneP (tbl.map Prod.fst) r = (m + 1, l') → l'.length < r.length ∧ m < tbl.length := fun m l' h => by have := one_pos h; simpa using this
      have b1 := one_le (tbl.map Prod.fst) r
      simp only [List.length_map] at b1
      generalize hon : oneP (tbl.map Prod.fst) r = on at *
      obtain ⟨n, l1'⟩ := on
      dsimp only at h1 l1 e1 b1 ⊢
      obtain ⟨op0, v0, var0, col0, kids0⟩ := e
      rw [xenc_mk] at h0
      simp only [rdS] at h0 h1
      simp only [rdS]
      simp [Tryz.f128, Tryz.ti3, Tryz.ti9, Tryz.ti23, Tryz.ti44, Tryz.ti46, Tryz.ti100, h0, h1, gc, reach, reachFuel, shut, nodup, List.idxOf, List.findIdx, List.findIdx.go, backR, List.range, List.range.loop]
      rw [i_loop (ts := [16, 17, 21, 22, 23, 24, 25, 26, 27, 28, 29, 30, 18, 19, 20])]
      rotate_left
      · kernel_rfl
      refine i_at2 (fun x : {x : Nat × Xp × Nat × List Tok // Ends x.2.2.2 ∧ x.2.2.2.length ≤ r.length ∧ x.2.2.1 ≤ tbl.length ∧ (x.2.2.1 ≠ 0 → x.2.2.2.length < x.1)} => if x.1.2.2.1 = 0 then 0 else x.1.2.2.2.length + 1) (fun x env => setV env 10 (.int .i64 x.1.2.2.1)) (fun x st => (st.set 0 [.slice .froz (x.1.2.2.2.map Tok.enc)]).set 4 (vcells x.1.2.1.enc))
        (fun x => prO Xp.enc (goP part tbl x.1.1 x.1.2.1 x.1.2.2.1 x.1.2.2.2)) ⟨(r.length, .mk op0 v0 var0 col0 kids0, n, l1'), e1, l1, b1, fun hn => by
          obtain ⟨m, rfl⟩ : ∃ m, n = m + 1 := ⟨n - 1, by simp only at hn; omega⟩
          exact (p1 m l1' rfl).1⟩ (by simp [s_zero, s_succ]) (by simp [xenc_mk, vcells]) rfl ?_
      intro ⟨⟨k, e, n, l'⟩, c1, c2, c3, c4⟩ ih
      dsimp only at c1 c2 c3 c4 ih ⊢
      obtain ⟨op, v, var, col, kids⟩ := e
      cases n with
      | zero =>
        clear ih
        simp only [goP, prO_some, xenc_mk, vcells]
        simp [i_again, roundEnd, dropT, cleanV, Tryz.f128, Tryz.ti3, Tryz.ti9, Tryz.ti23, Tryz.ti44, Tryz.ti46, Tryz.ti100, gc, reach, reachFuel, shut, nodup, List.idxOf, List.findIdx, List.findIdx.go, backR, List.range, List.range.loop]
      | succ n =>
        have c4 := c4 (by omega)
        have h0 := hp l' c1 (by omega)
        have k0 := hk l'
        have hwn : IntKind.i64.wrap ((n : Int) + 1 - 1) = n := by rw [show (n : Int) + 1 - 1 = n by omega]; exact wrap_i64 (by omega)
        have hwn2 : IntKind.i64.wrap (n : Int) = n := wrap_i64 (by omega)
        have hnl : (n : Int) < tbl.length := by omega
        have hnl2 : n < tbl.length := by omega
        have hget := hget0 n (by omega)
        simp only [goP]
        generalize (tbl.map Prod.snd).getD n [] = oo at hget ⊢
        have hnl3 : n < ops.length := by omega
        have hg2 : ops[n] = V.str oo := by
          have h := hget
          rw [List.getElem?_eq_getElem hnl3] at h
          exact Option.some.inj h
        have hgt : ¬ (n : Int) + 1 = 0 := by omega
        have hpos : (0 : Int) < (n : Int) + 1 := by omega
        cases hP : part l' with
        | mk o r' =>
          rw [hP] at h0 k0
          cases o with
          | none =>
            clear ih
            simp only [thenP, prO_none, faultV, rdS] at h0 ⊢
            simp [i_again, roundEnd, dropT, cleanV, Tryz.f128, Tryz.ti3, Tryz.ti9, Tryz.ti23, Tryz.ti44, Tryz.ti46, Tryz.ti100, h0, hwn, hwn2, hnl, hnl2, hget, hg2, hlen, hpos, xenc_mk, vcells, gc, reach, reachFuel, shut, nodup, List.idxOf, List.findIdx, List.findIdx.go, backR, List.range, List.range.loop] <;> first | (refine panQ_of ?_; decide +kernel) | (change _ = true; decide +kernel) | kernel_rfl | (refine ⟨?_, ?_⟩ <;> first | (change _ = true; decide +kernel) | kernel_rfl)
          | some f =>
            have k1 : Ends r' := k0.2 c1
            have k2' : r'.length ≤ l'.length := k0.1
            obtain ⟨j, rfl⟩ : ∃ j, k = j + 1 := ⟨k - 1, by omega⟩
            have h1 := hone r' k1
            have l1 := one_len (tbl.map Prod.fst) r'
            have e1 := one_ends (tbl.map Prod.fst) k1
            have p1 : ∀ m l', oneP (tbl.map Prod.fst) r' = (m + 1, l') → l'.length < r'.length ∧ m < tbl.length := fun m l' h => by have := one_pos h; simpa using this
            have b1 := one_le (tbl.map Prod.fst) r'
            simp only [List.length_map] at b1
            have hop := ev_op oo [(Xp.mk op v var col kids).enc, f.enc]
            simp only [thenP, prO_some] at h0 ⊢
            rw [more_go]
            generalize hon : oneP (tbl.map Prod.fst) r' = on at *
            obtain ⟨m, l1'⟩ := on
            dsimp only at h1 l1 e1 b1 ⊢
            have ih := ih ⟨(j, xop oo [.mk op v var col kids, f], m, l1'), e1, by show l1'.length ≤ r.length; omega, b1, fun hn => by
              obtain ⟨m', rfl⟩ : ∃ m', m = m' + 1 := ⟨m - 1, by simp only at hn; omega⟩
              have := (p1 m' l1' rfl).1
              show l1'.length < j
              omega⟩ (by
                show (if m = 0 then 0 else l1'.length + 1) < (if n + 1 = 0 then 0 else l'.length + 1)
                rw [if_neg (Nat.succ_ne_zero n)]
                split
                · omega
                · rename_i hm
                  obtain ⟨m', rfl⟩ : ∃ m', m = m' + 1 := ⟨m - 1, by omega⟩
                  have := (p1 m' l1' rfl).1
                  omega)
            obtain ⟨fop, fv, fvar, fcol, fkids⟩ := f
            simp only [xop, xenc_mk, List.map_cons, List.map_nil, Val.zero, vcells, s_zero, s_succ, List.set_cons_zero, List.set_cons_succ] at ih h0 hop
            simp only [rdS] at h0 h1
            simp [i_again, roundEnd, dropT, cleanV, Tryz.f128, Tryz.ti3, Tryz.ti9, Tryz.ti23, Tryz.ti44, Tryz.ti46, Tryz.ti100, h0, h1, hop, hwn, hwn2, hnl, hnl2, hget, hg2, hlen, hpos, xenc_mk, xop, Val.zero, ih, gc, reach, reachFuel, shut, nodup, List.idxOf, List.findIdx, List.findIdx.go, backR, List.range, List.range.loop]
            intro hf; exfalso; revert hf; rw [imp_false, Bool.not_eq_false]; decide +kernel
end Go.Abs
