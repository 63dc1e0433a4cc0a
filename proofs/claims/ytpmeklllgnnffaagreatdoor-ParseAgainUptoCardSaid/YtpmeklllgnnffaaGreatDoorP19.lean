/- What the next token comes to. -/
import Derived.Test.YtpmeklllgnnffaaGreatDoorP18
import Derived.Test.YtpmeklllgnnffaaGreatDoorP11
import Derived.Test.YtpmeklllgnnffaaGreatDoorP16
set_option linter.unusedSimpArgs false
set_option linter.unusedVariables false

namespace Go.Abs
set_option linter.unusedSimpArgs false
set_option linter.unusedVariables false
open Go Go.Proofs
attribute [local simp] i_nil i_blk i_skip i_ret i_exit i_seq i_block i_cond i_region' i_ops_nil i_ops i_drawn' k_none k_0 k_1 k_2 k_3 k_4 k_5 d_in a_nil a_cons alt1 h_nil h_one h_two z_nil z_cons z_cells zeqL zeq q_alloc q_some nxtN i_drh d_hi i_drw_nil i_drw u_nil u_code u_ops u_drw u_lp u_again u_exit u_ret u_panic c_bool o_some o_val o_panic d_some d_val d_panic w_none w_fast wantG q_nil q_zero q_succ t_zero t_succ g_zero g_succ s_zero s_succ s_some s_none v_tmp v_const v_func f_quiet gc_none gc_pure wrap_i64 p_move p_assign p_pick p_alloc p_box p_build p_buildSlice p_load p_store p_nilCheck p_binOp n_tmp n_int n_bool n_str n_ptr n_fun n_iface nilCmp p_unOp p_convert p_makeSlice p_makeInterface p_makeFunc p_slice p_fieldAddr p_field p_indexAddr p_index p_extract p_callv p_callb p_panic quiet_val new_val e_assign e_call e_load e_store e_alloc e_box e_move e_pick e_build e_buildSlice e_nilCheck e_binOp e_unOp e_convert e_makeSlice e_makeInterface e_makeFunc e_slice e_fieldAddr e_field e_indexAddr e_index e_extract e_panic callD fpRead adoptZ fulls adopt adoptL ofValue ofScalar binOpV unOpV intBin strBin eqRes veq veqF eqDepth val? finish resL r_tmp r_cell normL normTop tipIs refsL refs ownRefs single frz frzL ren renL renOwn callOp doCall backR writeBack builtinV loadV storeV storeW iceT cellsAt takeV D.isAgg overlay vcells cellOk fieldAddrV indexAddrV fieldV partV indexV buildV fillV buildSliceV litElems appendV appElems elemOk convertV convV winStr makeSliceV sliceV natOf
attribute [local simp ↓] brB_true brB_false brB_dec brB_not brB_and brB_or brB_beq brB_bne
def symL : List (List UInt8) := [[60, 62], [60, 61], [62, 61], [60], [62], [61], [43], [45], [42], [40], [41], [44], [46], [59]]
theorem pfx_c2 (c d x y : UInt8) (t : List UInt8) : pfx (c :: d :: t) [x, y] = decide (c = x ∧ d = y) := by simp [pfx]
theorem pfx_c1 (c x : UInt8) (t : List UInt8) : pfx (c :: t) [x] = decide (c = x) := by simp [pfx]
theorem pfx_n2 (c x y : UInt8) : pfx [c] [x, y] = false := by simp [pfx]
theorem sym_find (c : UInt8) (t : List UInt8) : symL.find? (pfx (c :: t) ·) = if symS (c :: t) = 0 then none else some ((c :: t).take (symS (c :: t))) := by
  have one : ∀ t : List UInt8, [[60], [62], [61], [43], [45], [42], [40], [41], [44], [46], [59]].find? (pfx (c :: t) ·) = if [60, 62, 61, 43, 45, 42, 40, 41, 44, 46, 59].contains c then some [c] else none := by
    intro t
    simp only [List.find?, pfx_c1]
    by_cases h1 : c = 60
    · subst h1; rfl
    by_cases h2 : c = 62
    · subst h2; rfl
    by_cases h3 : c = 61
    · subst h3; rfl
    by_cases h4 : c = 43
    · subst h4; rfl
    by_cases h5 : c = 45
    · subst h5; rfl
    by_cases h6 : c = 42
    · subst h6; rfl
    by_cases h7 : c = 40
    · subst h7; rfl
    by_cases h8 : c = 41
    · subst h8; rfl
    by_cases h9 : c = 44
    · subst h9; rfl
    by_cases h10 : c = 46
    · subst h10; rfl
    by_cases h11 : c = 59
    · subst h11; rfl
    simp [h1, h2, h3, h4, h5, h6, h7, h8, h9, h10, h11]
  cases t with
  | nil =>
    have : symL.find? (pfx [c] ·) = [[60], [62], [61], [43], [45], [42], [40], [41], [44], [46], [59]].find? (pfx [c] ·) := by
      simp only [symL, List.find?_cons, pfx_n2]
    rw [this, one]
    simp only [symS]
    split <;> simp
  | cons d r =>
    have h3 : symL = [[60, 62], [60, 61], [62, 61]] ++ [[60], [62], [61], [43], [45], [42], [40], [41], [44], [46], [59]] := rfl
    rw [h3, List.find?_append, one]
    simp only [symS, List.find?_cons, List.find?_nil, pfx_c2]
    by_cases h1 : c = 60 ∧ d = 62
    · obtain ⟨rfl, rfl⟩ := h1; simp
    by_cases h2 : c = 60 ∧ d = 61
    · obtain ⟨rfl, rfl⟩ := h2; simp
    by_cases h4 : c = 62 ∧ d = 61
    · obtain ⟨rfl, rfl⟩ := h4; simp
    simp only [h1, h2, h4, decide_false, or_self, if_false, Option.none_or]
    split <;> simp
def symO (k : Nat) (s : List UInt8) : Option (List UInt8) → Option (Out × St)
  | none => tokO k s k none
  | some y => tokO k s ((k : Int) + y.length) (some ⟨5, 0, k, y⟩)
def nextO (s : List UInt8) (k : Nat) : Option (Out × St) :=
  match s.drop k with
  | [] => tokO k s k (some ⟨0, 0, k, []⟩)
  | c :: t => if isRun c then tokO k s ((k : Int) + ((c :: t).takeWhile isRun).length) (runS k ((c :: t).takeWhile isRun))
    else if c = 39 then textO k s (quoteS [] t) else symO k s (symL.find? (pfx (c :: t) ·))
set_option maxRecDepth 100000 in
set_option maxHeartbeats 4000000 in
theorem ev_next (s : List UInt8) (hs : s.length ≤ 1048576) (j : Nat) (hj : j ≤ s.length) : EV 77 [.box 0 0] [[.str s, .int .i64 j]] = nextO s (j + blanks (s.drop j)) := by
  have hw := ev_while 122 isBlk ev_lblank s (by omega) j hj
  have hle := takeWhile_len (p := isBlk) (s.drop j)
  rw [List.length_drop] at hle
  have hb : ((s.drop j).takeWhile isBlk).length = blanks (s.drop j) := rfl
  rw [hb] at hw hle
  obtain ⟨k, hk⟩ : ∃ k, j + blanks (s.drop j) = k := ⟨_, rfl⟩
  have hk' : (j : Int) + blanks (s.drop j) = k := by omega
  rw [hk'] at hw
  rw [hk]
  have hks : k ≤ s.length := by omega
  generalize (s.drop j).takeWhile isBlk = bl at hw
  clear hb hk hk' hle
  rw [EV_mki rfl Tryz.func77 rfl (by kernel_rfl) rfl]
  by_cases he : k = s.length
  · subst he
    have hd : s.drop s.length = [] := List.drop_length
    simp [nextO, hd, Tryz.f77, Tryz.ti3, Tryz.ti5, Tryz.ti9, Tryz.ti100, Tryz.ti123, Tryz.ti125, hw, tokO, Tok.enc_eq, gc, reach, reachFuel, shut, nodup, List.idxOf, List.findIdx, List.findIdx.go, List.range, List.range.loop, backR]
  · have hlt : k < s.length := by omega
    have he' : ¬ (k : Int) = s.length := by omega
    have hd : s.drop k = s[k] :: s.drop (k + 1) := List.drop_eq_getElem_cons hlt
    obtain ⟨c, hc⟩ : ∃ m, s[k] = m := ⟨_, rfl⟩
    have hcc : s[k]? = some c := by rw [List.getElem?_eq_getElem hlt, hc]
    rw [hc] at hd
    have hr := ev_run s hs k hks
    have ht := ev_text s hs k hlt
    have hin := ev_inrun c
    unfold nextO
    rw [hd] at hr ⊢
    simp only
    by_cases c1 : isRun c = true
    · rw [c1] at hin
      rw [if_pos c1]
      generalize runS k ((c :: s.drop (k + 1)).takeWhile isRun) = o at *
      generalize (k : Int) + ((c :: s.drop (k + 1)).takeWhile isRun).length = q at *
      cases o <;> simp only [tokO, Tok.enc_eq] at hr ⊢ <;> simp [Tryz.f77, Tryz.ti3, Tryz.ti5, Tryz.ti9, Tryz.ti100, Tryz.ti123, Tryz.ti125, hw, hr, hin, he, he', hlt, hc, hcc, gc, reach, reachFuel, shut, nodup, List.idxOf, List.findIdx, List.findIdx.go, List.range, List.range.loop, backR]
    · rw [Bool.not_eq_true] at c1
      rw [c1] at hin
      rw [if_neg (by simp [c1])]
      by_cases c2 : c = 39
      · rw [if_pos c2]
        subst c2
        have hin : EV 123 [.int .u8 39] [] = some (.ret (.bool false), []) := hin
        cases hq : quoteS [] (s.drop (k + 1)) with
        | none =>
          rw [hq] at ht
          simp only [textO, tokO, Tok.enc_eq] at ht ⊢
          simp [Tryz.f77, Tryz.ti3, Tryz.ti5, Tryz.ti9, Tryz.ti100, Tryz.ti123, Tryz.ti125, hw, ht, hin, he, he', hlt, hc, hcc, gc, reach, reachFuel, shut, nodup, List.idxOf, List.findIdx, List.findIdx.go, List.range, List.range.loop, backR]
        | some p =>
          obtain ⟨a, u⟩ := p
          rw [hq] at ht
          simp only [textO] at ht ⊢
          by_cases h24 : a.length ≤ 24
          · simp only [h24, if_true, tokO, Tok.enc_eq] at ht ⊢
            simp [Tryz.f77, Tryz.ti3, Tryz.ti5, Tryz.ti9, Tryz.ti100, Tryz.ti123, Tryz.ti125, hw, ht, hin, he, he', hlt, hc, hcc, gc, reach, reachFuel, shut, nodup, List.idxOf, List.findIdx, List.findIdx.go, List.range, List.range.loop, backR]
          · simp only [h24, if_false, tokO, Tok.enc_eq] at ht ⊢
            simp [Tryz.f77, Tryz.ti3, Tryz.ti5, Tryz.ti9, Tryz.ti100, Tryz.ti123, Tryz.ti125, hw, ht, hin, he, he', hlt, hc, hcc, gc, reach, reachFuel, shut, nodup, List.idxOf, List.findIdx, List.findIdx.go, List.range, List.range.loop, backR]
      · rw [if_neg c2]
        have h39' : ¬ (c.toNat : Int) = 39 := fun e => c2 (UInt8.toNat_inj.1 (by have : (39 : UInt8).toNat = 39 := rfl; omega))
        simp [Tryz.f77, Tryz.ti3, Tryz.ti5, Tryz.ti9, Tryz.ti100, Tryz.ti123, Tryz.ti125, hw, hin, he, he', hlt, hc, hcc, h39', gc, reach, reachFuel, shut, nodup, List.idxOf, List.findIdx, List.findIdx.go, List.range, List.range.loop, backR]
        rw [show ([V.str [60, 62], V.str [60, 61], V.str [62, 61], V.str [60], V.str [62], V.str [61], V.str [43], V.str [45], V.str [42], V.str [40], V.str [41], V.str [44], V.str [46], V.str [59]] : List V) = symL.map V.str from rfl, ← hd]
        have hsl : symL.length = 14 := rfl
        have hsz : ∀ y ∈ symL, y.length ≤ 2 := by decide
        generalize symL = L at hsl hsz ⊢
        rw [i_loop (ts := [47, 48, 49, 5, 50, 51, 52, 53, 54, 55, 56, 57, 58, 59, 60, 61, 62, 63, 64, 65, 66, 67, 68, 69, 70])]
        rotate_left
        · kernel_rfl
        refine i_at (fun i : Nat => L.length - i) (fun i env => setV env 46 (.int .i64 i)) (fun _ => _) (fun i => symO k s ((L.drop i).find? (pfx (s.drop k) ·))) 0 (by simp [s_zero, s_succ]) rfl (by simp) ?_
        intro i ih
        by_cases hi : i < L.length
        · have ih := ih (i + 1) (by omega)
          have hi14 : (i : Int) < 14 := by omega
          have hwi : IntKind.i64.wrap ((i : Int) + 1) = (i : Int) + 1 := wrap_i64 (by omega)
          have hL : L.drop i = L[i] :: L.drop (i + 1) := List.drop_eq_getElem_cons hi
          obtain ⟨y, hy⟩ : ∃ m, L[i] = m := ⟨_, rfl⟩
          have hyy : L[i]? = some y := by rw [List.getElem?_eq_getElem hi, hy]
          have hyl := hsz y (hy ▸ List.getElem_mem hi)
          have hp := ev_prefix (s.drop k) y
          have hwy : IntKind.i64.wrap ((k : Int) + y.length) = (k : Int) + y.length := wrap_i64 (by omega)
          rw [hL, hy, List.find?_cons]
          simp only [s_zero, s_succ, Int.natCast_add, Int.natCast_one, Int.cast_ofNat_Int] at ih
          generalize pfx (s.drop k) y = b at *
          cases b with
          | true => simp [i_again, roundEnd, dropT, cleanV, Tryz.f77, Tryz.ti3, Tryz.ti5, Tryz.ti9, Tryz.ti100, Tryz.ti123, Tryz.ti125, hi, hi14, hy, hyy, hp, hks, hwy, symO, tokO, Tok.enc_eq, gc, reach, reachFuel, shut, nodup, List.idxOf, List.findIdx, List.findIdx.go, List.range, List.range.loop, backR]
          | false => simp [i_again, roundEnd, dropT, cleanV, Tryz.f77, Tryz.ti3, Tryz.ti5, Tryz.ti9, Tryz.ti100, Tryz.ti123, Tryz.ti125, hi, hi14, hy, hyy, hp, hks, hwi, ih]
        · have hi14 : ¬ (i : Int) < 14 := by omega
          have hL : L.drop i = [] := List.drop_eq_nil_of_le (by omega)
          rw [hL]
          simp [i_again, roundEnd, dropT, cleanV, Tryz.f77, Tryz.ti3, Tryz.ti5, Tryz.ti9, Tryz.ti100, Tryz.ti123, Tryz.ti125, hi, hi14, ev_stop, symO, tokO, gc, reach, reachFuel, shut, nodup, List.idxOf, List.findIdx, List.findIdx.go, List.range, List.range.loop, backR]
end Go.Abs
namespace Go.Abs
open Go Go.Proofs
variable {P : Program}
def panJ (js : List Nat) [s : OpsI] (fps : List Fp) : Bool := fpsOk2 s.a fps.reverse && ((List.range s.a.size).all (fun j => j ≤ fps.length - 1 || ordB s.a (fps.length - 1) j || js.contains j) && fps.reverse.zipIdx.all fun (b, j) => b.writes.isNone || j == fps.length - 1 || ordB s.a j (fps.length - 1))
theorem panQ_with (js : List Nat) {s : OpsI} {env : Env} {fps : List Fp} (h : @panJ js s fps = true) (hs : ∀ j ∈ js, safeOp P s.a env j = true) : @panQ P s env fps = true := by
  unfold panJ at h
  unfold panQ panicOk
  simp only [Bool.and_eq_true, List.all_eq_true, Bool.or_eq_true] at h ⊢
  refine ⟨h.1, fun j hj => ?_, h.2.2⟩
  rcases h.2.1 j hj with h1 | h1
  · exact .inl h1
  · exact .inr (hs j (by simpa using h1))
theorem panQ_of {s : OpsI} {env : Env} {fps : List Fp} (h : @panJ [] s fps = true) : @panQ P s env fps = true := panQ_with [] h (fun _ h => absurd h (by simp))
end Go.Abs
namespace Go.Abs
set_option linter.unusedSimpArgs false
set_option linter.unusedVariables false
open Go Go.Proofs
attribute [local simp] i_nil i_blk i_skip i_ret i_exit i_seq i_block i_cond i_region' i_ops_nil i_ops i_drawn' k_none k_0 k_1 k_2 k_3 k_4 k_5 d_in a_nil a_cons alt1 h_nil h_one h_two z_nil z_cons z_cells zeqL zeq q_alloc q_some nxtN i_drh d_hi i_drw_nil i_drw u_nil u_code u_ops u_drw u_lp u_again u_exit u_ret u_panic c_bool o_some o_val o_panic d_some d_val d_panic w_none w_fast wantG q_nil q_zero q_succ t_zero t_succ g_zero g_succ s_zero s_succ s_some s_none v_tmp v_const v_func f_quiet gc_none gc_pure wrap_i64 p_move p_assign p_pick p_alloc p_box p_build p_buildSlice p_load p_store p_nilCheck p_binOp n_tmp n_int n_bool n_str n_ptr n_fun n_iface nilCmp p_unOp p_convert p_makeSlice p_makeInterface p_makeFunc p_slice p_fieldAddr p_field p_indexAddr p_index p_extract p_callv p_callb p_panic quiet_val new_val e_assign e_call e_load e_store e_alloc e_box e_move e_pick e_build e_buildSlice e_nilCheck e_binOp e_unOp e_convert e_makeSlice e_makeInterface e_makeFunc e_slice e_fieldAddr e_field e_indexAddr e_index e_extract e_panic callD fpRead adoptZ fulls adopt adoptL ofValue ofScalar binOpV unOpV intBin strBin eqRes veq veqF eqDepth val? finish resL r_tmp r_cell normL normTop tipIs refsL refs ownRefs single frz frzL ren renL renOwn callOp doCall backR writeBack builtinV loadV storeV storeW iceT cellsAt takeV D.isAgg overlay vcells cellOk fieldAddrV indexAddrV fieldV partV indexV buildV fillV buildSliceV litElems appendV appElems elemOk convertV convV winStr makeSliceV sliceV natOf
attribute [local simp ↓] brB_true brB_false brB_dec brB_not brB_and brB_or brB_beq brB_bne
def errQ (s : List UInt8) (k : Nat) : Int := match nextO s k with
  | some (_, [[_, .int _ q]]) => q
  | _ => 0
theorem quote_drop : ∀ (acc t a u : List UInt8), quoteS acc t = some (a, u) → ∃ n, u = t.drop n ∧ n ≤ t.length
  | acc, [], a, u, h => by simp [quoteS] at h
  | acc, [c], a, u, h => by
    simp only [quoteS] at h
    split at h
    · simp only [Option.some.injEq, Prod.mk.injEq] at h; exact ⟨1, by simp [h.2], by simp⟩
    · cases h
  | acc, c :: d :: r, a, u, h => by
    simp only [quoteS] at h
    split at h
    · split at h
      · obtain ⟨n, h1, h2⟩ := quote_drop _ _ _ _ h
        exact ⟨n + 2, by simpa using h1, by simp; omega⟩
      · simp only [Option.some.injEq, Prod.mk.injEq] at h
        exact ⟨1, by simp [h.2], by simp⟩
    · obtain ⟨n, h1, h2⟩ := quote_drop _ _ _ _ h
      exact ⟨n + 1, by simpa using h1, by simpa using h2⟩
theorem sym_le (c : UInt8) (t : List UInt8) : symS (c :: t) ≤ (c :: t).length := by
  cases t with
  | nil => simp only [symS]; split <;> simp
  | cons d r =>
    simp only [symS]
    split
    · simp
    · split <;> simp
def faultV (e : Int) : V := .iface 58 (.agg [.int .i64 1, .int .i64 e])
def Told (s : List UInt8) (k : Nat) : Except Nat (Tok × List UInt8) → Prop
  | .ok (t, u) => nextO s k = some (.ret t.enc, [[.str s, .int .i64 ((s.length - u.length : Nat) : Int)]]) ∧ (∃ n, u = (s.drop k).drop n ∧ n ≤ (s.drop k).length ∧ (t.kind ≠ 0 → 1 ≤ n)) ∧ (t.kind = 0 → u = [])
  | .error e => nextO s k = some (.panic (faultV e), [[.str s, .int .i64 (errQ s k)]])
theorem runS_kind {p : Int} {w : List UInt8} {t : Tok} (h : runS p w = some t) : ¬ t.kind = 0 := by
  unfold runS at h
  split at h
  · cases h; simp
  · split at h
    · cases h; simp
    · split at h
      · cases h; simp
      · cases h
theorem dropWhile_drop {p : UInt8 → Bool} : ∀ l : List UInt8, l.dropWhile p = l.drop (l.takeWhile p).length
  | [] => rfl
  | c :: l => by
    by_cases h : p c = true
    · simp [h, dropWhile_drop l]
    · simp [h]
theorem next_tok (s : List UInt8) (k : Nat) (hk : k ≤ s.length) : Told s k (tokS k (s.drop k)) := by
  cases hd : s.drop k with
  | nil =>
    have hks : k = s.length := by have := congrArg List.length hd; simp at this; omega
    simp only [tokS, Told]
    refine ⟨?_, ⟨0, by simp [hd], by simp, by simp⟩, by simp⟩
    simp [nextO, hd, tokO, hks]
  | cons c t =>
    have hlen : (c :: t).length = s.length - k := by rw [← hd]; simp
    have err : ∀ q, nextO s k = tokO k s q none → nextO s k = some (.panic (faultV k), [[.str s, .int .i64 (errQ s k)]]) := by
      intro q e
      have : errQ s k = q := by simp only [errQ, e, tokO]
      rw [this, e]; rfl
    simp only [tokS]
    by_cases c1 : isRun c = true
    · rw [if_pos c1]
      have hn : nextO s k = tokO k s ((k : Int) + ((c :: t).takeWhile isRun).length) (runS k ((c :: t).takeWhile isRun)) := by simp only [nextO, hd, c1, if_true]
      have hdw : (c :: t).dropWhile isRun = (c :: t).drop ((c :: t).takeWhile isRun).length := dropWhile_drop _
      have hw1 : 1 ≤ ((c :: t).takeWhile isRun).length := by rw [List.takeWhile_cons, if_pos c1]; simp
      have hwl := takeWhile_len (p := isRun) (c :: t)
      generalize hwd : (c :: t).takeWhile isRun = w at *
      cases hr : runS k w with
      | none => exact err _ (by rw [hn, hr])
      | some x =>
        simp only [Told]
        refine ⟨?_, ⟨w.length, by rw [hd]; exact hdw, by rw [hd]; exact hwl, fun _ => hw1⟩, fun h => absurd h (runS_kind hr)⟩
        rw [hn, hr, tokO, hdw]
        have : (k : Int) + w.length = ((s.length - ((c :: t).drop w.length).length : Nat) : Int) := by rw [List.length_drop]; omega
        rw [this]
    · rw [if_neg c1]
      by_cases c2 : c = 39
      · rw [if_pos c2]
        have hn : nextO s k = textO k s (quoteS [] t) := by unfold nextO; rw [hd]; simp only; rw [if_neg c1, if_pos c2]
        cases hq : quoteS [] t with
        | none => exact err _ (by rw [hn, hq]; rfl)
        | some p =>
          obtain ⟨a, u⟩ := p
          rw [hq] at hn
          obtain ⟨n, hu, hnl⟩ := quote_drop _ _ _ _ hq
          simp only
          by_cases h24 : a.length ≤ 24
          · rw [if_pos h24]
            simp only [Told]
            refine ⟨?_, ⟨n + 1, by rw [hd]; simpa using hu, by rw [hd]; simp; omega, fun _ => by omega⟩, fun h => by simp at h⟩
            rw [hn, textO, if_pos h24, tokO]
            have hul : u.length ≤ t.length := by rw [hu, List.length_drop]; omega
            have : (s.length : Int) - u.length = ((s.length - u.length : Nat) : Int) := by simp only [List.length_cons] at hlen; omega
            rw [this]
          · rw [if_neg h24]
            exact err _ (by rw [hn, textO, if_neg h24])
      · rw [if_neg c2]
        have hn : nextO s k = symO k s (symL.find? (pfx (c :: t) ·)) := by unfold nextO; rw [hd]; simp only; rw [if_neg c1, if_neg c2]
        rw [sym_find] at hn
        have hle := sym_le c t
        by_cases h0 : symS (c :: t) = 0
        · rw [if_pos h0]
          rw [if_pos h0] at hn
          exact err _ hn
        · rw [if_neg h0]
          rw [if_neg h0] at hn
          simp only [Told]
          refine ⟨?_, ⟨symS (c :: t), by rw [hd], by rw [hd]; exact hle, fun _ => by omega⟩, fun h => by simp at h⟩
          rw [hn, symO, tokO]
          have : (k : Int) + ((c :: t).take (symS (c :: t))).length = ((s.length - ((c :: t).drop (symS (c :: t))).length : Nat) : Int) := by
            rw [List.length_drop, List.length_take]; omega
          rw [this]
def lexR (s : List UInt8) : Nat → Nat → List Tok → List Tok × Int × Option Nat
  | 0, j, acc => (acc, j, some j)
  | f + 1, j, acc => match tokS (j + blanks (s.drop j)) (s.drop (j + blanks (s.drop j))) with
    | .error e => (acc, errQ s (j + blanks (s.drop j)), some e)
    | .ok (t, u) => if t.kind = 0 then (acc ++ [t], ((s.length - u.length : Nat) : Int), none) else lexR s f (s.length - u.length) (acc ++ [t])
def lexSt (s : List UInt8) (acc : List Tok) (q : Int) : St := [[.slice (.own 1) (acc.map Tok.enc)], [.tip acc.length], [.box 3 0], [.str s, .int .i64 q]]
def lexO (s : List UInt8) : List Tok × Int × Option Nat → Option (Out × St)
  | (acc, q, none) => some (.ret (.tup []), lexSt s acc q)
  | (acc, q, some e) => some (.panic (faultV e), lexSt s acc q)
def lastOk (acc : List Tok) : Prop := ∀ t, acc.getLast? = some t → ¬ t.kind = 0
theorem lastOk_nil : lastOk [] := fun t h => by simp at h
theorem lastOk_app {acc : List Tok} {t : Tok} (h : ¬ t.kind = 0) : lastOk (acc ++ [t]) := fun x hx => by simp at hx; subst hx; exact h
theorem unblank_drop (s : List UInt8) (j : Nat) : unblank (s.drop j) = s.drop (j + blanks (s.drop j)) := by
  unfold unblank blanks
  rw [dropWhile_drop, List.drop_drop]
set_option maxRecDepth 100000 in
set_option maxHeartbeats 4000000 in
theorem ev_lexc (s : List UInt8) (hs : s.length ≤ 1048576) : EV 76 [.box 0 0, .box 2 0] (lexSt s [] 0) = lexO s (lexR s (s.length + 1) 0 []) := by
  rw [EV_mki rfl Tryz.func76 rfl (by kernel_rfl) rfl]
  simp [Tryz.f76, Tryz.ti3, Tryz.ti9, Tryz.ti64, Tryz.ti121, Tryz.ti123, Tryz.ti125, lexSt]
  rw [i_loop (ts := [2, 3, 4, 5, 6, 7, 8, 9, 10, 11, 12, 13, 14, 15, 16, 17, 18, 19])]
  rotate_left
  · kernel_rfl
  refine i_at (fun x : {x : Nat × Nat × List Tok × Bool // x.2.1 ≤ s.length ∧ x.2.2.1.length ≤ x.2.1 + 1 ∧ (x.2.2.2 = false → lastOk x.2.2.1 ∧ x.2.2.1.length ≤ x.2.1 ∧ s.length < x.1 + x.2.1) ∧ (x.2.2.2 = true → ∃ a t, x.2.2.1 = a ++ [t] ∧ t.kind = 0)} => 2 * (s.length - x.1.2.1) + (if x.1.2.2.2 then 0 else 1)) (fun _ env => env)
    (fun x => lexSt s x.1.2.2.1 x.1.2.1) (fun x => if x.1.2.2.2 then lexO s (x.1.2.2.1, x.1.2.1, none) else lexO s (lexR s x.1.1 x.1.2.1 x.1.2.2.1)) ⟨(s.length + 1, 0, [], false), by simp, by simp, fun _ => ⟨lastOk_nil, by simp, by simp⟩, by simp⟩ rfl rfl rfl ?_
  intro ⟨(f, j, acc, done), hj, hacc, hnd, hd⟩ ih
  dsimp only at hj hacc hnd hd ⊢
  cases done with
  | true =>
    obtain ⟨a, t, rfl, hk⟩ := hd rfl
    clear ih
    have hwm : IntKind.i64.wrap ((a.length : Int) + 1 - 1) = a.length := by rw [show (a.length : Int) + 1 - 1 = a.length by omega]; exact wrap_i64 (by simp at hacc; omega)
    have hnz : ¬ (a.length : Int) + 1 = 0 := by omega
    have hwl : IntKind.i64.wrap (a.length : Int) = a.length := wrap_i64 (by simp at hacc; omega)
    have hget : ∀ v : V, (a.map Tok.enc ++ [v])[a.length]? = some v := fun v => by simp
    have hlt : (a.length : Int) < a.length + 1 := by omega
    simp only [lexO, lexSt, if_true]
    simp [i_again, roundEnd, dropT, cleanV, Tryz.f76, Tryz.ti3, Tryz.ti9, Tryz.ti64, Tryz.ti121, Tryz.ti123, Tryz.ti125, hwm, hnz, hwl, hlt, hget, Tok.enc_eq, hk, gc, reach, reachFuel, shut, nodup, List.idxOf, List.findIdx, List.findIdx.go, List.range, List.range.loop]
  | false =>
    obtain ⟨hlast, hal, hf⟩ := hnd rfl
    cases f with
    | zero => omega
    | succ f =>
      have hn := ev_next s hs j hj
      have hle := takeWhile_len (p := isBlk) (s.drop j)
      rw [List.length_drop] at hle
      have hkl : j + blanks (s.drop j) ≤ s.length := by have : ((s.drop j).takeWhile isBlk).length = blanks (s.drop j) := rfl; omega
      have ht := next_tok s _ hkl
      have hjk : j ≤ j + blanks (s.drop j) := by omega
      simp only [lexR]
      clear hle
      generalize j + blanks (s.drop j) = k at *
      have hcase : acc = [] ∨ ∃ a t, acc = a ++ [t] ∧ ¬ t.kind = 0 := by
        rcases List.eq_nil_or_concat acc with h | ⟨a, t, h⟩
        · exact .inl h
        · refine .inr ⟨a, t, by rw [h]; simp, hlast t (by rw [h]; simp)⟩
      cases hr : tokS k (s.drop k) with
      | error e =>
        rw [hr] at ht
        simp only [Told] at ht
        rw [ht] at hn
        clear ih
        rcases hcase with rfl | ⟨a, t', rfl, hk'⟩
        · simp only [lexO, lexSt, faultV, if_false, Bool.false_eq_true] at hn ⊢
          simp [i_again, roundEnd, dropT, cleanV, Tryz.f76, Tryz.ti3, Tryz.ti9, Tryz.ti64, Tryz.ti121, Tryz.ti123, Tryz.ti125, hn, gc, reach, reachFuel, shut, nodup, List.idxOf, List.findIdx, List.findIdx.go, List.range, List.range.loop, backR] <;> first | (refine panQ_of ?_; decide +kernel) | (change _ = true; decide +kernel) | kernel_rfl | (refine ⟨?_, ?_⟩ <;> first | (change _ = true; decide +kernel) | kernel_rfl)
        · have hwl : IntKind.i64.wrap (a.length : Int) = a.length := wrap_i64 (by simp at hacc; omega)
          have hget : ∀ v : V, (a.map Tok.enc ++ [v])[a.length]? = some v := fun v => by simp
          have hlt : (a.length : Int) < a.length + 1 := by omega
          have hwm : IntKind.i64.wrap ((a.length : Int) + 1 - 1) = a.length := by rw [show (a.length : Int) + 1 - 1 = a.length by omega]; exact wrap_i64 (by simp at hacc; omega)
          have hnz : ¬ (a.length : Int) + 1 = 0 := by omega
          simp only [lexO, lexSt, faultV, if_false, Bool.false_eq_true] at hn ⊢
          simp [i_again, roundEnd, dropT, cleanV, Tryz.f76, Tryz.ti3, Tryz.ti9, Tryz.ti64, Tryz.ti121, Tryz.ti123, Tryz.ti125, hn, hwm, hnz, hwl, hlt, hget, Tok.enc_eq, hk', gc, reach, reachFuel, shut, nodup, List.idxOf, List.findIdx, List.findIdx.go, List.range, List.range.loop, backR] <;> first | (refine panQ_of ?_; decide +kernel) | (change _ = true; decide +kernel) | kernel_rfl | (refine ⟨?_, ?_⟩ <;> first | (change _ = true; decide +kernel) | kernel_rfl)
      | ok p =>
        obtain ⟨t, u⟩ := p
        rw [hr] at ht
        obtain ⟨h1, ⟨n, hu, hnl, hn1⟩, hu0⟩ := ht
        rw [h1] at hn
        have hul : u.length = s.length - k - n := by rw [hu, List.length_drop, List.length_drop]
        rw [List.length_drop] at hnl
        obtain ⟨q, hq⟩ : ∃ q, s.length - u.length = q := ⟨_, rfl⟩
        have hqk : q = k + n := by omega
        simp only [hq] at hn ⊢
        have hb : acc.length + 1 ≤ 70368744177664 := by omega
        have hb2 : (acc.length + 1) * 40 ≤ 70368744177664 := by omega
        by_cases hk0 : t.kind = 0
        · have ih := ih ⟨(f, q, acc ++ [t], true), by show q ≤ s.length; omega, by show (acc ++ [t]).length ≤ q + 1; simp; omega, by simp, fun _ => ⟨acc, t, rfl, hk0⟩⟩ (by simp only [if_true, if_false, Bool.false_eq_true]; have := hu0 hk0; rw [this] at hq; simp at hq; omega)
          simp only [hk0, if_true, if_false, Bool.false_eq_true] at ih ⊢
          simp only [s_zero, s_succ, lexSt, List.map_append, List.map_cons, List.map_nil, List.length_append, List.length_singleton, Tok.enc_eq t] at ih ⊢
          generalize lexO s (acc ++ [t], (q : Int), none) = RR at ih ⊢
          rcases hcase with rfl | ⟨a, t', rfl, hk'⟩
          · simp only [List.map_nil, List.nil_append, List.length_nil, Nat.zero_add] at ih ⊢
            simp [i_again, roundEnd, dropT, cleanV, Tryz.f76, Tryz.ti3, Tryz.ti9, Tryz.ti64, Tryz.ti121, Tryz.ti123, Tryz.ti125, hn, Tok.enc_eq t, appFp, gc, reach, reachFuel, shut, nodup, List.idxOf, List.findIdx, List.findIdx.go, List.range, List.range.loop, backR, ih]
            intro hf; exfalso; revert hf; rw [imp_false, Bool.not_eq_false]; decide +kernel
          · have hwl : IntKind.i64.wrap (a.length : Int) = a.length := wrap_i64 (by simp at hacc; omega)
            have hget : ∀ v : V, (a.map Tok.enc ++ [v])[a.length]? = some v := fun v => by simp
            have hlt : (a.length : Int) < a.length + 1 := by omega
            have hwm : IntKind.i64.wrap ((a.length : Int) + 1 - 1) = a.length := by rw [show (a.length : Int) + 1 - 1 = a.length by omega]; exact hwl
            have hnz : ¬ (a.length : Int) + 1 = 0 := by omega
            have hf4 : ∀ x ∈ a.map Tok.enc, (vcells x).length = 4 := fun x hx => by obtain ⟨y, _, rfl⟩ := List.mem_map.1 hx; rfl
            have hlm : (a.map Tok.enc).length = a.length := by simp
            simp only [List.map_append, List.map_cons, List.map_nil, List.length_append, List.length_singleton, List.append_assoc, List.cons_append, List.nil_append, Tok.enc_eq t'] at ih hb hb2 hget hf4 ⊢
            generalize a.map Tok.enc = xs at ih hget hf4 hlm ⊢
            simp only [vcells] at hf4
            simp +contextual [i_again, roundEnd, dropT, cleanV, Tryz.f76, Tryz.ti3, Tryz.ti9, Tryz.ti64, Tryz.ti121, Tryz.ti123, Tryz.ti125, hn, hwm, hnz, hwl, hlt, hget, hlm, hf4, hb, hb2, hk', Tok.enc_eq t, appFp, gc, reach, reachFuel, shut, nodup, List.idxOf, List.findIdx, List.findIdx.go, List.range, List.range.loop, backR, ih]
            intro hf; exfalso; revert hf; rw [imp_false, Bool.not_eq_false]; decide +kernel
        · have hn1 := hn1 hk0
          have ih := ih ⟨(f, q, acc ++ [t], false), by show q ≤ s.length; omega, by show (acc ++ [t]).length ≤ q + 1; simp; omega, fun _ => ⟨lastOk_app hk0, by show (acc ++ [t]).length ≤ q; simp; omega, by show s.length < f + q; omega⟩, by simp⟩ (by simp only [if_true, if_false, Bool.false_eq_true]; omega)
          simp only [hk0, if_true, if_false, Bool.false_eq_true] at ih ⊢
          simp only [s_zero, s_succ, lexSt, List.map_append, List.map_cons, List.map_nil, List.length_append, List.length_singleton, Tok.enc_eq t] at ih ⊢
          generalize lexO s (lexR s f q (acc ++ [t])) = RR at ih ⊢
          rcases hcase with rfl | ⟨a, t', rfl, hk'⟩
          · simp only [List.map_nil, List.nil_append, List.length_nil, Nat.zero_add] at ih ⊢
            simp [i_again, roundEnd, dropT, cleanV, Tryz.f76, Tryz.ti3, Tryz.ti9, Tryz.ti64, Tryz.ti121, Tryz.ti123, Tryz.ti125, hn, Tok.enc_eq t, appFp, gc, reach, reachFuel, shut, nodup, List.idxOf, List.findIdx, List.findIdx.go, List.range, List.range.loop, backR, ih]
            intro hf; exfalso; revert hf; rw [imp_false, Bool.not_eq_false]; decide +kernel
          · have hwl : IntKind.i64.wrap (a.length : Int) = a.length := wrap_i64 (by simp at hacc; omega)
            have hget : ∀ v : V, (a.map Tok.enc ++ [v])[a.length]? = some v := fun v => by simp
            have hlt : (a.length : Int) < a.length + 1 := by omega
            have hwm : IntKind.i64.wrap ((a.length : Int) + 1 - 1) = a.length := by rw [show (a.length : Int) + 1 - 1 = a.length by omega]; exact hwl
            have hnz : ¬ (a.length : Int) + 1 = 0 := by omega
            have hf4 : ∀ x ∈ a.map Tok.enc, (vcells x).length = 4 := fun x hx => by obtain ⟨y, _, rfl⟩ := List.mem_map.1 hx; rfl
            have hlm : (a.map Tok.enc).length = a.length := by simp
            simp only [List.map_append, List.map_cons, List.map_nil, List.length_append, List.length_singleton, List.append_assoc, List.cons_append, List.nil_append, Tok.enc_eq t'] at ih hb hb2 hget hf4 ⊢
            generalize a.map Tok.enc = xs at ih hget hf4 hlm ⊢
            simp only [vcells] at hf4
            simp +contextual [i_again, roundEnd, dropT, cleanV, Tryz.f76, Tryz.ti3, Tryz.ti9, Tryz.ti64, Tryz.ti121, Tryz.ti123, Tryz.ti125, hn, hwm, hnz, hwl, hlt, hget, hlm, hf4, hb, hb2, hk', Tok.enc_eq t, appFp, gc, reach, reachFuel, shut, nodup, List.idxOf, List.findIdx, List.findIdx.go, List.range, List.range.loop, backR, ih]
            intro hf; exfalso; revert hf; rw [imp_false, Bool.not_eq_false]; decide +kernel
theorem lexR_toks (s : List UInt8) : ∀ (f j : Nat) (acc : List Tok), j ≤ s.length → s.length < f + j → match toksS f j (s.drop j) with
    | .ok l => ∃ q, lexR s f j acc = (acc ++ l, q, none)
    | .error e => ∃ a q, lexR s f j acc = (a, q, some e)
  | 0, j, acc, hj, hf => by omega
  | f + 1, j, acc, hj, hf => by
    have hle := takeWhile_len (p := isBlk) (s.drop j)
    rw [List.length_drop] at hle
    have hkl : j + blanks (s.drop j) ≤ s.length := by have : ((s.drop j).takeWhile isBlk).length = blanks (s.drop j) := rfl; omega
    have ht := next_tok s _ hkl
    have hn : nextTok j (s.drop j) = tokS (j + blanks (s.drop j)) (s.drop (j + blanks (s.drop j))) := by unfold nextTok; rw [unblank_drop]
    have hjk : j ≤ j + blanks (s.drop j) := by omega
    simp only [toksS, lexR, hn]
    generalize j + blanks (s.drop j) = k at *
    cases hr : tokS k (s.drop k) with
    | error e => exact ⟨_, _, rfl⟩
    | ok p =>
      obtain ⟨t, u⟩ := p
      rw [hr] at ht
      obtain ⟨_, ⟨n, hu, hnl, hn1⟩, hu0⟩ := ht
      have hul : u.length = s.length - k - n := by rw [hu, List.length_drop, List.length_drop]
      rw [List.length_drop] at hnl
      simp only
      by_cases hk0 : t.kind = 0
      · simp only [hk0, if_true]
        exact ⟨_, rfl⟩
      · simp only [hk0, if_false]
        have hn1 := hn1 hk0
        have hq : s.length - u.length = k + n := by omega
        have hq2 : j + ((s.drop j).length - u.length) = k + n := by rw [List.length_drop]; omega
        have hud : u = s.drop (k + n) := by rw [hu, List.drop_drop]
        rw [hq, hq2]
        have := lexR_toks s f (k + n) (acc ++ [t]) (by omega) (by omega)
        rw [← hud] at this
        cases hx : toksS f (k + n) u with
        | ok l =>
          rw [hx] at this
          obtain ⟨q, hq⟩ := this
          exact ⟨q, by rw [hq]; simp⟩
        | error e =>
          rw [hx] at this
          exact this
def toksO : Except Nat (List Tok) → Option (Out × St)
  | .ok l => some (.ret (.tup [.slice .froz (l.map Tok.enc), .agg [.int .i64 0, .int .i64 0]]), [])
  | .error e => some (.ret (.tup [.slice .froz [], .agg [.int .i64 1, .int .i64 e]]), [])
set_option maxRecDepth 100000 in
theorem ev_tokens (s : List UInt8) (hs : s.length ≤ 1048576) : EV 30 [.str s] [] = toksO (toksS (s.length + 1) 0 s) := by
  have hc := ev_lexc s hs
  have hr := lexR_toks s (s.length + 1) 0 [] (by omega) (by omega)
  rw [List.drop_zero] at hr
  rw [EV_mki rfl Tryz.func30 rfl (by kernel_rfl) rfl]
  cases hx : toksS (s.length + 1) 0 s with
  | ok l =>
    rw [hx] at hr
    obtain ⟨q, hq⟩ := hr
    rw [hq] at hc
    simp only [List.nil_append, lexO, lexSt, List.map_nil, List.length_nil, Int.ofNat_zero] at hc
    have hg : EV 75 [.func 76 [] [.box 0 0, .box 2 0]] [[.slice (.own 1) []], [.tip 0], [.box 3 0], [.str s, .int .i64 0]] =
      some (.ret (.agg [.int .i64 0, .int .i64 0]), [[.slice (.own 1) (l.map Tok.enc)], [.tip l.length], [.box 3 0], [.str s, .int .i64 q]]) := by
      rw [ev_grab]
      simp [primRun, reach, reachFuel, shut, nodup, List.idxOf, List.findIdx, List.findIdx.go, hc, catchRes, gc, List.range, List.range.loop, backR]
    have hxl : l.length = (l.map Tok.enc).length := by simp
    simp only [toksO]
    generalize l.map Tok.enc = xs at hg hxl ⊢
    simp [Tryz.f30, Tryz.ti3, Tryz.ti9, Tryz.ti56, Tryz.ti58, Tryz.ti64, Tryz.ti121, Tryz.ti123, Tryz.ti125, reach, reachFuel, shut, nodup, List.idxOf, List.findIdx, List.findIdx.go, backR, hg, hxl, gc, List.range, List.range.loop] <;> first | (refine panQ_of ?_; decide +kernel) | (change _ = true; decide +kernel) | kernel_rfl | (refine ⟨?_, ?_⟩ <;> first | (change _ = true; decide +kernel) | kernel_rfl)
  | error e =>
    rw [hx] at hr
    obtain ⟨a, q, hq⟩ := hr
    rw [hq] at hc
    simp only [lexO, lexSt, List.map_nil, List.length_nil, faultV, Int.ofNat_zero] at hc
    have hg : EV 75 [.func 76 [] [.box 0 0, .box 2 0]] [[.slice (.own 1) []], [.tip 0], [.box 3 0], [.str s, .int .i64 0]] =
      some (.ret (.agg [.int .i64 1, .int .i64 e]), [[.slice (.own 1) (a.map Tok.enc)], [.tip a.length], [.box 3 0], [.str s, .int .i64 q]]) := by
      rw [ev_grab]
      simp [primRun, reach, reachFuel, shut, nodup, List.idxOf, List.findIdx, List.findIdx.go, hc, catchRes, gc, List.range, List.range.loop, backR]
    simp only [toksO]
    generalize a.map Tok.enc = xs at hg ⊢
    simp [Tryz.f30, Tryz.ti3, Tryz.ti9, Tryz.ti56, Tryz.ti58, Tryz.ti64, Tryz.ti121, Tryz.ti123, Tryz.ti125, reach, reachFuel, shut, nodup, List.idxOf, List.findIdx, List.findIdx.go, backR, hg, gc, List.range, List.range.loop] <;> first | (refine panQ_of ?_; decide +kernel) | (change _ = true; decide +kernel) | kernel_rfl | (refine ⟨?_, ?_⟩ <;> first | (change _ = true; decide +kernel) | kernel_rfl)
abbrev rdS (l : List Tok) : St := [[.slice .froz (l.map Tok.enc)]]
def prO {α : Type} (f : α → V) (p : PR α) : Option (Out × St) :=
  match p with
  | (some a, r) => some (.ret (f a), rdS r)
  | (none, r) => some (.panic (faultV (topAt r)), rdS r)
theorem prO_some {α : Type} (f : α → V) (a : α) (r : List Tok) : prO f (some a, r) = some (.ret (f a), rdS r) := rfl
theorem prO_none {α : Type} (f : α → V) (r : List Tok) : prO f (none, r) = some (.panic (faultV (topAt r)), rdS r) := rfl
theorem ev_top (t : Tok) (r : List Tok) : EV 97 [.box 0 0] [[.slice .froz (t.enc :: r.map Tok.enc)]] = some (.ret t.enc, [[.slice .froz (t.enc :: r.map Tok.enc)]]) := by
  rw [EV_mki rfl Tryz.func97 rfl (by kernel_rfl) rfl, Tok.enc_eq t]
  simp [Tryz.f97, Tryz.ti3, Tryz.ti9, Tryz.ti64, Tryz.ti125, Tryz.ti141, gc, reach, reachFuel, shut, nodup, List.idxOf, List.findIdx, List.findIdx.go, List.range, List.range.loop]
theorem ev_no (t : Tok) (r : List Tok) : EV 98 [.box 0 0] [[.slice .froz (t.enc :: r.map Tok.enc)]] = some (.panic (faultV t.at_), [[.slice .froz (t.enc :: r.map Tok.enc)]]) := by
  have h1 := ev_top t r
  have h2 := ev_stop 1 t.at_
  rw [EV_mki rfl Tryz.func98 rfl (by kernel_rfl) rfl]
  rw [Tok.enc_eq t] at h1 ⊢
  simp at h2
  simp [Tryz.f98, Tryz.ti3, Tryz.ti9, Tryz.ti125, h1, h2, faultV, gc, reach, reachFuel, shut, nodup, List.idxOf, List.findIdx, List.findIdx.go, backR, List.range, List.range.loop]
theorem ev_take (t : Tok) (r : List Tok) (hk : t.kind ≠ 0) (hf : ∀ x ∈ r.map Tok.enc, (vcells x).length = 4) : EV 149 [.box 0 0] [[.slice .froz (t.enc :: r.map Tok.enc)]] = some (.ret t.enc, rdS r) := by
  have h1 := ev_top t r
  rw [EV_mki rfl Tryz.func149 rfl (by kernel_rfl) rfl]
  rw [Tok.enc_eq t] at h1 ⊢
  unfold rdS
  generalize r.map Tok.enc = xs at *
  simp only [vcells] at hf
  have hlt : ¬ (xs.length : Int) + 1 < 1 := by omega
  simp +contextual [Tryz.f149, Tryz.ti3, Tryz.ti9, Tryz.ti64, Tryz.ti125, Tryz.ti141, h1, hk, hf, hlt, gc, reach, reachFuel, shut, nodup, List.idxOf, List.findIdx, List.findIdx.go, backR, List.range, List.range.loop]
theorem tok_cells (r : List Tok) : ∀ x ∈ r.map Tok.enc, (vcells x).length = 4 := fun x hx => by obtain ⟨y, _, rfl⟩ := List.mem_map.1 hx; rfl
theorem ev_is (t : Tok) (r : List Tok) (s : List UInt8) : EV 101 [.box 0 0, .str s] [[.slice .froz (t.enc :: r.map Tok.enc)]] = some (.ret (.bool (isT s (t :: r))), [[.slice .froz (t.enc :: r.map Tok.enc)]]) := by
  have h1 := ev_top t r
  rw [EV_mki rfl Tryz.func101 rfl (by kernel_rfl) rfl]
  obtain ⟨k, n, p, w⟩ := t
  rw [Tok.enc_eq] at h1 ⊢
  generalize r.map Tok.enc = xs at *
  simp only [isT]
  by_cases k1 : k = 1
  · subst k1
    simp [Tryz.f101, Tryz.ti3, Tryz.ti9, Tryz.ti125, h1, gc, reach, reachFuel, shut, nodup, List.idxOf, List.findIdx, List.findIdx.go, backR, List.range, List.range.loop]
  · by_cases k5 : k = 5
    · subst k5
      simp [Tryz.f101, Tryz.ti3, Tryz.ti9, Tryz.ti125, h1, gc, reach, reachFuel, shut, nodup, List.idxOf, List.findIdx, List.findIdx.go, backR, List.range, List.range.loop]
    · simp [Tryz.f101, Tryz.ti3, Tryz.ti9, Tryz.ti125, h1, k1, k5, gc, reach, reachFuel, shut, nodup, List.idxOf, List.findIdx, List.findIdx.go, backR, List.range, List.range.loop]
theorem ev_maybe (s : List UInt8) (l : List Tok) (he : Ends l) : EV 142 [.box 0 0, .str s] (rdS l) = some (.ret (.bool (maybeP s l).1), rdS (maybeP s l).2) := by
  obtain ⟨t, r, rfl⟩ := ends_cons he
  have h1 := ev_is t r s
  rw [EV_mki rfl Tryz.func142 rfl (by kernel_rfl) rfl]
  unfold maybeP
  cases hi : isT s (t :: r)
  · rw [hi] at h1
    simp only [rdS, List.map_cons, Bool.false_eq_true, if_false]
    rw [Tok.enc_eq t] at h1 ⊢
    generalize r.map Tok.enc = xs at *
    simp [Tryz.f142, h1, gc, reach, reachFuel, shut, nodup, List.idxOf, List.findIdx, List.findIdx.go, backR, List.range, List.range.loop]
  · rw [hi] at h1
    have h2 := ev_take t r (by have := (isT_kind hi).1; omega) (tok_cells r)
    simp only [rdS, List.map_cons, List.tail_cons, if_true] at h2 ⊢
    rw [Tok.enc_eq t] at h1 h2 ⊢
    generalize r.map Tok.enc = xs at *
    simp [Tryz.f142, h1, h2, gc, reach, reachFuel, shut, nodup, List.idxOf, List.findIdx, List.findIdx.go, backR, List.range, List.range.loop]
theorem ev_must1 (s : List UInt8) (l : List Tok) (he : Ends l) : EV 105 [.box 0 0, .slice .froz [.str s]] (rdS l) = prO (fun _ => .tup []) (needP s l) := by
  obtain ⟨t, r, rfl⟩ := ends_cons he
  have h1 := ev_maybe s (t :: r) he
  have h2 := ev_no t r
  rw [EV_mki rfl Tryz.func105 rfl (by kernel_rfl) rfl]
  unfold needP
  unfold maybeP at h1
  cases hi : isT s (t :: r) <;> rw [hi] at h1
  · simp only [Bool.false_eq_true, if_false] at h1 ⊢
    simp only [rdS, List.map_cons] at h1 ⊢
    rw [prO_none]
    simp [Tryz.f105, Tryz.ti3, Tryz.ti9, Tryz.ti100]
    rw [i_loop (ts := [9, 10, 11, 5, 12, 13, 14, 15, 16, 17, 18])]
    rotate_left
    · kernel_rfl
    rw [i_round]
    simp [Tryz.f105, Tryz.ti3, Tryz.ti9, Tryz.ti100, h1, h2, topAt, faultV, gc, reach, reachFuel, shut, nodup, List.idxOf, List.findIdx, List.findIdx.go, backR, List.range, List.range.loop]
  · simp only [if_true] at h1 ⊢
    simp only [rdS, List.map_cons, List.tail_cons] at h1 ⊢
    rw [prO_some]
    simp [Tryz.f105, Tryz.ti3, Tryz.ti9, Tryz.ti100]
    rw [i_loop (ts := [9, 10, 11, 5, 12, 13, 14, 15, 16, 17, 18])]
    rotate_left
    · kernel_rfl
    rw [i_round]
    simp [i_again, roundEnd, dropT, cleanV, Tryz.f105, Tryz.ti3, Tryz.ti9, Tryz.ti100, h1, gc, reach, reachFuel, shut, nodup, List.idxOf, List.findIdx, List.findIdx.go, backR, List.range, List.range.loop]
    rw [i_round]
    simp [i_again, roundEnd, dropT, cleanV, Tryz.f105, Tryz.ti3, Tryz.ti9, Tryz.ti100, gc, reach, reachFuel, shut, nodup, List.idxOf, List.findIdx, List.findIdx.go, backR, List.range, List.range.loop]
def idxAt (i : Nat) : Nat → Int
  | 0 => -1
  | n + 1 => i + n
theorem one_cons (s : List UInt8) (r : List (List UInt8)) (l : List Tok) (i : Nat) (hi : isT s l = false) : idxAt i (oneP (s :: r) l).1 = idxAt (i + 1) (oneP r l).1 ∧ (oneP (s :: r) l).2 = (oneP r l).2 := by
  rw [oneP]
  simp only [hi, Bool.false_eq_true, if_false]
  cases oneP r l with
  | mk n l' =>
    cases n with
    | zero => exact ⟨rfl, rfl⟩
    | succ n => refine ⟨?_, rfl⟩; simp only [idxAt]; omega
set_option maxHeartbeats 1000000 in
theorem ev_index (ss : List (List UInt8)) (hs : ss.length ≤ 1000) (l : List Tok) (he : Ends l) : EV 173 [.slice .froz (ss.map V.str), .func 142 [.box 0 0] []] (rdS l) = some (.ret (.int .i64 (idxAt 0 (oneP ss l).1)), rdS (oneP ss l).2) := by
  rw [EV_mki rfl Tryz.func173 rfl (by kernel_rfl) rfl]
  simp [Tryz.f173, Tryz.ti3, Tryz.ti9, Tryz.ti100]
  rw [i_loop (ts := [9, 10, 5, 11, 12, 13, 14, 15, 16, 17, 18])]
  rotate_left
  · kernel_rfl
  refine i_at (fun i : {i : Nat // i ≤ ss.length} => ss.length - i.1) (fun i env => setV env 8 (.int .i64 i.1)) (fun i => _) (fun i => some (.ret (.int .i64 (idxAt i.1 (oneP (ss.drop i.1) l).1)), rdS (oneP (ss.drop i.1) l).2)) ⟨0, by omega⟩ (by simp [s_zero, s_succ]) rfl (by simp) ?_
  intro ⟨i, hil⟩ ih
  dsimp only at hil ⊢
  by_cases hi : i < ss.length
  · have ih := ih ⟨i + 1, by omega⟩ (by simp only; omega)
    have hwi : IntKind.i64.wrap ((i : Int) + 1) = (i : Int) + 1 := wrap_i64 (by omega)
    obtain ⟨s, hk⟩ : ∃ m, ss[i] = m := ⟨_, rfl⟩
    have hkk : ss[i]? = some s := by rw [List.getElem?_eq_getElem hi, hk]
    have hm := ev_maybe s l he
    unfold maybeP at hm
    rw [List.drop_eq_getElem_cons hi, hk]
    simp only [s_zero, s_succ, Int.natCast_add, Int.natCast_one, Int.cast_ofNat_Int] at ih
    cases hT : isT s l <;> rw [hT] at hm
    · obtain ⟨e1, e2⟩ := one_cons s (ss.drop (i + 1)) l i hT
      rw [e1, e2]
      simp only [Bool.false_eq_true, if_false] at hm
      simp [i_again, roundEnd, dropT, cleanV, Tryz.f173, Tryz.ti3, Tryz.ti9, Tryz.ti100, hi, hk, hkk, hm, hwi, ih, gc, reach, reachFuel, shut, nodup, List.idxOf, List.findIdx, List.findIdx.go, backR, List.range, List.range.loop]
    · simp only [if_true] at hm
      have e1 : oneP (s :: ss.drop (i + 1)) l = (1, l.tail) := by rw [oneP, if_pos hT]
      rw [e1]
      simp [i_again, roundEnd, dropT, cleanV, Tryz.f173, Tryz.ti3, Tryz.ti9, Tryz.ti100, hi, hk, hkk, hm, idxAt, gc, reach, reachFuel, shut, nodup, List.idxOf, List.findIdx, List.findIdx.go, backR, List.range, List.range.loop]
  · rw [List.drop_of_length_le (by omega)]
    simp [i_again, roundEnd, dropT, cleanV, Tryz.f173, Tryz.ti3, Tryz.ti9, Tryz.ti100, hi, oneP, idxAt, gc, reach, reachFuel, shut, nodup, List.idxOf, List.findIdx, List.findIdx.go, backR, List.range, List.range.loop]
theorem ev_one (ss : List (List UInt8)) (hs : ss.length ≤ 1000) (l : List Tok) (he : Ends l) : EV 141 [.box 0 0, .slice .froz (ss.map V.str)] (rdS l) = some (.ret (.int .i64 (oneP ss l).1), rdS (oneP ss l).2) := by
  have h := ev_index ss hs l he
  have hl := one_le ss l
  rw [EV_mki rfl Tryz.func141 rfl (by kernel_rfl) rfl]
  have hw : IntKind.i64.wrap (idxAt 0 (oneP ss l).1 + 1) = (oneP ss l).1 := by
    have : idxAt 0 (oneP ss l).1 + 1 = ((oneP ss l).1 : Int) := by cases (oneP ss l).1 <;> simp [idxAt]
    rw [this]; exact wrap_i64 (by omega)
  generalize (oneP ss l).1 = n at *
  generalize (oneP ss l).2 = l' at *
  generalize idxAt 0 n = m at *
  simp [Tryz.f141, Tryz.ti3, h, hw, gc, reach, reachFuel, shut, nodup, List.idxOf, List.findIdx, List.findIdx.go, backR, List.range, List.range.loop]
theorem ev_oneOf (ss : List (List UInt8)) (hs : ss.length ≤ 1000) (l : List Tok) (he : Ends l) : EV 103 [.box 0 0, .slice .froz (ss.map V.str)] (rdS l) = prO (fun n : Nat => .int .i64 n) (oneOfP ss l) := by
  have h := ev_one ss hs l he
  have hz := one_zero ss l
  rw [EV_mki rfl Tryz.func103 rfl (by kernel_rfl) rfl]
  unfold oneOfP
  cases ho : oneP ss l with
  | mk n l' =>
    rw [ho] at h hz
    cases n with
    | zero =>
      obtain rfl := hz rfl
      obtain ⟨t, r, rfl⟩ := ends_cons he
      have h2 := ev_no t r
      simp only [prO_none, rdS, List.map_cons] at h ⊢
      simp at h
      simp [Tryz.f103, Tryz.ti3, h, h2, topAt, faultV, gc, reach, reachFuel, shut, nodup, List.idxOf, List.findIdx, List.findIdx.go, backR, List.range, List.range.loop]
    | succ n =>
      have hn : ¬ (n : Int) + 1 = 0 := by omega
      simp only [prO_some, rdS] at h ⊢
      simp at h
      simp [Tryz.f103, Tryz.ti3, h, hn, gc, reach, reachFuel, shut, nodup, List.idxOf, List.findIdx, List.findIdx.go, backR, List.range, List.range.loop]
theorem ev_pname (l : List Tok) (he : Ends l) : EV 104 [.box 0 0] (rdS l) = prO V.str (nameP l) := by
  obtain ⟨t, r, rfl⟩ := ends_cons he
  have h1 := ev_top t r
  have h2 := ev_no t r
  rw [EV_mki rfl Tryz.func104 rfl (by kernel_rfl) rfl]
  simp only [nameP]
  by_cases hk : t.kind = 2
  · have h3 := ev_take t r (by omega) (tok_cells r)
    rw [if_pos hk, prO_some]
    simp only [rdS, List.map_cons] at h3 ⊢
    obtain ⟨k, n, p, w⟩ := t
    dsimp only at hk
    subst hk
    rw [Tok.enc_eq] at h1 h3 ⊢
    generalize r.map Tok.enc = xs at *
    simp [Tryz.f104, Tryz.ti3, Tryz.ti9, Tryz.ti125, h1, h3, gc, reach, reachFuel, shut, nodup, List.idxOf, List.findIdx, List.findIdx.go, backR, List.range, List.range.loop]
  · rw [if_neg hk, prO_none]
    simp only [rdS, List.map_cons, topAt]
    rw [Tok.enc_eq t] at h1 h2 ⊢
    generalize r.map Tok.enc = xs at *
    simp [Tryz.f104, Tryz.ti3, Tryz.ti9, Tryz.ti125, h1, h2, hk, faultV, gc, reach, reachFuel, shut, nodup, List.idxOf, List.findIdx, List.findIdx.go, backR, List.range, List.range.loop]
end Go.Abs
