/- What texts between quotes come to. -/
import Derived.Test.YtpmeklllgnnffaaGreatDoorM30
import Derived.Test.YtpmeklllgnnffaaGreatDoorM16
set_option linter.unusedSimpArgs false
set_option linter.unusedVariables false

namespace Go.Abs
set_option linter.unusedSimpArgs false
set_option linter.unusedVariables false
open Go Go.Proofs
attribute [local simp] i_nil i_blk i_skip i_ret i_exit i_seq i_block i_cond i_region' i_ops_nil i_ops i_drawn' d_in a_nil a_cons alt1 h_nil h_one h_two z_nil z_cons z_cells zeqL zeq q_alloc q_some isAlO nxtN i_drh d_hi i_drw_nil i_drw u_nil u_code u_ops u_drw u_lp u_again u_exit u_ret u_panic c_bool o_some o_val o_panic d_some d_val d_panic w_none w_fast wantG q_nil q_zero q_succ t_zero t_succ g_zero g_succ s_zero s_succ s_some s_none v_tmp v_const v_func f_quiet gc_none gc_pure wrap_i64 p_move p_assign p_pick p_alloc p_box p_build p_buildSlice p_load p_store p_nilCheck p_binOp n_tmp n_int n_bool n_str n_ptr n_fun n_iface nilCmp p_unOp p_convert p_makeSlice p_makeInterface p_makeFunc p_slice p_fieldAddr p_field p_indexAddr p_index p_extract p_callv p_callb p_panic quiet_val new_val e_assign e_call e_load e_store e_alloc e_box e_move e_pick e_build e_buildSlice e_nilCheck e_binOp e_unOp e_convert e_makeSlice e_makeInterface e_makeFunc e_slice e_fieldAddr e_field e_indexAddr e_index e_extract e_panic callD fpRead adoptZ fulls adopt adoptL ofValue ofScalar binOpV unOpV intBin strBin eqRes veq veqF eqDepth val? finish resL r_tmp r_cell normL normTop tipIs refsL refs ownRefs single frz frzL ren renL renOwn callOp doCall backR writeBack builtinV loadV storeV storeW iceT cellsAt takeV D.isAgg overlay vcells cellOk fieldAddrV indexAddrV fieldV partV indexV buildV fillV buildSliceV litElems appendV appElems elemOk convertV convV winStr makeSliceV sliceV natOf
attribute [local simp ↓] brB_true brB_false brB_dec brB_not brB_and brB_or brB_beq brB_bne

def pfx (a b : List UInt8) : Bool := decide (b.length ≤ a.length) && decide (a.take b.length = b)
theorem ev_slprefix (a b : List UInt8) : EV 160 [.str a, .str b] [] = some (.ret (.bool (pfx a b)), []) := by
  rw [EV_mki rfl Tryz.func160 rfl (by kernel_rfl) rfl]
  unfold pfx
  by_cases h : b.length ≤ a.length
  · simp [Tryz.f160, Tryz.ti3, Tryz.ti9, h]
  · have h' : a.length < b.length := by omega
    simp [Tryz.f160, Tryz.ti3, Tryz.ti9, h, h']
theorem ev_prefix (a b : List UInt8) : EV 126 [.str a, .str b] [] = some (.ret (.bool (pfx a b)), []) := by
  rw [EV_mki rfl Tryz.func126 rfl (by kernel_rfl) rfl]
  simp [Tryz.f126, ev_slprefix]

def byV (l : List UInt8) : List V := l.map fun c => .int .u8 c.toNat
theorem bytesOf_byV : ∀ l : List UInt8, bytesOf (byV l) = some l
  | [] => rfl
  | c :: l => by
    simp only [byV, List.map_cons, bytesOf]
    have := bytesOf_byV l
    simp only [byV] at this
    rw [this]
    simp
theorem byV_len (l : List UInt8) : (byV l).length = l.length := by simp [byV]
theorem byV_app (l : List UInt8) (c : UInt8) : byV (l ++ [c]) = byV l ++ [.int .u8 c.toNat] := by simp [byV]

/- the quoted text, one byte on -/
theorem quote_other {acc : List UInt8} {c : UInt8} {t : List UInt8} (h : ¬ c = 39) : Go.Abs.quoteS acc (c :: t) = Go.Abs.quoteS (acc ++ [c]) t := by
  cases t with
  | nil => simp [Go.Abs.quoteS, h]
  | cons d r => simp [Go.Abs.quoteS, h]
theorem quote_two {acc : List UInt8} {r : List UInt8} : Go.Abs.quoteS acc (39 :: 39 :: r) = Go.Abs.quoteS (acc ++ [39]) r := by simp [Go.Abs.quoteS]
theorem quote_end {acc : List UInt8} {t : List UInt8} (h : pfx t [39] = false) : Go.Abs.quoteS acc (39 :: t) = some (acc, t) := by
  cases t with
  | nil => simp [Go.Abs.quoteS]
  | cons d r =>
    have : ¬ d = 39 := by rintro rfl; simp [pfx] at h
    simp [Go.Abs.quoteS, this]
theorem pfx_one {t : List UInt8} (h : pfx t [39] = true) : ∃ r, t = 39 :: r := by
  cases t with
  | nil => simp [pfx] at h
  | cons d r => simp [pfx] at h; exact ⟨r, by rw [h]⟩
def textO (k : Int) (s : List UInt8) : Option (List UInt8 × List UInt8) → Option (Out × St)
  | none => tokO k s s.length none
  | some (a, u) => tokO k s ((s.length : Int) - u.length) (if a.length ≤ 24 then some ⟨4, 0, k, a⟩ else none)

set_option maxRecDepth 100000 in
theorem ev_text (s : List UInt8) (hs : s.length ≤ 1048576) (k : Nat) (hk : k < s.length) : EV 125 [.box 0 0, .int .i64 k] [[.str s, .int .i64 k]] =
    textO k s (Go.Abs.quoteS [] (s.drop (k + 1))) := by
  rw [EV_mki rfl Tryz.func125 rfl (by kernel_rfl) rfl]
  have hwk : IntKind.i64.wrap ((k : Int) + 1) = (k : Int) + 1 := wrap_i64 (by omega)
  simp [Tryz.f125, Tryz.ti3, Tryz.ti5, Tryz.ti9, Tryz.ti123, Tryz.ti125, Tryz.ti138, hwk]
  rw [i_loop (ts := [12, 13, 14, 15, 16, 17, 18, 19, 20, 21, 29, 30, 31, 32, 33, 34, 35, 36, 37, 6, 38, 39, 40, 41, 42, 43, 44, 45, 46, 47, 48, 49, 50, 51, 52, 53, 54, 55, 56, 57, 58, 59, 60, 61, 62, 63, 64, 65, 66, 67, 68, 69, 70, 71, 72, 73, 74, 75, 76, 77, 78, 79, 80, 81, 82, 22, 23, 24, 25, 26, 27, 28])]
  rotate_left
  · kernel_rfl
  refine i_at (fun x : {x : Nat × List UInt8 // k < x.1 ∧ x.1 ≤ s.length ∧ x.2.length ≤ x.1} => s.length - x.1.1) (fun x env => setV env 5 (.slice (.own 2) (byV x.1.2)))
    (fun x => [[.str s, .int .i64 x.1.1], [.int .i64 0, .int .i64 0, .int .i64 0, .str []], [.tip x.1.2.length]]) (fun x => textO k s (quoteS x.1.2 (s.drop x.1.1))) ⟨(k + 1, []), by simp; omega⟩ (by simp [s_zero, s_succ, byV]) (by simp) rfl ?_
  intro ⟨(i, acc), hki, his, hacc⟩ ih
  dsimp only at hki his hacc ⊢
  by_cases hi : i < s.length
  · have hd : s.drop i = s[i] :: s.drop (i + 1) := List.drop_eq_getElem_cons hi
    obtain ⟨c, hc⟩ : ∃ m, s[i] = m := ⟨_, rfl⟩
    have hcc : s[i]? = some c := by rw [List.getElem?_eq_getElem hi, hc]
    have hwi : IntKind.i64.wrap ((i : Int) + 1) = (i : Int) + 1 := wrap_i64 (by omega)
    have hwi2 : IntKind.i64.wrap ((i : Int) + 1 + 1) = (i : Int) + 1 + 1 := wrap_i64 (by omega)
    have hf : ∀ x ∈ byV acc, (vcells x).length = 1 := fun x hx => by obtain ⟨y, _, rfl⟩ := List.mem_map.1 hx; rfl
    simp only [vcells] at hf
    have hlen := byV_len acc
    have hbc : acc.length + 1 ≤ 70368744177664 := by omega
    have h0 : (0 : Int) ≤ (i : Int) + 1 := by omega
    rw [hd, hc]
    by_cases h39 : c = 39
    · subst h39
      have h39' : ((39 : UInt8).toNat : Int) = 39 := rfl
      have hp := ev_prefix (s.drop (i + 1)) [39]
      have hi1 : i + 1 ≤ s.length := by omega
      by_cases hq : pfx (s.drop (i + 1)) [39] = true
      · obtain ⟨r, hr⟩ := pfx_one hq
        have hi2 : i + 1 < s.length := by
          have := congrArg List.length hr
          simp only [List.length_drop, List.length_cons] at this
          omega
        have hr2 : s.drop (i + 2) = r := by
          have := List.drop_eq_getElem_cons hi2
          rw [hr] at this
          exact (List.cons.inj this).2.symm
        have ih := ih ⟨(i + 2, acc ++ [39]), by simp; omega⟩ (by simp only; omega)
        simp only [hr2, byV_app, List.length_append, List.length_singleton, s_zero, s_succ, Int.natCast_add, Int.natCast_one, Int.cast_ofNat_Int, h39'] at ih
        rw [show (i : Int) + 2 = (i : Int) + 1 + 1 by omega] at ih
        rw [hr, quote_two]
        rw [hq] at hp
        generalize byV acc = xs at *
        simp +contextual [i_again, roundEnd, dropT, cleanV, Tryz.f125, Tryz.ti3, Tryz.ti5, Tryz.ti9, Tryz.ti123, Tryz.ti125, Tryz.ti138, hi, hc, hcc, hwi, hwi2, hp, hi1, h0, hlen, hbc, hf, ih]
      · rw [Bool.not_eq_true] at hq
        rw [quote_end hq]
        rw [hq] at hp
        have hb := bytesOf_byV acc
        have hsub : (s.length : Int) - (s.drop (i + 1)).length = (i : Int) + 1 := by rw [List.length_drop]; omega
        by_cases h24 : acc.length ≤ 24
        · have h24' : ¬ (24 : Int) < acc.length := by omega
          simp [i_again, roundEnd, dropT, cleanV, Tryz.f125, Tryz.ti3, Tryz.ti5, Tryz.ti9, Tryz.ti123, Tryz.ti125, Tryz.ti138, hi, hc, hcc, hwi, hp, hi1, h0, hlen, h24, h24', hb, textO, hsub, tokO, Tok.enc_eq, gc, reach, reachFuel, shut, nodup, List.idxOf, List.findIdx, List.findIdx.go, List.range, List.range.loop]
          omega
        · have h24' : (24 : Int) < acc.length := by omega
          simp [i_again, roundEnd, dropT, cleanV, Tryz.f125, Tryz.ti3, Tryz.ti5, Tryz.ti9, Tryz.ti123, Tryz.ti125, Tryz.ti138, hi, hc, hcc, hwi, hp, hi1, h0, hlen, h24, h24', textO, hsub, tokO, ev_stop, gc, reach, reachFuel, shut, nodup, List.idxOf, List.findIdx, List.findIdx.go, List.range, List.range.loop]
          omega
    · have h39' : ¬ (c.toNat : Int) = 39 := fun e => h39 (UInt8.toNat_inj.1 (by have : (39 : UInt8).toNat = 39 := rfl; omega))
      have ih := ih ⟨(i + 1, acc ++ [c]), by simp; omega⟩ (by simp only; omega)
      simp only [byV_app, List.length_append, List.length_singleton, s_zero, s_succ, Int.natCast_add, Int.natCast_one, Int.cast_ofNat_Int] at ih
      rw [quote_other h39]
      generalize byV acc = xs at *
      simp +contextual [i_again, roundEnd, dropT, cleanV, Tryz.f125, Tryz.ti3, Tryz.ti5, Tryz.ti9, Tryz.ti123, Tryz.ti125, Tryz.ti138, hi, hc, hcc, hwi, h39', hlen, hbc, hf, ih]
  · obtain rfl : i = s.length := by omega
    have hd : s.drop s.length = [] := List.drop_length
    rw [hd]
    simp [i_again, roundEnd, dropT, cleanV, Tryz.f125, Tryz.ti3, Tryz.ti5, Tryz.ti9, Tryz.ti123, Tryz.ti125, Tryz.ti138, quoteS, textO, tokO, ev_stop, gc, reach, reachFuel, shut, nodup, List.idxOf, List.findIdx, List.findIdx.go, List.range, List.range.loop]
end Go.Abs

namespace Go.Abs
set_option linter.unusedSimpArgs false
set_option linter.unusedVariables false
open Go Go.Proofs
attribute [local simp] i_nil i_blk i_skip i_ret i_exit i_seq i_block i_cond i_region' i_ops_nil i_ops i_drawn' d_in a_nil a_cons alt1 h_nil h_one h_two z_nil z_cons z_cells zeqL zeq q_alloc q_some isAlO nxtN i_drh d_hi i_drw_nil i_drw u_nil u_code u_ops u_drw u_lp u_again u_exit u_ret u_panic c_bool o_some o_val o_panic d_some d_val d_panic w_none w_fast wantG q_nil q_zero q_succ t_zero t_succ g_zero g_succ s_zero s_succ s_some s_none v_tmp v_const v_func f_quiet gc_none gc_pure wrap_i64 p_move p_assign p_pick p_alloc p_box p_build p_buildSlice p_load p_store p_nilCheck p_binOp n_tmp n_int n_bool n_str n_ptr n_fun n_iface nilCmp p_unOp p_convert p_makeSlice p_makeInterface p_makeFunc p_slice p_fieldAddr p_field p_indexAddr p_index p_extract p_callv p_callb p_panic quiet_val new_val e_assign e_call e_load e_store e_alloc e_box e_move e_pick e_build e_buildSlice e_nilCheck e_binOp e_unOp e_convert e_makeSlice e_makeInterface e_makeFunc e_slice e_fieldAddr e_field e_indexAddr e_index e_extract e_panic callD fpRead adoptZ fulls adopt adoptL ofValue ofScalar binOpV unOpV intBin strBin eqRes veq veqF eqDepth val? finish resL r_tmp r_cell normL normTop tipIs refsL refs ownRefs single frz frzL ren renL renOwn callOp doCall backR writeBack builtinV loadV storeV storeW iceT cellsAt takeV D.isAgg overlay vcells cellOk fieldAddrV indexAddrV fieldV partV indexV buildV fillV buildSliceV litElems appendV appElems elemOk convertV convV winStr makeSliceV sliceV natOf
attribute [local simp ↓] brB_true brB_false brB_dec brB_not brB_and brB_or brB_beq brB_bne

def symL : List (List UInt8) := [[60, 62], [60, 61], [62, 61], [60], [62], [61], [43], [45], [42], [40], [41], [44], [46], [59]]
theorem pfx_c2 (c d x y : UInt8) (t : List UInt8) : pfx (c :: d :: t) [x, y] = decide (c = x ∧ d = y) := by simp [pfx]
theorem pfx_c1 (c x : UInt8) (t : List UInt8) : pfx (c :: t) [x] = decide (c = x) := by simp [pfx]
theorem pfx_n2 (c x y : UInt8) : pfx [c] [x, y] = false := by simp [pfx]
theorem sym_find (c : UInt8) (t : List UInt8) : symL.find? (pfx (c :: t) ·) = if symS (c :: t) = 0 then none else some ((c :: t).take (symS (c :: t))) := by
  have one : ∀ t : List UInt8, [[60], [62], [61], [43], [45], [42], [40], [41], [44], [46], [59]].find? (pfx (c :: t) ·) = if [60, 62, 61, 43, 45, 42, 40, 41, 44, 46, 59].contains c then some [c] else none := by
    intro t
    simp only [List.find?, pfx_c1]
    by_cases h1 : c = 60
    · subst h1; rfl
    by_cases h2 : c = 62
    · subst h2; rfl
    by_cases h3 : c = 61
    · subst h3; rfl
    by_cases h4 : c = 43
    · subst h4; rfl
    by_cases h5 : c = 45
    · subst h5; rfl
    by_cases h6 : c = 42
    · subst h6; rfl
    by_cases h7 : c = 40
    · subst h7; rfl
    by_cases h8 : c = 41
    · subst h8; rfl
    by_cases h9 : c = 44
    · subst h9; rfl
    by_cases h10 : c = 46
    · subst h10; rfl
    by_cases h11 : c = 59
    · subst h11; rfl
    simp [h1, h2, h3, h4, h5, h6, h7, h8, h9, h10, h11]
  cases t with
  | nil =>
    have : symL.find? (pfx [c] ·) = [[60], [62], [61], [43], [45], [42], [40], [41], [44], [46], [59]].find? (pfx [c] ·) := by
      simp only [symL, List.find?_cons, pfx_n2]
    rw [this, one]
    simp only [symS]
    split <;> simp
  | cons d r =>
    have h3 : symL = [[60, 62], [60, 61], [62, 61]] ++ [[60], [62], [61], [43], [45], [42], [40], [41], [44], [46], [59]] := rfl
    rw [h3, List.find?_append, one]
    simp only [symS, List.find?_cons, List.find?_nil, pfx_c2]
    by_cases h1 : c = 60 ∧ d = 62
    · obtain ⟨rfl, rfl⟩ := h1; simp
    by_cases h2 : c = 60 ∧ d = 61
    · obtain ⟨rfl, rfl⟩ := h2; simp
    by_cases h4 : c = 62 ∧ d = 61
    · obtain ⟨rfl, rfl⟩ := h4; simp
    simp only [h1, h2, h4, decide_false, or_self, if_false, Option.none_or]
    split <;> simp

def symO (k : Nat) (s : List UInt8) : Option (List UInt8) → Option (Out × St)
  | none => tokO k s k none
  | some y => tokO k s ((k : Int) + y.length) (some ⟨5, 0, k, y⟩)
def nextO (s : List UInt8) (k : Nat) : Option (Out × St) :=
  match s.drop k with
  | [] => tokO k s k (some ⟨0, 0, k, []⟩)
  | c :: t => if isRun c then tokO k s ((k : Int) + ((c :: t).takeWhile isRun).length) (runS k ((c :: t).takeWhile isRun))
    else if c = 39 then textO k s (quoteS [] t) else symO k s (symL.find? (pfx (c :: t) ·))

set_option maxRecDepth 100000 in
set_option maxHeartbeats 4000000 in
theorem ev_next (s : List UInt8) (hs : s.length ≤ 1048576) (j : Nat) (hj : j ≤ s.length) : EV 77 [.box 0 0] [[.str s, .int .i64 j]] = nextO s (j + blanks (s.drop j)) := by
  have hw := ev_while 122 isBlk ev_lblank s (by omega) j hj
  have hle := takeWhile_len (p := isBlk) (s.drop j)
  rw [List.length_drop] at hle
  have hb : ((s.drop j).takeWhile isBlk).length = blanks (s.drop j) := rfl
  rw [hb] at hw hle
  obtain ⟨k, hk⟩ : ∃ k, j + blanks (s.drop j) = k := ⟨_, rfl⟩
  have hk' : (j : Int) + blanks (s.drop j) = k := by omega
  rw [hk'] at hw
  rw [hk]
  have hks : k ≤ s.length := by omega
  generalize (s.drop j).takeWhile isBlk = bl at hw
  clear hb hk hk' hle
  rw [EV_mki rfl Tryz.func77 rfl (by kernel_rfl) rfl]
  by_cases he : k = s.length
  · subst he
    have hd : s.drop s.length = [] := List.drop_length
    simp [nextO, hd, Tryz.f77, Tryz.ti3, Tryz.ti5, Tryz.ti9, Tryz.ti100, Tryz.ti123, Tryz.ti125, hw, tokO, Tok.enc_eq, gc, reach, reachFuel, shut, nodup, List.idxOf, List.findIdx, List.findIdx.go, List.range, List.range.loop, backR]
  · have hlt : k < s.length := by omega
    have he' : ¬ (k : Int) = s.length := by omega
    have hd : s.drop k = s[k] :: s.drop (k + 1) := List.drop_eq_getElem_cons hlt
    obtain ⟨c, hc⟩ : ∃ m, s[k] = m := ⟨_, rfl⟩
    have hcc : s[k]? = some c := by rw [List.getElem?_eq_getElem hlt, hc]
    rw [hc] at hd
    have hr := ev_run s hs k hks
    have ht := ev_text s hs k hlt
    have hin := ev_inrun c
    unfold nextO
    rw [hd] at hr ⊢
    simp only
    by_cases c1 : isRun c = true
    · rw [c1] at hin
      rw [if_pos c1]
      generalize runS k ((c :: s.drop (k + 1)).takeWhile isRun) = o at *
      generalize (k : Int) + ((c :: s.drop (k + 1)).takeWhile isRun).length = q at *
      cases o <;> simp only [tokO, Tok.enc_eq] at hr ⊢ <;> simp [Tryz.f77, Tryz.ti3, Tryz.ti5, Tryz.ti9, Tryz.ti100, Tryz.ti123, Tryz.ti125, hw, hr, hin, he, he', hlt, hc, hcc, gc, reach, reachFuel, shut, nodup, List.idxOf, List.findIdx, List.findIdx.go, List.range, List.range.loop, backR]
    · rw [Bool.not_eq_true] at c1
      rw [c1] at hin
      rw [if_neg (by simp [c1])]
      by_cases c2 : c = 39
      · rw [if_pos c2]
        subst c2
        have hin : EV 123 [.int .u8 39] [] = some (.ret (.bool false), []) := hin
        cases hq : quoteS [] (s.drop (k + 1)) with
        | none =>
          rw [hq] at ht
          simp only [textO, tokO, Tok.enc_eq] at ht ⊢
          simp [Tryz.f77, Tryz.ti3, Tryz.ti5, Tryz.ti9, Tryz.ti100, Tryz.ti123, Tryz.ti125, hw, ht, hin, he, he', hlt, hc, hcc, gc, reach, reachFuel, shut, nodup, List.idxOf, List.findIdx, List.findIdx.go, List.range, List.range.loop, backR]
        | some p =>
          obtain ⟨a, u⟩ := p
          rw [hq] at ht
          simp only [textO] at ht ⊢
          by_cases h24 : a.length ≤ 24
          · simp only [h24, if_true, tokO, Tok.enc_eq] at ht ⊢
            simp [Tryz.f77, Tryz.ti3, Tryz.ti5, Tryz.ti9, Tryz.ti100, Tryz.ti123, Tryz.ti125, hw, ht, hin, he, he', hlt, hc, hcc, gc, reach, reachFuel, shut, nodup, List.idxOf, List.findIdx, List.findIdx.go, List.range, List.range.loop, backR]
          · simp only [h24, if_false, tokO, Tok.enc_eq] at ht ⊢
            simp [Tryz.f77, Tryz.ti3, Tryz.ti5, Tryz.ti9, Tryz.ti100, Tryz.ti123, Tryz.ti125, hw, ht, hin, he, he', hlt, hc, hcc, gc, reach, reachFuel, shut, nodup, List.idxOf, List.findIdx, List.findIdx.go, List.range, List.range.loop, backR]
      · rw [if_neg c2]
        have h39' : ¬ (c.toNat : Int) = 39 := fun e => c2 (UInt8.toNat_inj.1 (by have : (39 : UInt8).toNat = 39 := rfl; omega))
        simp [Tryz.f77, Tryz.ti3, Tryz.ti5, Tryz.ti9, Tryz.ti100, Tryz.ti123, Tryz.ti125, hw, hin, he, he', hlt, hc, hcc, h39', gc, reach, reachFuel, shut, nodup, List.idxOf, List.findIdx, List.findIdx.go, List.range, List.range.loop, backR]
        rw [show ([V.str [60, 62], V.str [60, 61], V.str [62, 61], V.str [60], V.str [62], V.str [61], V.str [43], V.str [45], V.str [42], V.str [40], V.str [41], V.str [44], V.str [46], V.str [59]] : List V) = symL.map V.str from rfl, ← hd]
        have hsl : symL.length = 14 := rfl
        have hsz : ∀ y ∈ symL, y.length ≤ 2 := by decide
        generalize symL = L at hsl hsz ⊢
        rw [i_loop (ts := [47, 48, 49, 5, 50, 51, 52, 53, 54, 55, 56, 57, 58, 59, 60, 61, 62, 63, 64, 65, 66, 67, 68, 69, 70])]
        rotate_left
        · kernel_rfl
        refine i_at (fun i : Nat => L.length - i) (fun i env => setV env 46 (.int .i64 i)) (fun _ => _) (fun i => symO k s ((L.drop i).find? (pfx (s.drop k) ·))) 0 (by simp [s_zero, s_succ]) rfl (by simp) ?_
        intro i ih
        by_cases hi : i < L.length
        · have ih := ih (i + 1) (by omega)
          have hi14 : (i : Int) < 14 := by omega
          have hwi : IntKind.i64.wrap ((i : Int) + 1) = (i : Int) + 1 := wrap_i64 (by omega)
          have hL : L.drop i = L[i] :: L.drop (i + 1) := List.drop_eq_getElem_cons hi
          obtain ⟨y, hy⟩ : ∃ m, L[i] = m := ⟨_, rfl⟩
          have hyy : L[i]? = some y := by rw [List.getElem?_eq_getElem hi, hy]
          have hyl := hsz y (hy ▸ List.getElem_mem hi)
          have hp := ev_prefix (s.drop k) y
          have hwy : IntKind.i64.wrap ((k : Int) + y.length) = (k : Int) + y.length := wrap_i64 (by omega)
          rw [hL, hy, List.find?_cons]
          simp only [s_zero, s_succ, Int.natCast_add, Int.natCast_one, Int.cast_ofNat_Int] at ih
          generalize pfx (s.drop k) y = b at *
          cases b with
          | true => simp [i_again, roundEnd, dropT, cleanV, Tryz.f77, Tryz.ti3, Tryz.ti5, Tryz.ti9, Tryz.ti100, Tryz.ti123, Tryz.ti125, hi, hi14, hy, hyy, hp, hks, hwy, symO, tokO, Tok.enc_eq, gc, reach, reachFuel, shut, nodup, List.idxOf, List.findIdx, List.findIdx.go, List.range, List.range.loop, backR]
          | false => simp [i_again, roundEnd, dropT, cleanV, Tryz.f77, Tryz.ti3, Tryz.ti5, Tryz.ti9, Tryz.ti100, Tryz.ti123, Tryz.ti125, hi, hi14, hy, hyy, hp, hks, hwi, ih]
        · have hi14 : ¬ (i : Int) < 14 := by omega
          have hL : L.drop i = [] := List.drop_eq_nil_of_le (by omega)
          rw [hL]
          simp [i_again, roundEnd, dropT, cleanV, Tryz.f77, Tryz.ti3, Tryz.ti5, Tryz.ti9, Tryz.ti100, Tryz.ti123, Tryz.ti125, hi, hi14, ev_stop, symO, tokO, gc, reach, reachFuel, shut, nodup, List.idxOf, List.findIdx, List.findIdx.go, List.range, List.range.loop, backR]
end Go.Abs

/- a panic where the leftovers are quiet, with no word on the environment -/
namespace Go.Abs
open Go Go.Proofs
variable {P : Program}
/- the same, with no word on the environment -/
def panJ (js : List Nat) [s : OpsI] (fps : List Fp) : Bool := fpsOk2 s.a fps.reverse && ((List.range s.a.size).all (fun j => j ≤ fps.length - 1 || ordB s.a (fps.length - 1) j || js.contains j) && fps.reverse.zipIdx.all fun (b, j) => b.writes.isNone || j == fps.length - 1 || ordB s.a j (fps.length - 1))
theorem panQ_with (js : List Nat) {s : OpsI} {env : Env} {fps : List Fp} (h : @panJ js s fps = true) (hs : ∀ j ∈ js, safeOp P s.a env j = true) : @panQ P s env fps = true := by
  unfold panJ at h
  unfold panQ panicOk
  simp only [Bool.and_eq_true, List.all_eq_true, Bool.or_eq_true] at h ⊢
  refine ⟨h.1, fun j hj => ?_, h.2.2⟩
  rcases h.2.1 j hj with h1 | h1
  · exact .inl h1
  · exact .inr (hs j (by simpa using h1))
theorem panQ_of {s : OpsI} {env : Env} {fps : List Fp} (h : @panJ [] s fps = true) : @panQ P s env fps = true := panQ_with [] h (fun _ h => absurd h (by simp))
end Go.Abs

