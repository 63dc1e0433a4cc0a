/- What the reference's Tokens comes to. -/
import Derived.Test.YtpmeklllgnnffaaGreatDoorM37
import Derived.Test.YtpmeklllgnnffaaGreatDoorM29
set_option linter.unusedSimpArgs false
set_option linter.unusedVariables false

namespace Go.Abs
set_option linter.unusedSimpArgs false
set_option linter.unusedVariables false
open Go Go.Proofs
attribute [local simp] i_nil i_blk i_skip i_ret i_exit i_seq i_block i_cond i_region' i_ops_nil i_ops i_drawn' d_in a_nil a_cons alt1 h_nil h_one h_two z_nil z_cons z_cells zeqL zeq q_alloc q_some isAlO nxtN i_drh d_hi i_drw_nil i_drw u_nil u_code u_ops u_drw u_lp u_again u_exit u_ret u_panic c_bool o_some o_val o_panic d_some d_val d_panic w_none w_fast wantG q_nil q_zero q_succ t_zero t_succ g_zero g_succ s_zero s_succ s_some s_none v_tmp v_const v_func f_quiet gc_none gc_pure wrap_i64 p_move p_assign p_pick p_alloc p_box p_build p_buildSlice p_load p_store p_nilCheck p_binOp n_tmp n_int n_bool n_str n_ptr n_fun n_iface nilCmp p_unOp p_convert p_makeSlice p_makeInterface p_makeFunc p_slice p_fieldAddr p_field p_indexAddr p_index p_extract p_callv p_callb p_panic quiet_val new_val e_assign e_call e_load e_store e_alloc e_box e_move e_pick e_build e_buildSlice e_nilCheck e_binOp e_unOp e_convert e_makeSlice e_makeInterface e_makeFunc e_slice e_fieldAddr e_field e_indexAddr e_index e_extract e_panic callD fpRead adoptZ fulls adopt adoptL ofValue ofScalar binOpV unOpV intBin strBin eqRes veq veqF eqDepth val? finish resL r_tmp r_cell normL normTop tipIs refsL refs ownRefs single frz frzL ren renL renOwn callOp doCall backR writeBack builtinV loadV storeV cellsAt takeV D.isAgg overlay vcells cellOk fieldAddrV indexAddrV fieldV partV indexV buildV fillV buildSliceV litElems appendV appElems elemOk convertV convV winStr makeSliceV sliceV natOf
attribute [local simp ↓] brB_true brB_false brB_dec brB_not brB_and brB_or brB_beq brB_bne

def rtoksO (acc : List Tok) : Except Nat (List Tok) → Option (Out × St)
  | .ok l => some (.ret (.tup [.slice .froz ((acc ++ l).map Tok.enc), .int .i64 (-1)]), [])
  | .error e => some (.ret (.tup [.slice .froz [], .int .i64 e]), [])
theorem tw_in {p : UInt8 → Bool} : ∀ (l : List UInt8) (i : Nat) (c : UInt8), i < (l.takeWhile p).length → l[i]? = some c → p c = true
  | [], i, c, h, _ => by simp at h
  | a :: l, 0, c, h, hc => by
    by_cases ha : p a = true
    · simp at hc; rw [← hc]; exact ha
    · simp [List.takeWhile_cons, ha] at h
  | a :: l, i + 1, c, h, hc => by
    by_cases ha : p a = true
    · simp only [List.takeWhile_cons, ha, if_true, List.length_cons] at h
      exact tw_in l i c (by omega) (by simpa using hc)
    · simp [List.takeWhile_cons, ha] at h
theorem tw_out {p : UInt8 → Bool} : ∀ (l : List UInt8) (c : UInt8), l[(l.takeWhile p).length]? = some c → p c = false
  | [], c, h => by simp at h
  | a :: l, c, h => by
    by_cases ha : p a = true
    · simp only [List.takeWhile_cons, ha, if_true, List.length_cons, List.getElem?_cons_succ] at h
      exact tw_out l c h
    · simp [List.takeWhile_cons, ha] at h
      rw [← h]; simpa using ha
theorem rtoks_step (s : List UInt8) (f j : Nat) (acc : List Tok) (hj : j ≤ s.length) (hk : j + blanks (s.drop j) ≤ s.length) : rtoksO acc (toksS (f + 1) j (s.drop j)) =
    match tokS (j + blanks (s.drop j)) (s.drop (j + blanks (s.drop j))) with
    | .error e => rtoksO acc (.error e)
    | .ok (t, u) => if t.kind = 0 then rtoksO acc (.ok [t]) else rtoksO (acc ++ [t]) (toksS f (s.length - u.length) (s.drop (s.length - u.length))) := by
  have ht := next_tok s _ hk
  have hn : nextTok j (s.drop j) = tokS (j + blanks (s.drop j)) (s.drop (j + blanks (s.drop j))) := by unfold nextTok; rw [unblank_drop]
  simp only [toksS, hn]
  generalize hkk : j + blanks (s.drop j) = k at *
  cases hr : tokS k (s.drop k) with
  | error e => rfl
  | ok p =>
    obtain ⟨t, u⟩ := p
    rw [hr] at ht
    obtain ⟨_, ⟨n, hu, hnl, hn1⟩, hu0⟩ := ht
    have hul : u.length = s.length - k - n := by rw [hu, List.length_drop, List.length_drop]
    rw [List.length_drop] at hnl
    simp only
    by_cases hk0 : t.kind = 0
    · rw [if_pos hk0, if_pos hk0]
    · rw [if_neg hk0, if_neg hk0]
      have hq : s.length - u.length = k + n := by omega
      have hq2 : j + ((s.drop j).length - u.length) = k + n := by rw [List.length_drop]; omega
      have hud : u = s.drop (k + n) := by rw [hu, List.drop_drop]
      rw [hq, hq2, ← hud]
      cases toksS f (k + n) u with
      | ok l => simp [rtoksO]
      | error e => rfl

set_option maxRecDepth 100000 in
set_option maxHeartbeats 8000000 in
theorem ev_rtokens (s : List UInt8) (hs : s.length ≤ 1048576) : EV 73 [.str s] [] = rtoksO [] (toksS (s.length + 1) 0 s) := by
  rw [EV_mki rfl Tryz.func73 rfl (by kernel_rfl) rfl]
  simp [Tryz.f73, Tryz.ti3, Tryz.ti5, Tryz.ti9, Tryz.ti112, Tryz.ti120, Tryz.ti138]
  rw [i_loop (ts := [14, 15, 16, 17, 18, 19, 20, 21, 22, 23, 24, 25, 26, 27, 28, 29, 30, 31, 32, 33, 34, 35, 36, 6, 37, 38, 39, 40, 7, 41, 42, 43, 44, 45, 46, 47, 48, 49, 50, 51, 52, 53, 54, 55, 56, 57, 58, 59, 60, 61, 62, 63, 64, 65, 66, 67, 68, 69, 70, 8, 9, 10, 71, 72, 74, 75, 73, 76, 77, 9, 10, 78, 79, 80, 81, 82, 83, 84, 85, 86, 87, 88, 89, 90, 91, 92, 93, 94, 95, 96, 97, 98, 99, 100, 101, 102, 103, 104, 105, 106, 107, 108, 11, 109, 110, 111, 112, 113, 114, 115, 116, 117, 118, 119, 120, 121, 122, 123, 124, 125, 126, 127, 128, 129, 130, 131, 132, 133, 134, 135, 136, 137, 138, 139, 140, 11, 141, 142, 143, 144, 145, 146, 147, 148, 149, 150, 151, 152, 153, 154, 155, 156, 157, 158, 159, 160, 161, 162, 163, 164, 165, 166, 167, 168, 169, 170, 12, 171, 172, 173, 174, 175, 176, 177, 178, 179, 180, 181, 182, 183, 184, 185])]
  rotate_left
  · kernel_rfl
  refine i_at (fun x : {x : Nat × Nat × List Tok // x.2.1 ≤ s.length ∧ x.2.2.length ≤ x.2.1 ∧ s.length < x.1 + x.2.1} => s.length - x.1.2.1) (fun x env => setV (setV env 5 (.int .i64 x.1.2.1)) 4 (.slice (.own 1) (x.1.2.2.map Tok.enc))) (fun x => [[.tip 0], [.tip x.1.2.2.length]]) (fun x => rtoksO x.1.2.2 (toksS x.1.1 x.1.2.1 (s.drop x.1.2.1))) ⟨(s.length + 1, 0, []), by simp⟩ (by simp [s_zero, s_succ]) rfl (by simp) ?_
  intro ⟨(f, j, acc), hj, hacc, hf⟩ ih
  dsimp only at hj hacc hf ⊢
  cases f with
  | zero => omega
  | succ f =>
    have hle := takeWhile_len (p := isBlk) (s.drop j)
    have hbl : ((s.drop j).takeWhile isBlk).length = blanks (s.drop j) := rfl
    rw [List.length_drop, hbl] at hle
    have hkl : j + blanks (s.drop j) ≤ s.length := by omega
    rw [rtoks_step s f j acc hj hkl]
    have htin := tw_in (p := isBlk) (s.drop j)
    have htout := tw_out (p := isBlk) (s.drop j)
    rw [hbl] at htin htout
    obtain ⟨k, hk⟩ : ∃ k, j + blanks (s.drop j) = k := ⟨_, rfl⟩
    rw [hk] at hkl ⊢
    have hjk : j ≤ k := by omega
    have hin : ∀ i, j ≤ i → i < k → ∀ c, s[i]? = some c → isBlk c = true := fun i h1 h2 c hc => htin (i - j) c (by omega) (by rw [List.getElem?_drop]; rw [show j + (i - j) = i by omega]; exact hc)
    have hout : ∀ c, s[k]? = some c → isBlk c = false := fun c hc => htout c (by rw [List.getElem?_drop, hk]; exact hc)
    clear htin htout hbl hle hk
    obtain ⟨RR, hRR⟩ : ∃ RR, (match tokS k (s.drop k) with
      | .error e => rtoksO acc (.error e)
      | .ok (t, u) => if t.kind = 0 then rtoksO acc (.ok [t]) else rtoksO (acc ++ [t]) (toksS f (s.length - u.length) (s.drop (s.length - u.length)))) = RR := ⟨_, rfl⟩
    rw [hRR]
    have hb : acc.length + 1 ≤ 70368744177664 := by omega
    have hb2 : (acc.length + 1) * 40 ≤ 70368744177664 := by omega
    have hlm : (acc.map Tok.enc).length = acc.length := by simp
    have hf4 : ∀ x ∈ acc.map Tok.enc, (vcells x).length = 4 := fun x hx => by obtain ⟨y, _, rfl⟩ := List.mem_map.1 hx; rfl
    simp only [vcells] at hf4
    simp [i_again, roundEnd, dropT, cleanV, Tryz.f73, Tryz.ti3, Tryz.ti5, Tryz.ti9, Tryz.ti112, Tryz.ti120, Tryz.ti138]
    rw [i_loop (ts := [14, 15, 16, 17, 18, 19, 20, 21, 22, 23, 24, 25, 26])]
    rotate_left
    · kernel_rfl
    refine i_at (fun i : {i : Nat // j ≤ i ∧ i ≤ k} => k - i.1) (fun i env => setV env 5 (.int .i64 i.1)) (fun _ => _) (fun _ => RR) ⟨j, by omega, hjk⟩ (by simp [s_zero, s_succ]) rfl rfl ?_
    intro ⟨i, hji, hik⟩ ih1
    dsimp only at hji hik ⊢
    by_cases hlt : i < k
    · have hil : i < s.length := by omega
      obtain ⟨c, hc⟩ : ∃ m, s[i] = m := ⟨_, rfl⟩
      have hcc : s[i]? = some c := by rw [List.getElem?_eq_getElem hil, hc]
      have hwi : IntKind.i64.wrap ((i : Int) + 1) = (i : Int) + 1 := wrap_i64 (by omega)
      have hcl := ev_class c
      have h5 := hin i hji hlt c hcc
      rw [class_blk, decide_eq_true_eq] at h5
      rw [h5] at hcl
      have ih1 := ih1 ⟨i + 1, by omega, by omega⟩ (by simp only; omega)
      simp only [s_zero, s_succ, Int.natCast_add, Int.natCast_one, Int.cast_ofNat_Int] at ih1
      simp [i_again, roundEnd, dropT, cleanV, Tryz.f73, Tryz.ti3, Tryz.ti5, Tryz.ti9, Tryz.ti112, Tryz.ti120, Tryz.ti138, hil, hc, hcc, hwi, hcl, ih1]
    · obtain rfl : i = k := by omega
      clear ih1
      by_cases he : i = s.length
      · subst he
        have hd : s.drop s.length = [] := List.drop_length
        rw [hd] at hRR
        simp only [tokS] at hRR
        rw [← hRR]
        simp +contextual [i_again, roundEnd, dropT, cleanV, Tryz.f73, Tryz.ti3, Tryz.ti5, Tryz.ti9, Tryz.ti112, Tryz.ti120, Tryz.ti138, rtoksO, hb, hb2, hlm, hf4, Tok.enc_eq, gc, reach, reachFuel, shut, nodup, List.idxOf, List.findIdx, List.findIdx.go, List.range, List.range.loop]
      · have hil : i < s.length := by omega
        have he' : ¬ (i : Int) = s.length := by omega
        have hd : s.drop i = s[i] :: s.drop (i + 1) := List.drop_eq_getElem_cons hil
        obtain ⟨c, hc⟩ : ∃ m, s[i] = m := ⟨_, rfl⟩
        have hcc : s[i]? = some c := by rw [List.getElem?_eq_getElem hil, hc]
        rw [hc] at hd
        have hcl := ev_class c
        have hnb := hout c hcc
        rw [class_blk, decide_eq_false_iff_not] at hnb
        rw [hd] at hRR
        simp only [tokS] at hRR
        by_cases c1 : isRun c = true
        · rw [if_pos c1] at hRR
          have htin := tw_in (p := isRun) (s.drop i)
          have htout := tw_out (p := isRun) (s.drop i)
          rw [hd] at htin htout
          have hwl := takeWhile_len (p := isRun) (c :: s.drop (i + 1))
          rw [← hd, List.length_drop, hd] at hwl
          have hdw : (c :: s.drop (i + 1)).dropWhile isRun = s.drop (i + ((c :: s.drop (i + 1)).takeWhile isRun).length) := by rw [dropWhile_drop, ← hd, List.drop_drop]
          have hw1 : 1 ≤ ((c :: s.drop (i + 1)).takeWhile isRun).length := by rw [List.takeWhile_cons, if_pos c1]; simp
          have hww : (s.take (i + ((c :: s.drop (i + 1)).takeWhile isRun).length)).drop i = (c :: s.drop (i + 1)).takeWhile isRun := by
            rw [List.drop_take, show i + ((c :: s.drop (i + 1)).takeWhile isRun).length - i = ((c :: s.drop (i + 1)).takeWhile isRun).length by omega, hd, takeWhile_take]
          rw [hdw] at hRR
          generalize (c :: s.drop (i + 1)).takeWhile isRun = w at *
          obtain ⟨m, hm⟩ : ∃ m, i + w.length = m := ⟨_, rfl⟩
          rw [hm] at hRR hww
          have hml : m ≤ s.length := by omega
          have hin2 : ∀ j', i ≤ j' → j' < m → ∀ x, s[j']? = some x → isRun x = true := fun j' h1 h2 x hx => htin (j' - i) x (by omega) (by rw [← hd, List.getElem?_drop, show i + (j' - i) = j' by omega]; exact hx)
          have hout2 : ∀ x, s[m]? = some x → isRun x = false := fun x hx => htout x (by rw [← hd, List.getElem?_drop, hm]; exact hx)
          clear htin htout hdw
          have hq : s.length - (s.drop m).length = m := by rw [List.length_drop]; omega
          rw [class_run, Bool.and_eq_true, decide_eq_true_eq, decide_eq_true_eq] at c1
          obtain ⟨c1a, c1b⟩ := c1
          simp [i_again, roundEnd, dropT, cleanV, Tryz.f73, Tryz.ti3, Tryz.ti5, Tryz.ti9, Tryz.ti112, Tryz.ti120, Tryz.ti138, hil, hc, hcc, hcl, hnb, he', c1a, c1b]
          rw [i_loop (ts := [47, 48, 49, 50, 51, 52, 53, 54, 55, 56, 57, 58, 59, 60, 61, 62, 63, 64, 65, 66])]
          rotate_left
          · kernel_rfl
          refine i_at (fun j' : {j' : Nat // i ≤ j' ∧ j' ≤ m} => m - j'.1) (fun j' env => setV env 5 (.int .i64 j'.1)) (fun _ => _) (fun _ => RR) ⟨i, by omega, by omega⟩ (by simp [s_zero, s_succ]) rfl rfl ?_
          intro ⟨j', hij, hjm⟩ ih2
          dsimp only at hij hjm ⊢
          by_cases hlt2 : j' < m
          · have hjl : j' < s.length := by omega
            obtain ⟨x, hx⟩ : ∃ m, s[j'] = m := ⟨_, rfl⟩
            have hxx : s[j']? = some x := by rw [List.getElem?_eq_getElem hjl, hx]
            have hwj : IntKind.i64.wrap ((j' : Int) + 1) = (j' : Int) + 1 := wrap_i64 (by omega)
            have hxl := ev_class x
            have hr := hin2 j' hij hlt2 x hxx
            rw [class_run, Bool.and_eq_true, decide_eq_true_eq, decide_eq_true_eq] at hr
            obtain ⟨hr1, hr2⟩ := hr
            have ih2 := ih2 ⟨j' + 1, by omega, by omega⟩ (by simp only; omega)
            simp only [s_zero, s_succ, Int.natCast_add, Int.natCast_one, Int.cast_ofNat_Int] at ih2
            simp [i_again, roundEnd, dropT, cleanV, Tryz.f73, Tryz.ti3, Tryz.ti5, Tryz.ti9, Tryz.ti112, Tryz.ti120, Tryz.ti138, hjl, hx, hxx, hwj, hxl, hr1, hr2, ih2]
          · obtain rfl : j' = m := by omega
            clear ih2
            have ho1 := ev_only w (by omega) 1
            have ho3 := ev_only w (by omega) 3
            rw [only_cap] at ho1
            rw [only_dig] at ho3
            have hnm := ev_rname w (by omega)
            have hnum : w.all isDig = true → EV 109 [.str w] [] = numO (decS w) := fun h => ev_number w (by omega) h
            have hij' : i ≤ j' := hij
            have ih' : ∀ t : Tok, _ := fun t => ih ⟨(f, j', acc ++ [t]), by show j' ≤ s.length; omega, by show (acc ++ [t]).length ≤ j'; simp; omega, by show s.length < f + j'; omega⟩ (by show s.length - j' < s.length - j; omega)
            simp only [List.map_append, List.map_cons, List.map_nil, List.length_append, List.length_singleton, s_zero, s_succ, Tok.enc_eq] at ih'
            clear ih
            unfold runS at hRR
            have hexit : ¬ (j' : Int) < s.length ∨ (∃ x, j' < s.length ∧ (∀ h : j' < s.length, s[j'] = x) ∧ s[j']? = some x ∧ EV 107 [.int .u8 x.toNat] [] = some (.ret (.int .i64 (classS x)), []) ∧ ¬ 1 ≤ classS x) ∨ (∃ x, j' < s.length ∧ (∀ h : j' < s.length, s[j'] = x) ∧ s[j']? = some x ∧ EV 107 [.int .u8 x.toNat] [] = some (.ret (.int .i64 (classS x)), []) ∧ 1 ≤ classS x ∧ ¬ classS x ≤ 4) := by
              by_cases h : j' < s.length
              · obtain ⟨x, hx⟩ : ∃ m, s[j'] = m := ⟨_, rfl⟩
                have hxx : s[j']? = some x := by rw [List.getElem?_eq_getElem h, hx]
                have hr := hout2 x hxx
                rw [class_run, Bool.and_eq_false_iff, decide_eq_false_iff_not, decide_eq_false_iff_not] at hr
                by_cases h1 : 1 ≤ classS x
                · exact .inr (.inr ⟨x, h, fun _ => hx, hxx, ev_class x, h1, hr.resolve_left (fun q => q h1)⟩)
                · exact .inr (.inl ⟨x, h, fun _ => hx, hxx, ev_class x, h1⟩)
              · exact .inl (by omega)
            have hwi0 : (i : Int) ≤ j' := by omega
            have hq' : s.length - (s.length - j') = j' := by omega
            by_cases d : allB isDig w = true
            · have hnc := dig_notcap d
              have dd : w.all isDig = true := by simp only [allB, Bool.and_eq_true] at d; exact d.1
              have hnum := hnum dd
              rw [d] at ho3
              rw [hnc.1] at ho1
              rw [hnc.2] at hnm
              have hc1 := hnc.1
              have hc2 := hnc.2
              by_cases h9 : decS w ≤ 9223372036854775807
              · rw [numO, if_pos h9] at hnum
                have ih' := ih' ⟨3, decS w, i, []⟩
                have hR2 : rtoksO (acc ++ [⟨3, decS w, i, []⟩]) (toksS f j' (s.drop j')) = RR := by rw [← hRR]; simp [d, hc1, hc2, h9, hq']
                rw [hR2] at ih'
                clear hRR
                rcases hexit with hx | ⟨x, hjl, hx, hxx, hxl, hno⟩ | ⟨x, hjl, hx, hxx, hxl, hyes, hno⟩
                · simp +contextual (maxSteps := 10000000) [i_again, roundEnd, dropT, cleanV, Tryz.f73, Tryz.ti3, Tryz.ti5, Tryz.ti9, Tryz.ti112, Tryz.ti120, Tryz.ti138, hij', hml, hww, ho1, ho3, hnm, hnum, d, hc1, hc2, h9, hwi0, hb, hb2, hlm,  hx, hf4, ih', Tok.enc_eq]
                · simp +contextual (maxSteps := 10000000) [i_again, roundEnd, dropT, cleanV, Tryz.f73, Tryz.ti3, Tryz.ti5, Tryz.ti9, Tryz.ti112, Tryz.ti120, Tryz.ti138, hij', hml, hww, ho1, ho3, hnm, hnum, d, hc1, hc2, h9, hwi0, hb, hb2, hlm,  hjl, hx, hxx, hxl, hno, hf4, ih', Tok.enc_eq]
                · simp +contextual (maxSteps := 10000000) [i_again, roundEnd, dropT, cleanV, Tryz.f73, Tryz.ti3, Tryz.ti5, Tryz.ti9, Tryz.ti112, Tryz.ti120, Tryz.ti138, hij', hml, hww, ho1, ho3, hnm, hnum, d, hc1, hc2, h9, hwi0, hb, hb2, hlm,  hjl, hx, hxx, hxl, hyes, hno, hf4, ih', Tok.enc_eq]
              · rw [numO, if_neg h9] at hnum
                have hR2 : RR = some (.ret (.tup [.slice .froz [], .int .i64 i]), []) := by rw [← hRR]; simp [d, hc1, hc2, h9, rtoksO]
                rw [hR2]
                clear hRR ih'
                rcases hexit with hx | ⟨x, hjl, hx, hxx, hxl, hno⟩ | ⟨x, hjl, hx, hxx, hxl, hyes, hno⟩
                · simp +contextual (maxSteps := 10000000) [i_again, roundEnd, dropT, cleanV, Tryz.f73, Tryz.ti3, Tryz.ti5, Tryz.ti9, Tryz.ti112, Tryz.ti120, Tryz.ti138, hij', hml, hww, ho1, ho3, hnm, hnum, d, hc1, hc2, h9, hwi0, hb, hb2, hlm,  hx, gc, reach, reachFuel, shut, nodup, List.idxOf, List.findIdx, List.findIdx.go, List.range, List.range.loop]
                · simp +contextual (maxSteps := 10000000) [i_again, roundEnd, dropT, cleanV, Tryz.f73, Tryz.ti3, Tryz.ti5, Tryz.ti9, Tryz.ti112, Tryz.ti120, Tryz.ti138, hij', hml, hww, ho1, ho3, hnm, hnum, d, hc1, hc2, h9, hwi0, hb, hb2, hlm,  hjl, hx, hxx, hxl, hno, gc, reach, reachFuel, shut, nodup, List.idxOf, List.findIdx, List.findIdx.go, List.range, List.range.loop]
                · simp +contextual (maxSteps := 10000000) [i_again, roundEnd, dropT, cleanV, Tryz.f73, Tryz.ti3, Tryz.ti5, Tryz.ti9, Tryz.ti112, Tryz.ti120, Tryz.ti138, hij', hml, hww, ho1, ho3, hnm, hnum, d, hc1, hc2, h9, hwi0, hb, hb2, hlm,  hjl, hx, hxx, hxl, hyes, hno, gc, reach, reachFuel, shut, nodup, List.idxOf, List.findIdx, List.findIdx.go, List.range, List.range.loop]
            · rw [Bool.not_eq_true] at d
              rw [d] at ho3
              clear hnum
              have hnum : True := trivial
              by_cases hc1 : allB isCap w = true
              · rw [hc1] at ho1
                have ih' := ih' ⟨1, 0, i, w⟩
                have hR2 : rtoksO (acc ++ [⟨1, 0, i, w⟩]) (toksS f j' (s.drop j')) = RR := by rw [← hRR]; simp [d, hc1, hq']
                rw [hR2] at ih'
                clear hRR
                rcases hexit with hx | ⟨x, hjl, hx, hxx, hxl, hno⟩ | ⟨x, hjl, hx, hxx, hxl, hyes, hno⟩
                · simp +contextual (maxSteps := 10000000) [i_again, roundEnd, dropT, cleanV, Tryz.f73, Tryz.ti3, Tryz.ti5, Tryz.ti9, Tryz.ti112, Tryz.ti120, Tryz.ti138, hij', hml, hww, ho1, ho3, hnm, hnum, d, hc1, hwi0, hb, hb2, hlm,  hx, hf4, ih', Tok.enc_eq]
                · simp +contextual (maxSteps := 10000000) [i_again, roundEnd, dropT, cleanV, Tryz.f73, Tryz.ti3, Tryz.ti5, Tryz.ti9, Tryz.ti112, Tryz.ti120, Tryz.ti138, hij', hml, hww, ho1, ho3, hnm, hnum, d, hc1, hwi0, hb, hb2, hlm,  hjl, hx, hxx, hxl, hno, hf4, ih', Tok.enc_eq]
                · simp +contextual (maxSteps := 10000000) [i_again, roundEnd, dropT, cleanV, Tryz.f73, Tryz.ti3, Tryz.ti5, Tryz.ti9, Tryz.ti112, Tryz.ti120, Tryz.ti138, hij', hml, hww, ho1, ho3, hnm, hnum, d, hc1, hwi0, hb, hb2, hlm,  hjl, hx, hxx, hxl, hyes, hno, hf4, ih', Tok.enc_eq]
              · rw [Bool.not_eq_true] at hc1
                rw [hc1] at ho1
                by_cases hc2 : nameS w = true
                · rw [hc2] at hnm
                  have ih' := ih' ⟨2, 0, i, w⟩
                  have hR2 : rtoksO (acc ++ [⟨2, 0, i, w⟩]) (toksS f j' (s.drop j')) = RR := by rw [← hRR]; simp [d, hc1, hc2, hq']
                  rw [hR2] at ih'
                  clear hRR
                  rcases hexit with hx | ⟨x, hjl, hx, hxx, hxl, hno⟩ | ⟨x, hjl, hx, hxx, hxl, hyes, hno⟩
                  · simp +contextual (maxSteps := 10000000) [i_again, roundEnd, dropT, cleanV, Tryz.f73, Tryz.ti3, Tryz.ti5, Tryz.ti9, Tryz.ti112, Tryz.ti120, Tryz.ti138, hij', hml, hww, ho1, ho3, hnm, hnum, d, hc1, hc2, hwi0, hb, hb2, hlm,  hx, hf4, ih', Tok.enc_eq]
                  · simp +contextual (maxSteps := 10000000) [i_again, roundEnd, dropT, cleanV, Tryz.f73, Tryz.ti3, Tryz.ti5, Tryz.ti9, Tryz.ti112, Tryz.ti120, Tryz.ti138, hij', hml, hww, ho1, ho3, hnm, hnum, d, hc1, hc2, hwi0, hb, hb2, hlm,  hjl, hx, hxx, hxl, hno, hf4, ih', Tok.enc_eq]
                  · simp +contextual (maxSteps := 10000000) [i_again, roundEnd, dropT, cleanV, Tryz.f73, Tryz.ti3, Tryz.ti5, Tryz.ti9, Tryz.ti112, Tryz.ti120, Tryz.ti138, hij', hml, hww, ho1, ho3, hnm, hnum, d, hc1, hc2, hwi0, hb, hb2, hlm,  hjl, hx, hxx, hxl, hyes, hno, hf4, ih', Tok.enc_eq]
                · rw [Bool.not_eq_true] at hc2
                  rw [hc2] at hnm
                  have hR2 : RR = some (.ret (.tup [.slice .froz [], .int .i64 i]), []) := by rw [← hRR]; simp [d, hc1, hc2, rtoksO]
                  rw [hR2]
                  clear hRR ih'
                  rcases hexit with hx | ⟨x, hjl, hx, hxx, hxl, hno⟩ | ⟨x, hjl, hx, hxx, hxl, hyes, hno⟩
                  · simp +contextual (maxSteps := 10000000) [i_again, roundEnd, dropT, cleanV, Tryz.f73, Tryz.ti3, Tryz.ti5, Tryz.ti9, Tryz.ti112, Tryz.ti120, Tryz.ti138, hij', hml, hww, ho1, ho3, hnm, hnum, d, hc1, hc2, hwi0, hb, hb2, hlm,  hx, gc, reach, reachFuel, shut, nodup, List.idxOf, List.findIdx, List.findIdx.go, List.range, List.range.loop]
                  · simp +contextual (maxSteps := 10000000) [i_again, roundEnd, dropT, cleanV, Tryz.f73, Tryz.ti3, Tryz.ti5, Tryz.ti9, Tryz.ti112, Tryz.ti120, Tryz.ti138, hij', hml, hww, ho1, ho3, hnm, hnum, d, hc1, hc2, hwi0, hb, hb2, hlm,  hjl, hx, hxx, hxl, hno, gc, reach, reachFuel, shut, nodup, List.idxOf, List.findIdx, List.findIdx.go, List.range, List.range.loop]
                  · simp +contextual (maxSteps := 10000000) [i_again, roundEnd, dropT, cleanV, Tryz.f73, Tryz.ti3, Tryz.ti5, Tryz.ti9, Tryz.ti112, Tryz.ti120, Tryz.ti138, hij', hml, hww, ho1, ho3, hnm, hnum, d, hc1, hc2, hwi0, hb, hb2, hlm,  hjl, hx, hxx, hxl, hyes, hno, gc, reach, reachFuel, shut, nodup, List.idxOf, List.findIdx, List.findIdx.go, List.range, List.range.loop]
        · rw [if_neg c1] at hRR
          rw [class_run, Bool.and_eq_true, decide_eq_true_eq, decide_eq_true_eq, not_and] at c1
          have hcq := class_quo c
          by_cases c2 : c = 39
          · rw [if_pos c2] at hRR
            have h6 : classS c = 6 := by rw [c2]; decide
            subst c2
            rw [h6] at hcl
            have hcl : EV 107 [.int .u8 39] [] = some (.ret (.int .i64 6), []) := hcl
            obtain ⟨QR, hQR⟩ : ∃ QR : Option (List UInt8 × List UInt8) → Option (Out × St), QR = fun o => match o with
              | some (a, u) => if a.length ≤ 24 then rtoksO (acc ++ [⟨4, 0, i, a⟩]) (toksS f (s.length - u.length) (s.drop (s.length - u.length))) else rtoksO acc (.error i)
              | none => rtoksO acc (.error i) := ⟨_, rfl⟩
            have hRQ : RR = QR (quoteS [] (s.drop (i + 1))) := by
              rw [← hRR, hQR]
              cases quoteS [] (s.drop (i + 1)) with
              | none => rfl
              | some p =>
                obtain ⟨a, u⟩ := p
                simp only
                by_cases h24 : a.length ≤ 24 <;> simp [h24]
            clear hRR
            have hwi : IntKind.i64.wrap ((i : Int) + 1) = (i : Int) + 1 := wrap_i64 (by omega)
            simp [i_again, roundEnd, dropT, cleanV, Tryz.f73, Tryz.ti3, Tryz.ti5, Tryz.ti9, Tryz.ti112, Tryz.ti120, Tryz.ti138, hil, hc, hcc, hcl, he', hwi]
            rw [hRQ]
            rw [i_loop (ts := [111, 112, 113, 114, 115, 116, 117, 118, 119, 120, 121, 122, 123, 124, 125, 126, 127, 128, 129, 130, 131, 132, 133, 134, 135, 136, 137, 138, 139, 140, 141, 142, 143, 144, 145, 146, 147, 148])]
            rotate_left
            · kernel_rfl
            refine i_at (fun x : {x : Nat × List UInt8 // i < x.1 ∧ x.1 ≤ s.length ∧ x.2.length ≤ x.1} => s.length - x.1.1) (fun x env => setV (setV env 5 (.int .i64 x.1.1)) 11 (.slice (.own 2) (byV x.1.2))) (fun x => [[.tip 0], [.tip acc.length], [.tip x.1.2.length]]) (fun x => QR (quoteS x.1.2 (s.drop x.1.1))) ⟨(i + 1, []), by simp; omega⟩ (by simp [s_zero, s_succ, byV]) (by simp) rfl ?_
            intro ⟨(j', tb), hij, hjl, htb⟩ ih3
            dsimp only at hij hjl htb ⊢
            have hft : ∀ x ∈ byV tb, (vcells x).length = 1 := fun x hx => by obtain ⟨y, _, rfl⟩ := List.mem_map.1 hx; rfl
            simp only [vcells] at hft
            have hbl := byV_len tb
            have htc : tb.length + 1 ≤ 70368744177664 := by omega
            have h0 : (0 : Int) ≤ (j' : Int) + 1 := by omega
            by_cases hlt : j' < s.length
            · have hdj : s.drop j' = s[j'] :: s.drop (j' + 1) := List.drop_eq_getElem_cons hlt
              obtain ⟨x, hx⟩ : ∃ m, s[j'] = m := ⟨_, rfl⟩
              have hxx : s[j']? = some x := by rw [List.getElem?_eq_getElem hlt, hx]
              have hnl : ¬ s.length ≤ j' := by omega
              have hwj : IntKind.i64.wrap ((j' : Int) + 1) = (j' : Int) + 1 := wrap_i64 (by omega)
              have hwj2 : IntKind.i64.wrap ((j' : Int) + 1 + 1) = (j' : Int) + 1 + 1 := wrap_i64 (by omega)
              rw [hdj, hx]
              by_cases h39 : x = 39
              · subst h39
                have h39' : ((39 : UInt8).toNat : Int) = 39 := rfl
                cases hr : s.drop (j' + 1) with
                | nil =>
                  have hl : s.length = j' + 1 := by have := congrArg List.length hr; simp at this; omega
                  have hn1 : ¬ (j' : Int) + 1 < s.length := by omega
                  clear ih3
                  rw [quote_end (by simp [pfx]), hQR]
                  have hq : s.length - ([] : List UInt8).length = j' + 1 := by simp [hl]
                  simp only [hq]
                  by_cases h24 : tb.length ≤ 24
                  · have h24' : ¬ (24 : Int) < tb.length := by omega
                    rw [if_pos h24]
                    have ih := ih ⟨(f, j' + 1, acc ++ [⟨4, 0, i, tb⟩]), by show j' + 1 ≤ s.length; omega, by show (acc ++ [_]).length ≤ j' + 1; simp; omega, by show s.length < f + (j' + 1); omega⟩ (by show s.length - (j' + 1) < s.length - j; omega)
                    simp only [List.map_append, List.map_cons, List.map_nil, List.length_append, List.length_singleton, s_zero, s_succ, Tok.enc_eq, Int.natCast_add, Int.natCast_one, Int.cast_ofNat_Int] at ih
                    simp +contextual (maxSteps := 10000000) [i_again, roundEnd, dropT, cleanV, Tryz.f73, Tryz.ti3, Tryz.ti5, Tryz.ti9, Tryz.ti112, Tryz.ti120, Tryz.ti138, hlt, hnl, hx, hxx, hn1, hwj, h24, h24', hbl, bytesOf_byV, hb, hb2, hlm, hf4, ih, Tok.enc_eq]
                  · have h24' : (24 : Int) < tb.length := by omega
                    rw [if_neg h24]
                    simp +contextual (maxSteps := 10000000) [i_again, roundEnd, dropT, cleanV, Tryz.f73, Tryz.ti3, Tryz.ti5, Tryz.ti9, Tryz.ti112, Tryz.ti120, Tryz.ti138, hlt, hnl, hx, hxx, hn1, hwj, h24, h24', hbl, rtoksO, gc, reach, reachFuel, shut, nodup, List.idxOf, List.findIdx, List.findIdx.go, List.range, List.range.loop]
                | cons d r =>
                  have hl : j' + 1 < s.length := by have := congrArg List.length hr; simp at this; omega
                  have hl' : (j' : Int) + 1 < s.length := by omega
                  have hdd : s[j' + 1] = d := by have := List.drop_eq_getElem_cons hl; rw [hr] at this; exact (List.cons.inj this).1.symm
                  have hd2 : s[j' + 1]? = some d := by rw [List.getElem?_eq_getElem hl, hdd]
                  have htn : ((j' : Int) + 1).toNat = j' + 1 := by omega
                  by_cases hd9 : d = 39
                  · subst hd9
                    rw [quote_two]
                    have hr2 : s.drop (j' + 2) = r := by have := List.drop_eq_getElem_cons hl; rw [hr] at this; exact (List.cons.inj this).2.symm
                    have ih3 := ih3 ⟨(j' + 2, tb ++ [39]), by omega, by show j' + 2 ≤ s.length; omega, by show (tb ++ [39]).length ≤ j' + 2; simp; omega⟩ (by show s.length - (j' + 2) < s.length - j'; omega)
                    simp only [hr2, byV_app, List.length_append, List.length_singleton, s_zero, s_succ, Int.natCast_add, Int.natCast_one, Int.cast_ofNat_Int, h39'] at ih3
                    rw [show (j' : Int) + 2 = (j' : Int) + 1 + 1 by omega] at ih3
                    generalize byV tb = xs at *
                    simp +contextual (maxSteps := 10000000) [i_again, roundEnd, dropT, cleanV, Tryz.f73, Tryz.ti3, Tryz.ti5, Tryz.ti9, Tryz.ti112, Tryz.ti120, Tryz.ti138, hlt, hnl, hx, hxx, hl, hl', hdd, hd2, htn, h0, hwj, hwj2, hbl, htc, hft, ih3]
                  · have hd9' : ¬ (d.toNat : Int) = 39 := fun e => hd9 (UInt8.toNat_inj.1 (by have : (39 : UInt8).toNat = 39 := rfl; omega))
                    clear ih3
                    rw [quote_end (by simp [pfx, hd9]), hQR]
                    have hq : s.length - (d :: r).length = j' + 1 := by rw [← hr, List.length_drop]; omega
                    simp only [hq]
                    by_cases h24 : tb.length ≤ 24
                    · have h24' : ¬ (24 : Int) < tb.length := by omega
                      rw [if_pos h24]
                      have ih := ih ⟨(f, j' + 1, acc ++ [⟨4, 0, i, tb⟩]), by show j' + 1 ≤ s.length; omega, by show (acc ++ [_]).length ≤ j' + 1; simp; omega, by show s.length < f + (j' + 1); omega⟩ (by show s.length - (j' + 1) < s.length - j; omega)
                      simp only [List.map_append, List.map_cons, List.map_nil, List.length_append, List.length_singleton, s_zero, s_succ, Tok.enc_eq, Int.natCast_add, Int.natCast_one, Int.cast_ofNat_Int] at ih
                      simp +contextual (maxSteps := 10000000) [i_again, roundEnd, dropT, cleanV, Tryz.f73, Tryz.ti3, Tryz.ti5, Tryz.ti9, Tryz.ti112, Tryz.ti120, Tryz.ti138, hlt, hnl, hx, hxx, hl, hl', hdd, hd2, htn, h0, hd9', hwj, h24, h24', hbl, bytesOf_byV, hb, hb2, hlm, hf4, ih, Tok.enc_eq]
                    · have h24' : (24 : Int) < tb.length := by omega
                      rw [if_neg h24]
                      simp +contextual (maxSteps := 10000000) [i_again, roundEnd, dropT, cleanV, Tryz.f73, Tryz.ti3, Tryz.ti5, Tryz.ti9, Tryz.ti112, Tryz.ti120, Tryz.ti138, hlt, hnl, hx, hxx, hl, hl', hdd, hd2, htn, h0, hd9', hwj, h24, h24', hbl, rtoksO, gc, reach, reachFuel, shut, nodup, List.idxOf, List.findIdx, List.findIdx.go, List.range, List.range.loop]
              · have h39' : ¬ (x.toNat : Int) = 39 := fun e => h39 (UInt8.toNat_inj.1 (by have : (39 : UInt8).toNat = 39 := rfl; omega))
                have ih3 := ih3 ⟨(j' + 1, tb ++ [x]), by omega, by show j' + 1 ≤ s.length; omega, by show (tb ++ [x]).length ≤ j' + 1; simp; omega⟩ (by show s.length - (j' + 1) < s.length - j'; omega)
                simp only [byV_app, List.length_append, List.length_singleton, s_zero, s_succ, Int.natCast_add, Int.natCast_one, Int.cast_ofNat_Int] at ih3
                rw [quote_other h39]
                generalize byV tb = xs at *
                simp +contextual (maxSteps := 10000000) [i_again, roundEnd, dropT, cleanV, Tryz.f73, Tryz.ti3, Tryz.ti5, Tryz.ti9, Tryz.ti112, Tryz.ti120, Tryz.ti138, hlt, hnl, hx, hxx, h39', hwj, hbl, htc, hft, ih3]
            · have hdn : s.drop j' = [] := List.drop_eq_nil_of_le (by omega)
              have hlt' : ¬ (j' : Int) < s.length := by omega
              have hge : (s.length : Int) ≤ j' := by omega
              rw [hdn, hQR]
              simp +contextual (maxSteps := 10000000) [i_again, roundEnd, dropT, cleanV, Tryz.f73, Tryz.ti3, Tryz.ti5, Tryz.ti9, Tryz.ti112, Tryz.ti120, Tryz.ti138, hlt, hlt', hge, quoteS, rtoksO, gc, reach, reachFuel, shut, nodup, List.idxOf, List.findIdx, List.findIdx.go, List.range, List.range.loop]
          · rw [if_neg c2] at hRR
            have h6 : ¬ classS c = 6 := by
              have : (c == 39) = false := by simp [c2]
              rw [this] at hcq
              simpa using hcq.symm
            have hsy := ev_sym s hs i hil
            have hsl := sym_le c (s.drop (i + 1))
            rw [hd] at hsy
            obtain ⟨n, hn⟩ : ∃ n, symS (c :: s.drop (i + 1)) = n := ⟨_, rfl⟩
            rw [hn] at hRR hsy hsl
            rw [← hd, List.length_drop] at hsl
            rw [← hd] at hRR
            by_cases h0 : n = 0
            · rw [if_pos h0] at hRR
              simp only [rtoksO] at hRR
              subst h0
              rw [← hRR]
              by_cases c1a : 1 ≤ classS c
              · have c1b := c1 c1a
                simp +contextual (maxSteps := 10000000) [i_again, roundEnd, dropT, cleanV, Tryz.f73, Tryz.ti3, Tryz.ti5, Tryz.ti9, Tryz.ti112, Tryz.ti120, Tryz.ti138, hil, hc, hcc, hcl, he', hnb, c1a, c1b, h6, hsy, gc, reach, reachFuel, shut, nodup, List.idxOf, List.findIdx, List.findIdx.go, List.range, List.range.loop]
              · simp +contextual (maxSteps := 10000000) [i_again, roundEnd, dropT, cleanV, Tryz.f73, Tryz.ti3, Tryz.ti5, Tryz.ti9, Tryz.ti112, Tryz.ti120, Tryz.ti138, hil, hc, hcc, hcl, he', hnb, c1a, h6, hsy, gc, reach, reachFuel, shut, nodup, List.idxOf, List.findIdx, List.findIdx.go, List.range, List.range.loop]
            · rw [if_neg h0] at hRR
              have hq : s.length - ((s.drop i).drop n).length = i + n := by rw [List.length_drop, List.length_drop]; omega
              simp only [hq] at hRR
              rw [if_neg (by simp)] at hRR
              have h0' : ¬ (n : Int) = 0 := by omega
              have hwn : IntKind.i64.wrap ((i : Int) + n) = (i : Int) + n := wrap_i64 (by omega)
              have hww : (s.take (i + n)).drop i = (s.drop i).take n := by rw [List.drop_take]; congr 1; omega
              have hp0 : (0 : Int) ≤ (i : Int) + n := by omega
              have hp1 : (i : Int) ≤ (i : Int) + n := by omega
              have hp2 : ((i : Int) + n).toNat = i + n := by omega
              have hp3 : i + n ≤ s.length := by omega
              have ih := ih ⟨(f, i + n, acc ++ [⟨5, 0, i, (s.drop i).take n⟩]), by show i + n ≤ s.length; omega, by show (acc ++ [_]).length ≤ i + n; simp; omega, by show s.length < f + (i + n); omega⟩ (by show s.length - (i + n) < s.length - j; omega)
              simp only [hRR] at ih
              simp only [List.map_append, List.map_cons, List.map_nil, List.length_append, List.length_singleton, s_zero, s_succ, Tok.enc_eq, Int.natCast_add, Int.natCast_one, Int.cast_ofNat_Int] at ih
              rw [← hww] at ih
              by_cases c1a : 1 ≤ classS c
              · have c1b := c1 c1a
                simp +contextual (maxSteps := 10000000) [i_again, roundEnd, dropT, cleanV, Tryz.f73, Tryz.ti3, Tryz.ti5, Tryz.ti9, Tryz.ti112, Tryz.ti120, Tryz.ti138, hil, hc, hcc, hcl, he', hnb, c1a, c1b, h6, hsy, h0, h0', hwn, hp0, hp1, hp2, hp3, hb, hb2, hlm, hf4, ih, Tok.enc_eq]
              · simp +contextual (maxSteps := 10000000) [i_again, roundEnd, dropT, cleanV, Tryz.f73, Tryz.ti3, Tryz.ti5, Tryz.ti9, Tryz.ti112, Tryz.ti120, Tryz.ti138, hil, hc, hcc, hcl, he', hnb, c1a, h6, hsy, h0, h0', hwn, hp0, hp1, hp2, hp3, hb, hb2, hlm, hf4, ih, Tok.enc_eq]
end Go.Abs

