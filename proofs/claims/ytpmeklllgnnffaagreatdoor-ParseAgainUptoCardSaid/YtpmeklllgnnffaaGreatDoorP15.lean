/- What PlainExpr, PlainExprs, deepExpr and SizeExpr come to. -/
import Derived.Test.YtpmeklllgnnffaaGreatDoorP14
import Derived.Test.YtpmeklllgnnffaaGreatDoorP11
import Derived.Test.YtpmeklllgnnffaaGreatDoorP10
import Derived.Lib.ItoaLen
import Derived.Lib.ItoaMem
set_option linter.unusedSimpArgs false
set_option linter.unusedVariables false

namespace Go.Abs
set_option linter.unusedSimpArgs false
set_option linter.unusedVariables false
open Go Go.Proofs
attribute [local simp] i_nil i_blk i_skip i_ret i_exit i_seq i_block i_cond i_region' i_ops_nil i_ops i_drawn' k_none k_0 k_1 k_2 k_3 k_4 k_5 d_in a_nil a_cons alt1 h_nil h_one h_two z_nil z_cons z_cells zeqL zeq q_alloc q_some nxtN i_drh d_hi i_drw_nil i_drw u_nil u_code u_ops u_drw u_lp u_again u_exit u_ret u_panic c_bool o_some o_val o_panic d_some d_val d_panic w_none w_fast wantG q_nil q_zero q_succ t_zero t_succ g_zero g_succ s_zero s_succ s_some s_none v_tmp v_const v_func f_quiet gc_none gc_pure wrap_i64 p_move p_assign p_pick p_alloc p_box p_build p_buildSlice p_load p_store p_nilCheck p_binOp n_tmp n_int n_bool n_str n_ptr n_fun n_iface nilCmp p_unOp p_convert p_makeSlice p_makeInterface p_makeFunc p_slice p_fieldAddr p_field p_indexAddr p_index p_extract p_callv p_callb p_panic quiet_val new_val e_assign e_call e_load e_store e_alloc e_box e_move e_pick e_build e_buildSlice e_nilCheck e_binOp e_unOp e_convert e_makeSlice e_makeInterface e_makeFunc e_slice e_fieldAddr e_field e_indexAddr e_index e_extract e_panic callD fpRead adoptZ fulls adopt adoptL ofValue ofScalar binOpV unOpV intBin strBin eqRes veq veqF eqDepth val? finish resL r_tmp r_cell normL normTop tipIs refsL refs ownRefs single frz frzL ren renL renOwn callOp doCall backR writeBack builtinV loadV storeV storeW iceT cellsAt takeV D.isAgg overlay vcells cellOk fieldAddrV indexAddrV fieldV partV indexV buildV fillV buildSliceV litElems appendV appElems elemOk convertV convV winStr makeSliceV sliceV natOf
attribute [local simp ↓] brB_true brB_false brB_dec brB_not brB_and brB_or brB_beq brB_bne
theorem xenc_cells (e : Xp) : (vcells e.enc).length = 7 := by cases e; rw [xenc_mk]; rfl
theorem ev_plains_of (l : List Xp) (hl : l.length ≤ 1048576) (ihk : ∀ m ∈ l, EV 22 [m.enc] [] = some (.ret m.enc, [])) :
    EV 38 [.slice .froz (l.map Xp.enc)] [] = some (.ret (.slice (.own 0) (l.map Xp.enc)), [[.tip l.length]]) := by
  rw [EV_mki rfl Tryz.func38 rfl (by kernel_rfl) rfl]
  simp [Tryz.f38, Tryz.ti3, Tryz.ti9, Tryz.ti23, Tryz.ti31, Tryz.ti44, Tryz.ti46, Tryz.ti50]
  rw [i_loop (ts := [9, 10, 11, 5, 12, 13, 14, 15, 16, 17])]
  rotate_left
  · kernel_rfl
  refine i_at (fun i : {i : Nat // i ≤ l.length} => l.length - i.1) (fun i env => setV (setV env 8 (.int .i64 i.1)) 3 (.slice (.own 1) ((l.take i.1).map Xp.enc))) (fun i => [[.tip 0], [.tip i.1]]) (fun _ => some (.ret (.slice (.own 0) (l.map Xp.enc)), [[.tip l.length]])) ⟨0, by omega⟩ (by simp [s_zero, s_succ]) rfl rfl ?_
  intro ⟨i, hil⟩ ih
  dsimp only at hil ⊢
  by_cases hi : i < l.length
  · have ih := ih ⟨i + 1, by omega⟩ (by simp only; omega)
    have hwi : IntKind.i64.wrap ((i : Int) + 1) = (i : Int) + 1 := wrap_i64 (by omega)
    have hlen : ((l.take i).map Xp.enc).length = i := by simp; omega
    have hc := ihk l[i] (List.getElem_mem hi)
    obtain ⟨t, hk⟩ : ∃ m, l[i] = m := ⟨_, rfl⟩
    have ht : l.take (i + 1) = l.take i ++ [t] := by rw [List.take_succ_eq_append_getElem hi, hk]
    have hf : ∀ x ∈ (l.take i).map Xp.enc, (vcells x).length = 7 := fun x hx => by obtain ⟨y, _, rfl⟩ := List.mem_map.1 hx; exact xenc_cells y
    rw [hk] at hc
    obtain ⟨op, v, var, col, kids⟩ := t
    simp only at ih
    rw [ht, List.map_append] at ih
    generalize (l.take i).map Xp.enc = xs at *
    rw [xenc_mk] at hc
    simp only [s_zero, s_succ, Int.natCast_add, Int.natCast_one, Int.cast_ofNat_Int, List.map_cons, List.map_nil, xenc_mk] at ih
    simp only [vcells] at hf
    have hbb : (i + 1) * 112 ≤ 70368744177664 := by omega
    have hbb' : (i + 1) * 104 ≤ 70368744177664 := by omega
    have hbc : i + 1 ≤ 70368744177664 := by omega
    simp +contextual [i_again, roundEnd, dropT, cleanV, Tryz.f38, Tryz.ti3, Tryz.ti9, Tryz.ti23, Tryz.ti31, Tryz.ti44, Tryz.ti46, Tryz.ti50, hi, hk, xenc_mk, hwi, hlen, hbb, hbb', hbc, hf, ih, hc]
  · have ht : l.take i = l := List.take_of_length_le (by omega)
    obtain rfl : i = l.length := by omega
    simp +contextual [i_again, roundEnd, dropT, cleanV, Tryz.f38, Tryz.ti3, Tryz.ti9, Tryz.ti23, Tryz.ti31, Tryz.ti44, Tryz.ti46, Tryz.ti50, hi, ht]
    simp [gc, reach, reachFuel, shut, nodup, List.idxOf, List.findIdx, List.findIdx.go, List.range, List.range.loop]
mutual
theorem ev_plainx : ∀ e : Xp, e.ok → EV 22 [e.enc] [] = some (.ret e.enc, [])
  | .mk op v var col kids, h => by
    have hp := ev_plains_of kids h.2.2.2.2.1 (ev_plain_all kids h.2.2.2.2.2)
    rw [EV_mki rfl Tryz.func22 rfl (by kernel_rfl) rfl, xenc_mk]
    simp [Tryz.f22, Tryz.ti3, Tryz.ti9, Tryz.ti23, Tryz.ti31, Tryz.ti44, Tryz.ti46, Tryz.ti50, hp, gc, reach, reachFuel, shut, nodup, List.idxOf, List.findIdx, List.findIdx.go, List.range, List.range.loop] <;> first | (refine panQ_of ?_; decide +kernel) | (change _ = true; decide +kernel) | kernel_rfl | (refine ⟨?_, ?_⟩ <;> first | (change _ = true; decide +kernel) | kernel_rfl)
theorem ev_plain_all : ∀ l : List Xp, Xp.oks l → ∀ m ∈ l, EV 22 [m.enc] [] = some (.ret m.enc, [])
  | [], _, m, hm => by cases hm
  | e :: l, h, m, hm => by
    rcases List.mem_cons.1 hm with hm | hm
    · rw [hm]; exact ev_plainx e h.1
    · exact ev_plain_all l h.2 m hm
end
theorem ev_plainxs (l : List Xp) (hl : l.length ≤ 1048576) (h : Xp.oks l) : EV 38 [.slice .froz (l.map Xp.enc)] [] = some (.ret (.slice (.own 0) (l.map Xp.enc)), [[.tip l.length]]) := ev_plains_of l hl (ev_plain_all l h)
theorem ev_deep_of (n : Nat) (op : List UInt8) (v : Val) (var col : List UInt8) (l : List Xp) (hn : n < 1000) (hl : l.length ≤ 1048576) (ihk : ∀ m ∈ l, EV 20 [m.enc, .int .i64 n] [] = some (.ret (.bool (deepE n m)), [])) :
    EV 20 [(Xp.mk op v var col l).enc, .int .i64 (n + 1 : Nat)] [] = some (.ret (.bool (l.any (deepE n))), []) := by
  have hn0 : ¬ ((n : Int) + 1 = 0) := by omega
  have hw : IntKind.i64.wrap (n : Int) = n := wrap_i64 (by omega)
  rw [EV_mki rfl Tryz.func20 rfl (by kernel_rfl) rfl, xenc_mk]
  simp [Tryz.f20, Tryz.ti3, Tryz.ti9, Tryz.ti23, Tryz.ti44, Tryz.ti46, hn0]
  rw [i_loop (ts := [13, 14, 15, 6, 16, 17, 18, 19, 20])]
  rotate_left
  · kernel_rfl
  refine i_at (fun i : {i : Nat // i ≤ l.length} => l.length - i.1) (fun i env => setV env 12 (.int .i64 i.1)) (fun i => _) (fun i => some (.ret (.bool ((l.drop i.1).any (deepE n))), [])) ⟨0, by omega⟩ (by simp [s_zero, s_succ]) rfl (by simp) ?_
  intro ⟨i, hil⟩ ih
  dsimp only at hil ⊢
  by_cases hi : i < l.length
  · have ih := ih ⟨i + 1, by omega⟩ (by simp only; omega)
    have hwi : IntKind.i64.wrap ((i : Int) + 1) = (i : Int) + 1 := wrap_i64 (by omega)
    have hc := ihk l[i] (List.getElem_mem hi)
    obtain ⟨t, hk⟩ : ∃ m, l[i] = m := ⟨_, rfl⟩
    rw [List.drop_eq_getElem_cons hi, List.any_cons, hk]
    rw [hk] at hc
    obtain ⟨op', v', var', col', kids'⟩ := t
    rw [xenc_mk] at hc
    simp only [s_zero, s_succ, Int.natCast_add, Int.natCast_one, Int.cast_ofNat_Int] at ih
    cases hd : deepE n (.mk op' v' var' col' kids') <;> rw [hd] at hc <;> simp [i_again, roundEnd, dropT, cleanV, Tryz.f20, Tryz.ti3, Tryz.ti9, Tryz.ti23, Tryz.ti44, Tryz.ti46, hi, hk, xenc_mk, hwi, hw, ih, hc]
  · rw [List.drop_of_length_le (by omega)]
    simp [i_again, roundEnd, dropT, cleanV, Tryz.f20, Tryz.ti3, Tryz.ti9, Tryz.ti23, Tryz.ti44, Tryz.ti46, hi]
theorem ev_deepx : ∀ (n : Nat) (e : Xp), e.ok → n < 1000 → EV 20 [e.enc, .int .i64 n] [] = some (.ret (.bool (deepE n e)), [])
  | 0, .mk op v var col kids, h, hn => by
    rw [EV_mki rfl Tryz.func20 rfl (by kernel_rfl) rfl, xenc_mk]
    simp [Tryz.f20, Tryz.ti3, Tryz.ti9, Tryz.ti23, Tryz.ti44, Tryz.ti46, deepE]
  | n + 1, .mk op v var col kids, h, hn => by
    have := ev_deep_of n op v var col kids (by omega) h.2.2.2.2.1 (fun m hm => ev_deepx n m ((xoks_iff kids).1 h.2.2.2.2.2 m hm) (by omega))
    rw [this]; rfl
end Go.Abs
namespace Go.Abs
open Go
theorem dig_int (c : UInt8) : isDig c = (decide ((48 : Int) ≤ c.toNat) && decide ((c.toNat : Int) ≤ 57)) := by
  have e1 : (48 : UInt8).toNat = 48 := rfl
  have e2 : (57 : UInt8).toNat = 57 := rfl
  rw [isDig, Bool.eq_iff_iff]
  simp only [Bool.and_eq_true, decide_eq_true_eq, UInt8.le_iff_toNat_le, e1, e2]
  omega
theorem cap_int (c : UInt8) : isCap c = (decide ((65 : Int) ≤ c.toNat) && decide ((c.toNat : Int) ≤ 90)) := by
  have e1 : (65 : UInt8).toNat = 65 := rfl
  have e2 : (90 : UInt8).toNat = 90 := rfl
  rw [isCap, Bool.eq_iff_iff]
  simp only [Bool.and_eq_true, decide_eq_true_eq, UInt8.le_iff_toNat_le, e1, e2]
  omega
theorem low_int (c : UInt8) : isLow c = (decide ((97 : Int) ≤ c.toNat) && decide ((c.toNat : Int) ≤ 122)) := by
  have e1 : (97 : UInt8).toNat = 97 := rfl
  have e2 : (122 : UInt8).toNat = 122 := rfl
  rw [isLow, Bool.eq_iff_iff]
  simp only [Bool.and_eq_true, decide_eq_true_eq, UInt8.le_iff_toNat_le, e1, e2]
  omega
theorem byte_int (c : UInt8) (k : Nat) (hk : k < 256) : (c == UInt8.ofNat k) = decide ((c.toNat : Int) = k) := by
  have e : (UInt8.ofNat k).toNat = k := by rw [UInt8.toNat_ofNat']; omega
  rw [Bool.eq_iff_iff]
  simp only [beq_iff_eq, decide_eq_true_eq]
  constructor
  · rintro rfl; rw [e]
  · intro h; exact UInt8.toNat_inj.1 (by rw [e]; omega)
theorem under_int (c : UInt8) : (c == 95) = decide ((c.toNat : Int) = 95) := byte_int c 95 (by omega)
theorem blk_int (c : UInt8) : isBlk c = (decide ((c.toNat : Int) = 32) || decide ((c.toNat : Int) = 9) || decide ((c.toNat : Int) = 10)) := by
  rw [isBlk]
  have h1 : (c == 32) = decide ((c.toNat : Int) = 32) := byte_int c 32 (by omega)
  have h2 : (c == 9) = decide ((c.toNat : Int) = 9) := byte_int c 9 (by omega)
  have h3 : (c == 10) = decide ((c.toNat : Int) = 10) := byte_int c 10 (by omega)
  rw [h1, h2, h3]
end Go.Abs
namespace Go.Abs
set_option linter.unusedSimpArgs false
set_option linter.unusedVariables false
open Go Go.Proofs
attribute [local simp] i_nil i_blk i_skip i_ret i_exit i_seq i_block i_cond i_region' i_ops_nil i_ops i_drawn' k_none k_0 k_1 k_2 k_3 k_4 k_5 d_in a_nil a_cons alt1 h_nil h_one h_two z_nil z_cons z_cells zeqL zeq q_alloc q_some nxtN i_drh d_hi i_drw_nil i_drw u_nil u_code u_ops u_drw u_lp u_again u_exit u_ret u_panic c_bool o_some o_val o_panic d_some d_val d_panic w_none w_fast wantG q_nil q_zero q_succ t_zero t_succ g_zero g_succ s_zero s_succ s_some s_none v_tmp v_const v_func f_quiet gc_none gc_pure wrap_i64 p_move p_assign p_pick p_alloc p_box p_build p_buildSlice p_load p_store p_nilCheck p_binOp n_tmp n_int n_bool n_str n_ptr n_fun n_iface nilCmp p_unOp p_convert p_makeSlice p_makeInterface p_makeFunc p_slice p_fieldAddr p_field p_indexAddr p_index p_extract p_callv p_callb p_panic quiet_val new_val e_assign e_call e_load e_store e_alloc e_box e_move e_pick e_build e_buildSlice e_nilCheck e_binOp e_unOp e_convert e_makeSlice e_makeInterface e_makeFunc e_slice e_fieldAddr e_field e_indexAddr e_index e_extract e_panic callD fpRead adoptZ fulls adopt adoptL ofValue ofScalar binOpV unOpV intBin strBin eqRes veq veqF eqDepth val? finish resL r_tmp r_cell normL normTop tipIs refsL refs ownRefs single frz frzL ren renL renOwn callOp doCall backR writeBack builtinV loadV storeV storeW iceT cellsAt takeV D.isAgg overlay vcells cellOk fieldAddrV indexAddrV fieldV partV indexV buildV fillV buildSliceV litElems appendV appElems elemOk convertV convV winStr makeSliceV sliceV natOf
attribute [local simp ↓] brB_true brB_false brB_dec brB_not brB_and brB_or brB_beq brB_bne
def nameF (s : List UInt8) (i : Nat) : Bool := if i = 0 then nameS s else (s.drop i).all (fun c => isLow c || isDig c || c == 95) && decide (s.length ≤ 16)
theorem nameF_step (s : List UInt8) (i : Nat) (hi : i < s.length) : nameF s i = ((isLow s[i] || (decide (¬ i = 0) && (isDig s[i] || s[i] == 95))) && nameF s (i + 1)) := by
  unfold nameF
  by_cases h : i = 0
  · subst h
    cases s with
    | nil => simp at hi
    | cons c r => simp [nameS, Bool.and_assoc]
  · have hd : s.drop i = s[i] :: s.drop (i + 1) := List.drop_eq_getElem_cons hi
    rw [if_neg h, if_neg (by omega), hd, List.all_cons]
    simp [h, Bool.and_assoc, Bool.or_assoc]
theorem nameF_end (s : List UInt8) (i : Nat) (hi : ¬ i < s.length) (hle : i ≤ s.length) : nameF s i = (decide (¬ s = []) && decide (s.length ≤ 16)) := by
  unfold nameF
  have hd : s.drop i = [] := List.drop_eq_nil_of_le (by omega)
  by_cases h : i = 0
  · have : s = [] := List.eq_nil_of_length_eq_zero (by omega)
    subst this
    simp [h, nameS]
  · have : ¬ s = [] := by rintro rfl; simp at hle; omega
    simp [h, hd, this]
set_option maxRecDepth 100000 in
theorem ev_name (s : List UInt8) (hs : s.length ≤ 4611686018427387904) : EV 40 [.str s] [] = some (.ret (.bool (nameS s)), []) := by
  rw [EV_mki rfl Tryz.func40 rfl (by kernel_rfl) rfl]
  simp [Tryz.f40, Tryz.ti3, Tryz.ti5, Tryz.ti9]
  rw [i_loop (ts := [5, 6, 7, 8, 11, 12, 13, 14, 15, 16, 17, 18, 19, 20, 4, 21, 22, 23, 24, 25, 26, 27, 28, 29, 30, 31, 32, 33, 34, 35, 36, 37, 38, 39, 40, 41, 42, 43, 44, 9, 10])]
  rotate_left
  · kernel_rfl
  refine i_at (fun i : {i : Nat // i ≤ s.length} => s.length - i.1) (fun i env => setV env 3 (.int .i64 i.1)) (fun _ => _) (fun i => some (.ret (.bool (nameF s i.1)), [])) ⟨0, by omega⟩ (by simp [s_zero, s_succ]) rfl (by simp [nameF]) ?_
  intro ⟨i, hil⟩ ih
  dsimp only
  by_cases hi : i < s.length
  · have ih := ih ⟨i + 1, by omega⟩ (by simp only; omega)
    have hwi : IntKind.i64.wrap ((i : Int) + 1) = (i : Int) + 1 := wrap_i64 (by omega)
    rw [nameF_step s i hi]
    obtain ⟨c, hk⟩ : ∃ m, s[i] = m := ⟨_, rfl⟩
    have hkk : s[i]? = some c := by rw [List.getElem?_eq_getElem hi, hk]
    simp only [s_zero, s_succ, Int.natCast_add, Int.natCast_one, Int.cast_ofNat_Int] at ih
    rw [hk, low_int, dig_int, under_int]
    by_cases h1 : (97 : Int) ≤ c.toNat
    · have h3 : ¬ (c.toNat : Int) = 95 := by omega
      have h4 : ¬ (c.toNat : Int) < 48 := by omega
      have h5 : (57 : Int) < c.toNat := by omega
      have h6 : ¬ (c.toNat : Int) ≤ 57 := by omega
      by_cases h2 : (c.toNat : Int) ≤ 122
      · simp [i_again, roundEnd, dropT, cleanV, Tryz.f40, Tryz.ti3, Tryz.ti5, Tryz.ti9, hi, hk, hkk, hwi, ih, h1, h2]
      · by_cases h0 : i = 0
        · subst h0
          have hne : ¬ s = [] := by rintro rfl; simp at hi
          simp [i_again, roundEnd, dropT, cleanV, Tryz.f40, Tryz.ti3, Tryz.ti5, Tryz.ti9, hi, hk, hkk, hne, h1, h2]
        · simp [i_again, roundEnd, dropT, cleanV, Tryz.f40, Tryz.ti3, Tryz.ti5, Tryz.ti9, hi, hk, hkk, hwi, ih, h0, h1, h2, h3, h4, h5, h6]
    · by_cases h0 : i = 0
      · subst h0
        have hne : ¬ s = [] := by rintro rfl; simp at hi
        simp [i_again, roundEnd, dropT, cleanV, Tryz.f40, Tryz.ti3, Tryz.ti5, Tryz.ti9, hi, hk, hkk, hne, h1]
      · by_cases h3 : (c.toNat : Int) = 95
        · simp [i_again, roundEnd, dropT, cleanV, Tryz.f40, Tryz.ti3, Tryz.ti5, Tryz.ti9, hi, hk, hkk, hwi, ih, h0, h1, h3]
        · by_cases h4 : (c.toNat : Int) < 48
          · have h7 : ¬ (48 : Int) ≤ c.toNat := by omega
            simp [i_again, roundEnd, dropT, cleanV, Tryz.f40, Tryz.ti3, Tryz.ti5, Tryz.ti9, hi, hk, hkk, hwi, ih, h0, h1, h3, h4, h7]
          · have h7 : (48 : Int) ≤ c.toNat := by omega
            by_cases h5 : (57 : Int) < c.toNat
            · have h6 : ¬ (c.toNat : Int) ≤ 57 := by omega
              simp [i_again, roundEnd, dropT, cleanV, Tryz.f40, Tryz.ti3, Tryz.ti5, Tryz.ti9, hi, hk, hkk, hwi, ih, h0, h1, h3, h4, h5, h6, h7]
            · have h6 : (c.toNat : Int) ≤ 57 := by omega
              simp [i_again, roundEnd, dropT, cleanV, Tryz.f40, Tryz.ti3, Tryz.ti5, Tryz.ti9, hi, hk, hkk, hwi, ih, h0, h1, h3, h4, h5, h6, h7]
  · rw [nameF_end s i hi hil]
    by_cases h0 : s = []
    · subst h0
      obtain rfl : i = 0 := by simpa using hil
      simp [i_again, roundEnd, dropT, cleanV, Tryz.f40, Tryz.ti3, Tryz.ti5, Tryz.ti9]
    · by_cases h1 : s.length ≤ 16
      · have h1' : (s.length : Int) ≤ 16 := by omega
        simp [i_again, roundEnd, dropT, cleanV, Tryz.f40, Tryz.ti3, Tryz.ti5, Tryz.ti9, hi, h0, h1, h1']
      · have h1' : ¬ (s.length : Int) ≤ 16 := by omega
        simp [i_again, roundEnd, dropT, cleanV, Tryz.f40, Tryz.ti3, Tryz.ti5, Tryz.ti9, hi, h0, h1, h1']
theorem ev_right (k n : Int) (s : List UInt8) : EV 95 [.agg [.int .i64 k, .int .i64 n, .str s]] [] = some (.ret (.bool (rightS ⟨k, n, s⟩)), []) := by
  rw [EV_mki rfl Tryz.func95 rfl (by kernel_rfl) rfl]
  simp +contextual [Tryz.f95, Tryz.ti3, Tryz.ti9, Tryz.ti44, rightS]
  try simp only [brP, dite_eq_ite]
  repeat' split
  all_goals simp_all
  all_goals omega
theorem ev_arity (op : List UInt8) : EV 94 [.str op] [] = some (.ret (.int .i64 (arityS op)), []) := by
  rw [EV_mki rfl Tryz.func94 rfl (by kernel_rfl) rfl]
  by_cases h0 : op = oValue
  · subst h0; simp [Tryz.f94, Tryz.ti9, arityS, twoOps, oValue, oColumn, oNeg, oNot, oNull, oAnd, oOr]
  by_cases h1 : op = oColumn
  · subst h1; simp [Tryz.f94, Tryz.ti9, arityS, twoOps, oValue, oColumn, oNeg, oNot, oNull, oAnd, oOr]
  by_cases h2 : op = oNeg
  · subst h2; simp [Tryz.f94, Tryz.ti9, arityS, twoOps, oValue, oColumn, oNeg, oNot, oNull, oAnd, oOr]
  by_cases h3 : op = oNot
  · subst h3; simp [Tryz.f94, Tryz.ti9, arityS, twoOps, oValue, oColumn, oNeg, oNot, oNull, oAnd, oOr]
  by_cases h4 : op = oNull
  · subst h4; simp [Tryz.f94, Tryz.ti9, arityS, twoOps, oValue, oColumn, oNeg, oNot, oNull, oAnd, oOr]
  by_cases h5 : op = [43]
  · subst h5; simp [Tryz.f94, Tryz.ti9, arityS, twoOps, oValue, oColumn, oNeg, oNot, oNull, oAnd, oOr]
  by_cases h6 : op = [45]
  · subst h6; simp [Tryz.f94, Tryz.ti9, arityS, twoOps, oValue, oColumn, oNeg, oNot, oNull, oAnd, oOr]
  by_cases h7 : op = [42]
  · subst h7; simp [Tryz.f94, Tryz.ti9, arityS, twoOps, oValue, oColumn, oNeg, oNot, oNull, oAnd, oOr]
  by_cases h8 : op = [61]
  · subst h8; simp [Tryz.f94, Tryz.ti9, arityS, twoOps, oValue, oColumn, oNeg, oNot, oNull, oAnd, oOr]
  by_cases h9 : op = [60, 62]
  · subst h9; simp [Tryz.f94, Tryz.ti9, arityS, twoOps, oValue, oColumn, oNeg, oNot, oNull, oAnd, oOr]
  by_cases h10 : op = [60]
  · subst h10; simp [Tryz.f94, Tryz.ti9, arityS, twoOps, oValue, oColumn, oNeg, oNot, oNull, oAnd, oOr]
  by_cases h11 : op = [60, 61]
  · subst h11; simp [Tryz.f94, Tryz.ti9, arityS, twoOps, oValue, oColumn, oNeg, oNot, oNull, oAnd, oOr]
  by_cases h12 : op = [62]
  · subst h12; simp [Tryz.f94, Tryz.ti9, arityS, twoOps, oValue, oColumn, oNeg, oNot, oNull, oAnd, oOr]
  by_cases h13 : op = [62, 61]
  · subst h13; simp [Tryz.f94, Tryz.ti9, arityS, twoOps, oValue, oColumn, oNeg, oNot, oNull, oAnd, oOr]
  by_cases h14 : op = oAnd
  · subst h14; simp [Tryz.f94, Tryz.ti9, arityS, twoOps, oValue, oColumn, oNeg, oNot, oNull, oAnd, oOr]
  by_cases h15 : op = oOr
  · subst h15; simp [Tryz.f94, Tryz.ti9, arityS, twoOps, oValue, oColumn, oNeg, oNot, oNull, oAnd, oOr]
  simp only [oValue, oColumn, oNeg, oNot, oNull, oAnd, oOr] at h0 h1 h2 h3 h4 h14 h15
  simp [Tryz.f94, Tryz.ti9, arityS, twoOps, oValue, oColumn, oNeg, oNot, oNull, oAnd, oOr, h0, h1, h2, h3, h4, h5, h6, h7, h8, h9, h10, h11, h12, h13, h14, h15]
section
variable (d : Nat) (op : List UInt8) (vk vn : Int) (vs : List UInt8) (var col : List UInt8) (l : List Xp) (hd : d < 1000)
include hd
set_option maxRecDepth 100000 in
set_option maxHeartbeats 4000000 in
theorem ev_rx_value (hA : (l.length : Int) = arityS oValue) : EV 67 [(Xp.mk oValue ⟨vk, vn, vs⟩ var col l).enc, .int .i64 (d + 1 : Nat)] [] = some (.ret (.bool (rightE (d + 1) (Xp.mk oValue ⟨vk, vn, vs⟩ var col l))), []) := by
  have hd0 : ¬ ((d : Int) + 1 = 0) := by omega
  have hr := ev_right vk vn vs
  rw [EV_mki rfl Tryz.func67 rfl (by kernel_rfl) rfl, xenc_mk]
  simp only [rightE]
  have hA' : (l.length : Int) = arityS [118, 97, 108, 117, 101] := hA
  by_cases hx : var = []
  · by_cases hy : col = []
    · cases hb : rightS ⟨vk, vn, vs⟩ <;> rw [hb] at hr
      · simp [Tryz.f67, Tryz.ti3, Tryz.ti9, Tryz.ti23, Tryz.ti44, Tryz.ti46, hd0, ev_arity, hA', hr, hb, oValue, oColumn, hx, hy] <;> first | (refine panQ_of ?_; decide +kernel) | (change _ = true; decide +kernel) | kernel_rfl | (refine ⟨?_, ?_⟩ <;> first | (change _ = true; decide +kernel) | kernel_rfl)
      · by_cases hk : vk = 2
        · subst hk
          by_cases hn : 0 ≤ vn <;> simp [Tryz.f67, Tryz.ti3, Tryz.ti9, Tryz.ti23, Tryz.ti44, Tryz.ti46, hd0, ev_arity, hA', hr, hb, oValue, oColumn, hx, hy, hn] <;> first | (refine panQ_of ?_; decide +kernel) | (change _ = true; decide +kernel) | kernel_rfl | (refine ⟨?_, ?_⟩ <;> first | (change _ = true; decide +kernel) | kernel_rfl)
        · simp [Tryz.f67, Tryz.ti3, Tryz.ti9, Tryz.ti23, Tryz.ti44, Tryz.ti46, hd0, ev_arity, hA', hr, hb, oValue, oColumn, hx, hy, hk] <;> first | (refine panQ_of ?_; decide +kernel) | (change _ = true; decide +kernel) | kernel_rfl | (refine ⟨?_, ?_⟩ <;> first | (change _ = true; decide +kernel) | kernel_rfl)
    · simp [Tryz.f67, Tryz.ti3, Tryz.ti9, Tryz.ti23, Tryz.ti44, Tryz.ti46, hd0, ev_arity, hA', hr, oValue, oColumn, hx, hy] <;> first | (refine panQ_of ?_; decide +kernel) | (change _ = true; decide +kernel) | kernel_rfl | (refine ⟨?_, ?_⟩ <;> first | (change _ = true; decide +kernel) | kernel_rfl)
  · simp [Tryz.f67, Tryz.ti3, Tryz.ti9, Tryz.ti23, Tryz.ti44, Tryz.ti46, hd0, ev_arity, hA', hr, oValue, oColumn, hx] <;> first | (refine panQ_of ?_; decide +kernel) | (change _ = true; decide +kernel) | kernel_rfl | (refine ⟨?_, ?_⟩ <;> first | (change _ = true; decide +kernel) | kernel_rfl)
set_option maxRecDepth 100000 in
set_option maxHeartbeats 4000000 in
theorem ev_rx_column (hv : var.length ≤ 1048576) (hc : col.length ≤ 1048576) (hA : (l.length : Int) = arityS oColumn) : EV 67 [(Xp.mk oColumn ⟨0, 0, []⟩ var col l).enc, .int .i64 (d + 1 : Nat)] [] = some (.ret (.bool (rightE (d + 1) (Xp.mk oColumn ⟨0, 0, []⟩ var col l))), []) := by
  have hd0 : ¬ ((d : Int) + 1 = 0) := by omega
  have hn1 := ev_name var (by omega)
  have hn2 := ev_name col (by omega)
  rw [EV_mki rfl Tryz.func67 rfl (by kernel_rfl) rfl, xenc_mk]
  simp only [rightE]
  have hA' : (l.length : Int) = arityS [99, 111, 108, 117, 109, 110] := hA
  cases h2 : nameS col <;> rw [h2] at hn2
  · simp [Tryz.f67, Tryz.ti3, Tryz.ti9, Tryz.ti23, Tryz.ti44, Tryz.ti46, hd0, ev_arity, hA', hn2, oValue, oColumn, Val.zero] <;> first | (refine panQ_of ?_; decide +kernel) | (change _ = true; decide +kernel) | kernel_rfl | (refine ⟨?_, ?_⟩ <;> first | (change _ = true; decide +kernel) | kernel_rfl)
  · by_cases hx : var = []
    · subst hx; simp [Tryz.f67, Tryz.ti3, Tryz.ti9, Tryz.ti23, Tryz.ti44, Tryz.ti46, hd0, ev_arity, hA', hn2, oValue, oColumn, Val.zero] <;> first | (refine panQ_of ?_; decide +kernel) | (change _ = true; decide +kernel) | kernel_rfl | (refine ⟨?_, ?_⟩ <;> first | (change _ = true; decide +kernel) | kernel_rfl)
    · cases h1 : nameS var <;> rw [h1] at hn1 <;> simp [Tryz.f67, Tryz.ti3, Tryz.ti9, Tryz.ti23, Tryz.ti44, Tryz.ti46, hd0, ev_arity, hA', hn1, hn2, oValue, oColumn, hx, Val.zero] <;> first | (refine panQ_of ?_; decide +kernel) | (change _ = true; decide +kernel) | kernel_rfl | (refine ⟨?_, ?_⟩ <;> first | (change _ = true; decide +kernel) | kernel_rfl)
set_option maxRecDepth 100000 in
set_option maxHeartbeats 4000000 in
theorem ev_rx_nonzero (hA : (l.length : Int) = arityS op) (hV : ¬ op = oValue) (hz : ¬ (vk = 0 ∧ vn = 0 ∧ vs = [])) : EV 67 [(Xp.mk op ⟨vk, vn, vs⟩ var col l).enc, .int .i64 (d + 1 : Nat)] [] = some (.ret (.bool (rightE (d + 1) (Xp.mk op ⟨vk, vn, vs⟩ var col l))), []) := by
  have hd0 : ¬ ((d : Int) + 1 = 0) := by omega
  rw [EV_mki rfl Tryz.func67 rfl (by kernel_rfl) rfl, xenc_mk]
  simp only [rightE]
  have hV' : ¬ op = [118, 97, 108, 117, 101] := hV
  have hz' : (decide ((⟨vk, vn, vs⟩ : Val) = Val.zero)) = false := by simpa [Val.zero] using hz
  have hb : (decide (vk = 0) && (decide (vn = 0) && (decide (vs = []) && true))) = false := by simpa using hz
  have hb' : (decide (vk = 0) && (decide (vn = 0) && decide (vs = []))) = false := by simpa using hz
  simp [Tryz.f67, Tryz.ti3, Tryz.ti9, Tryz.ti23, Tryz.ti44, Tryz.ti46, hd0, ev_arity, hA, hV', hV, hz', hb, hb'] <;> first | (refine panQ_of ?_; decide +kernel) | (change _ = true; decide +kernel) | kernel_rfl | (refine ⟨?_, ?_⟩ <;> first | (change _ = true; decide +kernel) | kernel_rfl)
set_option maxRecDepth 100000 in
set_option maxHeartbeats 4000000 in
theorem ev_rx_var (hA : (l.length : Int) = arityS op) (hV : ¬ op = oValue) (hC : ¬ op = oColumn) (hx : ¬ (var = [] ∧ col = [])) : EV 67 [(Xp.mk op ⟨0, 0, []⟩ var col l).enc, .int .i64 (d + 1 : Nat)] [] = some (.ret (.bool (rightE (d + 1) (Xp.mk op ⟨0, 0, []⟩ var col l))), []) := by
  have hd0 : ¬ ((d : Int) + 1 = 0) := by omega
  rw [EV_mki rfl Tryz.func67 rfl (by kernel_rfl) rfl, xenc_mk]
  simp only [rightE]
  have hV' : ¬ op = [118, 97, 108, 117, 101] := hV
  have hC' : ¬ op = [99, 111, 108, 117, 109, 110] := hC
  by_cases h1 : var = []
  · subst h1
    have h2 : ¬ col = [] := fun h => hx ⟨rfl, h⟩
    simp [Tryz.f67, Tryz.ti3, Tryz.ti9, Tryz.ti23, Tryz.ti44, Tryz.ti46, hd0, ev_arity, hA, hV', hC', hV, hC, h2] <;> first | (refine panQ_of ?_; decide +kernel) | (change _ = true; decide +kernel) | kernel_rfl | (refine ⟨?_, ?_⟩ <;> first | (change _ = true; decide +kernel) | kernel_rfl)
  · simp [Tryz.f67, Tryz.ti3, Tryz.ti9, Tryz.ti23, Tryz.ti44, Tryz.ti46, hd0, ev_arity, hA, hV', hC', hV, hC, h1] <;> first | (refine panQ_of ?_; decide +kernel) | (change _ = true; decide +kernel) | kernel_rfl | (refine ⟨?_, ?_⟩ <;> first | (change _ = true; decide +kernel) | kernel_rfl)
set_option maxRecDepth 100000 in
set_option maxHeartbeats 4000000 in
theorem ev_rx_arity (hA : ¬ (l.length : Int) = arityS op) : EV 67 [(Xp.mk op ⟨vk, vn, vs⟩ var col l).enc, .int .i64 (d + 1 : Nat)] [] = some (.ret (.bool (rightE (d + 1) (Xp.mk op ⟨vk, vn, vs⟩ var col l))), []) := by
  have hd0 : ¬ ((d : Int) + 1 = 0) := by omega
  rw [EV_mki rfl Tryz.func67 rfl (by kernel_rfl) rfl, xenc_mk]
  simp only [rightE]
  simp [Tryz.f67, Tryz.ti3, Tryz.ti9, Tryz.ti23, Tryz.ti44, Tryz.ti46, hd0, ev_arity, hA] <;> first | (refine panQ_of ?_; decide +kernel) | (change _ = true; decide +kernel) | kernel_rfl | (refine ⟨?_, ?_⟩ <;> first | (change _ = true; decide +kernel) | kernel_rfl)
set_option maxRecDepth 100000 in
set_option maxHeartbeats 4000000 in
theorem ev_rx_ops (hl : l.length ≤ 1048576) (hA : (l.length : Int) = arityS op) (hV : ¬ op = oValue) (hC : ¬ op = oColumn) (ihk : ∀ m ∈ l, EV 67 [m.enc, .int .i64 d] [] = some (.ret (.bool (rightE d m)), [])) :
    EV 67 [(Xp.mk op ⟨0, 0, []⟩ [] [] l).enc, .int .i64 (d + 1 : Nat)] [] = some (.ret (.bool (rightE (d + 1) (Xp.mk op ⟨0, 0, []⟩ [] [] l))), []) := by
  have hd0 : ¬ ((d : Int) + 1 = 0) := by omega
  have hw : IntKind.i64.wrap (d : Int) = d := wrap_i64 (by omega)
  rw [EV_mki rfl Tryz.func67 rfl (by kernel_rfl) rfl, xenc_mk]
  simp only [rightE]
  have hV' : ¬ op = [118, 97, 108, 117, 101] := hV
  have hC' : ¬ op = [99, 111, 108, 117, 109, 110] := hC
  simp [Tryz.f67, Tryz.ti3, Tryz.ti9, Tryz.ti23, Tryz.ti44, Tryz.ti46, hd0, ev_arity, hA, hV', hC', hV, hC, Val.zero]
  rw [i_loop (ts := [80, 81, 82, 6, 83, 84, 85, 86, 87, 88])]
  rotate_left
  · kernel_rfl
  refine i_at (fun i : {i : Nat // i ≤ l.length} => l.length - i.1) (fun i env => setV env 79 (.int .i64 i.1)) (fun i => _) (fun i => some (.ret (.bool ((l.drop i.1).all (rightE d))), [])) ⟨0, by omega⟩ (by simp [s_zero, s_succ]) rfl (by simp) ?_
  intro ⟨i, hil⟩ ih
  dsimp only at hil ⊢
  by_cases hi : i < l.length
  · have ih := ih ⟨i + 1, by omega⟩ (by simp only; omega)
    have hwi : IntKind.i64.wrap ((i : Int) + 1) = (i : Int) + 1 := wrap_i64 (by omega)
    have hc := ihk l[i] (List.getElem_mem hi)
    obtain ⟨t, hk⟩ : ∃ m, l[i] = m := ⟨_, rfl⟩
    have hi' : (i : Int) < arityS op := by omega
    rw [List.drop_eq_getElem_cons hi, List.all_cons, hk]
    rw [hk] at hc
    obtain ⟨op', v', var', col', kids'⟩ := t
    rw [xenc_mk] at hc
    simp only [s_zero, s_succ, Int.natCast_add, Int.natCast_one, Int.cast_ofNat_Int] at ih
    cases hd : rightE d (.mk op' v' var' col' kids') <;> rw [hd] at hc <;> simp [i_again, roundEnd, dropT, cleanV, Tryz.f67, Tryz.ti3, Tryz.ti9, Tryz.ti23, Tryz.ti44, Tryz.ti46, hi, hi', hk, xenc_mk, hwi, hw, ih, hc]
  · rw [List.drop_of_length_le (by omega)]
    have hi' : ¬ (i : Int) < arityS op := by omega
    simp [i_again, roundEnd, dropT, cleanV, Tryz.f67, Tryz.ti3, Tryz.ti9, Tryz.ti23, Tryz.ti44, Tryz.ti46, hi, hi']
end
theorem ev_rightx : ∀ (n : Nat) (e : Xp), e.ok → n < 1000 → EV 67 [e.enc, .int .i64 n] [] = some (.ret (.bool (rightE n e)), [])
  | 0, .mk op v var col kids, h, hn => by
    rw [EV_mki rfl Tryz.func67 rfl (by kernel_rfl) rfl, xenc_mk]
    simp [Tryz.f67, Tryz.ti3, Tryz.ti9, Tryz.ti23, Tryz.ti44, Tryz.ti46, rightE] <;> first | (refine panQ_of ?_; decide +kernel) | (change _ = true; decide +kernel) | kernel_rfl | (refine ⟨?_, ?_⟩ <;> first | (change _ = true; decide +kernel) | kernel_rfl)
  | d + 1, .mk op ⟨vk, vn, vs⟩ var col l, h, hn => by
    have hd : d < 1000 := by omega
    by_cases hA : (l.length : Int) = arityS op
    · by_cases hV : op = oValue
      · subst hV; exact ev_rx_value d vk vn vs var col l hd hA
      · by_cases hz : vk = 0 ∧ vn = 0 ∧ vs = []
        · obtain ⟨rfl, rfl, rfl⟩ := hz
          by_cases hC : op = oColumn
          · subst hC; exact ev_rx_column d var col l hd h.2.2.1 h.2.2.2.1 hA
          · by_cases hx : var = [] ∧ col = []
            · obtain ⟨rfl, rfl⟩ := hx
              exact ev_rx_ops d op l hd h.2.2.2.2.1 hA hV hC (fun m hm => ev_rightx d m ((xoks_iff l).1 h.2.2.2.2.2 m hm) hd)
            · exact ev_rx_var d op var col l hd hA hV hC hx
        · exact ev_rx_nonzero d op vk vn vs var col l hd hA hV hz
    · exact ev_rx_arity d op vk vn vs var col l hd hA
theorem ev_rightexpr (e : Xp) (h : e.ok) : EV 24 [e.enc] [] = some (.ret (.bool (rightE 20 e)), []) := by
  have hr := ev_rightx 20 e h (by omega)
  rw [EV_mki rfl Tryz.func24 rfl (by kernel_rfl) rfl]
  obtain ⟨op, v, var, col, l⟩ := e
  rw [xenc_mk] at hr ⊢
  simp only [Int.cast_ofNat_Int] at hr
  simp [Tryz.f24, Tryz.ti3, Tryz.ti9, Tryz.ti23, Tryz.ti44, Tryz.ti46, hr]
end Go.Abs
namespace Go.Abs
open Go
theorem sb_add {a b : List UInt8} (h : a.length + b.length ≤ 4611686018427387904) : strBin .add a b = some (.str (a ++ b)) := if_pos h
theorem sb_eql (a b : List UInt8) : strBin .eql a b = some (.bool (decide (a = b))) := id rfl
theorem sb_neq (a b : List UInt8) : strBin .neq a b = some (.bool (!decide (a = b))) := id rfl
theorem sb_lss (a b : List UInt8) : strBin .lss a b = some (.bool (Op.bytesLess a b)) := id rfl
def isFull : V → Bool
  | .slice .full _ => true
  | _ => false
def noFull : List V → Bool
  | [] => true
  | v :: l => !isFull v && noFull l
theorem adoptL_no : ∀ (cs : List V) (n : Nat), noFull cs = true → adoptL n cs = (cs, [])
  | [], n, _ => rfl
  | v :: l, n, h => by
    simp only [noFull, Bool.and_eq_true, Bool.not_eq_true'] at h
    have ih := adoptL_no l n h.2
    cases v <;> try (simp only [adoptL, ih]; done)
    rename_i o xs
    cases o <;> first | (simp only [adoptL, ih]; done) | (simp [isFull] at h)
theorem ad_full (xs : List V) (st : St) : adopt (.slice .full xs) st = (.slice (.own st.length) xs, st ++ [[.tip xs.length]]) := id rfl
theorem ad_froz (xs : List V) (st : St) : adopt (.slice .froz xs) st = (.slice .froz xs, st) := id rfl
theorem ad_own (b : Nat) (xs : List V) (st : St) : adopt (.slice (.own b) xs) st = (.slice (.own b) xs, st) := id rfl
theorem ad_int (k : IntKind) (n : Int) (st : St) : adopt (.int k n) st = (.int k n, st) := id rfl
theorem ad_bool (b : Bool) (st : St) : adopt (.bool b) st = (.bool b, st) := id rfl
theorem ad_str (s : List UInt8) (st : St) : adopt (.str s) st = (.str s, st) := id rfl
theorem ad_box (b o : Nat) (st : St) : adopt (.box b o) st = (.box b o, st) := id rfl
theorem ad_agg (cs : List V) (st : St) (h : noFull cs = true) : adopt (.agg cs) st = (.agg cs, st) := by
  simp only [adopt, adoptL_no cs _ h, List.append_nil]
theorem i_at2 {P : Program} {cl : Oracle} {n : Nat} {rs : List ResultVar} {k : List Item} {env : Env} {st : St} {c : Code} {ts : List Nat} {m : Nat} {ι : Type} (meas : ι → Nat) (upd : ι → Env → Env) (S : ι → St → St) (F : ι → Option (Out × St)) (x0 : ι) {R : Option (Out × St)}
    (he : upd x0 env = env) (hs : S x0 st = st) (hR : F x0 = R)
    (h : ∀ x, (∀ y, meas y < meas x → @mki P cl n rs ⟨.lp c ts m :: k⟩ (upd y env) (S y st) = F y) → @mki P cl n rs ⟨.code c :: .again c ts m :: k⟩ (upd x env) (S x st) = F x) :
    @mki P cl n rs ⟨.lp c ts m :: k⟩ env st = R :=
  i_at meas upd (fun x => S x st) F x0 he hs hR h
end Go.Abs
namespace Go.Abs
set_option linter.unusedSimpArgs false
set_option linter.unusedVariables false
open Go Go.Proofs
attribute [local simp] i_nil i_blk i_skip i_ret i_exit i_seq i_block i_cond i_region' i_ops_nil i_ops i_drawn' k_none k_0 k_1 k_2 k_3 k_4 k_5 d_in a_nil a_cons alt1 h_nil h_one h_two z_nil z_cons z_cells zeqL zeq q_alloc q_some nxtN i_drh d_hi i_drw_nil i_drw u_nil u_code u_ops u_drw u_lp u_again u_exit u_ret u_panic c_bool o_some o_val o_panic d_some d_val d_panic w_none w_fast wantG q_nil q_zero q_succ t_zero t_succ g_zero g_succ s_zero s_succ s_some s_none v_tmp v_const v_func f_quiet gc_none gc_pure wrap_i64 p_move p_assign p_pick p_alloc p_box p_build p_buildSlice p_load p_store p_nilCheck p_binOp n_tmp n_int n_bool n_str n_ptr n_fun n_iface nilCmp p_unOp p_convert p_makeSlice p_makeInterface p_makeFunc p_slice p_fieldAddr p_field p_indexAddr p_index p_extract p_callv p_callb p_panic quiet_val new_val e_assign e_call e_load e_store e_alloc e_box e_move e_pick e_build e_buildSlice e_nilCheck e_binOp e_unOp e_convert e_makeSlice e_makeInterface e_makeFunc e_slice e_fieldAddr e_field e_indexAddr e_index e_extract e_panic callD fpRead adoptZ fulls adopt adoptL ofValue ofScalar binOpV unOpV intBin strBin eqRes veq veqF eqDepth val? finish resL r_tmp r_cell normL normTop tipIs refsL refs ownRefs single frz frzL ren renL renOwn callOp doCall backR writeBack builtinV loadV storeV storeW iceT cellsAt takeV D.isAgg overlay vcells cellOk fieldAddrV indexAddrV fieldV partV indexV buildV fillV buildSliceV litElems appendV appElems elemOk convertV convV winStr makeSliceV sliceV natOf
attribute [local simp ↓] brB_true brB_false brB_dec brB_not brB_and brB_or brB_beq brB_bne
theorem ev_upper (op : List UInt8) (h : op ∈ twoOps) : EV 93 [.str op] [] = some (.ret (.str (upS op)), []) := by
  unfold EV
  rw [ev_eq]
  simp only [twoOps, List.mem_cons, List.mem_nil_iff, or_false] at h
  rcases h with rfl | rfl | rfl | rfl | rfl | rfl | rfl | rfl | rfl | rfl | rfl <;> rfl
theorem two_len {op : List UInt8} (h : op ∈ twoOps) : op.length ≤ 3 ∧ (upS op).length ≤ 3 := by
  simp only [twoOps, List.mem_cons, List.mem_nil_iff, or_false] at h
  rcases h with rfl | rfl | rfl | rfl | rfl | rfl | rfl | rfl | rfl | rfl | rfl <;> exact ⟨by decide, by decide⟩
theorem name_len {s : List UInt8} (h : nameS s = true) : s.length ≤ 16 := by
  unfold nameS at h
  cases s with
  | nil => simp
  | cons c r => simp at h; simp; omega
theorem right_text {v : Val} (h : rightS v = true) : (v.kind = 0 ∨ v.kind = 1 ∨ v.kind = 2 ∨ v.kind = 3) ∧ v.s.length ≤ 24 := by
  unfold rightS at h
  split at h
  · simp at h; exact ⟨.inl (by assumption), by simp [h.2]⟩
  · split at h
    · simp at h; exact ⟨.inr (.inl (by assumption)), by simp [h.1]⟩
    · split at h
      · simp at h; exact ⟨.inr (.inr (.inl (by assumption))), by simp [h]⟩
      · split at h
        · simp at h; exact ⟨.inr (.inr (.inr (by assumption))), by omega⟩
        · cases h
theorem showV_len {v : Val} (h : rightS v = true) (hn : inI v.n) : (showV v).length ≤ 50 := by
  have h1 := Lib.itoa_length_le v.n hn.1 hn.2
  have h2 := quoteE_len v.s
  have h3 := (right_text h).2
  unfold showV
  split
  · split <;> simp
  · split
    · omega
    · split
      · simp; omega
      · simp
theorem right_parts {d : Nat} {op : List UInt8} {v : Val} {var col : List UInt8} {l : List Xp} (h : rightE (d + 1) (.mk op v var col l) = true) :
    (op = oValue ∧ l = [] ∧ var = [] ∧ col = [] ∧ rightS v = true ∧ (v.kind ≠ 2 ∨ 0 ≤ v.n)) ∨
    (op = oColumn ∧ l = [] ∧ v = Val.zero ∧ nameS col = true ∧ (var = [] ∨ nameS var = true)) ∨
    (∃ a, (op = oNeg ∨ op = oNot ∨ op = oNull) ∧ l = [a] ∧ v = Val.zero ∧ var = [] ∧ col = [] ∧ rightE d a = true) ∨
    (∃ a b, op ∈ twoOps ∧ op ≠ oNeg ∧ op ≠ oNot ∧ op ≠ oNull ∧ op ≠ oValue ∧ op ≠ oColumn ∧ l = [a, b] ∧ v = Val.zero ∧ var = [] ∧ col = [] ∧ rightE d a = true ∧ rightE d b = true) := by
  simp only [rightE, Bool.and_eq_true, Bool.or_eq_true, decide_eq_true_eq] at h
  obtain ⟨⟨⟨hA, hZ⟩, hC⟩, hk⟩ := h
  by_cases h1 : op = oValue
  · subst h1
    left
    have hl : l.length = 0 := by have : arityS oValue = 0 := rfl; omega
    simp only [if_true, Bool.and_eq_true, decide_eq_true_eq] at hk
    have hc : var = [] ∧ col = [] := by
      rcases hC with e | e
      · exact absurd e (by decide)
      · exact e
    exact ⟨rfl, List.eq_nil_of_length_eq_zero hl, hc.1, hc.2, hk.1, hk.2⟩
  by_cases h2 : op = oColumn
  · subst h2
    right; left
    have hl : l.length = 0 := by have : arityS oColumn = 0 := rfl; omega
    simp only [h1, if_false, if_true, Bool.and_eq_true, Bool.or_eq_true, decide_eq_true_eq] at hk
    have hz : v = Val.zero := by
      rcases hZ with e | e
      · exact absurd e (by decide)
      · exact e
    exact ⟨rfl, List.eq_nil_of_length_eq_zero hl, hz, hk.1, hk.2⟩
  have hz : v = Val.zero := by
    rcases hZ with e | e
    · exact absurd e h1
    · exact e
  have hc : var = [] ∧ col = [] := by
    rcases hC with e | e
    · exact absurd e h2
    · exact e
  simp only [h1, h2, if_false, List.all_eq_true] at hk
  by_cases h3 : op = oNeg ∨ op = oNot ∨ op = oNull
  · right; right; left
    have hA' : arityS op = 1 := by simp [arityS, h1, h2, h3]
    obtain ⟨a, rfl⟩ : ∃ a, l = [a] := List.length_eq_one_iff.1 (by omega)
    exact ⟨a, h3, rfl, hz, hc.1, hc.2, hk a (by simp)⟩
  · right; right; right
    by_cases h4 : op ∈ twoOps
    · have hA' : arityS op = 2 := by simp only [arityS, h1, h2, h3, h4, or_self, if_false, if_true]
      obtain ⟨a, b, rfl⟩ : ∃ a b, l = [a, b] := by
        match l, hA with
        | [], hA => simp at hA; omega
        | [a], hA => simp at hA; omega
        | [a, b], _ => exact ⟨a, b, rfl⟩
        | a :: b :: c :: r, hA => simp at hA; omega
      exact ⟨a, b, h4, fun e => h3 (.inl e), fun e => h3 (.inr (.inl e)), fun e => h3 (.inr (.inr e)), h1, h2, rfl, hz, hc.1, hc.2, hk a (by simp), hk b (by simp)⟩
    · have hA' : arityS op = -1 := by simp only [arityS, h1, h2, h3, h4, or_self, if_false]
      omega
theorem showE_value (v : Val) (var col : List UInt8) (l : List Xp) : showE (.mk oValue v var col l) = showV v := by simp [showE]
theorem showE_column (v : Val) (var col : List UInt8) (l : List Xp) : showE (.mk oColumn v var col l) = if var = [] then col else var ++ 46 :: col := by simp [showE, show ¬ oColumn = oValue from of_decide_eq_true rfl]
theorem showE_neg (v : Val) (var col : List UInt8) (a : Xp) : showE (.mk oNeg v var col [a]) = 40 :: 45 :: 32 :: (showE a ++ [41]) := by
  simp [showE, showEs, show ¬ oNeg = oValue from of_decide_eq_true rfl, show ¬ oNeg = oColumn from of_decide_eq_true rfl]
theorem showE_not (v : Val) (var col : List UInt8) (a : Xp) : showE (.mk oNot v var col [a]) = [40, 78, 79, 84, 32] ++ showE a ++ [41] := by
  simp [showE, showEs, show ¬ oNot = oValue from of_decide_eq_true rfl, show ¬ oNot = oColumn from of_decide_eq_true rfl, show ¬ oNot = oNeg from of_decide_eq_true rfl]
theorem showE_null (v : Val) (var col : List UInt8) (a : Xp) : showE (.mk oNull v var col [a]) = 40 :: (showE a ++ [32, 73, 83, 32, 78, 85, 76, 76, 41]) := by
  simp [showE, showEs, show ¬ oNull = oValue from of_decide_eq_true rfl, show ¬ oNull = oColumn from of_decide_eq_true rfl, show ¬ oNull = oNeg from of_decide_eq_true rfl, show ¬ oNull = oNot from of_decide_eq_true rfl]
theorem showE_two {op : List UInt8} (h1 : op ≠ oNeg) (h2 : op ≠ oNot) (h3 : op ≠ oNull) (h4 : op ≠ oValue) (h5 : op ≠ oColumn) (v : Val) (var col : List UInt8) (a b : Xp) : showE (.mk op v var col [a, b]) = 40 :: (showE a ++ 32 :: (upS op ++ 32 :: (showE b ++ [41]))) := by
  simp [showE, showEs, h1, h2, h3, h4, h5]
theorem showE_len : ∀ (d : Nat) (e : Xp), rightE d e = true → e.ok → (showE e).length + 8 ≤ 64 * 2 ^ d
  | 0, .mk op v var col l, h, _ => by cases h
  | d + 1, .mk op v var col l, h, ho => by
    have hp : 1 ≤ 2 ^ d := Nat.one_le_two_pow
    have hp' : 2 ^ (d + 1) = 2 * 2 ^ d := by rw [Nat.pow_succ, Nat.mul_comm]
    rw [hp']
    rcases right_parts h with ⟨rfl, rfl, rfl, rfl, h1, h2⟩ | ⟨rfl, rfl, rfl, h1, h2⟩ | ⟨a, h1, rfl, rfl, rfl, rfl, h2⟩ | ⟨a, b, h1, n1, n2, n3, n4, n5, rfl, rfl, rfl, rfl, h2, h3⟩
    · rw [showE_value]
      have := showV_len h1 ho.2.1.2.1
      omega
    · rw [showE_column]
      have := name_len h1
      split
      · omega
      · rename_i hv
        rcases h2 with e | e
        · exact absurd e hv
        · have := name_len e
          simp; omega
    · have hl := showE_len d a h2 ho.2.2.2.2.2.1
      rcases h1 with rfl | rfl | rfl
      · rw [showE_neg]; simp; omega
      · rw [showE_not]; simp; omega
      · rw [showE_null]; simp; omega
    · have hl := showE_len d a h2 ho.2.2.2.2.2.1
      have hl' := showE_len d b h3 ho.2.2.2.2.2.2.1
      have hu := (two_len h1).2
      rw [showE_two n1 n2 n3 n4 n5]
      simp; omega
theorem ev_show1 (a : Xp) (A : List UInt8) (ha : EV 54 [a.enc] [] = some (.ret (.str A), [])) (hA : A.length ≤ 1000000000) (op : List UInt8) (h : op = oNeg ∨ op = oNot ∨ op = oNull) :
    EV 54 [(Xp.mk op Val.zero [] [] [a]).enc] [] = some (.ret (.str (if op = oNeg then 40 :: 45 :: 32 :: (A ++ [41]) else if op = oNot then [40, 78, 79, 84, 32] ++ A ++ [41] else 40 :: (A ++ [32, 73, 83, 32, 78, 85, 76, 76, 41]))), []) := by
  rw [EV_mki rfl Tryz.func54 rfl (by kernel_rfl) rfl, xenc_mk]
  obtain ⟨op', v', var', col', kids'⟩ := a
  rw [xenc_mk] at ha
  have hb0 : 3 + A.length ≤ 4611686018427387904 := by omega
  have hb1 : A.length + 3 + 1 ≤ 4611686018427387904 := by omega
  have hb2 : A.length + 1 + 1 + 1 + 1 ≤ 4611686018427387904 := by omega
  have hb3 : 5 + A.length ≤ 4611686018427387904 := by omega
  have hb4 : 5 + A.length + 1 ≤ 4611686018427387904 := by omega
  have hb5 : 1 + A.length ≤ 4611686018427387904 := by omega
  have hb6 : A.length + 1 + 9 ≤ 4611686018427387904 := by omega
  have hb7 : A.length + 1 + 1 + 1 + 1 + 1 + 1 ≤ 4611686018427387904 := by omega
  rcases h with rfl | rfl | rfl
  · simp [Tryz.f54, Tryz.ti3, Tryz.ti9, Tryz.ti23, Tryz.ti44, Tryz.ti46, xenc_mk, ha, oNeg, oNot, oNull, Val.zero, hb0, hb1, hb2, hb3, hb4, hb5, hb6, hb7]
  · simp [Tryz.f54, Tryz.ti3, Tryz.ti9, Tryz.ti23, Tryz.ti44, Tryz.ti46, xenc_mk, ha, oNeg, oNot, oNull, Val.zero, hb0, hb1, hb2, hb3, hb4, hb5, hb6, hb7]
  · simp [Tryz.f54, Tryz.ti3, Tryz.ti9, Tryz.ti23, Tryz.ti44, Tryz.ti46, xenc_mk, ha, oNeg, oNot, oNull, Val.zero, hb0, hb1, hb2, hb3, hb4, hb5, hb6, hb7]
def twoT (op A B : List UInt8) : List UInt8 := 40 :: (A ++ 32 :: (upS op ++ 32 :: (B ++ [41])))
set_option maxHeartbeats 1000000 in
theorem ev_show2 (a b : Xp) (A B : List UInt8) (ha : EV 54 [a.enc] [] = some (.ret (.str A), [])) (hb : EV 54 [b.enc] [] = some (.ret (.str B), [])) (hA : A.length ≤ 1000000000) (hB : B.length ≤ 1000000000) (op : List UInt8)
    (h : op ∈ twoOps) (h1 : op ≠ oNeg) (h2 : op ≠ oNot) (h3 : op ≠ oNull) (h4 : op ≠ oValue) (h5 : op ≠ oColumn) :
    EV 54 [(Xp.mk op Val.zero [] [] [a, b]).enc] [] = some (.ret (.str (twoT op A B)), []) := by
  rw [EV_mki rfl Tryz.func54 rfl (by kernel_rfl) rfl, xenc_mk]
  obtain ⟨op', v', var', col', kids'⟩ := a
  obtain ⟨op'', v'', var'', col'', kids''⟩ := b
  rw [xenc_mk] at ha hb
  have hu := ev_upper op h
  have hl := (two_len h).2
  unfold twoT
  generalize upS op = U at *
  simp only [oNeg, oNot, oNull, oValue, oColumn, ne_eq] at h1 h2 h3 h4 h5
  simp (disch := first | ((try simp only [List.length_cons, List.length_append, List.length_nil]); omega) | simp [refsL, refs]) [-strBin, sb_add, sb_eql, sb_neq, sb_lss, Tryz.f54, Tryz.ti3, Tryz.ti9, Tryz.ti23, Tryz.ti44, Tryz.ti46, xenc_mk, ha, hb, hu, h1, h2, h3, h4, h5, Val.zero] <;> first | (refine panQ_of ?_; decide +kernel) | (change _ = true; decide +kernel) | kernel_rfl | (refine ⟨?_, ?_⟩ <;> first | (change _ = true; decide +kernel) | kernel_rfl)
theorem ev_show : ∀ (d : Nat) (e : Xp), d ≤ 20 → rightE d e = true → e.ok → EV 54 [e.enc] [] = some (.ret (.str (showE e)), [])
  | 0, .mk op v var col l, _, h, _ => by cases h
  | d + 1, .mk op v var col l, hd, h, ho => by
    have hpw : 2 ^ d ≤ 2 ^ 19 := Nat.pow_le_pow_right (by omega) (by omega)
    rcases right_parts h with ⟨rfl, rfl, rfl, rfl, h1, h2⟩ | ⟨rfl, rfl, rfl, h1, h2⟩ | ⟨a, h1, rfl, rfl, rfl, rfl, h2⟩ | ⟨a, b, h1, n1, n2, n3, n4, n5, rfl, rfl, rfl, rfl, h2, h3⟩
    · rw [showE_value, EV_mki rfl Tryz.func54 rfl (by kernel_rfl) rfl, xenc_mk]
      have hs := ev_vshow v.kind v.n v.s ho.2.1.2.1 (by have := (right_text h1).2; omega)
      have e : (⟨v.kind, v.n, v.s⟩ : Val) = v := rfl
      rw [e] at hs
      simp [Tryz.f54, Tryz.ti3, Tryz.ti9, Tryz.ti23, Tryz.ti44, Tryz.ti46, oValue, hs]
    · rw [showE_column, EV_mki rfl Tryz.func54 rfl (by kernel_rfl) rfl, xenc_mk]
      have hc := name_len h1
      by_cases hv : var = []
      · subst hv
        simp [Tryz.f54, Tryz.ti3, Tryz.ti9, Tryz.ti23, Tryz.ti44, Tryz.ti46, oColumn, Val.zero]
      · have hvl : var.length ≤ 16 := by
          rcases h2 with e | e
          · exact absurd e hv
          · exact name_len e
        have hb0 : var.length + 1 ≤ 4611686018427387904 := by omega
        have hb1 : var.length + 1 + col.length ≤ 4611686018427387904 := by omega
        simp [Tryz.f54, Tryz.ti3, Tryz.ti9, Tryz.ti23, Tryz.ti44, Tryz.ti46, oColumn, hv, Val.zero, hb0, hb1]
    · have ha := ev_show d a (by omega) h2 ho.2.2.2.2.2.1
      have hl := showE_len d a h2 ho.2.2.2.2.2.1
      rw [ev_show1 a (showE a) ha (by omega) op h1]
      rcases h1 with rfl | rfl | rfl
      · rw [if_pos rfl, showE_neg]
      · rw [if_neg (by decide), if_pos rfl, showE_not]
      · rw [if_neg (by decide), if_neg (by decide), showE_null]
    · have ha := ev_show d a (by omega) h2 ho.2.2.2.2.2.1
      have hl := showE_len d a h2 ho.2.2.2.2.2.1
      have hb := ev_show d b (by omega) h3 ho.2.2.2.2.2.2.1
      have hl' := showE_len d b h3 ho.2.2.2.2.2.2.1
      rw [ev_show2 a b (showE a) (showE b) ha hb (by omega) (by omega) op h1 n1 n2 n3 n4 n5, showE_two n1 n2 n3 n4 n5]
      rfl
end Go.Abs
namespace Go.Abs
set_option linter.unusedSimpArgs false
set_option linter.unusedVariables false
open Go Go.Proofs
theorem join_len : ∀ (xs : List (List UInt8)) (sep : List UInt8) (b : Nat), (∀ x ∈ xs, x.length ≤ b) → (Lib.join xs sep).length ≤ xs.length * (b + sep.length)
  | [], sep, b, _ => by rw [Lib.join_nil]; simp
  | [x], sep, b, h => by
    rw [Lib.join_one]
    have := h x (by simp)
    simp; omega
  | x :: y :: r, sep, b, h => by
    have ih := join_len (y :: r) sep b (fun z hz => h z (by simp [hz]))
    have hx := h x (by simp)
    rw [Lib.join_length] at ih ⊢
    simp only [Lib.lens, List.map_cons, List.sum_cons, List.length_cons] at ih ⊢
    have e : (r.length + 1 + 1) * (b + sep.length) = (r.length + 1) * (b + sep.length) + (b + sep.length) := by rw [Nat.add_mul (r.length + 1), Nat.one_mul]
    have e2 : sep.length * (r.length + 1) = sep.length * r.length + sep.length := by rw [Nat.mul_add, Nat.mul_one]
    omega
theorem ev_join (l : List (List UInt8)) (sep : List UInt8) (h1 : l.length ≤ 140737488355328) (h2 : (Lib.join l sep).length ≤ 140737488355328) : EV 87 [.slice .froz (l.map V.str), .str sep] [] = some (.ret (.str (Lib.join l sep)), []) := by
  unfold EV
  rw [ev_eq]
  simp [pr0, primRun, joinP, strsOf_map, h1, h2]
end Go.Abs
