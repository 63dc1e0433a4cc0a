/- Which statements are right, by the reference: kind 15. -/
import Derived.Test.YtpmeklllgnnffaaGreatDoorU32
import Derived.Test.YtpmeklllgnnffaaGreatDoorU19
import Derived.Lib.ItoaLen
import Derived.Lib.ItoaMem
import Derived.Test.YtpmeklllgnnffaaGreatDoorU26
set_option linter.unusedSimpArgs false
set_option linter.unusedVariables false

namespace Go.Abs
set_option linter.unusedSimpArgs false
set_option linter.unusedVariables false
open Go Go.Proofs
attribute [local simp] i_nil i_blk i_skip i_ret i_exit i_seq i_block i_cond i_region' i_ops_nil i_ops i_drawn' k_none k_0 k_1 k_2 k_3 k_4 k_5 d_in a_nil a_cons alt1 h_nil h_one h_two z_nil z_cons z_cells zeqL zeq q_alloc q_some nxtN i_drh d_hi i_drw_nil i_drw u_nil u_code u_ops u_drw u_lp u_again u_exit u_ret u_panic c_bool o_some o_val o_panic d_some d_val d_panic w_none w_fast wantG q_nil q_zero q_succ t_zero t_succ g_zero g_succ s_zero s_succ s_some s_none v_tmp v_const v_func f_quiet gc_none gc_pure wrap_i64 p_move p_assign p_pick p_alloc p_box p_build p_buildSlice p_load p_store p_nilCheck p_binOp n_tmp n_int n_bool n_str n_ptr n_fun n_iface nilCmp p_unOp p_convert p_makeSlice p_makeInterface p_makeFunc p_slice p_fieldAddr p_field p_indexAddr p_index p_extract p_callv p_callb p_panic quiet_val new_val e_assign e_call e_load e_store e_alloc e_box e_move e_pick e_build e_buildSlice e_nilCheck e_binOp e_unOp e_convert e_makeSlice e_makeInterface e_makeFunc e_slice e_fieldAddr e_field e_indexAddr e_index e_extract e_panic callD fpRead adoptZ fulls adopt adoptL ofValue ofScalar binOpV unOpV intBin strBin eqRes veq veqF eqDepth val? finish resL r_tmp r_cell normL normTop tipIs refsL refs ownRefs single frz frzL ren renL renOwn callOp doCall backR writeBack builtinV loadV storeV storeW iceT cellsAt takeV D.isAgg overlay vcells cellOk fieldAddrV indexAddrV fieldV partV indexV buildV fillV buildSliceV litElems appendV appElems elemOk convertV convV winStr makeSliceV sliceV natOf
attribute [local simp ↓] brB_true brB_false brB_dec brB_not brB_and brB_or brB_beq brB_bne
attribute [local irreducible] fpsQ panQ

def rr15 : StB → List Stm → Bool
  | ⟨kind, name, table, col, cols, values, items, wher, sets, src, prio, event, deferred, rolls⟩, acts => decide (name = []) && (decide (table = []) && (decide (col = []) && (decide (cols = []) && (decide (prio = 0) && (decide (event = 0) && (!deferred && (!rolls && (decide (acts = []) && (decide (sets = []) && (decide (values = []) && (rightsE items 0 40 && (srcsS src 1 && (rightsE wher 0 1)))))))))))))
theorem rr15_eq (b : StB) (acts : List Stm) (hk : b.kind = 15) : rightStm (.mk b acts) = rr15 b acts := by
  obtain ⟨kind, name, table, col, cols, values, items, wher, sets, src, prio, event, deferred, rolls⟩ := b
  dsimp only at hk
  subst hk
  have n1 := @name_ne name
  have n2 := @name_ne table
  have n3 := @name_ne col
  have n4 := @cols_ne cols
  rw [Bool.eq_iff_iff]
  simp [rightStm, bareS, bareOf, blankS, nameK, rightK, rr15, Stm.b, Stm.acts, rightRuleS, rightFrom_eq, rightFrom_eq0, rightSetsS, len0, len0', eq_comm (a := (0 : Int)), eq_comm (a := ([] : List UInt8))]
  all_goals first | done | grind | (constructor <;> intro hh <;> simp_all)
set_option maxRecDepth 100000 in
set_option maxHeartbeats 16000000 in
theorem ev_rr15 (b : StB) (acts : List Stm) (h : b.ok) (hk : b.kind = 15) : EV 16 [(Stm.mk b acts).enc] [] = some (.ret (.bool (rr15 b acts)), []) := by
  have n1 := ev_rname b.name (by have := h.name; omega)
  have n2 := ev_rname b.table (by have := h.table; omega)
  have n3 := ev_rname b.col (by have := h.col; omega)
  have hcols := ev_rcols b.cols h.cols.1 h.cols.2
  have hvals := ev_rexprs b.values h.values.1 h.values.2 1 6
  have hitems := ev_rexprs b.items h.items.1 h.items.2 0 40
  have hwher := ev_rexprs b.wher h.wher.1 h.wher.2 0 1
  have hsrc0 := ev_rsources b.src h.src.1 h.src.2 0
  have hsrc1 := ev_rsources b.src h.src.1 h.src.2 1
  have hsets := h.sets
  rw [EV_mki rfl Tryz.func16 rfl (by kernel_rfl) rfl, senc_mk]
  obtain ⟨kind, name, table, col, cols, values, items, wher, sets, src, prio, event, deferred, rolls⟩ := b
  dsimp only at hk n1 n2 n3 hcols hvals hitems hwher hsrc0 hsrc1 hsets
  subst hk
  simp only [rr15]
  by_cases e_name : name = []
  rotate_left
  · simp [Tryz.f16, Tryz.ti3, Tryz.ti4, Tryz.ti9, Tryz.ti22, Tryz.ti31, Tryz.ti32, Tryz.ti33, Tryz.ti34, Tryz.ti36, Tryz.ti44, Tryz.ti50, Tryz.ti82, Tryz.ti85, Tryz.ti94, n1, n2, n3, hcols, e_name]
  subst e_name
  by_cases e_table : table = []
  rotate_left
  · simp [Tryz.f16, Tryz.ti3, Tryz.ti4, Tryz.ti9, Tryz.ti22, Tryz.ti31, Tryz.ti32, Tryz.ti33, Tryz.ti34, Tryz.ti36, Tryz.ti44, Tryz.ti50, Tryz.ti82, Tryz.ti85, Tryz.ti94, n1, n2, n3, hcols, e_table]
  subst e_table
  by_cases e_col : col = []
  rotate_left
  · simp [Tryz.f16, Tryz.ti3, Tryz.ti4, Tryz.ti9, Tryz.ti22, Tryz.ti31, Tryz.ti32, Tryz.ti33, Tryz.ti34, Tryz.ti36, Tryz.ti44, Tryz.ti50, Tryz.ti82, Tryz.ti85, Tryz.ti94, n1, n2, n3, hcols, e_col]
  subst e_col
  by_cases e_cols : cols = []
  rotate_left
  · have e1 : 0 < cols.length := List.length_pos_iff.2 e_cols
    have e2 : (0 : Int) < cols.length := by omega
    have e3 : ¬ cols.length = 0 := by omega
    have e4 : ¬ (cols.length : Int) = 0 := by omega
    simp [Tryz.f16, Tryz.ti3, Tryz.ti4, Tryz.ti9, Tryz.ti22, Tryz.ti31, Tryz.ti32, Tryz.ti33, Tryz.ti34, Tryz.ti36, Tryz.ti44, Tryz.ti50, Tryz.ti82, Tryz.ti85, Tryz.ti94, n1, n2, n3, hcols, e_cols, e1, e2, e3, e4]
  subst e_cols
  by_cases e_prio : prio = 0
  rotate_left
  · simp [Tryz.f16, Tryz.ti3, Tryz.ti4, Tryz.ti9, Tryz.ti22, Tryz.ti31, Tryz.ti32, Tryz.ti33, Tryz.ti34, Tryz.ti36, Tryz.ti44, Tryz.ti50, Tryz.ti82, Tryz.ti85, Tryz.ti94, n1, n2, n3, hcols, e_prio]
  subst e_prio
  by_cases e_event : event = 0
  rotate_left
  · simp [Tryz.f16, Tryz.ti3, Tryz.ti4, Tryz.ti9, Tryz.ti22, Tryz.ti31, Tryz.ti32, Tryz.ti33, Tryz.ti34, Tryz.ti36, Tryz.ti44, Tryz.ti50, Tryz.ti82, Tryz.ti85, Tryz.ti94, n1, n2, n3, hcols, e_event]
  subst e_event
  cases deferred
  rotate_left
  · simp [Tryz.f16, Tryz.ti3, Tryz.ti4, Tryz.ti9, Tryz.ti22, Tryz.ti31, Tryz.ti32, Tryz.ti33, Tryz.ti34, Tryz.ti36, Tryz.ti44, Tryz.ti50, Tryz.ti82, Tryz.ti85, Tryz.ti94, n1, n2, n3, hcols]
  cases rolls
  rotate_left
  · simp [Tryz.f16, Tryz.ti3, Tryz.ti4, Tryz.ti9, Tryz.ti22, Tryz.ti31, Tryz.ti32, Tryz.ti33, Tryz.ti34, Tryz.ti36, Tryz.ti44, Tryz.ti50, Tryz.ti82, Tryz.ti85, Tryz.ti94, n1, n2, n3, hcols]
  by_cases e_acts : acts = []
  rotate_left
  · have e1 : 0 < acts.length := List.length_pos_iff.2 e_acts
    have e2 : (0 : Int) < acts.length := by omega
    have e3 : ¬ acts.length = 0 := by omega
    have e4 : ¬ (acts.length : Int) = 0 := by omega
    simp [Tryz.f16, Tryz.ti3, Tryz.ti4, Tryz.ti9, Tryz.ti22, Tryz.ti31, Tryz.ti32, Tryz.ti33, Tryz.ti34, Tryz.ti36, Tryz.ti44, Tryz.ti50, Tryz.ti82, Tryz.ti85, Tryz.ti94, n1, n2, n3, hcols, e_acts, e1, e2, e3, e4]
  subst e_acts
  by_cases e_sets : sets = []
  rotate_left
  · have e1 : 0 < sets.length := List.length_pos_iff.2 e_sets
    have e2 : (0 : Int) < sets.length := by omega
    have e3 : ¬ sets.length = 0 := by omega
    have e4 : ¬ (sets.length : Int) = 0 := by omega
    simp [Tryz.f16, Tryz.ti3, Tryz.ti4, Tryz.ti9, Tryz.ti22, Tryz.ti31, Tryz.ti32, Tryz.ti33, Tryz.ti34, Tryz.ti36, Tryz.ti44, Tryz.ti50, Tryz.ti82, Tryz.ti85, Tryz.ti94, n1, n2, n3, hcols, e_sets, e1, e2, e3, e4]
  subst e_sets
  simp [Tryz.f16, Tryz.ti3, Tryz.ti4, Tryz.ti9, Tryz.ti22, Tryz.ti31, Tryz.ti32, Tryz.ti33, Tryz.ti34, Tryz.ti36, Tryz.ti44, Tryz.ti50, Tryz.ti82, Tryz.ti85, Tryz.ti94, n1, n2, n3, hcols]
  rw [i_loop (ts := [147, 148, 149, 150, 151, 154, 155, 156, 157, 158, 159, 160, 161, 162, 163, 164, 165, 166, 167, 168, 169, 170, 171, 152, 153])]
  rotate_left
  · kernel_rfl
  rw [i_round]
  by_cases e_values : values = []
  rotate_left
  · have e1 : 0 < values.length := List.length_pos_iff.2 e_values
    have e2 : (0 : Int) < values.length := by omega
    simp [Tryz.f16, Tryz.ti3, Tryz.ti4, Tryz.ti9, Tryz.ti22, Tryz.ti31, Tryz.ti32, Tryz.ti33, Tryz.ti34, Tryz.ti36, Tryz.ti44, Tryz.ti50, Tryz.ti82, Tryz.ti85, Tryz.ti94, e_values, e1, e2]
  subst e_values
  generalize rightsE wher 0 1 = w at hwher ⊢
  generalize srcsS src 1 = sr at hsrc1 ⊢
  generalize rightsE items 0 40 = it at hitems ⊢
  cases it
  · simp [Tryz.f16, Tryz.ti3, Tryz.ti4, Tryz.ti9, Tryz.ti22, Tryz.ti31, Tryz.ti32, Tryz.ti33, Tryz.ti34, Tryz.ti36, Tryz.ti44, Tryz.ti50, Tryz.ti82, Tryz.ti85, Tryz.ti94, hitems]
  · cases sr
    · simp [Tryz.f16, Tryz.ti3, Tryz.ti4, Tryz.ti9, Tryz.ti22, Tryz.ti31, Tryz.ti32, Tryz.ti33, Tryz.ti34, Tryz.ti36, Tryz.ti44, Tryz.ti50, Tryz.ti82, Tryz.ti85, Tryz.ti94, hitems, hsrc1]
    · simp [Tryz.f16, Tryz.ti3, Tryz.ti4, Tryz.ti9, Tryz.ti22, Tryz.ti31, Tryz.ti32, Tryz.ti33, Tryz.ti34, Tryz.ti36, Tryz.ti44, Tryz.ti50, Tryz.ti82, Tryz.ti85, Tryz.ti94, hitems, hsrc1, hwher]
end Go.Abs

namespace Go.Abs
set_option linter.unusedSimpArgs false
set_option linter.unusedVariables false
open Go Go.Proofs
attribute [local simp] i_nil i_blk i_skip i_ret i_exit i_seq i_block i_cond i_region' i_ops_nil i_ops i_drawn' k_none k_0 k_1 k_2 k_3 k_4 k_5 d_in a_nil a_cons alt1 h_nil h_one h_two z_nil z_cons z_cells zeqL zeq q_alloc q_some nxtN i_drh d_hi i_drw_nil i_drw u_nil u_code u_ops u_drw u_lp u_again u_exit u_ret u_panic c_bool o_some o_val o_panic d_some d_val d_panic w_none w_fast wantG q_nil q_zero q_succ t_zero t_succ g_zero g_succ s_zero s_succ s_some s_none v_tmp v_const v_func f_quiet gc_none gc_pure wrap_i64 p_move p_assign p_pick p_alloc p_box p_build p_buildSlice p_load p_store p_nilCheck p_binOp n_tmp n_int n_bool n_str n_ptr n_fun n_iface nilCmp p_unOp p_convert p_makeSlice p_makeInterface p_makeFunc p_slice p_fieldAddr p_field p_indexAddr p_index p_extract p_callv p_callb p_panic quiet_val new_val e_assign e_call e_load e_store e_alloc e_box e_move e_pick e_build e_buildSlice e_nilCheck e_binOp e_unOp e_convert e_makeSlice e_makeInterface e_makeFunc e_slice e_fieldAddr e_field e_indexAddr e_index e_extract e_panic callD fpRead adoptZ fulls adopt adoptL ofValue ofScalar binOpV unOpV intBin strBin eqRes veq veqF eqDepth val? finish resL r_tmp r_cell normL normTop tipIs refsL refs ownRefs single frz frzL ren renL renOwn callOp doCall backR writeBack builtinV loadV storeV storeW iceT cellsAt takeV D.isAgg overlay vcells cellOk fieldAddrV indexAddrV fieldV partV indexV buildV fillV buildSliceV litElems appendV appElems elemOk convertV convV winStr makeSliceV sliceV natOf
attribute [local simp ↓] brB_true brB_false brB_dec brB_not brB_and brB_or brB_beq brB_bne

theorem dig_byte (d : Nat) (h : d < 10) : UInt8.ofNat (IntKind.u8.wrap (IntKind.i64.wrap (48 + (d : Int)))).toNat = UInt8.ofNat (48 + d) := by
  have e : (IntKind.u8.wrap (IntKind.i64.wrap (48 + (d : Int)))).toNat = 48 + d := by
    rw [wrap_i64 (by omega)]
    simp only [IntKind.wrap, IntKind.bits, IntKind.signed]
    simp
    omega
  rw [e]

theorem dec_len (u : Nat) (hu : (u : Int) ≤ 9223372036854775807) : (Lib.decDigits u).length ≤ 21 := by
  have := Lib.itoa_length_le u (by omega) hu
  rwa [Lib.itoa_nonneg] at this

set_option maxRecDepth 100000 in
theorem ev_digits_nat : ∀ (k u : Nat), u < k → (u : Int) ≤ 9223372036854775807 → EV 63 [.int .i64 u] [] = some (.ret (.str (Lib.decDigits u)), [])
  | 0, u, h, _ => by omega
  | k + 1, u, hk, hu => by
    rw [EV_mki rfl Tryz.func63 rfl (by kernel_rfl) rfl]
    have h1 : ¬ ((u : Int) = -9223372036854775808) := by omega
    have h2 : ¬ ((u : Int) < 0) := by omega
    by_cases h3 : u < 10
    · have h3' : (u : Int) < 10 := by omega
      have hb := dig_byte u h3
      rw [Lib.decDigits, dif_pos h3]
      generalize UInt8.ofNat (48 + u) = c at hb ⊢
      simp [Tryz.f63, Tryz.ti3, Tryz.ti5, Tryz.ti9, Tryz.ti138, h1, h2, h3', bytesOf, hb]
    · have h3' : ¬ (u : Int) < 10 := by omega
      have ih := ev_digits_nat k (u / 10) (by omega) (by omega)
      have hb := dig_byte (u % 10) (by omega)
      have hl := dec_len (u / 10) (by omega)
      rw [Lib.decDigits, dif_neg h3]
      generalize UInt8.ofNat (48 + u % 10) = c at hb ⊢
      have hq : IntKind.i64.wrap ((u : Int) / 10) = (u : Int) / 10 := wrap_i64 (by omega)
      have e1 : (u : Int).tdiv 10 = (u : Int) / 10 := by rw [Int.tdiv_eq_ediv_of_nonneg (by omega)]
      have e2 : (u : Int).tmod 10 = (u : Int) % 10 := by rw [Int.tmod_eq_emod_of_nonneg (by omega)]
      have hb0 : (Lib.decDigits (u / 10)).length + 1 ≤ 4611686018427387904 := by omega
      simp only [Int.natCast_ediv, Int.natCast_emod, Int.cast_ofNat_Int] at ih hb
      simp [Tryz.f63, Tryz.ti3, Tryz.ti5, Tryz.ti9, Tryz.ti138, h1, h2, h3', bytesOf, hb, e1, e2, ih, hq, hb0] <;> first | (refine panQ_of ?_; decide +kernel) | (change _ = true; decide +kernel) | kernel_rfl | (refine ⟨?_, ?_⟩ <;> first | (change _ = true; decide +kernel) | kernel_rfl)
set_option maxRecDepth 100000 in
theorem ev_digits (n : Int) (hn : inI n) : EV 63 [.int .i64 n] [] = some (.ret (.str (Lib.itoa n)), []) := by
  have hn' := hn
  unfold inI at hn'
  by_cases h0 : n < 0
  · by_cases hb : n = -9223372036854775808
    · subst hb
      rw [EV_mki rfl Tryz.func63 rfl (by kernel_rfl) rfl]
      have e : Lib.itoa (-9223372036854775808) = [45, 57, 50, 50, 51, 51, 55, 50, 48, 51, 54, 56, 53, 52, 55, 55, 53, 56, 48, 56] := by
        rw [show (-9223372036854775808 : Int) = -((9223372036854775808 : Nat) : Int) from rfl, Lib.itoa_neg _ (by omega)]
        simp [Lib.decDigits]
      rw [e]
      simp [Tryz.f63, Tryz.ti3, Tryz.ti5, Tryz.ti9, Tryz.ti138]
    · obtain ⟨u, rfl⟩ : ∃ u : Nat, n = -(u : Int) := ⟨n.natAbs, by omega⟩
      have hd := ev_digits_nat (u + 1) u (by omega) (by omega)
      have hl := dec_len u (by omega)
      have hw : IntKind.i64.wrap (u : Int) = u := wrap_i64 (by omega)
      have hb0 : (Lib.decDigits u).length + 1 ≤ 4611686018427387904 := by omega
      have hb1 : 1 + (Lib.decDigits u).length ≤ 4611686018427387904 := by omega
      have hu0 : 0 < u := by omega
      rw [Lib.itoa_neg _ (by omega), EV_mki rfl Tryz.func63 rfl (by kernel_rfl) rfl]
      simp [Tryz.f63, Tryz.ti3, Tryz.ti5, Tryz.ti9, Tryz.ti138, hb, h0, hd, hw, hb0, hb1, hu0]
  · obtain ⟨u, rfl⟩ : ∃ u : Nat, n = (u : Int) := ⟨n.toNat, by omega⟩
    rw [Lib.itoa_nonneg]
    exact ev_digits_nat (u + 1) u (by omega) (by omega)

theorem quoteE_app (a b : List UInt8) : quoteE (a ++ b) = quoteE a ++ quoteE b := by simp [quoteE]
set_option maxRecDepth 100000 in
theorem ev_rshow (k n : Int) (s : List UInt8) (hk : k = 0 ∨ k = 1 ∨ k = 2 ∨ k = 3) (hn : inI n) (hs : s.length ≤ 1048576) : EV 68 [.agg [.int .i64 k, .int .i64 n, .str s]] [] = some (.ret (.str (showV ⟨k, n, s⟩)), []) := by
  rw [EV_mki rfl Tryz.func68 rfl (by kernel_rfl) rfl]
  have hi := ev_digits n hn
  rcases hk with rfl | rfl | rfl | rfl
  · simp [Tryz.f68, Tryz.ti3, Tryz.ti5, Tryz.ti9, Tryz.ti44, showV]
  · by_cases hn1 : n = 1
    · subst hn1; simp [Tryz.f68, Tryz.ti3, Tryz.ti5, Tryz.ti9, Tryz.ti44, showV]
    · simp [Tryz.f68, Tryz.ti3, Tryz.ti5, Tryz.ti9, Tryz.ti44, showV, hn1]
  · simp [Tryz.f68, Tryz.ti3, Tryz.ti5, Tryz.ti9, Tryz.ti44, showV, hi]
  · simp [Tryz.f68, Tryz.ti3, Tryz.ti5, Tryz.ti9, Tryz.ti44]
    rw [i_loop (ts := [20, 21, 22, 23, 24, 27, 28, 29, 30, 31, 32, 33, 34, 35, 36, 37, 38, 39, 40, 41, 25, 26])]
    rotate_left
    · kernel_rfl
    refine i_at (fun i : {i : Nat // i ≤ s.length} => s.length - i.1) (fun i env => setV (setV env 4 (.int .i64 i.1)) 3 (.str (39 :: quoteE (s.take i.1)))) (fun i => _) (fun i => some (.ret (.str (showV ⟨3, n, s⟩)), [])) ⟨0, by omega⟩ (by simp [s_zero, s_succ, quoteE]) rfl rfl ?_
    intro ⟨i, hil⟩ ih
    dsimp only at hil ⊢
    by_cases hi : i < s.length
    · have ih := ih ⟨i + 1, by omega⟩ (by simp only; omega)
      have hwi : IntKind.i64.wrap ((i : Int) + 1) = (i : Int) + 1 := wrap_i64 (by omega)
      obtain ⟨c, hc⟩ : ∃ m, s[i] = m := ⟨_, rfl⟩
      have hcc : s[i]? = some c := by rw [List.getElem?_eq_getElem hi, hc]
      have ht : s.take (i + 1) = s.take i ++ [c] := by rw [List.take_succ_eq_append_getElem hi, hc]
      have hsl : (s.take (i + 1)).drop i = [c] := by rw [ht, List.drop_append_of_le_length (by simp; omega), List.drop_of_length_le (by rw [List.length_take]; omega)]; rfl
      have hq := quoteE_len (s.take i)
      have htl : (s.take i).length = i := by simp; omega
      simp only at ih
      rw [ht, quoteE_app] at ih
      generalize quoteE (s.take i) = q at *
      have hb0 : q.length + 1 + 1 ≤ 4611686018427387904 := by omega
      have hb1 : q.length + 1 + 1 + 1 ≤ 4611686018427387904 := by omega
      have hi1 : i + 1 ≤ s.length := by omega
      have hn2 : ¬ (i : Int) + 1 < 0 := by omega
      have hn3 : (0 : Int) ≤ (i : Int) + 1 := by omega
      have htn : ((i : Int) + 1).toNat = i + 1 := by omega
      by_cases h39 : c = 39
      · subst h39
        simp only [s_zero, s_succ, Int.natCast_add, Int.natCast_one, Int.cast_ofNat_Int, quoteE, List.flatMap_cons, List.flatMap_nil, if_true, List.append_nil, List.cons_append, List.nil_append] at ih
        simp [i_again, roundEnd, dropT, cleanV, Tryz.f68, Tryz.ti3, Tryz.ti5, Tryz.ti9, Tryz.ti44, hi, hc, hcc, hwi, ih, hsl, hb0, hb1, hi1, hn2, hn3, htn]
      · have h39' : ¬ (c.toNat : Int) = 39 := fun e => h39 (UInt8.toNat_inj.1 (by have : (39 : UInt8).toNat = 39 := rfl; omega))
        simp only [s_zero, s_succ, Int.natCast_add, Int.natCast_one, Int.cast_ofNat_Int, quoteE, List.flatMap_cons, List.flatMap_nil, h39, if_false, List.append_nil, List.cons_append, List.nil_append] at ih
        simp [i_again, roundEnd, dropT, cleanV, Tryz.f68, Tryz.ti3, Tryz.ti5, Tryz.ti9, Tryz.ti44, hi, hc, hcc, hwi, ih, hsl, hb0, hb1, hi1, hn2, hn3, htn, h39, h39']
    · have ht : s.take i = s := List.take_of_length_le (by omega)
      have hq := quoteE_len s
      have hb0 : (quoteE s).length + 1 + 1 ≤ 4611686018427387904 := by omega
      rw [ht]
      simp [i_again, roundEnd, dropT, cleanV, Tryz.f68, Tryz.ti3, Tryz.ti5, Tryz.ti9, Tryz.ti44, hi, hb0, showV]
end Go.Abs

namespace Go.Abs
set_option linter.unusedSimpArgs false
set_option linter.unusedVariables false
open Go Go.Proofs
attribute [local simp] i_nil i_blk i_skip i_ret i_exit i_seq i_block i_cond i_region' i_ops_nil i_ops i_drawn' k_none k_0 k_1 k_2 k_3 k_4 k_5 d_in a_nil a_cons alt1 h_nil h_one h_two z_nil z_cons z_cells zeqL zeq q_alloc q_some nxtN i_drh d_hi i_drw_nil i_drw u_nil u_code u_ops u_drw u_lp u_again u_exit u_ret u_panic c_bool o_some o_val o_panic d_some d_val d_panic w_none w_fast wantG q_nil q_zero q_succ t_zero t_succ g_zero g_succ s_zero s_succ s_some s_none v_tmp v_const v_func f_quiet gc_none gc_pure wrap_i64 p_move p_assign p_pick p_alloc p_box p_build p_buildSlice p_load p_store p_nilCheck p_binOp n_tmp n_int n_bool n_str n_ptr n_fun n_iface nilCmp p_unOp p_convert p_makeSlice p_makeInterface p_makeFunc p_slice p_fieldAddr p_field p_indexAddr p_index p_extract p_callv p_callb p_panic quiet_val new_val e_assign e_call e_load e_store e_alloc e_box e_move e_pick e_build e_buildSlice e_nilCheck e_binOp e_unOp e_convert e_makeSlice e_makeInterface e_makeFunc e_slice e_fieldAddr e_field e_indexAddr e_index e_extract e_panic callD fpRead adoptZ fulls adopt adoptL ofValue ofScalar binOpV unOpV intBin strBin eqRes veq veqF eqDepth val? finish resL r_tmp r_cell normL normTop tipIs refsL refs ownRefs single frz frzL ren renL renOwn callOp doCall backR writeBack builtinV loadV storeV storeW iceT cellsAt takeV D.isAgg overlay vcells cellOk fieldAddrV indexAddrV fieldV partV indexV buildV fillV buildSliceV litElems appendV appElems elemOk convertV convV winStr makeSliceV sliceV natOf
attribute [local simp ↓] brB_true brB_false brB_dec brB_not brB_and brB_or brB_beq brB_bne

theorem ev_upper (op : List UInt8) (h : op ∈ twoOps) : EV 93 [.str op] [] = some (.ret (.str (upS op)), []) := by
  unfold EV
  rw [ev_eq]
  simp only [twoOps, List.mem_cons, List.mem_nil_iff, or_false] at h
  rcases h with rfl | rfl | rfl | rfl | rfl | rfl | rfl | rfl | rfl | rfl | rfl <;> rfl

theorem two_len {op : List UInt8} (h : op ∈ twoOps) : op.length ≤ 3 ∧ (upS op).length ≤ 3 := by
  simp only [twoOps, List.mem_cons, List.mem_nil_iff, or_false] at h
  rcases h with rfl | rfl | rfl | rfl | rfl | rfl | rfl | rfl | rfl | rfl | rfl <;> exact ⟨by decide, by decide⟩

theorem name_len {s : List UInt8} (h : nameS s = true) : s.length ≤ 16 := by
  unfold nameS at h
  cases s with
  | nil => simp
  | cons c r => simp at h; simp; omega
theorem right_text {v : Val} (h : rightS v = true) : (v.kind = 0 ∨ v.kind = 1 ∨ v.kind = 2 ∨ v.kind = 3) ∧ v.s.length ≤ 24 := by
  unfold rightS at h
  split at h
  · simp at h; exact ⟨.inl (by assumption), by simp [h.2]⟩
  · split at h
    · simp at h; exact ⟨.inr (.inl (by assumption)), by simp [h.1]⟩
    · split at h
      · simp at h; exact ⟨.inr (.inr (.inl (by assumption))), by simp [h]⟩
      · split at h
        · simp at h; exact ⟨.inr (.inr (.inr (by assumption))), by omega⟩
        · cases h
theorem showV_len {v : Val} (h : rightS v = true) (hn : inI v.n) : (showV v).length ≤ 50 := by
  have h1 := Lib.itoa_length_le v.n hn.1 hn.2
  have h2 := quoteE_len v.s
  have h3 := (right_text h).2
  unfold showV
  split
  · split <;> simp
  · split
    · omega
    · split
      · simp; omega
      · simp

/- what is right, taken apart -/
theorem right_parts {d : Nat} {op : List UInt8} {v : Val} {var col : List UInt8} {l : List Xp} (h : rightE (d + 1) (.mk op v var col l) = true) :
    (op = oValue ∧ l = [] ∧ var = [] ∧ col = [] ∧ rightS v = true ∧ (v.kind ≠ 2 ∨ 0 ≤ v.n)) ∨
    (op = oColumn ∧ l = [] ∧ v = Val.zero ∧ nameS col = true ∧ (var = [] ∨ nameS var = true)) ∨
    (∃ a, (op = oNeg ∨ op = oNot ∨ op = oNull) ∧ l = [a] ∧ v = Val.zero ∧ var = [] ∧ col = [] ∧ rightE d a = true) ∨
    (∃ a b, op ∈ twoOps ∧ op ≠ oNeg ∧ op ≠ oNot ∧ op ≠ oNull ∧ op ≠ oValue ∧ op ≠ oColumn ∧ l = [a, b] ∧ v = Val.zero ∧ var = [] ∧ col = [] ∧ rightE d a = true ∧ rightE d b = true) := by
  simp only [rightE, Bool.and_eq_true, Bool.or_eq_true, decide_eq_true_eq] at h
  obtain ⟨⟨⟨hA, hZ⟩, hC⟩, hk⟩ := h
  by_cases h1 : op = oValue
  · subst h1
    left
    have hl : l.length = 0 := by have : arityS oValue = 0 := rfl; omega
    simp only [if_true, Bool.and_eq_true, decide_eq_true_eq] at hk
    have hc : var = [] ∧ col = [] := by
      rcases hC with e | e
      · exact absurd e (by decide)
      · exact e
    exact ⟨rfl, List.eq_nil_of_length_eq_zero hl, hc.1, hc.2, hk.1, hk.2⟩
  by_cases h2 : op = oColumn
  · subst h2
    right; left
    have hl : l.length = 0 := by have : arityS oColumn = 0 := rfl; omega
    simp only [h1, if_false, if_true, Bool.and_eq_true, Bool.or_eq_true, decide_eq_true_eq] at hk
    have hz : v = Val.zero := by
      rcases hZ with e | e
      · exact absurd e (by decide)
      · exact e
    exact ⟨rfl, List.eq_nil_of_length_eq_zero hl, hz, hk.1, hk.2⟩
  have hz : v = Val.zero := by
    rcases hZ with e | e
    · exact absurd e h1
    · exact e
  have hc : var = [] ∧ col = [] := by
    rcases hC with e | e
    · exact absurd e h2
    · exact e
  simp only [h1, h2, if_false, List.all_eq_true] at hk
  by_cases h3 : op = oNeg ∨ op = oNot ∨ op = oNull
  · right; right; left
    have hA' : arityS op = 1 := by simp [arityS, h1, h2, h3]
    obtain ⟨a, rfl⟩ : ∃ a, l = [a] := List.length_eq_one_iff.1 (by omega)
    exact ⟨a, h3, rfl, hz, hc.1, hc.2, hk a (by simp)⟩
  · right; right; right
    by_cases h4 : op ∈ twoOps
    · have hA' : arityS op = 2 := by simp only [arityS, h1, h2, h3, h4, or_self, if_false, if_true]
      obtain ⟨a, b, rfl⟩ : ∃ a b, l = [a, b] := by
        match l, hA with
        | [], hA => simp at hA; omega
        | [a], hA => simp at hA; omega
        | [a, b], _ => exact ⟨a, b, rfl⟩
        | a :: b :: c :: r, hA => simp at hA; omega
      exact ⟨a, b, h4, fun e => h3 (.inl e), fun e => h3 (.inr (.inl e)), fun e => h3 (.inr (.inr e)), h1, h2, rfl, hz, hc.1, hc.2, hk a (by simp), hk b (by simp)⟩
    · have hA' : arityS op = -1 := by simp only [arityS, h1, h2, h3, h4, or_self, if_false]
      omega

theorem showE_value (v : Val) (var col : List UInt8) (l : List Xp) : showE (.mk oValue v var col l) = showV v := by simp [showE]
theorem showE_column (v : Val) (var col : List UInt8) (l : List Xp) : showE (.mk oColumn v var col l) = if var = [] then col else var ++ 46 :: col := by simp [showE, show ¬ oColumn = oValue from of_decide_eq_true rfl]
theorem showE_neg (v : Val) (var col : List UInt8) (a : Xp) : showE (.mk oNeg v var col [a]) = 40 :: 45 :: 32 :: (showE a ++ [41]) := by
  simp [showE, showEs, show ¬ oNeg = oValue from of_decide_eq_true rfl, show ¬ oNeg = oColumn from of_decide_eq_true rfl]
theorem showE_not (v : Val) (var col : List UInt8) (a : Xp) : showE (.mk oNot v var col [a]) = [40, 78, 79, 84, 32] ++ showE a ++ [41] := by
  simp [showE, showEs, show ¬ oNot = oValue from of_decide_eq_true rfl, show ¬ oNot = oColumn from of_decide_eq_true rfl, show ¬ oNot = oNeg from of_decide_eq_true rfl]
theorem showE_null (v : Val) (var col : List UInt8) (a : Xp) : showE (.mk oNull v var col [a]) = 40 :: (showE a ++ [32, 73, 83, 32, 78, 85, 76, 76, 41]) := by
  simp [showE, showEs, show ¬ oNull = oValue from of_decide_eq_true rfl, show ¬ oNull = oColumn from of_decide_eq_true rfl, show ¬ oNull = oNeg from of_decide_eq_true rfl, show ¬ oNull = oNot from of_decide_eq_true rfl]
theorem showE_two {op : List UInt8} (h1 : op ≠ oNeg) (h2 : op ≠ oNot) (h3 : op ≠ oNull) (h4 : op ≠ oValue) (h5 : op ≠ oColumn) (v : Val) (var col : List UInt8) (a b : Xp) : showE (.mk op v var col [a, b]) = 40 :: (showE a ++ 32 :: (upS op ++ 32 :: (showE b ++ [41]))) := by
  simp [showE, showEs, h1, h2, h3, h4, h5]

theorem showE_len : ∀ (d : Nat) (e : Xp), rightE d e = true → e.ok → (showE e).length + 8 ≤ 64 * 2 ^ d
  | 0, .mk op v var col l, h, _ => by cases h
  | d + 1, .mk op v var col l, h, ho => by
    have hp : 1 ≤ 2 ^ d := Nat.one_le_two_pow
    have hp' : 2 ^ (d + 1) = 2 * 2 ^ d := by rw [Nat.pow_succ, Nat.mul_comm]
    rw [hp']
    rcases right_parts h with ⟨rfl, rfl, rfl, rfl, h1, h2⟩ | ⟨rfl, rfl, rfl, h1, h2⟩ | ⟨a, h1, rfl, rfl, rfl, rfl, h2⟩ | ⟨a, b, h1, n1, n2, n3, n4, n5, rfl, rfl, rfl, rfl, h2, h3⟩
    · rw [showE_value]
      have := showV_len h1 ho.2.1.2.1
      omega
    · rw [showE_column]
      have := name_len h1
      split
      · omega
      · rename_i hv
        rcases h2 with e | e
        · exact absurd e hv
        · have := name_len e
          simp; omega
    · have hl := showE_len d a h2 ho.2.2.2.2.2.1
      rcases h1 with rfl | rfl | rfl
      · rw [showE_neg]; simp; omega
      · rw [showE_not]; simp; omega
      · rw [showE_null]; simp; omega
    · have hl := showE_len d a h2 ho.2.2.2.2.2.1
      have hl' := showE_len d b h3 ho.2.2.2.2.2.2.1
      have hu := (two_len h1).2
      rw [showE_two n1 n2 n3 n4 n5]
      simp; omega

theorem ev_show1 (a : Xp) (A : List UInt8) (ha : EV 54 [a.enc] [] = some (.ret (.str A), [])) (hA : A.length ≤ 1000000000) (op : List UInt8) (h : op = oNeg ∨ op = oNot ∨ op = oNull) :
    EV 54 [(Xp.mk op Val.zero [] [] [a]).enc] [] = some (.ret (.str (if op = oNeg then 40 :: 45 :: 32 :: (A ++ [41]) else if op = oNot then [40, 78, 79, 84, 32] ++ A ++ [41] else 40 :: (A ++ [32, 73, 83, 32, 78, 85, 76, 76, 41]))), []) := by
  rw [EV_mki rfl Tryz.func54 rfl (by kernel_rfl) rfl, xenc_mk]
  obtain ⟨op', v', var', col', kids'⟩ := a
  rw [xenc_mk] at ha
  have hb0 : 3 + A.length ≤ 4611686018427387904 := by omega
  have hb1 : A.length + 3 + 1 ≤ 4611686018427387904 := by omega
  have hb2 : A.length + 1 + 1 + 1 + 1 ≤ 4611686018427387904 := by omega
  have hb3 : 5 + A.length ≤ 4611686018427387904 := by omega
  have hb4 : 5 + A.length + 1 ≤ 4611686018427387904 := by omega
  have hb5 : 1 + A.length ≤ 4611686018427387904 := by omega
  have hb6 : A.length + 1 + 9 ≤ 4611686018427387904 := by omega
  have hb7 : A.length + 1 + 1 + 1 + 1 + 1 + 1 ≤ 4611686018427387904 := by omega
  rcases h with rfl | rfl | rfl
  · simp [Tryz.f54, Tryz.ti3, Tryz.ti9, Tryz.ti23, Tryz.ti44, Tryz.ti46, xenc_mk, ha, oNeg, oNot, oNull, Val.zero, hb0, hb1, hb2, hb3, hb4, hb5, hb6, hb7]
  · simp [Tryz.f54, Tryz.ti3, Tryz.ti9, Tryz.ti23, Tryz.ti44, Tryz.ti46, xenc_mk, ha, oNeg, oNot, oNull, Val.zero, hb0, hb1, hb2, hb3, hb4, hb5, hb6, hb7]
  · simp [Tryz.f54, Tryz.ti3, Tryz.ti9, Tryz.ti23, Tryz.ti44, Tryz.ti46, xenc_mk, ha, oNeg, oNot, oNull, Val.zero, hb0, hb1, hb2, hb3, hb4, hb5, hb6, hb7]

def twoT (op A B : List UInt8) : List UInt8 := 40 :: (A ++ 32 :: (upS op ++ 32 :: (B ++ [41])))
set_option maxHeartbeats 1000000 in
theorem ev_show2 (a b : Xp) (A B : List UInt8) (ha : EV 54 [a.enc] [] = some (.ret (.str A), [])) (hb : EV 54 [b.enc] [] = some (.ret (.str B), [])) (hA : A.length ≤ 1000000000) (hB : B.length ≤ 1000000000) (op : List UInt8)
    (h : op ∈ twoOps) (h1 : op ≠ oNeg) (h2 : op ≠ oNot) (h3 : op ≠ oNull) (h4 : op ≠ oValue) (h5 : op ≠ oColumn) :
    EV 54 [(Xp.mk op Val.zero [] [] [a, b]).enc] [] = some (.ret (.str (twoT op A B)), []) := by
  rw [EV_mki rfl Tryz.func54 rfl (by kernel_rfl) rfl, xenc_mk]
  obtain ⟨op', v', var', col', kids'⟩ := a
  obtain ⟨op'', v'', var'', col'', kids''⟩ := b
  rw [xenc_mk] at ha hb
  have hu := ev_upper op h
  have hl := (two_len h).2
  unfold twoT
  generalize upS op = U at *
  simp only [oNeg, oNot, oNull, oValue, oColumn, ne_eq] at h1 h2 h3 h4 h5
  simp (disch := first | ((try simp only [List.length_cons, List.length_append, List.length_nil]); omega) | simp [refsL, refs]) [-strBin, sb_add, sb_eql, sb_neq, sb_lss, Tryz.f54, Tryz.ti3, Tryz.ti9, Tryz.ti23, Tryz.ti44, Tryz.ti46, xenc_mk, ha, hb, hu, h1, h2, h3, h4, h5, Val.zero] <;> first | (refine panQ_of ?_; decide +kernel) | (change _ = true; decide +kernel) | kernel_rfl | (refine ⟨?_, ?_⟩ <;> first | (change _ = true; decide +kernel) | kernel_rfl)

theorem ev_show : ∀ (d : Nat) (e : Xp), d ≤ 20 → rightE d e = true → e.ok → EV 54 [e.enc] [] = some (.ret (.str (showE e)), [])
  | 0, .mk op v var col l, _, h, _ => by cases h
  | d + 1, .mk op v var col l, hd, h, ho => by
    have hpw : 2 ^ d ≤ 2 ^ 19 := Nat.pow_le_pow_right (by omega) (by omega)
    rcases right_parts h with ⟨rfl, rfl, rfl, rfl, h1, h2⟩ | ⟨rfl, rfl, rfl, h1, h2⟩ | ⟨a, h1, rfl, rfl, rfl, rfl, h2⟩ | ⟨a, b, h1, n1, n2, n3, n4, n5, rfl, rfl, rfl, rfl, h2, h3⟩
    · rw [showE_value, EV_mki rfl Tryz.func54 rfl (by kernel_rfl) rfl, xenc_mk]
      have hs := ev_vshow v.kind v.n v.s ho.2.1.2.1 (by have := (right_text h1).2; omega)
      have e : (⟨v.kind, v.n, v.s⟩ : Val) = v := rfl
      rw [e] at hs
      simp [Tryz.f54, Tryz.ti3, Tryz.ti9, Tryz.ti23, Tryz.ti44, Tryz.ti46, oValue, hs]
    · rw [showE_column, EV_mki rfl Tryz.func54 rfl (by kernel_rfl) rfl, xenc_mk]
      have hc := name_len h1
      by_cases hv : var = []
      · subst hv
        simp [Tryz.f54, Tryz.ti3, Tryz.ti9, Tryz.ti23, Tryz.ti44, Tryz.ti46, oColumn, Val.zero]
      · have hvl : var.length ≤ 16 := by
          rcases h2 with e | e
          · exact absurd e hv
          · exact name_len e
        have hb0 : var.length + 1 ≤ 4611686018427387904 := by omega
        have hb1 : var.length + 1 + col.length ≤ 4611686018427387904 := by omega
        simp [Tryz.f54, Tryz.ti3, Tryz.ti9, Tryz.ti23, Tryz.ti44, Tryz.ti46, oColumn, hv, Val.zero, hb0, hb1]
    · have ha := ev_show d a (by omega) h2 ho.2.2.2.2.2.1
      have hl := showE_len d a h2 ho.2.2.2.2.2.1
      rw [ev_show1 a (showE a) ha (by omega) op h1]
      rcases h1 with rfl | rfl | rfl
      · rw [if_pos rfl, showE_neg]
      · rw [if_neg (by decide), if_pos rfl, showE_not]
      · rw [if_neg (by decide), if_neg (by decide), showE_null]
    · have ha := ev_show d a (by omega) h2 ho.2.2.2.2.2.1
      have hl := showE_len d a h2 ho.2.2.2.2.2.1
      have hb := ev_show d b (by omega) h3 ho.2.2.2.2.2.2.1
      have hl' := showE_len d b h3 ho.2.2.2.2.2.2.1
      rw [ev_show2 a b (showE a) (showE b) ha hb (by omega) (by omega) op h1 n1 n2 n3 n4 n5, showE_two n1 n2 n3 n4 n5]
      rfl
theorem ev_showexpr (e : Xp) (h : e.ok) : EV 25 [e.enc] [] = some (.ret (.str (if rightE 20 e then showE e else [])), []) := by
  have hr := ev_rightexpr e h
  have hs := fun h' => ev_show 20 e (by omega) h' h
  rw [EV_mki rfl Tryz.func25 rfl (by kernel_rfl) rfl]
  obtain ⟨op, v, var, col, l⟩ := e
  rw [xenc_mk] at hr hs ⊢
  cases hb : rightE 20 (.mk op v var col l)
  · rw [hb] at hr
    simp [Tryz.f25, Tryz.ti3, Tryz.ti9, Tryz.ti23, Tryz.ti44, Tryz.ti46, hr]
  · rw [hb] at hr
    have hs := hs hb
    simp [Tryz.f25, Tryz.ti3, Tryz.ti9, Tryz.ti23, Tryz.ti44, Tryz.ti46, hr, hs]

/- the reference's -/
theorem ev_rshow1 (a : Xp) (A : List UInt8) (ha : EV 26 [a.enc] [] = some (.ret (.str A), [])) (hA : A.length ≤ 1000000000) (op : List UInt8) (h : op = oNeg ∨ op = oNot ∨ op = oNull) :
    EV 26 [(Xp.mk op Val.zero [] [] [a]).enc] [] = some (.ret (.str (if op = oNeg then 40 :: 45 :: 32 :: (A ++ [41]) else if op = oNot then [40, 78, 79, 84, 32] ++ A ++ [41] else 40 :: (A ++ [32, 73, 83, 32, 78, 85, 76, 76, 41]))), []) := by
  rw [EV_mki rfl Tryz.func26 rfl (by kernel_rfl) rfl, xenc_mk]
  obtain ⟨op', v', var', col', kids'⟩ := a
  rw [xenc_mk] at ha
  have hb0 : 3 + A.length ≤ 4611686018427387904 := by omega
  have hb1 : A.length + 3 + 1 ≤ 4611686018427387904 := by omega
  have hb2 : A.length + 1 + 1 + 1 + 1 ≤ 4611686018427387904 := by omega
  have hb3 : 5 + A.length ≤ 4611686018427387904 := by omega
  have hb4 : 5 + A.length + 1 ≤ 4611686018427387904 := by omega
  have hb5 : 1 + A.length ≤ 4611686018427387904 := by omega
  have hb6 : A.length + 1 + 9 ≤ 4611686018427387904 := by omega
  have hb7 : A.length + 1 + 1 + 1 + 1 + 1 + 1 ≤ 4611686018427387904 := by omega
  rcases h with rfl | rfl | rfl
  · simp [Tryz.f26, Tryz.ti3, Tryz.ti9, Tryz.ti31, Tryz.ti44, Tryz.ti50, xenc_mk, ha, oNeg, oNot, oNull, Val.zero, hb0, hb1, hb2, hb3, hb4, hb5, hb6, hb7]
  · simp [Tryz.f26, Tryz.ti3, Tryz.ti9, Tryz.ti31, Tryz.ti44, Tryz.ti50, xenc_mk, ha, oNeg, oNot, oNull, Val.zero, hb0, hb1, hb2, hb3, hb4, hb5, hb6, hb7]
  · simp [Tryz.f26, Tryz.ti3, Tryz.ti9, Tryz.ti31, Tryz.ti44, Tryz.ti50, xenc_mk, ha, oNeg, oNot, oNull, Val.zero, hb0, hb1, hb2, hb3, hb4, hb5, hb6, hb7]
set_option maxHeartbeats 2000000 in
theorem ev_rshow2 (a b : Xp) (A B : List UInt8) (ha : EV 26 [a.enc] [] = some (.ret (.str A), [])) (hb : EV 26 [b.enc] [] = some (.ret (.str B), [])) (hA : A.length ≤ 1000000000) (hB : B.length ≤ 1000000000) (op : List UInt8)
    (h : op ∈ twoOps) (h1 : op ≠ oNeg) (h2 : op ≠ oNot) (h3 : op ≠ oNull) (h4 : op ≠ oValue) (h5 : op ≠ oColumn) :
    EV 26 [(Xp.mk op Val.zero [] [] [a, b]).enc] [] = some (.ret (.str (twoT op A B)), []) := by
  rw [EV_mki rfl Tryz.func26 rfl (by kernel_rfl) rfl, xenc_mk]
  obtain ⟨op', v', var', col', kids'⟩ := a
  obtain ⟨op'', v'', var'', col'', kids''⟩ := b
  rw [xenc_mk] at ha hb
  have hl := (two_len h).1
  unfold twoT
  simp only [oNeg, oNot, oNull, oValue, oColumn, ne_eq] at h1 h2 h3 h4 h5
  by_cases hand : op = [97, 110, 100]
  · subst hand
    simp (disch := first | ((try simp only [List.length_cons, List.length_append, List.length_nil]); omega) | simp [refsL, refs]) [-strBin, sb_add, sb_eql, sb_neq, sb_lss, Tryz.f26, Tryz.ti3, Tryz.ti9, Tryz.ti31, Tryz.ti44, Tryz.ti50, xenc_mk, ha, hb, h1, h2, h3, h4, h5, Val.zero, upS, oAnd, oOr]
  · by_cases hor : op = [111, 114]
    · subst hor
      simp (disch := first | ((try simp only [List.length_cons, List.length_append, List.length_nil]); omega) | simp [refsL, refs]) [-strBin, sb_add, sb_eql, sb_neq, sb_lss, Tryz.f26, Tryz.ti3, Tryz.ti9, Tryz.ti31, Tryz.ti44, Tryz.ti50, xenc_mk, ha, hb, h1, h2, h3, h4, h5, Val.zero, upS, oAnd, oOr]
    · have hup : upS op = op := by simp [upS, oAnd, oOr, hand, hor]
      rw [hup]
      simp (disch := first | ((try simp only [List.length_cons, List.length_append, List.length_nil]); omega) | simp [refsL, refs]) [-strBin, sb_add, sb_eql, sb_neq, sb_lss, Tryz.f26, Tryz.ti3, Tryz.ti9, Tryz.ti31, Tryz.ti44, Tryz.ti50, xenc_mk, ha, hb, h1, h2, h3, h4, h5, hand, hor, Val.zero]
end Go.Abs

