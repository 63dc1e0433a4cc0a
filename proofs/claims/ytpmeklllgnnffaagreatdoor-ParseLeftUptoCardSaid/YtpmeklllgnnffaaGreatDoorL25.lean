/- A number's digits, and a value's text, as the reference writes them. -/
import Derived.Test.YtpmeklllgnnffaaGreatDoorL19
import Derived.Lib.ItoaLen
import Derived.Lib.ItoaMem
import Derived.Test.YtpmeklllgnnffaaGreatDoorL13
set_option linter.unusedSimpArgs false
set_option linter.unusedVariables false

namespace Go.Abs
set_option linter.unusedSimpArgs false
set_option linter.unusedVariables false
open Go Go.Proofs
attribute [local simp] i_nil i_blk i_skip i_ret i_exit i_seq i_block i_cond i_region' i_ops_nil i_ops i_drawn' d_in a_nil a_cons alt1 h_nil h_one h_two z_nil z_cons z_cells zeqL zeq q_alloc q_some isAlO nxtN i_drh d_hi i_drw_nil i_drw u_nil u_code u_ops u_drw u_lp u_again u_exit u_ret u_panic c_bool o_some o_val o_panic d_some d_val d_panic w_none w_fast wantG q_nil q_zero q_succ t_zero t_succ g_zero g_succ s_zero s_succ s_some s_none v_tmp v_const v_func f_quiet gc_none gc_pure wrap_i64 p_move p_assign p_pick p_alloc p_box p_build p_buildSlice p_load p_store p_nilCheck p_binOp n_tmp n_int n_bool n_str n_ptr n_fun n_iface nilCmp p_unOp p_convert p_makeSlice p_makeInterface p_makeFunc p_slice p_fieldAddr p_field p_indexAddr p_index p_extract p_callv p_callb p_panic quiet_val new_val e_assign e_call e_load e_store e_alloc e_box e_move e_pick e_build e_buildSlice e_nilCheck e_binOp e_unOp e_convert e_makeSlice e_makeInterface e_makeFunc e_slice e_fieldAddr e_field e_indexAddr e_index e_extract e_panic callD fpRead adoptZ fulls adopt adoptL ofValue ofScalar binOpV unOpV intBin strBin eqRes veq veqF eqDepth val? finish resL r_tmp r_cell normL normTop tipIs refsL refs ownRefs single frz frzL ren renL renOwn callOp doCall backR writeBack builtinV loadV storeV cellsAt takeV D.isAgg overlay vcells cellOk fieldAddrV indexAddrV fieldV partV indexV buildV fillV buildSliceV litElems appendV appElems elemOk convertV convV winStr makeSliceV sliceV natOf
attribute [local simp ↓] brB_true brB_false brB_dec brB_not brB_and brB_or brB_beq brB_bne

theorem dig_byte (d : Nat) (h : d < 10) : UInt8.ofNat (IntKind.u8.wrap (IntKind.i64.wrap (48 + (d : Int)))).toNat = UInt8.ofNat (48 + d) := by
  have e : (IntKind.u8.wrap (IntKind.i64.wrap (48 + (d : Int)))).toNat = 48 + d := by
    rw [wrap_i64 (by omega)]
    simp only [IntKind.wrap, IntKind.bits, IntKind.signed]
    simp
    omega
  rw [e]

theorem dec_len (u : Nat) (hu : (u : Int) ≤ 9223372036854775807) : (Lib.decDigits u).length ≤ 21 := by
  have := Lib.itoa_length_le u (by omega) hu
  rwa [Lib.itoa_nonneg] at this

set_option maxRecDepth 100000 in
theorem ev_digits_nat : ∀ (k u : Nat), u < k → (u : Int) ≤ 9223372036854775807 → EV 63 [.int .i64 u] [] = some (.ret (.str (Lib.decDigits u)), [])
  | 0, u, h, _ => by omega
  | k + 1, u, hk, hu => by
    rw [EV_mki rfl Tryz.func63 rfl (by kernel_rfl) rfl]
    have h1 : ¬ ((u : Int) = -9223372036854775808) := by omega
    have h2 : ¬ ((u : Int) < 0) := by omega
    by_cases h3 : u < 10
    · have h3' : (u : Int) < 10 := by omega
      have hb := dig_byte u h3
      rw [Lib.decDigits, dif_pos h3]
      generalize UInt8.ofNat (48 + u) = c at hb ⊢
      simp [Tryz.f63, Tryz.ti3, Tryz.ti5, Tryz.ti9, Tryz.ti138, h1, h2, h3', bytesOf, hb]
    · have h3' : ¬ (u : Int) < 10 := by omega
      have ih := ev_digits_nat k (u / 10) (by omega) (by omega)
      have hb := dig_byte (u % 10) (by omega)
      have hl := dec_len (u / 10) (by omega)
      rw [Lib.decDigits, dif_neg h3]
      generalize UInt8.ofNat (48 + u % 10) = c at hb ⊢
      have hq : IntKind.i64.wrap ((u : Int) / 10) = (u : Int) / 10 := wrap_i64 (by omega)
      have e1 : (u : Int).tdiv 10 = (u : Int) / 10 := by rw [Int.tdiv_eq_ediv_of_nonneg (by omega)]
      have e2 : (u : Int).tmod 10 = (u : Int) % 10 := by rw [Int.tmod_eq_emod_of_nonneg (by omega)]
      have hb0 : (Lib.decDigits (u / 10)).length + 1 ≤ 4611686018427387904 := by omega
      simp only [Int.natCast_ediv, Int.natCast_emod, Int.cast_ofNat_Int] at ih hb
      simp [Tryz.f63, Tryz.ti3, Tryz.ti5, Tryz.ti9, Tryz.ti138, h1, h2, h3', bytesOf, hb, e1, e2, ih, hq, hb0] <;> first | (change _ = true; decide +kernel) | kernel_rfl | (refine ⟨?_, ?_⟩ <;> first | (change _ = true; decide +kernel) | kernel_rfl)
set_option maxRecDepth 100000 in
theorem ev_digits (n : Int) (hn : inI n) : EV 63 [.int .i64 n] [] = some (.ret (.str (Lib.itoa n)), []) := by
  have hn' := hn
  unfold inI at hn'
  by_cases h0 : n < 0
  · by_cases hb : n = -9223372036854775808
    · subst hb
      rw [EV_mki rfl Tryz.func63 rfl (by kernel_rfl) rfl]
      have e : Lib.itoa (-9223372036854775808) = [45, 57, 50, 50, 51, 51, 55, 50, 48, 51, 54, 56, 53, 52, 55, 55, 53, 56, 48, 56] := by
        rw [show (-9223372036854775808 : Int) = -((9223372036854775808 : Nat) : Int) from rfl, Lib.itoa_neg _ (by omega)]
        simp [Lib.decDigits]
      rw [e]
      simp [Tryz.f63, Tryz.ti3, Tryz.ti5, Tryz.ti9, Tryz.ti138]
    · obtain ⟨u, rfl⟩ : ∃ u : Nat, n = -(u : Int) := ⟨n.natAbs, by omega⟩
      have hd := ev_digits_nat (u + 1) u (by omega) (by omega)
      have hl := dec_len u (by omega)
      have hw : IntKind.i64.wrap (u : Int) = u := wrap_i64 (by omega)
      have hb0 : (Lib.decDigits u).length + 1 ≤ 4611686018427387904 := by omega
      have hb1 : 1 + (Lib.decDigits u).length ≤ 4611686018427387904 := by omega
      have hu0 : 0 < u := by omega
      rw [Lib.itoa_neg _ (by omega), EV_mki rfl Tryz.func63 rfl (by kernel_rfl) rfl]
      simp [Tryz.f63, Tryz.ti3, Tryz.ti5, Tryz.ti9, Tryz.ti138, hb, h0, hd, hw, hb0, hb1, hu0]
  · obtain ⟨u, rfl⟩ : ∃ u : Nat, n = (u : Int) := ⟨n.toNat, by omega⟩
    rw [Lib.itoa_nonneg]
    exact ev_digits_nat (u + 1) u (by omega) (by omega)

theorem quoteE_app (a b : List UInt8) : quoteE (a ++ b) = quoteE a ++ quoteE b := by simp [quoteE]
set_option maxRecDepth 100000 in
theorem ev_rshow (k n : Int) (s : List UInt8) (hk : k = 0 ∨ k = 1 ∨ k = 2 ∨ k = 3) (hn : inI n) (hs : s.length ≤ 1048576) : EV 68 [.agg [.int .i64 k, .int .i64 n, .str s]] [] = some (.ret (.str (showV ⟨k, n, s⟩)), []) := by
  rw [EV_mki rfl Tryz.func68 rfl (by kernel_rfl) rfl]
  have hi := ev_digits n hn
  rcases hk with rfl | rfl | rfl | rfl
  · simp [Tryz.f68, Tryz.ti3, Tryz.ti5, Tryz.ti9, Tryz.ti44, showV]
  · by_cases hn1 : n = 1
    · subst hn1; simp [Tryz.f68, Tryz.ti3, Tryz.ti5, Tryz.ti9, Tryz.ti44, showV]
    · simp [Tryz.f68, Tryz.ti3, Tryz.ti5, Tryz.ti9, Tryz.ti44, showV, hn1]
  · simp [Tryz.f68, Tryz.ti3, Tryz.ti5, Tryz.ti9, Tryz.ti44, showV, hi]
  · simp [Tryz.f68, Tryz.ti3, Tryz.ti5, Tryz.ti9, Tryz.ti44]
    rw [i_loop (ts := [20, 21, 22, 23, 24, 27, 28, 29, 30, 31, 32, 33, 34, 35, 36, 37, 38, 39, 40, 41, 25, 26])]
    rotate_left
    · kernel_rfl
    refine i_at (fun i : {i : Nat // i ≤ s.length} => s.length - i.1) (fun i env => setV (setV env 4 (.int .i64 i.1)) 3 (.str (39 :: quoteE (s.take i.1)))) (fun i => _) (fun i => some (.ret (.str (showV ⟨3, n, s⟩)), [])) ⟨0, by omega⟩ (by simp [s_zero, s_succ, quoteE]) rfl rfl ?_
    intro ⟨i, hil⟩ ih
    dsimp only at hil ⊢
    by_cases hi : i < s.length
    · have ih := ih ⟨i + 1, by omega⟩ (by simp only; omega)
      have hwi : IntKind.i64.wrap ((i : Int) + 1) = (i : Int) + 1 := wrap_i64 (by omega)
      obtain ⟨c, hc⟩ : ∃ m, s[i] = m := ⟨_, rfl⟩
      have hcc : s[i]? = some c := by rw [List.getElem?_eq_getElem hi, hc]
      have ht : s.take (i + 1) = s.take i ++ [c] := by rw [List.take_succ_eq_append_getElem hi, hc]
      have hsl : (s.take (i + 1)).drop i = [c] := by rw [ht, List.drop_append_of_le_length (by simp; omega), List.drop_of_length_le (by rw [List.length_take]; omega)]; rfl
      have hq := quoteE_len (s.take i)
      have htl : (s.take i).length = i := by simp; omega
      simp only at ih
      rw [ht, quoteE_app] at ih
      generalize quoteE (s.take i) = q at *
      have hb0 : q.length + 1 + 1 ≤ 4611686018427387904 := by omega
      have hb1 : q.length + 1 + 1 + 1 ≤ 4611686018427387904 := by omega
      have hi1 : i + 1 ≤ s.length := by omega
      have hn2 : ¬ (i : Int) + 1 < 0 := by omega
      have hn3 : (0 : Int) ≤ (i : Int) + 1 := by omega
      have htn : ((i : Int) + 1).toNat = i + 1 := by omega
      by_cases h39 : c = 39
      · subst h39
        simp only [s_zero, s_succ, Int.natCast_add, Int.natCast_one, Int.cast_ofNat_Int, quoteE, List.flatMap_cons, List.flatMap_nil, if_true, List.append_nil, List.cons_append, List.nil_append] at ih
        simp [i_again, roundEnd, dropT, cleanV, Tryz.f68, Tryz.ti3, Tryz.ti5, Tryz.ti9, Tryz.ti44, hi, hc, hcc, hwi, ih, hsl, hb0, hb1, hi1, hn2, hn3, htn]
      · have h39' : ¬ (c.toNat : Int) = 39 := fun e => h39 (UInt8.toNat_inj.1 (by have : (39 : UInt8).toNat = 39 := rfl; omega))
        simp only [s_zero, s_succ, Int.natCast_add, Int.natCast_one, Int.cast_ofNat_Int, quoteE, List.flatMap_cons, List.flatMap_nil, h39, if_false, List.append_nil, List.cons_append, List.nil_append] at ih
        simp [i_again, roundEnd, dropT, cleanV, Tryz.f68, Tryz.ti3, Tryz.ti5, Tryz.ti9, Tryz.ti44, hi, hc, hcc, hwi, ih, hsl, hb0, hb1, hi1, hn2, hn3, htn, h39, h39']
    · have ht : s.take i = s := List.take_of_length_le (by omega)
      have hq := quoteE_len s
      have hb0 : (quoteE s).length + 1 + 1 ≤ 4611686018427387904 := by omega
      rw [ht]
      simp [i_again, roundEnd, dropT, cleanV, Tryz.f68, Tryz.ti3, Tryz.ti5, Tryz.ti9, Tryz.ti44, hi, hb0, showV]
end Go.Abs

namespace Go.Abs
open Go

theorem sb_add {a b : List UInt8} (h : a.length + b.length ≤ 4611686018427387904) : strBin .add a b = some (.str (a ++ b)) := if_pos h
theorem sb_eql (a b : List UInt8) : strBin .eql a b = some (.bool (decide (a = b))) := id rfl
theorem sb_neq (a b : List UInt8) : strBin .neq a b = some (.bool (!decide (a = b))) := id rfl
theorem sb_lss (a b : List UInt8) : strBin .lss a b = some (.bool (Op.bytesLess a b)) := id rfl
/- what is owned, by form -/
def isFull : V → Bool
  | .slice .full _ => true
  | _ => false
def noFull : List V → Bool
  | [] => true
  | v :: l => !isFull v && noFull l
theorem adoptL_no : ∀ (cs : List V) (n : Nat), noFull cs = true → adoptL n cs = (cs, [])
  | [], n, _ => rfl
  | v :: l, n, h => by
    simp only [noFull, Bool.and_eq_true, Bool.not_eq_true'] at h
    have ih := adoptL_no l n h.2
    cases v <;> try (simp only [adoptL, ih]; done)
    rename_i o xs
    cases o <;> first | (simp only [adoptL, ih]; done) | (simp [isFull] at h)
theorem ad_full (xs : List V) (st : St) : adopt (.slice .full xs) st = (.slice (.own st.length) xs, st ++ [[.tip xs.length]]) := id rfl
theorem ad_froz (xs : List V) (st : St) : adopt (.slice .froz xs) st = (.slice .froz xs, st) := id rfl
theorem ad_own (b : Nat) (xs : List V) (st : St) : adopt (.slice (.own b) xs) st = (.slice (.own b) xs, st) := id rfl
theorem ad_int (k : IntKind) (n : Int) (st : St) : adopt (.int k n) st = (.int k n, st) := id rfl
theorem ad_bool (b : Bool) (st : St) : adopt (.bool b) st = (.bool b, st) := id rfl
theorem ad_str (s : List UInt8) (st : St) : adopt (.str s) st = (.str s, st) := id rfl
theorem ad_box (b o : Nat) (st : St) : adopt (.box b o) st = (.box b o, st) := id rfl
theorem ad_agg (cs : List V) (st : St) (h : noFull cs = true) : adopt (.agg cs) st = (.agg cs, st) := by
  simp only [adopt, adoptL_no cs _ h, List.append_nil]
/- a loop, its state by what changes in it -/
theorem i_at2 {P : Program} {cl : Oracle} {n : Nat} {rs : List ResultVar} {k : List Item} {env : Env} {st : St} {c : Code} {ts : List Nat} {m : Nat} {ι : Type} (meas : ι → Nat) (upd : ι → Env → Env) (S : ι → St → St) (F : ι → Option (Out × St)) (x0 : ι) {R : Option (Out × St)}
    (he : upd x0 env = env) (hs : S x0 st = st) (hR : F x0 = R)
    (h : ∀ x, (∀ y, meas y < meas x → @mki P cl n rs ⟨.lp c ts m :: k⟩ (upd y env) (S y st) = F y) → @mki P cl n rs ⟨.code c :: .again c ts m :: k⟩ (upd x env) (S x st) = F x) :
    @mki P cl n rs ⟨.lp c ts m :: k⟩ env st = R :=
  i_at meas upd (fun x => S x st) F x0 he hs hR h
end Go.Abs

