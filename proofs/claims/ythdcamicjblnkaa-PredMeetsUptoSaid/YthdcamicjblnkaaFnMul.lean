/- What Mul64 and the reference's sums and products come to. -/
import Derived.Test.YthdcamicjblnkaaFnReckon
namespace Go.Abs
set_option linter.unusedSimpArgs false
set_option linter.unusedVariables false
open Go Go.Proofs

theorem wrap_u64 {x : Int} (h : 0 ≤ x ∧ x < 18446744073709551616) : IntKind.u64.wrap x = x := by
  simp only [IntKind.wrap, IntKind.signed, IntKind.bits]
  simp
  omega

theorem bits_u64 : IntKind.u64.bits = 64 := rfl
theorem fdiv32 (x : Int) : x.fdiv (2 ^ min 32 IntKind.u64.bits) = x / 4294967296 := by
  rw [bits_u64, Int.fdiv_eq_ediv_of_nonneg _ (by decide)]
  rfl
theorem and32 (x : Int) (h : 0 ≤ x ∧ x < 18446744073709551616) : IntKind.u64.wrap (((x % 2 ^ IntKind.u64.bits).toNat &&& 4294967295 % 2 ^ IntKind.u64.bits : Nat) : Int) = x % 4294967296 := by
  have e1 : x % 2 ^ IntKind.u64.bits = x := Int.emod_eq_of_lt h.1 (by rw [bits_u64]; exact h.2)
  have e2 : (4294967295 % 2 ^ IntKind.u64.bits : Nat) = 2 ^ 32 - 1 := by rw [bits_u64]
  rw [e1, e2, Nat.and_two_pow_sub_one_eq_mod]
  rw [wrap_u64 (by omega)]
  omega
theorem prod32 {x y : Int} (hx : 0 ≤ x ∧ x ≤ 4294967295) (hy : 0 ≤ y ∧ y ≤ 4294967295) : 0 ≤ x * y ∧ x * y ≤ 18446744065119617025 :=
  ⟨Int.mul_nonneg hx.1 hy.1, by have := Int.mul_le_mul hx.2 hy.2 hy.1 (by decide : (0 : Int) ≤ 4294967295); simpa using this⟩

theorem ev_mulx (a b : Int) (ha : 0 ≤ a ∧ a < 18446744073709551616) (hb : 0 ≤ b ∧ b < 18446744073709551616) : EV 102 [.int .u64 a, .int .u64 b] [] = some (.ret (.tup [.int .u64 (a * b / 18446744073709551616), .int .u64 (a * b % 18446744073709551616)]), []) := by
  rw [EV_mki rfl Try.func102 rfl (by kernel_rfl)]
  simp +contextual [i_nil, i_blk, i_skip, i_ret, i_exit, i_seq, i_block, i_cond, i_region', i_ops_nil, i_ops, i_drawn', d_in, a_nil, a_cons, alt1, h_nil, h_one, h_two, z_nil, z_cons, z_cells, zeqL, zeq, q_alloc, q_some, isAlO, nxtN, i_drh, d_hi, i_drw_nil, i_drw, u_nil, u_code, u_ops, u_drw, u_lp, u_again, u_exit, u_ret, u_panic, c_bool, o_some, o_val, o_panic, d_some, d_val, d_panic, w_none, w_fast, wantG, q_nil, q_zero, q_succ, t_zero, t_succ, g_zero, g_succ, s_zero, s_succ, s_some, s_none, v_tmp, v_const, v_func, f_quiet, ↓brB_true, ↓brB_false, ↓brB_dec, ↓brB_not, ↓brB_and, ↓brB_or, ↓brB_beq, ↓brB_bne, gc_none, gc_pure, wrap_i64, p_move, p_assign, p_pick, p_alloc, p_box, p_build, p_buildSlice, p_load, p_store, p_nilCheck, p_binOp, n_tmp, n_int, n_bool, n_str, n_ptr, n_fun, n_iface, nilCmp, p_unOp, p_convert, p_makeSlice, p_makeInterface, p_makeFunc, p_slice, p_fieldAddr, p_field, p_indexAddr, p_index, p_extract, p_callv, p_callb, p_panic, quiet_val, new_val, e_assign, e_call, e_load, e_store, e_alloc, e_box, e_move, e_pick, e_build, e_buildSlice, e_nilCheck, e_binOp, e_unOp, e_convert, e_makeSlice, e_makeInterface, e_makeFunc, e_slice, e_fieldAddr, e_field, e_indexAddr, e_index, e_extract, e_panic, callD, fpRead, adopt, adoptL, ofValue, ofScalar, binOpV, unOpV, intBin, strBin, eqRes, veq, veqF, eqDepth, val?, finish, resL, r_tmp, r_cell, normL, normTop, tipIs, refsL, refs, ownRefs, single, frz, frzL, ren, renL, renOwn, callOp, doCall, backR, writeBack, builtinV, loadV, storeV, cellsAt, takeV, D.isAgg, overlay, vcells, cellOk, fieldAddrV, indexAddrV, fieldV, partV, indexV, buildV, fillV, buildSliceV, litElems, appendV, appElems, elemOk, convertV, convV, winStr, makeSliceV, sliceV, natOf, Try.f102, Try.ti127]
  simp only [fdiv32, and32 a ha, and32 b hb]
  have p00 := prod32 (x := a % 4294967296) (y := b % 4294967296) (by omega) (by omega)
  have p01 := prod32 (x := a % 4294967296) (y := b / 4294967296) (by omega) (by omega)
  have p10 := prod32 (x := a / 4294967296) (y := b % 4294967296) (by omega) (by omega)
  have p11 := prod32 (x := a / 4294967296) (y := b / 4294967296) (by omega) (by omega)
  have hab : a * b = a / 4294967296 * (b / 4294967296) * 18446744073709551616 + (a / 4294967296 * (b % 4294967296) + a % 4294967296 * (b / 4294967296)) * 4294967296 + a % 4294967296 * (b % 4294967296) := by
    have e1 := Int.mul_ediv_add_emod a 4294967296
    have e2 := Int.mul_ediv_add_emod b 4294967296
    generalize a / 4294967296 = a1 at *
    generalize a % 4294967296 = a0 at *
    generalize b / 4294967296 = b1 at *
    generalize b % 4294967296 = b0 at *
    rw [← e1, ← e2]
    simp only [Int.add_mul, Int.mul_add]
    have : 4294967296 * a1 * (4294967296 * b1) = a1 * b1 * 18446744073709551616 := by
      rw [show (18446744073709551616 : Int) = 4294967296 * 4294967296 by decide]; simp only [Int.mul_comm, Int.mul_left_comm, Int.mul_assoc]
    rw [this, Int.mul_assoc 4294967296 a1 b0, Int.mul_left_comm a0 4294967296 b1, Int.mul_comm (a1 * b0) 4294967296, Int.mul_comm (a0 * b1) 4294967296]
    omega
  rw [hab]
  generalize a / 4294967296 * (b / 4294967296) = P11 at *
  generalize a / 4294967296 * (b % 4294967296) = P10 at *
  generalize a % 4294967296 * (b / 4294967296) = P01 at *
  generalize a % 4294967296 * (b % 4294967296) = P00 at *
  rw [wrap_u64 (x := P00) (by omega), wrap_u64 (x := P10) (by omega), wrap_u64 (x := P01) (by omega), wrap_u64 (x := P11) (by omega), wrap_u64 (x := P10 + P00 / 4294967296) (by omega), and32 _ (by omega),
    wrap_u64 (x := (P10 + P00 / 4294967296) % 4294967296 + P01) (by omega), wrap_u64 (x := P11 + (P10 + P00 / 4294967296) / 4294967296) (by omega), wrap_u64 (x := P11 + (P10 + P00 / 4294967296) / 4294967296 + ((P10 + P00 / 4294967296) % 4294967296 + P01) / 4294967296) (by omega)]
  have hw : ∀ x : Int, IntKind.u64.wrap x = x % 18446744073709551616 := fun x => by simp [IntKind.wrap, IntKind.signed, IntKind.bits]
  rw [hw]
  have : P11 + (P10 + P00 / 4294967296) / 4294967296 + ((P10 + P00 / 4294967296) % 4294967296 + P01) / 4294967296 = (P11 * 18446744073709551616 + (P10 + P01) * 4294967296 + P00) / 18446744073709551616 := by omega
  rw [this]
  exact ⟨rfl, rfl⟩
theorem mulS_eq (a b : Int) (ha : 0 ≤ a ∧ a < 18446744073709551616) (hb : 0 ≤ b ∧ b < 18446744073709551616) : mulS a b = (a * b / 18446744073709551616, a * b % 18446744073709551616) := by
  have h := ev_mul' a b
  rw [ev_mulx a b ha hb] at h
  simp only [Option.some.injEq, Prod.mk.injEq, Out.ret.injEq, V.tup.injEq, List.cons.injEq, V.int.injEq, and_true, true_and] at h
  exact Prod.ext h.1.symm h.2.symm
end Go.Abs
