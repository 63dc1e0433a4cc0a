/- Plain: bytes as numbers. -/
import Derived.Test.YtenpkhklgjgdjaaDoorFnLexS
namespace Go.Abs
open Go

theorem dig_int (c : UInt8) : isDig c = (decide ((48 : Int) ≤ c.toNat) && decide ((c.toNat : Int) ≤ 57)) := by
  have e1 : (48 : UInt8).toNat = 48 := rfl
  have e2 : (57 : UInt8).toNat = 57 := rfl
  rw [isDig, Bool.eq_iff_iff]
  simp only [Bool.and_eq_true, decide_eq_true_eq, UInt8.le_iff_toNat_le, e1, e2]
  omega
theorem cap_int (c : UInt8) : isCap c = (decide ((65 : Int) ≤ c.toNat) && decide ((c.toNat : Int) ≤ 90)) := by
  have e1 : (65 : UInt8).toNat = 65 := rfl
  have e2 : (90 : UInt8).toNat = 90 := rfl
  rw [isCap, Bool.eq_iff_iff]
  simp only [Bool.and_eq_true, decide_eq_true_eq, UInt8.le_iff_toNat_le, e1, e2]
  omega
theorem low_int (c : UInt8) : isLow c = (decide ((97 : Int) ≤ c.toNat) && decide ((c.toNat : Int) ≤ 122)) := by
  have e1 : (97 : UInt8).toNat = 97 := rfl
  have e2 : (122 : UInt8).toNat = 122 := rfl
  rw [isLow, Bool.eq_iff_iff]
  simp only [Bool.and_eq_true, decide_eq_true_eq, UInt8.le_iff_toNat_le, e1, e2]
  omega
theorem byte_int (c : UInt8) (k : Nat) (hk : k < 256) : (c == UInt8.ofNat k) = decide ((c.toNat : Int) = k) := by
  have e : (UInt8.ofNat k).toNat = k := by rw [UInt8.toNat_ofNat']; omega
  rw [Bool.eq_iff_iff]
  simp only [beq_iff_eq, decide_eq_true_eq]
  constructor
  · rintro rfl; rw [e]
  · intro h; exact UInt8.toNat_inj.1 (by rw [e]; omega)
theorem under_int (c : UInt8) : (c == 95) = decide ((c.toNat : Int) = 95) := byte_int c 95 (by omega)
theorem blk_int (c : UInt8) : isBlk c = (decide ((c.toNat : Int) = 32) || decide ((c.toNat : Int) = 9) || decide ((c.toNat : Int) = 10)) := by
  rw [isBlk]
  have h1 : (c == 32) = decide ((c.toNat : Int) = 32) := byte_int c 32 (by omega)
  have h2 : (c == 9) = decide ((c.toNat : Int) = 9) := byte_int c 9 (by omega)
  have h3 : (c == 10) = decide ((c.toNat : Int) = 10) := byte_int c 10 (by omega)
  rw [h1, h2, h3]
end Go.Abs
