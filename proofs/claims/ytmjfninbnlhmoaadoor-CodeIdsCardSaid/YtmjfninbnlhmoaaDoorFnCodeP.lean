/- Plain: keys come back, and stand as their values do. -/
import Derived.Test.YtmjfninbnlhmoaaDoorFnCodeI
import Derived.Test.YtmjfninbnlhmoaaDoorFnCodeB
namespace Go.Abs
set_option linter.unusedSimpArgs false
set_option linter.unusedVariables false
open Go Go.Proofs

/- numbers -/
theorem numS_app (l : List UInt8) (b : UInt8) : numS (l ++ [b]) = numS l * 256 + b.toNat := by simp [numS]
theorem numS_go : ∀ (l : List UInt8) (n : Int), l.foldl (fun n b => n * 256 + (b.toNat : Int)) n = n * 256 ^ l.length + numS l
  | [], n => by simp [numS]
  | b :: l, n => by
    have h1 := numS_go l (n * 256 + b.toNat)
    have h2 := numS_go l (0 * 256 + b.toNat)
    simp only [List.foldl_cons, numS, Int.zero_mul, Int.zero_add] at *
    rw [h1, h2, List.length_cons, Int.pow_succ, Int.add_mul, Int.mul_assoc, Int.mul_comm 256]
    omega
theorem numS_cons (b : UInt8) (l : List UInt8) : numS (b :: l) = b.toNat * 256 ^ l.length + numS l := by
  have := numS_go l (0 * 256 + b.toNat)
  simp only [numS, List.foldl_cons, Int.zero_mul, Int.zero_add] at *
  rw [this]
theorem numS_lt : ∀ l : List UInt8, 0 ≤ numS l ∧ numS l < 256 ^ l.length
  | [] => by simp [numS]
  | b :: l => by
    have h := numS_lt l
    have hb := u8_lt b
    have hp : (0 : Int) < 256 ^ l.length := Int.pow_pos (by decide)
    rw [numS_cons, List.length_cons, Int.pow_succ]
    have h1 : 0 ≤ (b.toNat : Int) * 256 ^ l.length := Int.mul_nonneg hb.1 (Int.le_of_lt hp)
    have h2 : (b.toNat : Int) * 256 ^ l.length ≤ 255 * 256 ^ l.length := Int.mul_le_mul_of_nonneg_right (by omega) (Int.le_of_lt hp)
    omega
theorem less_app (p x y : List UInt8) : Op.bytesLess (p ++ x) (p ++ y) = Op.bytesLess x y := by
  induction p with
  | nil => rfl
  | cons a p ih => simp [Op.bytesLess, ih]
theorem less_num : ∀ (l l' x y : List UInt8), l.length = l'.length → l ≠ l' → (Op.bytesLess (l ++ x) (l' ++ y) = decide (numS l < numS l')) ∧ numS l ≠ numS l'
  | [], [], _, _, _, h => absurd rfl h
  | [], _ :: _, _, _, h, _ => by simp at h
  | _ :: _, [], _, _, h, _ => by simp at h
  | a :: l, b :: l', x, y, h, hne => by
    simp only [List.length_cons, Nat.add_right_cancel_iff] at h
    have h1 := numS_lt l
    have h2 := numS_lt l'
    rw [h] at h1
    have ha := u8_lt a
    have hb := u8_lt b
    rw [numS_cons, numS_cons, h]
    have hp : (0 : Int) < 256 ^ l'.length := Int.pow_pos (by decide)
    by_cases hab : a = b
    · subst hab
      have hne' : l ≠ l' := fun e => hne (by rw [e])
      have ⟨i1, i2⟩ := less_num l l' x y h hne'
      refine ⟨?_, by omega⟩
      simp only [List.cons_append, Op.bytesLess, UInt8.lt_irrefl, decide_false, Bool.false_or, beq_self_eq_true, Bool.true_and, i1]
      rw [decide_eq_decide]
      omega
    · have hab' : (a.toNat : Int) ≠ b.toNat := fun e => hab (UInt8.toNat_inj.1 (by omega))
      simp only [List.cons_append, Op.bytesLess]
      have hbeq : (a == b) = false := by simpa using hab
      rw [hbeq, Bool.false_and, Bool.or_false]
      by_cases hlt : a < b
      · have hn : (a.toNat : Int) < b.toNat := by have := UInt8.lt_iff_toNat_lt.1 hlt; omega
        have : ((a.toNat : Int) + 1) * 256 ^ l'.length ≤ b.toNat * 256 ^ l'.length := Int.mul_le_mul_of_nonneg_right (by omega) (Int.le_of_lt hp)
        rw [Int.add_mul] at this
        refine ⟨?_, by omega⟩
        rw [decide_eq_true hlt, eq_comm, decide_eq_true_eq]
        omega
      · have hn : (b.toNat : Int) < a.toNat := by have h3 : ¬ a.toNat < b.toNat := fun q => hlt (UInt8.lt_iff_toNat_lt.2 q); omega
        have : ((b.toNat : Int) + 1) * 256 ^ l'.length ≤ a.toNat * 256 ^ l'.length := Int.mul_le_mul_of_nonneg_right (by omega) (Int.le_of_lt hp)
        rw [Int.add_mul] at this
        refine ⟨?_, by omega⟩
        rw [decide_eq_false hlt, eq_comm, decide_eq_false_iff_not]
        omega
theorem byte_toNat (n k : Int) : ((byteS n k).toNat : Int) = n / k % 256 := by
  unfold byteS
  rw [UInt8.toNat_ofNat']
  omega
theorem num_eight {n : Int} (h : inU n) : numS (eightS n) = n := by
  unfold inU at h
  simp only [numS, eightS, List.foldl, byte_toNat]
  omega
theorem eight_num {l : List UInt8} (h : l.length = 8) : eightS (numS l) = l := by
  apply Classical.byContradiction
  intro hne
  have h1 := (less_num (eightS (numS l)) l [] [] (by rw [h]; rfl) hne).2
  exact h1 (num_eight (numS_inU h))
theorem less_eight {m n : Int} (hm : inU m) (hn : inU n) (hne : m ≠ n) (x y : List UInt8) : Op.bytesLess (eightS m ++ x) (eightS n ++ y) = decide (m < n) := by
  have h1 : eightS m ≠ eightS n := fun e => hne (by rw [← num_eight hm, ← num_eight hn, e])
  rw [(less_num (eightS m) (eightS n) x y rfl h1).1, num_eight hm, num_eight hn]

/- texts -/
theorem text_esc : ∀ (s acc more : List UInt8), textS acc (escS s ++ (0 :: 1 :: more)) = .ok (acc ++ s, more)
  | [], acc, more => by simp [escS, textS]
  | b :: s, acc, more => by
    have e : escS (b :: s) = (if b = 0 then [0, 255] else [b]) ++ escS s := rfl
    rw [e]
    by_cases h : b = 0
    · rw [if_pos h]
      simp only [List.cons_append, List.nil_append, textS, if_true, show ¬ (255 : UInt8) = 1 by decide, if_false]
      rw [text_esc s]
      simp [h]
    · rw [if_neg h]
      have hne : ∃ d r, escS s ++ (0 :: 1 :: more) = d :: r := by
        cases hs : escS s with
        | nil => exact ⟨0, 1 :: more, rfl⟩
        | cons d r => exact ⟨d, r ++ 0 :: 1 :: more, rfl⟩
      obtain ⟨d, r, hdr⟩ := hne
      rw [List.append_assoc, hdr]
      simp only [List.cons_append, List.nil_append, textS, if_neg h]
      rw [← hdr, text_esc s]
      simp
theorem esc_app (a b : List UInt8) : escS (a ++ b) = escS a ++ escS b := by simp [escS]
theorem esc_text : ∀ (acc s a r : List UInt8), textS acc s = .ok (a, r) → ∃ m, a = acc ++ m ∧ s = escS m ++ (0 :: 1 :: r)
  | acc, [], a, r, h => by simp [textS] at h
  | acc, [c], a, r, h => by simp [textS] at h
  | acc, c :: d :: s, a, r, h => by
    rw [textS] at h
    split at h
    · rename_i hc
      subst hc
      split at h
      · rename_i hd
        subst hd
        simp only [Except.ok.injEq, Prod.mk.injEq] at h
        exact ⟨[], by simp [h.1], by simp [escS, h.2]⟩
      · split at h
        · rename_i hd
          subst hd
          obtain ⟨m, h1, h2⟩ := esc_text _ _ _ _ h
          refine ⟨0 :: m, by simp [h1], ?_⟩
          rw [h2]
          simp [escS]
        · cases h
    · rename_i hc
      obtain ⟨m, h1, h2⟩ := esc_text _ _ _ _ h
      refine ⟨c :: m, by simp [h1], ?_⟩
      rw [h2]
      simp [escS, hc]
theorem less_text : ∀ (s t x y : List UInt8), s ≠ t → Op.bytesLess (escS s ++ (0 :: 1 :: x)) (escS t ++ (0 :: 1 :: y)) = Op.bytesLess s t
  | [], [], _, _, h => absurd rfl h
  | [], b :: t, x, y, _ => by
    have e : escS (b :: t) = (if b = 0 then [0, 255] else [b]) ++ escS t := rfl
    rw [e]
    by_cases h : b = 0
    · simp [h, escS, Op.bytesLess]
    · have : (0 : UInt8) < b := by rw [UInt8.lt_iff_toNat_lt]; have := fun q => h (UInt8.toNat_inj.1 q); simp at this ⊢; omega
      simp [h, escS, Op.bytesLess, this]
  | a :: s, [], x, y, _ => by
    have e : escS (a :: s) = (if a = 0 then [0, 255] else [a]) ++ escS s := rfl
    rw [e]
    by_cases h : a = 0
    · simp [h, escS, Op.bytesLess]
    · simp [h, escS, Op.bytesLess]
  | a :: s, b :: t, x, y, hne => by
    have e : escS (a :: s) = (if a = 0 then [0, 255] else [a]) ++ escS s := rfl
    have e' : escS (b :: t) = (if b = 0 then [0, 255] else [b]) ++ escS t := rfl
    by_cases hab : a = b
    · subst hab
      have hne' : s ≠ t := fun q => hne (by rw [q])
      rw [e, e', List.append_assoc, List.append_assoc, less_app, less_text s t x y hne']
      simp [Op.bytesLess]
    · rw [e, e']
      have hba : ¬ b = a := fun q => hab q.symm
      by_cases ha : a = 0
      · subst ha
        have : (0 : UInt8) < b := by rw [UInt8.lt_iff_toNat_lt]; have := fun q => hba (UInt8.toNat_inj.1 q); simp at this ⊢; omega
        simp [hba, Op.bytesLess, this]
      · by_cases hb : b = 0
        · subst hb
          have hz : (a == 0) = false := by simpa using ha
          simp [ha, Op.bytesLess, hab, hz]
        · have hz : (a == b) = false := by simpa using hab
          simp [ha, hb, Op.bytesLess, hab, hz]
end Go.Abs
