/- Laws of what values come to, with no program in sight. -/
import Derived.Test.YthdcamicjblnkaaFnVLawA
import Derived.Test.YthdcamicjblnkaaFnRefB
import Derived.Test.YthdcamicjblnkaaFnRefD
namespace Go.Abs
set_option linter.unusedSimpArgs false
set_option linter.unusedVariables false
open Go Go.Proofs

theorem less_total : ∀ a b : List UInt8, ¬ a = b → Op.bytesLess a b = false → Op.bytesLess b a = true
  | [], [], h, _ => absurd rfl h
  | [], _ :: _, _, h => by simp [Op.bytesLess] at h
  | _ :: _, [], _, _ => by simp [Op.bytesLess]
  | x :: l, y :: r, hne, h => by
    simp only [Op.bytesLess, Bool.or_eq_false_iff, decide_eq_false_iff_not, Bool.and_eq_false_iff, beq_eq_false_iff_ne] at h
    by_cases hxy : x = y
    · subst hxy
      have h2 := h.2.resolve_left (fun q => q rfl)
      have := less_total l r (fun q => hne (by rw [q])) h2
      simp [Op.bytesLess, this]
    · have : y < x := by
        rcases UInt8.lt_or_lt_of_ne (Ne.symm hxy) with q | q
        · exact q
        · exact absurd q h.1
      simp [Op.bytesLess, this]
theorem less_trans : ∀ a b c : List UInt8, Op.bytesLess a b = true → Op.bytesLess b c = true → Op.bytesLess a c = true
  | _, [], _, h, _ => by simp [Op.bytesLess] at h
  | _, _ :: _, [], _, h => by simp [Op.bytesLess] at h
  | [], _ :: _, _ :: _, _, _ => by simp [Op.bytesLess]
  | x :: l, y :: r, z :: t, h, h' => by
    simp only [Op.bytesLess, Bool.or_eq_true, decide_eq_true_eq, Bool.and_eq_true, beq_iff_eq] at h h' ⊢
    rcases h with h | ⟨rfl, h⟩ <;> rcases h' with h' | ⟨rfl, h'⟩
    · exact .inl (UInt8.lt_trans h h')
    · exact .inl h
    · exact .inl h'
    · exact .inr ⟨rfl, less_trans l r t h h'⟩
/- one value stands ahead of another -/
def ltV (v w : Val) : Prop := v.kind < w.kind ∨ v.kind = w.kind ∧ (v.n < w.n ∨ v.n = w.n ∧ Op.bytesLess v.s w.s = true)
theorem order_lt (v w : Val) : orderS v w = -1 ↔ ltV v w := by
  rw [← orderR_eq]
  obtain ⟨k, n, s⟩ := v
  obtain ⟨k', n', s'⟩ := w
  unfold orderR ltV
  simp only [Val.mk.injEq]
  by_cases e : k = k' ∧ n = n' ∧ s = s'
  · obtain ⟨rfl, rfl, rfl⟩ := e
    simp [less_irrefl]
  · rw [if_neg e]
    by_cases hk : k = k'
    · subst hk
      simp
      constructor
      · intro h
        by_cases q : n < n'
        · exact .inl q
        · exact .inr (h (by omega))
      · rintro (h | h) q
        · omega
        · exact h
    · simp [hk]
theorem ite_cases (p : Prop) [Decidable p] : (if p then (-1 : Int) else 1) = -1 ∨ (if p then (-1 : Int) else 1) = 1 := by by_cases h : p <;> simp [h]
theorem order_cases (v w : Val) : orderS v w = -1 ∧ ltV v w ∨ orderS v w = 0 ∧ v = w ∨ orderS v w = 1 ∧ ltV w v := by
  by_cases e : v = w
  · right; left
    refine ⟨?_, e⟩
    rw [← orderR_eq]
    unfold orderR
    rw [if_pos e]
  by_cases hl : ltV v w
  · exact .inl ⟨(order_lt v w).2 hl, hl⟩
  · right; right
    constructor
    · have h3 : orderR v w = -1 ∨ orderR v w = 1 := by
        unfold orderR
        rw [if_neg e]
        exact ite_cases _
      rcases h3 with q | q
      · exact absurd ((order_lt v w).1 (by rw [← orderR_eq]; exact q)) hl
      · rw [← orderR_eq]; exact q
    · obtain ⟨k, n, s⟩ := v
      obtain ⟨k', n', s'⟩ := w
      unfold ltV at hl ⊢
      simp only [Val.mk.injEq] at e hl ⊢
      by_cases hk : k = k'
      · subst hk
        by_cases hn : n = n'
        · subst hn
          have hs : ¬ s = s' := fun q => e ⟨rfl, rfl, q⟩
          have hf : Op.bytesLess s s' = false := by
            rw [← Bool.not_eq_true]
            exact fun q => hl (.inr ⟨rfl, .inr ⟨rfl, q⟩⟩)
          exact .inr ⟨rfl, .inr ⟨rfl, less_total s s' hs hf⟩⟩
        · exact .inr ⟨rfl, .inl (by
            have : ¬ n < n' := fun q => hl (.inr ⟨rfl, .inl q⟩)
            omega)⟩
      · exact .inl (by
          have : ¬ k < k' := fun q => hl (.inl q)
          omega)
theorem lt_trans {u v w : Val} (h : ltV u v) (h' : ltV v w) : ltV u w := by
  unfold ltV at *
  rcases h with h | ⟨e, h⟩ <;> rcases h' with h' | ⟨e', h'⟩
  · exact .inl (by omega)
  · exact .inl (by omega)
  · exact .inl (by omega)
  · refine .inr ⟨by omega, ?_⟩
    rcases h with h | ⟨f, h⟩ <;> rcases h' with h' | ⟨f', h'⟩
    · exact .inl (by omega)
    · exact .inl (by omega)
    · exact .inl (by omega)
    · exact .inr ⟨by omega, less_trans _ _ _ h h'⟩
theorem lt_irrefl (v : Val) : ¬ ltV v v := by
  unfold ltV
  rintro (h | ⟨_, h | ⟨_, h⟩⟩)
  · omega
  · omega
  · rw [less_irrefl] at h; cases h
theorem order_neg (v w : Val) : orderS w v = - orderS v w := by
  rcases order_cases v w with ⟨h, l⟩ | ⟨h, l⟩ | ⟨h, l⟩ <;> rcases order_cases w v with ⟨h', l'⟩ | ⟨h', l'⟩ | ⟨h', l'⟩ <;> rw [h, h'] <;>
    first | rfl | exact absurd (lt_trans l l') (lt_irrefl _) | (subst l; exact absurd l' (lt_irrefl _)) | (subst l'; exact absurd l (lt_irrefl _))
theorem order_zero (v w : Val) : orderS v w = 0 ↔ v = w := by
  rcases order_cases v w with ⟨h, l⟩ | ⟨h, l⟩ | ⟨h, l⟩ <;> rw [h]
  · constructor
    · intro q; cases q
    · intro q; subst q; exact absurd l (lt_irrefl _)
  · simp [l]
  · constructor
    · intro q; cases q
    · intro q; subst q; exact absurd l (lt_irrefl _)
theorem order_trans (u v w : Val) (h : ¬ 0 < orderS u v) (h' : ¬ 0 < orderS v w) : orderS u w ≤ 0 := by
  rcases order_cases u v with ⟨a, l⟩ | ⟨a, l⟩ | ⟨a, l⟩
  · rcases order_cases v w with ⟨b, m⟩ | ⟨b, m⟩ | ⟨b, m⟩
    · rw [(order_lt u w).2 (lt_trans l m)]; decide
    · subst m; omega
    · omega
  · subst l; omega
  · omega
theorem right_reckon (op : List UInt8) (v w : Val) : rightS (reckonS op v w).1 = true := by
  unfold reckonS
  repeat' split
  all_goals simp [rightS]
  omega

/- numbers -/
theorem right_num (n : Int) : rightS ⟨2, n, []⟩ = true := by simp [rightS]
theorem reckon_num (op : List UInt8) (ho : op = [43] ∨ op = [45] ∨ op = [42]) (a b : Int) (ha : inI a) (hb : inI b) :
    reckonS op ⟨2, a, []⟩ ⟨2, b, []⟩ = if inI (opN op a b) then (⟨2, opN op a b, []⟩, 0) else (⟨0, 0, []⟩, 7) := reckonS_int op ho a b [] [] ha hb (right_num a) (right_num b)
end Go.Abs
