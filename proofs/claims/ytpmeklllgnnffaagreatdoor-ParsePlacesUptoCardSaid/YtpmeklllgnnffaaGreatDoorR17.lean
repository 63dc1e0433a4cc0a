/- Plain: what the parser leaves is no longer than what it got, and ends. -/
import Derived.Test.YtpmeklllgnnffaaGreatDoorR16
import Derived.Test.YtpmeklllgnnffaaGreatDoorR11
import Derived.Test.YtpmeklllgnnffaaGreatDoorR15
import Derived.Test.YtpmeklllgnnffaaGreatDoorR14
set_option linter.unusedSimpArgs false
set_option linter.unusedVariables false

namespace Go.Abs
set_option linter.unusedSimpArgs false
set_option linter.unusedVariables false
open Go
def Ends : List Tok → Prop
  | [] => False
  | [t] => t.kind = 0
  | _ :: u :: l => Ends (u :: l)
theorem ends_cons {l : List Tok} (h : Ends l) : ∃ t r, l = t :: r := by
  cases l with
  | nil => exact h.elim
  | cons t r => exact ⟨t, r, rfl⟩
theorem ends_next {t : Tok} {r : List Tok} (h : Ends (t :: r)) (hk : t.kind ≠ 0) : Ends r := by
  cases r with
  | nil => exact absurd h hk
  | cons u r => exact h
theorem isT_kind {s : List UInt8} {t : Tok} {r : List Tok} (h : isT s (t :: r) = true) : (t.kind = 1 ∨ t.kind = 5) ∧ t.s = s := by
  simpa [isT] using h
theorem ends_tail {s : List UInt8} {l : List Tok} (h : Ends l) (hi : isT s l = true) : Ends l.tail := by
  cases l with
  | nil => exact h.elim
  | cons t r => exact ends_next h (by have := (isT_kind hi).1; omega)
theorem tail_len {s : List UInt8} {l : List Tok} (hi : isT s l = true) : l.tail.length < l.length := by
  cases l with
  | nil => cases hi
  | cons t r => simp
theorem one_zero : ∀ (ss : List (List UInt8)) (l : List Tok), (oneP ss l).1 = 0 → (oneP ss l).2 = l
  | [], l, _ => rfl
  | s :: r, l, h => by
    unfold oneP at h ⊢
    cases hi : isT s l
    · simp only [hi, Bool.false_eq_true, if_false] at h ⊢
      have := one_zero r l
      cases ho : oneP r l with
      | mk n l' =>
        rw [ho] at h this
        cases n with
        | zero => exact this rfl
        | succ n => simp at h
    · simp [hi] at h
theorem one_ends : ∀ (ss : List (List UInt8)) {l : List Tok}, Ends l → Ends (oneP ss l).2
  | [], l, h => h
  | s :: r, l, h => by
    unfold oneP
    cases hi : isT s l
    · simp only [Bool.false_eq_true, if_false]
      have := one_ends r h
      cases ho : oneP r l with
      | mk n l' => rw [ho] at this; cases n <;> exact this
    · exact ends_tail h hi
theorem one_len : ∀ (ss : List (List UInt8)) (l : List Tok), (oneP ss l).2.length ≤ l.length
  | [], l => Nat.le_refl _
  | s :: r, l => by
    unfold oneP
    cases hi : isT s l
    · simp only [Bool.false_eq_true, if_false]
      have := one_len r l
      cases ho : oneP r l with
      | mk n l' => rw [ho] at this; cases n <;> exact this
    · have := tail_len hi
      simp <;> omega
theorem one_le : ∀ (ss : List (List UInt8)) (l : List Tok), (oneP ss l).1 ≤ ss.length
  | [], l => Nat.le_refl _
  | s :: r, l => by
    unfold oneP
    cases hi : isT s l
    · simp only [Bool.false_eq_true, if_false]
      have := one_le r l
      cases ho : oneP r l with
      | mk n l' => rw [ho] at this; cases n <;> simp at this ⊢; omega
    · simp
def KeepP {α : Type} (P : List Tok → PR α) : Prop := ∀ l, (P l).2.length ≤ l.length ∧ (Ends l → Ends (P l).2)
theorem kp_ret {α : Type} (a : α) : KeepP (fun r => (some a, r)) := fun l => ⟨Nat.le_refl _, id⟩
theorem kp_none {α : Type} : KeepP (fun r => ((none : Option α), r)) := fun l => ⟨Nat.le_refl _, id⟩
theorem kp_then {α β : Type} {P : List Tok → PR α} {f : α → List Tok → PR β} (hp : KeepP P) (hf : ∀ a, KeepP (f a)) : KeepP (fun l => thenP (P l) f) := by
  intro l
  have h := hp l
  simp only [thenP]
  cases hP : P l with
  | mk o r =>
    rw [hP] at h
    cases o with
    | none => exact h
    | some a => exact ⟨Nat.le_trans (hf a r).1 h.1, fun e => (hf a r).2 (h.2 e)⟩
theorem kp_if {α : Type} {s : List UInt8} {A B : List Tok → PR α} (ha : KeepP A) (hb : KeepP B) : KeepP (fun l => if isT s l then A l.tail else B l) := by
  intro l
  simp only
  cases hi : isT s l
  · simpa using hb l
  · have := ha l.tail
    have := tail_len hi
    simp only [if_true]
    exact ⟨by omega, fun e => (ha l.tail).2 (ends_tail e hi)⟩
theorem kp_fuel {α : Type} {F : Nat → List Tok → PR α} (h : ∀ n, KeepP (F n)) : KeepP (fun l => F (l.length + 1) l) := fun l => h _ l
theorem kp_need (s : List UInt8) : KeepP (needP s) := kp_if (kp_ret ()) kp_none
theorem maybe_keep (s : List UInt8) (l : List Tok) : (maybeP s l).2.length ≤ l.length ∧ (Ends l → Ends (maybeP s l).2) := by
  unfold maybeP
  cases hi : isT s l
  · exact ⟨Nat.le_refl _, id⟩
  · have := tail_len hi
    simp only [if_true]
    exact ⟨by omega, fun e => ends_tail e hi⟩
theorem kp_oneOf (ss : List (List UInt8)) : KeepP (oneOfP ss) := by
  intro l
  have h1 := one_len ss l
  have h2 := @one_ends ss l
  unfold oneOfP
  cases ho : oneP ss l with
  | mk n l' => rw [ho] at h1 h2; cases n <;> exact ⟨h1, h2⟩
theorem kp_name : KeepP nameP := by
  intro l
  cases l with
  | nil => exact ⟨Nat.le_refl _, id⟩
  | cons t r =>
    simp only [nameP]
    split
    · rename_i hk
      exact ⟨by simp, fun e => ends_next e (by omega)⟩
    · exact ⟨Nat.le_refl _, id⟩
theorem kp_num : KeepP numP := by
  intro l
  cases l with
  | nil => exact ⟨Nat.le_refl _, id⟩
  | cons t r =>
    simp only [numP]
    split
    · rename_i hk
      exact ⟨by simp, fun e => ends_next e (by omega)⟩
    · exact ⟨Nat.le_refl _, id⟩
theorem kp_list {α : Type} {f : List Tok → PR α} (hf : KeepP f) : ∀ n, KeepP (listP f n)
  | 0 => kp_none
  | n + 1 => kp_then hf fun a => kp_if (A := fun r => thenP (listP f n r) fun xs r' => (some (a :: xs), r')) (kp_then (kp_list hf n) fun xs => kp_ret _) (kp_ret _)
theorem opAt_tail {tbl : List (List UInt8 × List UInt8)} {l : List Tok} {o : List UInt8} (h : opAt tbl l = some o) : l.tail.length < l.length ∧ (Ends l → Ends l.tail) := by
  induction tbl with
  | nil => cases h
  | cons p r ih =>
    obtain ⟨s, o'⟩ := p
    simp only [opAt] at h
    split at h
    · rename_i hi; exact ⟨tail_len hi, fun e => ends_tail e hi⟩
    · exact ih h
theorem kp_more {part : List Tok → PR Xp} (hp : KeepP part) (tbl : List (List UInt8 × List UInt8)) : ∀ n e, KeepP (moreP part tbl n e)
  | 0, e => kp_none
  | n + 1, e => fun l => by
    simp only [moreP]
    cases ho : opAt tbl l with
    | none => exact ⟨Nat.le_refl _, id⟩
    | some o =>
      have h1 := opAt_tail ho
      have h2 := kp_then hp (fun f => kp_more hp tbl n (xop o [e, f])) l.tail
      exact ⟨Nat.le_trans h2.1 (Nat.le_of_lt h1.1), fun e => h2.2 (h1.2 e)⟩
theorem kp_chain {part : List Tok → PR Xp} (hp : KeepP part) (tbl : List (List UInt8 × List UInt8)) : KeepP (chainP part tbl) :=
  kp_then hp fun e => kp_fuel fun n => kp_more hp tbl n e
theorem kp_paren {or : List Tok → PR Xp} (ho : KeepP or) : KeepP (parenP or) :=
  kp_then ho fun e => kp_if (A := fun r => (some e, r)) (kp_ret _) kp_none
theorem kp_atom {or : List Tok → PR Xp} (ho : KeepP or) : KeepP (atomP or) := by
  intro l
  cases l with
  | nil => exact ⟨Nat.le_refl _, id⟩
  | cons t r =>
    have step : ∀ {p : PR Xp}, t.kind ≠ 0 → (p.2.length ≤ r.length ∧ (Ends r → Ends p.2)) → p.2.length ≤ (t :: r).length ∧ (Ends (t :: r) → Ends p.2) := fun hk h => ⟨by simp; omega, fun e => h.2 (ends_next e hk)⟩
    have hd := kp_if (s := [46]) (A := fun r => thenP (nameP r) fun c r' => (some (Xp.mk oColumn Val.zero t.s c []), r')) (B := fun r => (some (Xp.mk oColumn Val.zero [] t.s []), r)) (kp_then kp_name fun c => kp_ret _) (kp_ret _) r
    simp only [atomP]
    split
    · rename_i hk; exact step (by omega) ⟨Nat.le_refl _, id⟩
    · split
      · rename_i hk; exact step (by omega) ⟨Nat.le_refl _, id⟩
      · split
        · rename_i hk; exact step (by omega) hd
        · split
          · rename_i hi; exact step (by have := (isT_kind hi).1; omega) ⟨Nat.le_refl _, id⟩
          · split
            · rename_i hi; exact step (by have := (isT_kind hi).1; omega) ⟨Nat.le_refl _, id⟩
            · split
              · rename_i hi; exact step (by have := (isT_kind hi).1; omega) ⟨Nat.le_refl _, id⟩
              · split
                · rename_i hi; exact step (by have := (isT_kind hi).1; omega) (kp_paren ho r)
                · exact ⟨Nat.le_refl _, id⟩
theorem kp_unary {or : List Tok → PR Xp} (ho : KeepP or) : ∀ k, KeepP (unaryP or k)
  | 0 => kp_none
  | k + 1 => kp_if (A := fun l => thenP (unaryP or k l) fun e r => (some (xop oNeg [e]), r)) (kp_then (kp_unary ho k) fun e => kp_ret _) (kp_atom ho)
theorem kp_is (e : Xp) : KeepP (isP e) := by
  intro l
  unfold isP
  cases hi : isT [73, 83] l
  · exact ⟨Nat.le_refl _, id⟩
  · have h1 := tail_len hi
    have h2 := maybe_keep [78, 79, 84] l.tail
    simp only [if_true]
    cases hm : maybeP [78, 79, 84] l.tail with
    | mk b r =>
      rw [hm] at h2
      have h3 := kp_then (kp_need [78, 85, 76, 76]) (fun _ => kp_ret (if b = true then xop oNot [xop oNull [e]] else xop oNull [e])) r
      exact ⟨Nat.le_trans h3.1 (Nat.le_trans h2.1 (Nat.le_of_lt h1)), fun e => h3.2 (h2.2 (ends_tail e hi))⟩
theorem kp_cmp {sum : List Tok → PR Xp} (hs : KeepP sum) : KeepP (cmpP sum) := by
  refine kp_then hs fun e l => ?_
  try simp only
  cases ho : opAt cmpTbl l with
  | none => exact kp_is e l
  | some o =>
    have h1 := opAt_tail ho
    have h2 := kp_then hs (fun f => kp_ret (xop o [e, f])) l.tail
    exact ⟨Nat.le_trans h2.1 (Nat.le_of_lt h1.1), fun e => h2.2 (h1.2 e)⟩
theorem kp_not {cmp : List Tok → PR Xp} (hc : KeepP cmp) : ∀ k, KeepP (notP cmp k)
  | 0 => kp_none
  | k + 1 => kp_if (A := fun l => thenP (notP cmp k l) fun e r => (some (xop oNot [e]), r)) (kp_then (kp_not hc k) fun e => kp_ret _) hc
section
variable {or : List Tok → PR Xp} (ho : KeepP or)
include ho
theorem kp_unaryL : KeepP (unaryL or) := kp_fuel fun k => kp_unary ho k
theorem kp_term : KeepP (termP or) := kp_chain (kp_unaryL ho) termTbl
theorem kp_sum : KeepP (sumP or) := kp_chain (kp_term ho) sumTbl
theorem kp_notL : KeepP (notL or) := kp_fuel fun k => kp_not (kp_cmp (kp_sum ho)) k
theorem kp_and : KeepP (andP or) := kp_chain (kp_notL ho) andTbl
end
theorem kp_or : ∀ n, KeepP (orP n)
  | 0 => kp_none
  | n + 1 => kp_chain (kp_and (kp_or n)) orTbl
theorem kp_expr : KeepP exprP := kp_fuel kp_or
theorem kp_where : KeepP whereP := kp_if (A := fun l => thenP (exprP l) fun e r => (some [e], r)) (kp_then kp_expr fun e => kp_ret _) (kp_ret _)
theorem var_keep (l : List Tok) : (varP l).2.length ≤ l.length ∧ (Ends l → Ends (varP l).2) := by
  cases l with
  | nil => exact ⟨Nat.le_refl _, id⟩
  | cons t r =>
    simp only [varP]
    split
    · rename_i hk
      exact ⟨by simp, fun e => ends_next e (by omega)⟩
    · exact ⟨Nat.le_refl _, id⟩
theorem kp_source : KeepP sourceP := by
  intro l
  have h1 := one_len [[73, 78, 83, 69, 82, 84, 69, 68], [68, 69, 76, 69, 84, 69, 68], [79, 76, 68], [78, 69, 87]] l
  have h2 := @one_ends [[73, 78, 83, 69, 82, 84, 69, 68], [68, 69, 76, 69, 84, 69, 68], [79, 76, 68], [78, 69, 87]] l
  unfold sourceP
  cases ho : oneP [[73, 78, 83, 69, 82, 84, 69, 68], [68, 69, 76, 69, 84, 69, 68], [79, 76, 68], [78, 69, 87]] l with
  | mk n r =>
    rw [ho] at h1 h2
    cases n with
    | zero =>
      have h3 := kp_then kp_name (fun t r' => (show ((some (⟨0, t, (varP r').1⟩ : Src), (varP r').2) : PR Src).2.length ≤ r'.length ∧ (Ends r' → Ends (varP r').2) from var_keep r')) r
      exact ⟨Nat.le_trans h3.1 h1, fun e => h3.2 (h2 e)⟩
    | succ n => exact ⟨Nat.le_trans (var_keep r).1 h1, fun e => (var_keep r).2 (h2 e)⟩
theorem kp_items : KeepP itemsP := kp_if (kp_ret _) (kp_fuel (kp_list kp_expr))
theorem kp_query : KeepP queryP :=
  kp_then (kp_need _) fun _ => kp_then kp_items fun is => kp_then (kp_need _) fun _ => kp_then (kp_fuel (kp_list kp_source)) fun ss => kp_then kp_where fun w => kp_ret _
theorem kp_set : KeepP setP := kp_then kp_name fun c => kp_then (kp_need _) fun _ => kp_then kp_expr fun e => kp_ret _
theorem kp_ins : KeepP insP :=
  kp_then (kp_need _) fun _ => kp_then kp_name fun t =>
    kp_if (A := fun r => thenP (needP [40] r) fun _ r => thenP (listP exprP (r.length + 1) r) fun vs r => thenP (needP [41] r) fun _ r => (some { StB.zero with kind := 12, table := t, values := vs }, r))
      (kp_then (kp_need _) fun _ => kp_then (kp_fuel (kp_list kp_expr)) fun vs => kp_then (kp_need _) fun _ => kp_ret _) (kp_then kp_query fun q => kp_ret _)
theorem kp_upd : KeepP updP := kp_then kp_name fun t => kp_then (kp_need _) fun _ => kp_then (kp_fuel (kp_list kp_set)) fun ss => kp_then kp_where fun w => kp_ret _
theorem kp_del : KeepP delP := kp_then (kp_need _) fun _ => kp_then kp_name fun t => kp_then kp_where fun w => kp_ret _
theorem kp_act : KeepP actP :=
  kp_if (A := fun l => thenP (insP l) fun b r => (some (some b), r)) (kp_then kp_ins fun b => kp_ret _)
    (kp_if (A := fun l => thenP (updP l) fun b r => (some (some b), r)) (kp_then kp_upd fun b => kp_ret _)
      (kp_if (A := fun l => thenP (delP l) fun b r => (some (some b), r)) (kp_then kp_del fun b => kp_ret _) (kp_ret _)))
theorem kp_column : KeepP columnP :=
  kp_then kp_name fun n => kp_then (kp_oneOf _) fun t => kp_if (A := fun r => thenP (needP [78, 85, 76, 76] r) fun _ r => (some (⟨n, t, true, (maybeP [85, 78, 73, 81, 85, 69] r).1⟩ : Col), (maybeP [85, 78, 73, 81, 85, 69] r).2)) (kp_then (kp_need _) fun _ l => maybe_keep [85, 78, 73, 81, 85, 69] l) fun l => maybe_keep [85, 78, 73, 81, 85, 69] l
theorem kp_acts : ∀ n, KeepP (actsP n)
  | 0 => kp_none
  | n + 1 => kp_then kp_act fun o => match o with
    | none => kp_none
    | some b => kp_if (A := fun r => thenP (actsP n r) fun xs r' => (some (Stm.mk b [] :: xs), r')) (kp_then (kp_acts n) fun xs => kp_ret _) (kp_ret _)
theorem kp_when : KeepP whenP := kp_then (kp_oneOf _) fun n => by
  by_cases h : n = 2
  · simp only [if_pos h]
    exact kp_then (kp_fuel (kp_list kp_source)) fun ss => kp_then kp_where fun w => kp_ret _
  · simp only [if_neg h]
    exact kp_ret _
theorem kp_do : KeepP doP := kp_then (kp_need _) fun _ => kp_if (kp_ret _) (kp_then (kp_fuel kp_acts) fun xs => kp_then (kp_need _) fun _ => kp_ret _)
theorem kp_rule (n : List UInt8) : KeepP (ruleP n) :=
  kp_then (kp_need _) fun _ => kp_then kp_num fun p => kp_then (kp_need _) fun _ => kp_then (kp_oneOf _) fun e => kp_then (kp_need _) fun _ => kp_then kp_name fun t => fun l => by
    have h1 := maybe_keep [68, 69, 70, 69, 82, 82, 69, 68] l
    have h2 := kp_then kp_when (fun w => kp_then kp_do fun d => kp_ret (Stm.mk { StB.zero with kind := 8, name := n, table := t, src := w.1, wher := w.2, prio := p, event := e, deferred := (maybeP [68, 69, 70, 69, 82, 82, 69, 68] l).1, rolls := d.isNone } (d.getD []))) (maybeP [68, 69, 70, 69, 82, 82, 69, 68] l).2
    exact ⟨Nat.le_trans h2.1 h1.1, fun e => h2.2 (h1.2 e)⟩
theorem kp_create : KeepP createP := kp_then (kp_oneOf _) fun k => kp_then kp_name fun n => by
  by_cases h1 : k = 1
  · simp only [if_pos h1]
    exact kp_then (kp_need _) fun _ => kp_then (kp_fuel (kp_list kp_column)) fun cs => kp_then (kp_need _) fun _ => kp_ret _
  · by_cases h2 : k = 2
    · simp only [if_neg h1, if_pos h2]
      exact kp_then (kp_need _) fun _ => kp_then kp_name fun t => kp_then (kp_need _) fun _ => kp_then kp_name fun c => kp_then (kp_need _) fun _ => kp_ret _
    · simp only [if_neg h1, if_neg h2]
      exact kp_rule n
theorem kp_drop : KeepP dropP := kp_then (kp_oneOf _) fun k => kp_then kp_name fun n => kp_ret _
theorem kp_small (k : Nat) : KeepP (smallP k) := by
  unfold smallP
  by_cases h1 : k ≤ 3
  · simp only [if_pos h1]; exact kp_ret _
  by_cases h2 : k = 4
  · simp only [if_neg h1, if_pos h2]; exact kp_then kp_name fun n => kp_ret _
  by_cases h3 : k = 5
  · simp only [if_neg h1, if_neg h2, if_pos h3]; exact kp_then (kp_need _) fun _ => kp_then kp_name fun n => kp_ret _
  by_cases h4 : k = 6
  · simp only [if_neg h1, if_neg h2, if_neg h3, if_pos h4]; exact kp_create
  · simp only [if_neg h1, if_neg h2, if_neg h3, if_neg h4]; exact kp_drop
theorem kp_stmt : KeepP stmtP := kp_then kp_act fun o => match o with
  | some b => kp_ret _
  | none => fun l => by
    try simp only
    cases hi : isT [83, 69, 76, 69, 67, 84] l
    · simp only [Bool.false_eq_true, if_false]
      exact kp_then (kp_oneOf _) (fun k => kp_small k) l
    · simp only [if_true]
      exact kp_then kp_query (fun q => kp_ret _) l
theorem ends_app : ∀ (m : List Tok) (e : Tok), e.kind = 0 → Ends (m ++ [e])
  | [], e, h => h
  | [t], e, h => h
  | t :: u :: m, e, h => ends_app (u :: m) e h
theorem toks_ends {f p : Nat} {r : List UInt8} {l : List Tok} (h : toksS f p r = .ok l) : Ends l := by
  obtain ⟨m, e, h1, h2, _⟩ := toks_ok f p r l h
  rw [h1]; exact ends_app m e h2
end Go.Abs
namespace Go.Abs
set_option linter.unusedSimpArgs false
set_option linter.unusedVariables false
open Go Go.Proofs
attribute [local simp] i_nil i_blk i_skip i_ret i_exit i_seq i_block i_cond i_region' i_ops_nil i_ops i_drawn' k_none k_0 k_1 k_2 k_3 k_4 k_5 d_in a_nil a_cons alt1 h_nil h_one h_two z_nil z_cons z_cells zeqL zeq q_alloc q_some nxtN i_drh d_hi i_drw_nil i_drw u_nil u_code u_ops u_drw u_lp u_again u_exit u_ret u_panic c_bool o_some o_val o_panic d_some d_val d_panic w_none w_fast wantG q_nil q_zero q_succ t_zero t_succ g_zero g_succ s_zero s_succ s_some s_none v_tmp v_const v_func f_quiet gc_none gc_pure wrap_i64 p_move p_assign p_pick p_alloc p_box p_build p_buildSlice p_load p_store p_nilCheck p_binOp n_tmp n_int n_bool n_str n_ptr n_fun n_iface nilCmp p_unOp p_convert p_makeSlice p_makeInterface p_makeFunc p_slice p_fieldAddr p_field p_indexAddr p_index p_extract p_callv p_callb p_panic quiet_val new_val e_assign e_call e_load e_store e_alloc e_box e_move e_pick e_build e_buildSlice e_nilCheck e_binOp e_unOp e_convert e_makeSlice e_makeInterface e_makeFunc e_slice e_fieldAddr e_field e_indexAddr e_index e_extract e_panic callD fpRead adoptZ fulls adopt adoptL ofValue ofScalar binOpV unOpV intBin strBin eqRes veq veqF eqDepth val? finish resL r_tmp r_cell normL normTop tipIs refsL refs ownRefs single frz frzL ren renL renOwn callOp doCall backR writeBack builtinV loadV storeV storeW iceT cellsAt takeV D.isAgg overlay vcells cellOk fieldAddrV indexAddrV fieldV partV indexV buildV fillV buildSliceV litElems appendV appElems elemOk convertV convV winStr makeSliceV sliceV natOf
attribute [local simp ↓] brB_true brB_false brB_dec brB_not brB_and brB_or brB_beq brB_bne
theorem ev_digit (c : UInt8) : EV 156 [.int .u8 c.toNat] [] = some (.ret (.bool (isDig c)), []) := by
  rw [EV_mki rfl Tryz.func156 rfl (by kernel_rfl) rfl, dig_int]
  by_cases h : (48 : Int) ≤ c.toNat <;> simp [Tryz.f156, Tryz.ti5, h]
theorem ev_capital (c : UInt8) : EV 157 [.int .u8 c.toNat] [] = some (.ret (.bool (isCap c)), []) := by
  rw [EV_mki rfl Tryz.func157 rfl (by kernel_rfl) rfl, cap_int]
  by_cases h : (65 : Int) ≤ c.toNat <;> simp [Tryz.f157, Tryz.ti5, h]
theorem ev_lblank (c : UInt8) : EV 122 [.int .u8 c.toNat] [] = some (.ret (.bool (isBlk c)), []) := by
  rw [EV_mki rfl Tryz.func122 rfl (by kernel_rfl) rfl, blk_int]
  by_cases h1 : (c.toNat : Int) = 32 <;> by_cases h2 : (c.toNat : Int) = 9 <;> simp [Tryz.f122, Tryz.ti5, h1, h2]
theorem ev_inrun (c : UInt8) : EV 123 [.int .u8 c.toNat] [] = some (.ret (.bool (isRun c)), []) := by
  rw [EV_mki rfl Tryz.func123 rfl (by kernel_rfl) rfl, isRun, low_int, under_int]
  have hd := ev_digit c
  have hc := ev_capital c
  generalize isDig c = d at *
  generalize isCap c = e at *
  cases d <;> cases e <;> by_cases h1 : (97 : Int) ≤ c.toNat <;> by_cases h2 : (c.toNat : Int) ≤ 122 <;> simp [Tryz.f123, Tryz.ti5, hd, hc, h1, h2]
section
variable (f : FuncId) (p : UInt8 → Bool) (hf : ∀ c : UInt8, EV f [.int .u8 c.toNat] [] = some (.ret (.bool (p c)), []))
include hf
theorem ev_lexall (s : List UInt8) (hs : s.length ≤ 4611686018427387904) : EV 158 [.str s, .func f [] []] [] = some (.ret (.bool (allB p s)), []) := by
  rw [EV_mki rfl Tryz.func158 rfl (by kernel_rfl) rfl]
  simp [Tryz.f158, Tryz.ti3, Tryz.ti9]
  rw [i_loop (ts := [6, 7, 8, 9, 12, 13, 14, 15, 16, 17, 10, 11])]
  rotate_left
  · kernel_rfl
  refine i_at (fun i : Nat => s.length - i) (fun i env => setV env 5 (.int .i64 i)) (fun _ => _) (fun i => some (.ret (.bool ((s.drop i).all p && !s.isEmpty)), [])) 0 (by simp [s_zero, s_succ]) rfl (by simp [allB]) ?_
  intro i ih
  by_cases hi : i < s.length
  · have ih := ih (i + 1) (by omega)
    have hd : s.drop i = s[i] :: s.drop (i + 1) := List.drop_eq_getElem_cons hi
    obtain ⟨c, hk⟩ : ∃ m, s[i] = m := ⟨_, rfl⟩
    have hkk : s[i]? = some c := by rw [List.getElem?_eq_getElem hi, hk]
    have hwi : IntKind.i64.wrap ((i : Int) + 1) = (i : Int) + 1 := wrap_i64 (by omega)
    have hc := hf c
    rw [hd, hk, List.all_cons]
    simp only [s_zero, s_succ, Int.natCast_add, Int.natCast_one, Int.cast_ofNat_Int] at ih
    generalize p c = b at *
    cases b <;> simp [i_again, roundEnd, dropT, cleanV, Tryz.f158, Tryz.ti3, Tryz.ti9, hi, hk, hkk, hc, hwi, ih]
  · have hd : s.drop i = [] := List.drop_eq_nil_of_le (by omega)
    have he : s.isEmpty = decide (s = []) := by cases s <;> rfl
    simp [i_again, roundEnd, dropT, cleanV, Tryz.f158, Tryz.ti3, Tryz.ti9, hi, hd, he]
end
theorem takeWhile_take {p : UInt8 → Bool} (l : List UInt8) : l.take (l.takeWhile p).length = l.takeWhile p := (List.prefix_iff_eq_take.1 (List.takeWhile_prefix p)).symm
theorem takeWhile_len {p : UInt8 → Bool} (l : List UInt8) : (l.takeWhile p).length ≤ l.length := (List.takeWhile_prefix p).length_le
section
variable (f : FuncId) (p : UInt8 → Bool) (hf : ∀ c : UInt8, EV f [.int .u8 c.toNat] [] = some (.ret (.bool (p c)), []))
include hf
set_option maxRecDepth 100000 in
theorem ev_while (s : List UInt8) (hs : s.length ≤ 4611686018427387904) (k : Nat) (hk : k ≤ s.length) :
    EV 121 [.box 0 0, .func f [] []] [[.str s, .int .i64 k]] = some (.ret (.str ((s.drop k).takeWhile p)), [[.str s, .int .i64 ((k : Int) + ((s.drop k).takeWhile p).length)]]) := by
  rw [EV_mki rfl Tryz.func121 rfl (by kernel_rfl) rfl]
  simp [Tryz.f121, Tryz.ti3, Tryz.ti9, Tryz.ti123]
  rw [i_loop (ts := [10, 11, 12, 13, 14, 15, 16, 17, 18, 19, 20, 21, 22, 23, 24, 25, 26, 27, 28, 29, 30, 31, 32, 33, 34, 35, 36, 37, 38, 39])]
  rotate_left
  · kernel_rfl
  refine i_at (fun i : {i : Nat // k ≤ i ∧ i ≤ s.length ∧ (k : Int) + ((s.drop k).takeWhile p).length = i + ((s.drop i).takeWhile p).length} => s.length - i.1) (fun _ env => env) (fun i => [[.str s, .int .i64 i.1]]) (fun _ => some (.ret (.str ((s.drop k).takeWhile p)), [[.str s, .int .i64 ((k : Int) + ((s.drop k).takeWhile p).length)]])) ⟨k, by omega, hk, rfl⟩ rfl rfl rfl ?_
  intro ⟨i, hki, his, hpos⟩ ih
  by_cases hi : i < s.length
  · have hd : s.drop i = s[i] :: s.drop (i + 1) := List.drop_eq_getElem_cons hi
    obtain ⟨c, hk⟩ : ∃ m, s[i] = m := ⟨_, rfl⟩
    have hkk : s[i]? = some c := by rw [List.getElem?_eq_getElem hi, hk]
    have hwi : IntKind.i64.wrap ((i : Int) + 1) = (i : Int) + 1 := wrap_i64 (by omega)
    have hc := hf c
    by_cases hb : p c = true
    · have ht : (s.drop i).takeWhile p = c :: (s.drop (i + 1)).takeWhile p := by rw [hd, hk, List.takeWhile_cons, if_pos hb]
      have ih := ih ⟨i + 1, by omega, by omega, by rw [hpos, ht]; simp only [List.length_cons]; omega⟩ (by simp only; omega)
      simp only [Int.natCast_add, Int.natCast_one, Int.cast_ofNat_Int] at ih
      rw [hb] at hc
      simp [i_again, roundEnd, dropT, cleanV, Tryz.f121, Tryz.ti3, Tryz.ti9, Tryz.ti123, hi, hk, hkk, hc, hwi, ih] <;> first | (refine panQ_of ?_; decide +kernel) | (change _ = true; decide +kernel) | kernel_rfl | (refine ⟨?_, ?_⟩ <;> first | (change _ = true; decide +kernel) | kernel_rfl)
    · rw [Bool.not_eq_true] at hb
      have ht : (s.drop i).takeWhile p = [] := by rw [hd, hk, List.takeWhile_cons, if_neg (by simp [hb])]
      rw [hb] at hc
      have hq : (s.take i).drop k = (s.drop k).takeWhile p := by
        have hl : i = k + ((s.drop k).takeWhile p).length := by rw [ht] at hpos; simp only [List.length_nil] at hpos; omega
        rw [List.drop_take, show i - k = ((s.drop k).takeWhile p).length by omega, takeWhile_take]
      have hpos2 : (k : Int) + ((s.drop k).takeWhile p).length = i := by rw [hpos, ht]; simp
      clear ih
      dsimp only
      rw [hpos2, ← hq]
      simp [i_again, roundEnd, dropT, cleanV, Tryz.f121, Tryz.ti3, Tryz.ti9, Tryz.ti123, hi, hk, hkk, hc, hki, his, gc, reach, reachFuel, shut, nodup, List.idxOf, List.findIdx, List.findIdx.go, List.range, List.range.loop]
  · have hd : s.drop i = [] := List.drop_eq_nil_of_le (by omega)
    obtain rfl : i = s.length := by omega
    have hpos2 : (k : Int) + ((s.drop k).takeWhile p).length = s.length := by rw [hpos, hd]; simp
    have hq : (s.take s.length).drop k = (s.drop k).takeWhile p := by
      rw [List.drop_take, show s.length - k = ((s.drop k).takeWhile p).length by omega, takeWhile_take]
    clear ih
    dsimp only
    rw [hpos2, ← hq]
    simp [i_again, roundEnd, dropT, cleanV, Tryz.f121, Tryz.ti3, Tryz.ti9, Tryz.ti123, hki, gc, reach, reachFuel, shut, nodup, List.idxOf, List.findIdx, List.findIdx.go, List.range, List.range.loop]
end
theorem ev_parse (w : List UInt8) (hw : w.length ≤ 281474976710656) (hd : allB isDig w = true) : EV 159 [.str w, .int .i64 10, .int .i64 64] [] =
    if decS w ≤ 9223372036854775807 then some (.ret (.tup [.int .i64 (decS w), .niliface]), []) else some (.ret (.tup [.int .i64 (Lib.intSat 64 w), .iface 223 .undef]), []) := by
  unfold EV
  rw [ev_eq]
  have := parseInt_digits hd
  by_cases h : decS w ≤ 9223372036854775807
  · rw [if_pos h] at this ⊢
    simp [pr0, primRun, parseP, hw, this]
  · rw [if_neg h] at this ⊢
    simp [pr0, primRun, parseP, hw, this]
def Tok.enc (t : Tok) : V := .agg [.int .i64 t.kind, .int .i64 t.n, .int .i64 t.at_, .str t.s]
theorem Tok.enc_eq (t : Tok) : t.enc = .agg [.int .i64 t.kind, .int .i64 t.n, .int .i64 t.at_, .str t.s] := rfl
def tokO (at_ : Int) (s : List UInt8) (q : Int) : Option Tok → Option (Out × St)
  | some t => some (.ret t.enc, [[.str s, .int .i64 q]])
  | none => some (.panic (.iface 58 (.agg [.int .i64 1, .int .i64 at_])), [[.str s, .int .i64 q]])
set_option maxRecDepth 100000 in
theorem ev_run (s : List UInt8) (hs : s.length ≤ 1048576) (k : Nat) (hk : k ≤ s.length) : EV 124 [.box 0 0, .int .i64 k] [[.str s, .int .i64 k]] =
    tokO k s ((k : Int) + ((s.drop k).takeWhile isRun).length) (runS k ((s.drop k).takeWhile isRun)) := by
  rw [EV_mki rfl Tryz.func124 rfl (by kernel_rfl) rfl]
  have hw := ev_while 123 isRun ev_inrun s (by omega) k hk
  have hl := takeWhile_len (p := isRun) (s.drop k)
  rw [List.length_drop] at hl
  generalize (s.drop k).takeWhile isRun = w at *
  have h1 := ev_lexall 157 isCap ev_capital w (by omega)
  have h2 := ev_name w (by omega)
  have h3 := ev_lexall 156 isDig ev_digit w (by omega)
  unfold runS
  by_cases c1 : allB isCap w = true
  · rw [c1] at h1
    simp [Tryz.f124, Tryz.ti3, Tryz.ti9, Tryz.ti125, Tryz.ti173, hw, h1, c1, tokO, Tok.enc_eq, gc, reach, reachFuel, shut, nodup, List.idxOf, List.findIdx, List.findIdx.go, List.range, List.range.loop, backR]
  · rw [Bool.not_eq_true] at c1
    rw [c1] at h1
    by_cases c2 : nameS w = true
    · rw [c2] at h2
      simp [Tryz.f124, Tryz.ti3, Tryz.ti9, Tryz.ti125, Tryz.ti173, hw, h1, h2, c1, c2, tokO, Tok.enc_eq, gc, reach, reachFuel, shut, nodup, List.idxOf, List.findIdx, List.findIdx.go, List.range, List.range.loop, backR]
    · rw [Bool.not_eq_true] at c2
      rw [c2] at h2
      by_cases c3 : allB isDig w = true
      · have h4 := ev_parse w (by omega) c3
        rw [c3] at h3
        by_cases c4 : decS w ≤ 9223372036854775807
        · rw [if_pos c4] at h4
          simp [Tryz.f124, Tryz.ti3, Tryz.ti9, Tryz.ti125, Tryz.ti173, hw, h1, h2, h3, h4, c1, c2, c3, c4, tokO, Tok.enc_eq, gc, reach, reachFuel, shut, nodup, List.idxOf, List.findIdx, List.findIdx.go, List.range, List.range.loop, backR]
        · rw [if_neg c4] at h4
          simp [Tryz.f124, Tryz.ti3, Tryz.ti9, Tryz.ti125, Tryz.ti173, hw, h1, h2, h3, h4, c1, c2, c3, c4, ev_stop, tokO, Tok.enc_eq, gc, reach, reachFuel, shut, nodup, List.idxOf, List.findIdx, List.findIdx.go, List.range, List.range.loop, backR]
      · rw [Bool.not_eq_true] at c3
        rw [c3] at h3
        simp [Tryz.f124, Tryz.ti3, Tryz.ti9, Tryz.ti125, Tryz.ti173, hw, h1, h2, h3, c1, c2, c3, ev_stop, tokO, Tok.enc_eq, gc, reach, reachFuel, shut, nodup, List.idxOf, List.findIdx, List.findIdx.go, List.range, List.range.loop, backR]
def pfx (a b : List UInt8) : Bool := decide (b.length ≤ a.length) && decide (a.take b.length = b)
theorem ev_slprefix (a b : List UInt8) : EV 160 [.str a, .str b] [] = some (.ret (.bool (pfx a b)), []) := by
  rw [EV_mki rfl Tryz.func160 rfl (by kernel_rfl) rfl]
  unfold pfx
  by_cases h : b.length ≤ a.length
  · simp [Tryz.f160, Tryz.ti3, Tryz.ti9, h]
  · have h' : a.length < b.length := by omega
    simp [Tryz.f160, Tryz.ti3, Tryz.ti9, h, h']
theorem ev_prefix (a b : List UInt8) : EV 126 [.str a, .str b] [] = some (.ret (.bool (pfx a b)), []) := by
  rw [EV_mki rfl Tryz.func126 rfl (by kernel_rfl) rfl]
  simp [Tryz.f126, ev_slprefix]
def byV (l : List UInt8) : List V := l.map fun c => .int .u8 c.toNat
theorem bytesOf_byV : ∀ l : List UInt8, bytesOf (byV l) = some l
  | [] => rfl
  | c :: l => by
    simp only [byV, List.map_cons, bytesOf]
    have := bytesOf_byV l
    simp only [byV] at this
    rw [this]
    simp
theorem byV_len (l : List UInt8) : (byV l).length = l.length := by simp [byV]
theorem byV_app (l : List UInt8) (c : UInt8) : byV (l ++ [c]) = byV l ++ [.int .u8 c.toNat] := by simp [byV]
theorem quote_other {acc : List UInt8} {c : UInt8} {t : List UInt8} (h : ¬ c = 39) : Go.Abs.quoteS acc (c :: t) = Go.Abs.quoteS (acc ++ [c]) t := by
  cases t with
  | nil => simp [Go.Abs.quoteS, h]
  | cons d r => simp [Go.Abs.quoteS, h]
theorem quote_two {acc : List UInt8} {r : List UInt8} : Go.Abs.quoteS acc (39 :: 39 :: r) = Go.Abs.quoteS (acc ++ [39]) r := by simp [Go.Abs.quoteS]
theorem quote_end {acc : List UInt8} {t : List UInt8} (h : pfx t [39] = false) : Go.Abs.quoteS acc (39 :: t) = some (acc, t) := by
  cases t with
  | nil => simp [Go.Abs.quoteS]
  | cons d r =>
    have : ¬ d = 39 := by rintro rfl; simp [pfx] at h
    simp [Go.Abs.quoteS, this]
theorem pfx_one {t : List UInt8} (h : pfx t [39] = true) : ∃ r, t = 39 :: r := by
  cases t with
  | nil => simp [pfx] at h
  | cons d r => simp [pfx] at h; exact ⟨r, by rw [h]⟩
def textO (k : Int) (s : List UInt8) : Option (List UInt8 × List UInt8) → Option (Out × St)
  | none => tokO k s s.length none
  | some (a, u) => tokO k s ((s.length : Int) - u.length) (if a.length ≤ 24 then some ⟨4, 0, k, a⟩ else none)
set_option maxRecDepth 100000 in
theorem ev_text (s : List UInt8) (hs : s.length ≤ 1048576) (k : Nat) (hk : k < s.length) : EV 125 [.box 0 0, .int .i64 k] [[.str s, .int .i64 k]] =
    textO k s (Go.Abs.quoteS [] (s.drop (k + 1))) := by
  rw [EV_mki rfl Tryz.func125 rfl (by kernel_rfl) rfl]
  have hwk : IntKind.i64.wrap ((k : Int) + 1) = (k : Int) + 1 := wrap_i64 (by omega)
  simp [Tryz.f125, Tryz.ti3, Tryz.ti5, Tryz.ti9, Tryz.ti123, Tryz.ti125, Tryz.ti138, hwk]
  rw [i_loop (ts := [12, 13, 14, 15, 16, 17, 18, 19, 20, 21, 29, 30, 31, 32, 33, 34, 35, 36, 37, 6, 38, 39, 40, 41, 42, 43, 44, 45, 46, 47, 48, 49, 50, 51, 52, 53, 54, 55, 56, 57, 58, 59, 60, 61, 62, 63, 64, 65, 66, 67, 68, 69, 70, 71, 72, 73, 74, 75, 76, 77, 78, 79, 80, 81, 82, 22, 23, 24, 25, 26, 27, 28])]
  rotate_left
  · kernel_rfl
  refine i_at (fun x : {x : Nat × List UInt8 // k < x.1 ∧ x.1 ≤ s.length ∧ x.2.length ≤ x.1} => s.length - x.1.1) (fun x env => setV env 5 (.slice (.own 2) (byV x.1.2)))
    (fun x => [[.str s, .int .i64 x.1.1], [.int .i64 0, .int .i64 0, .int .i64 0, .str []], [.tip x.1.2.length]]) (fun x => textO k s (quoteS x.1.2 (s.drop x.1.1))) ⟨(k + 1, []), by simp; omega⟩ (by simp [s_zero, s_succ, byV]) (by simp) rfl ?_
  intro ⟨(i, acc), hki, his, hacc⟩ ih
  dsimp only at hki his hacc ⊢
  by_cases hi : i < s.length
  · have hd : s.drop i = s[i] :: s.drop (i + 1) := List.drop_eq_getElem_cons hi
    obtain ⟨c, hc⟩ : ∃ m, s[i] = m := ⟨_, rfl⟩
    have hcc : s[i]? = some c := by rw [List.getElem?_eq_getElem hi, hc]
    have hwi : IntKind.i64.wrap ((i : Int) + 1) = (i : Int) + 1 := wrap_i64 (by omega)
    have hwi2 : IntKind.i64.wrap ((i : Int) + 1 + 1) = (i : Int) + 1 + 1 := wrap_i64 (by omega)
    have hf : ∀ x ∈ byV acc, (vcells x).length = 1 := fun x hx => by obtain ⟨y, _, rfl⟩ := List.mem_map.1 hx; rfl
    simp only [vcells] at hf
    have hlen := byV_len acc
    have hbc : acc.length + 1 ≤ 70368744177664 := by omega
    have h0 : (0 : Int) ≤ (i : Int) + 1 := by omega
    rw [hd, hc]
    by_cases h39 : c = 39
    · subst h39
      have h39' : ((39 : UInt8).toNat : Int) = 39 := rfl
      have hp := ev_prefix (s.drop (i + 1)) [39]
      have hi1 : i + 1 ≤ s.length := by omega
      by_cases hq : pfx (s.drop (i + 1)) [39] = true
      · obtain ⟨r, hr⟩ := pfx_one hq
        have hi2 : i + 1 < s.length := by
          have := congrArg List.length hr
          simp only [List.length_drop, List.length_cons] at this
          omega
        have hr2 : s.drop (i + 2) = r := by
          have := List.drop_eq_getElem_cons hi2
          rw [hr] at this
          exact (List.cons.inj this).2.symm
        have ih := ih ⟨(i + 2, acc ++ [39]), by simp; omega⟩ (by simp only; omega)
        simp only [hr2, byV_app, List.length_append, List.length_singleton, s_zero, s_succ, Int.natCast_add, Int.natCast_one, Int.cast_ofNat_Int, h39'] at ih
        rw [show (i : Int) + 2 = (i : Int) + 1 + 1 by omega] at ih
        rw [hr, quote_two]
        rw [hq] at hp
        generalize byV acc = xs at *
        simp +contextual [i_again, roundEnd, dropT, cleanV, Tryz.f125, Tryz.ti3, Tryz.ti5, Tryz.ti9, Tryz.ti123, Tryz.ti125, Tryz.ti138, hi, hc, hcc, hwi, hwi2, hp, hi1, h0, hlen, hbc, hf, ih]
      · rw [Bool.not_eq_true] at hq
        rw [quote_end hq]
        rw [hq] at hp
        have hb := bytesOf_byV acc
        have hsub : (s.length : Int) - (s.drop (i + 1)).length = (i : Int) + 1 := by rw [List.length_drop]; omega
        by_cases h24 : acc.length ≤ 24
        · have h24' : ¬ (24 : Int) < acc.length := by omega
          simp [i_again, roundEnd, dropT, cleanV, Tryz.f125, Tryz.ti3, Tryz.ti5, Tryz.ti9, Tryz.ti123, Tryz.ti125, Tryz.ti138, hi, hc, hcc, hwi, hp, hi1, h0, hlen, h24, h24', hb, textO, hsub, tokO, Tok.enc_eq, gc, reach, reachFuel, shut, nodup, List.idxOf, List.findIdx, List.findIdx.go, List.range, List.range.loop]
          omega
        · have h24' : (24 : Int) < acc.length := by omega
          simp [i_again, roundEnd, dropT, cleanV, Tryz.f125, Tryz.ti3, Tryz.ti5, Tryz.ti9, Tryz.ti123, Tryz.ti125, Tryz.ti138, hi, hc, hcc, hwi, hp, hi1, h0, hlen, h24, h24', textO, hsub, tokO, ev_stop, gc, reach, reachFuel, shut, nodup, List.idxOf, List.findIdx, List.findIdx.go, List.range, List.range.loop]
          omega
    · have h39' : ¬ (c.toNat : Int) = 39 := fun e => h39 (UInt8.toNat_inj.1 (by have : (39 : UInt8).toNat = 39 := rfl; omega))
      have ih := ih ⟨(i + 1, acc ++ [c]), by simp; omega⟩ (by simp only; omega)
      simp only [byV_app, List.length_append, List.length_singleton, s_zero, s_succ, Int.natCast_add, Int.natCast_one, Int.cast_ofNat_Int] at ih
      rw [quote_other h39]
      generalize byV acc = xs at *
      simp +contextual [i_again, roundEnd, dropT, cleanV, Tryz.f125, Tryz.ti3, Tryz.ti5, Tryz.ti9, Tryz.ti123, Tryz.ti125, Tryz.ti138, hi, hc, hcc, hwi, h39', hlen, hbc, hf, ih]
  · obtain rfl : i = s.length := by omega
    have hd : s.drop s.length = [] := List.drop_length
    rw [hd]
    simp [i_again, roundEnd, dropT, cleanV, Tryz.f125, Tryz.ti3, Tryz.ti5, Tryz.ti9, Tryz.ti123, Tryz.ti125, Tryz.ti138, quoteS, textO, tokO, ev_stop, gc, reach, reachFuel, shut, nodup, List.idxOf, List.findIdx, List.findIdx.go, List.range, List.range.loop]
def symL : List (List UInt8) := [[60, 62], [60, 61], [62, 61], [60], [62], [61], [43], [45], [42], [40], [41], [44], [46], [59]]
theorem pfx_c2 (c d x y : UInt8) (t : List UInt8) : pfx (c :: d :: t) [x, y] = decide (c = x ∧ d = y) := by simp [pfx]
theorem pfx_c1 (c x : UInt8) (t : List UInt8) : pfx (c :: t) [x] = decide (c = x) := by simp [pfx]
theorem pfx_n2 (c x y : UInt8) : pfx [c] [x, y] = false := by simp [pfx]
theorem sym_find (c : UInt8) (t : List UInt8) : symL.find? (pfx (c :: t) ·) = if symS (c :: t) = 0 then none else some ((c :: t).take (symS (c :: t))) := by
  have one : ∀ t : List UInt8, [[60], [62], [61], [43], [45], [42], [40], [41], [44], [46], [59]].find? (pfx (c :: t) ·) = if [60, 62, 61, 43, 45, 42, 40, 41, 44, 46, 59].contains c then some [c] else none := by
    intro t
    simp only [List.find?, pfx_c1]
    by_cases h1 : c = 60
    · subst h1; rfl
    by_cases h2 : c = 62
    · subst h2; rfl
    by_cases h3 : c = 61
    · subst h3; rfl
    by_cases h4 : c = 43
    · subst h4; rfl
    by_cases h5 : c = 45
    · subst h5; rfl
    by_cases h6 : c = 42
    · subst h6; rfl
    by_cases h7 : c = 40
    · subst h7; rfl
    by_cases h8 : c = 41
    · subst h8; rfl
    by_cases h9 : c = 44
    · subst h9; rfl
    by_cases h10 : c = 46
    · subst h10; rfl
    by_cases h11 : c = 59
    · subst h11; rfl
    simp [h1, h2, h3, h4, h5, h6, h7, h8, h9, h10, h11]
  cases t with
  | nil =>
    have : symL.find? (pfx [c] ·) = [[60], [62], [61], [43], [45], [42], [40], [41], [44], [46], [59]].find? (pfx [c] ·) := by
      simp only [symL, List.find?_cons, pfx_n2]
    rw [this, one]
    simp only [symS]
    split <;> simp
  | cons d r =>
    have h3 : symL = [[60, 62], [60, 61], [62, 61]] ++ [[60], [62], [61], [43], [45], [42], [40], [41], [44], [46], [59]] := rfl
    rw [h3, List.find?_append, one]
    simp only [symS, List.find?_cons, List.find?_nil, pfx_c2]
    by_cases h1 : c = 60 ∧ d = 62
    · obtain ⟨rfl, rfl⟩ := h1; simp
    by_cases h2 : c = 60 ∧ d = 61
    · obtain ⟨rfl, rfl⟩ := h2; simp
    by_cases h4 : c = 62 ∧ d = 61
    · obtain ⟨rfl, rfl⟩ := h4; simp
    simp only [h1, h2, h4, decide_false, or_self, if_false, Option.none_or]
    split <;> simp
def symO (k : Nat) (s : List UInt8) : Option (List UInt8) → Option (Out × St)
  | none => tokO k s k none
  | some y => tokO k s ((k : Int) + y.length) (some ⟨5, 0, k, y⟩)
def nextO (s : List UInt8) (k : Nat) : Option (Out × St) :=
  match s.drop k with
  | [] => tokO k s k (some ⟨0, 0, k, []⟩)
  | c :: t => if isRun c then tokO k s ((k : Int) + ((c :: t).takeWhile isRun).length) (runS k ((c :: t).takeWhile isRun))
    else if c = 39 then textO k s (quoteS [] t) else symO k s (symL.find? (pfx (c :: t) ·))
set_option maxRecDepth 100000 in
set_option maxHeartbeats 4000000 in
theorem ev_next (s : List UInt8) (hs : s.length ≤ 1048576) (j : Nat) (hj : j ≤ s.length) : EV 77 [.box 0 0] [[.str s, .int .i64 j]] = nextO s (j + blanks (s.drop j)) := by
  have hw := ev_while 122 isBlk ev_lblank s (by omega) j hj
  have hle := takeWhile_len (p := isBlk) (s.drop j)
  rw [List.length_drop] at hle
  have hb : ((s.drop j).takeWhile isBlk).length = blanks (s.drop j) := rfl
  rw [hb] at hw hle
  obtain ⟨k, hk⟩ : ∃ k, j + blanks (s.drop j) = k := ⟨_, rfl⟩
  have hk' : (j : Int) + blanks (s.drop j) = k := by omega
  rw [hk'] at hw
  rw [hk]
  have hks : k ≤ s.length := by omega
  generalize (s.drop j).takeWhile isBlk = bl at hw
  clear hb hk hk' hle
  rw [EV_mki rfl Tryz.func77 rfl (by kernel_rfl) rfl]
  by_cases he : k = s.length
  · subst he
    have hd : s.drop s.length = [] := List.drop_length
    simp [nextO, hd, Tryz.f77, Tryz.ti3, Tryz.ti5, Tryz.ti9, Tryz.ti100, Tryz.ti123, Tryz.ti125, hw, tokO, Tok.enc_eq, gc, reach, reachFuel, shut, nodup, List.idxOf, List.findIdx, List.findIdx.go, List.range, List.range.loop, backR]
  · have hlt : k < s.length := by omega
    have he' : ¬ (k : Int) = s.length := by omega
    have hd : s.drop k = s[k] :: s.drop (k + 1) := List.drop_eq_getElem_cons hlt
    obtain ⟨c, hc⟩ : ∃ m, s[k] = m := ⟨_, rfl⟩
    have hcc : s[k]? = some c := by rw [List.getElem?_eq_getElem hlt, hc]
    rw [hc] at hd
    have hr := ev_run s hs k hks
    have ht := ev_text s hs k hlt
    have hin := ev_inrun c
    unfold nextO
    rw [hd] at hr ⊢
    simp only
    by_cases c1 : isRun c = true
    · rw [c1] at hin
      rw [if_pos c1]
      generalize runS k ((c :: s.drop (k + 1)).takeWhile isRun) = o at *
      generalize (k : Int) + ((c :: s.drop (k + 1)).takeWhile isRun).length = q at *
      cases o <;> simp only [tokO, Tok.enc_eq] at hr ⊢ <;> simp [Tryz.f77, Tryz.ti3, Tryz.ti5, Tryz.ti9, Tryz.ti100, Tryz.ti123, Tryz.ti125, hw, hr, hin, he, he', hlt, hc, hcc, gc, reach, reachFuel, shut, nodup, List.idxOf, List.findIdx, List.findIdx.go, List.range, List.range.loop, backR]
    · rw [Bool.not_eq_true] at c1
      rw [c1] at hin
      rw [if_neg (by simp [c1])]
      by_cases c2 : c = 39
      · rw [if_pos c2]
        subst c2
        have hin : EV 123 [.int .u8 39] [] = some (.ret (.bool false), []) := hin
        cases hq : quoteS [] (s.drop (k + 1)) with
        | none =>
          rw [hq] at ht
          simp only [textO, tokO, Tok.enc_eq] at ht ⊢
          simp [Tryz.f77, Tryz.ti3, Tryz.ti5, Tryz.ti9, Tryz.ti100, Tryz.ti123, Tryz.ti125, hw, ht, hin, he, he', hlt, hc, hcc, gc, reach, reachFuel, shut, nodup, List.idxOf, List.findIdx, List.findIdx.go, List.range, List.range.loop, backR]
        | some p =>
          obtain ⟨a, u⟩ := p
          rw [hq] at ht
          simp only [textO] at ht ⊢
          by_cases h24 : a.length ≤ 24
          · simp only [h24, if_true, tokO, Tok.enc_eq] at ht ⊢
            simp [Tryz.f77, Tryz.ti3, Tryz.ti5, Tryz.ti9, Tryz.ti100, Tryz.ti123, Tryz.ti125, hw, ht, hin, he, he', hlt, hc, hcc, gc, reach, reachFuel, shut, nodup, List.idxOf, List.findIdx, List.findIdx.go, List.range, List.range.loop, backR]
          · simp only [h24, if_false, tokO, Tok.enc_eq] at ht ⊢
            simp [Tryz.f77, Tryz.ti3, Tryz.ti5, Tryz.ti9, Tryz.ti100, Tryz.ti123, Tryz.ti125, hw, ht, hin, he, he', hlt, hc, hcc, gc, reach, reachFuel, shut, nodup, List.idxOf, List.findIdx, List.findIdx.go, List.range, List.range.loop, backR]
      · rw [if_neg c2]
        have h39' : ¬ (c.toNat : Int) = 39 := fun e => c2 (UInt8.toNat_inj.1 (by have : (39 : UInt8).toNat = 39 := rfl; omega))
        simp [Tryz.f77, Tryz.ti3, Tryz.ti5, Tryz.ti9, Tryz.ti100, Tryz.ti123, Tryz.ti125, hw, hin, he, he', hlt, hc, hcc, h39', gc, reach, reachFuel, shut, nodup, List.idxOf, List.findIdx, List.findIdx.go, List.range, List.range.loop, backR]
        rw [show ([V.str [60, 62], V.str [60, 61], V.str [62, 61], V.str [60], V.str [62], V.str [61], V.str [43], V.str [45], V.str [42], V.str [40], V.str [41], V.str [44], V.str [46], V.str [59]] : List V) = symL.map V.str from rfl, ← hd]
        have hsl : symL.length = 14 := rfl
        have hsz : ∀ y ∈ symL, y.length ≤ 2 := by decide
        generalize symL = L at hsl hsz ⊢
        rw [i_loop (ts := [47, 48, 49, 5, 50, 51, 52, 53, 54, 55, 56, 57, 58, 59, 60, 61, 62, 63, 64, 65, 66, 67, 68, 69, 70])]
        rotate_left
        · kernel_rfl
        refine i_at (fun i : Nat => L.length - i) (fun i env => setV env 46 (.int .i64 i)) (fun _ => _) (fun i => symO k s ((L.drop i).find? (pfx (s.drop k) ·))) 0 (by simp [s_zero, s_succ]) rfl (by simp) ?_
        intro i ih
        by_cases hi : i < L.length
        · have ih := ih (i + 1) (by omega)
          have hi14 : (i : Int) < 14 := by omega
          have hwi : IntKind.i64.wrap ((i : Int) + 1) = (i : Int) + 1 := wrap_i64 (by omega)
          have hL : L.drop i = L[i] :: L.drop (i + 1) := List.drop_eq_getElem_cons hi
          obtain ⟨y, hy⟩ : ∃ m, L[i] = m := ⟨_, rfl⟩
          have hyy : L[i]? = some y := by rw [List.getElem?_eq_getElem hi, hy]
          have hyl := hsz y (hy ▸ List.getElem_mem hi)
          have hp := ev_prefix (s.drop k) y
          have hwy : IntKind.i64.wrap ((k : Int) + y.length) = (k : Int) + y.length := wrap_i64 (by omega)
          rw [hL, hy, List.find?_cons]
          simp only [s_zero, s_succ, Int.natCast_add, Int.natCast_one, Int.cast_ofNat_Int] at ih
          generalize pfx (s.drop k) y = b at *
          cases b with
          | true => simp [i_again, roundEnd, dropT, cleanV, Tryz.f77, Tryz.ti3, Tryz.ti5, Tryz.ti9, Tryz.ti100, Tryz.ti123, Tryz.ti125, hi, hi14, hy, hyy, hp, hks, hwy, symO, tokO, Tok.enc_eq, gc, reach, reachFuel, shut, nodup, List.idxOf, List.findIdx, List.findIdx.go, List.range, List.range.loop, backR]
          | false => simp [i_again, roundEnd, dropT, cleanV, Tryz.f77, Tryz.ti3, Tryz.ti5, Tryz.ti9, Tryz.ti100, Tryz.ti123, Tryz.ti125, hi, hi14, hy, hyy, hp, hks, hwi, ih]
        · have hi14 : ¬ (i : Int) < 14 := by omega
          have hL : L.drop i = [] := List.drop_eq_nil_of_le (by omega)
          rw [hL]
          simp [i_again, roundEnd, dropT, cleanV, Tryz.f77, Tryz.ti3, Tryz.ti5, Tryz.ti9, Tryz.ti100, Tryz.ti123, Tryz.ti125, hi, hi14, ev_stop, symO, tokO, gc, reach, reachFuel, shut, nodup, List.idxOf, List.findIdx, List.findIdx.go, List.range, List.range.loop, backR]
end Go.Abs
namespace Go.Abs
open Go Go.Proofs
variable {P : Program}
def panJ (js : List Nat) [s : OpsI] (fps : List Fp) : Bool := fpsOk2 s.a fps.reverse && ((List.range s.a.size).all (fun j => j ≤ fps.length - 1 || ordB s.a (fps.length - 1) j || js.contains j) && fps.reverse.zipIdx.all fun (b, j) => b.writes.isNone || j == fps.length - 1 || ordB s.a j (fps.length - 1))
theorem panQ_with (js : List Nat) {s : OpsI} {env : Env} {fps : List Fp} (h : @panJ js s fps = true) (hs : ∀ j ∈ js, safeOp P s.a env j = true) : @panQ P s env fps = true := by
  unfold panJ at h
  unfold panQ panicOk
  simp only [Bool.and_eq_true, List.all_eq_true, Bool.or_eq_true] at h ⊢
  refine ⟨h.1, fun j hj => ?_, h.2.2⟩
  rcases h.2.1 j hj with h1 | h1
  · exact .inl h1
  · exact .inr (hs j (by simpa using h1))
theorem panQ_of {s : OpsI} {env : Env} {fps : List Fp} (h : @panJ [] s fps = true) : @panQ P s env fps = true := panQ_with [] h (fun _ h => absurd h (by simp))
end Go.Abs
