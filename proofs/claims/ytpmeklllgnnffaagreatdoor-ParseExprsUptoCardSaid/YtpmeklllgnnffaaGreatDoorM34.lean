/- Plain: the reference's reader of an expression. Tokens L, a place, whether it has failed. -/
import Derived.Test.YtpmeklllgnnffaaGreatDoorM33
set_option linter.unusedSimpArgs false
set_option linter.unusedVariables false

namespace Go.Abs
set_option linter.unusedSimpArgs false
set_option linter.unusedVariables false
open Go

abbrev RX := Xp × Nat × Bool
section
variable (L : List Tok)
def kindR (i : Nat) (b : Bool) (k : Int) : List UInt8 × Nat × Bool := match L.drop i with
  | [] => ([], i, true)
  | t :: _ => if b = true ∨ t.kind ≠ k then ([], i, true) else (t.s, i + 1, false)
def needR (i : Nat) (b : Bool) (s : List UInt8) : Nat × Bool := ((hasR L i b s).2, b || !(hasR L i b s).1)
def pickR : List (List UInt8) → Nat → Bool → Nat × Nat
  | [], i, _ => (0, i)
  | s :: r, i, b => if seesR L i b s then (1, i + 1) else match pickR r i b with
    | (0, j) => (0, j)
    | (n + 1, j) => (n + 2, j)
def atomR (or : Nat → Bool → RX) (i : Nat) (b : Bool) : RX := match L.drop i with
  | [] => (Xp.zero, i, true)
  | t :: r =>
    if b = true then (Xp.zero, i, true)
    else if t.kind = 3 then (xval ⟨2, t.n, []⟩, i + 1, false)
    else if t.kind = 4 then (xval ⟨3, 0, t.s⟩, i + 1, false)
    else if t.kind = 2 then
      if isT [46] r then (.mk oColumn Val.zero t.s (kindR L (i + 2) false 2).1 [], (kindR L (i + 2) false 2).2)
      else (.mk oColumn Val.zero [] t.s [], i + 1, false)
    else if isT [78, 85, 76, 76] (t :: r) then (xval Val.zero, i + 1, false)
    else if isT [84, 82, 85, 69] (t :: r) then (xval ⟨1, 1, []⟩, i + 1, false)
    else if isT [70, 65, 76, 83, 69] (t :: r) then (xval ⟨1, 0, []⟩, i + 1, false)
    else if isT [40] (t :: r) then ((or (i + 1) false).1, needR L (or (i + 1) false).2.1 (or (i + 1) false).2.2 [41])
    else (Xp.zero, i, true)
def unaryR (or : Nat → Bool → RX) : Nat → Nat → Bool → RX
  | 0, i, b => (Xp.zero, i, b)
  | k + 1, i, b => if seesR L i b [45] then (xop oNeg [(unaryR or k (i + 1) b).1], (unaryR or k (i + 1) b).2) else atomR L or i b
/- a loop over one op -/
def loopR (part : Nat → Bool → RX) (s o : List UInt8) : Nat → Xp → Nat → Bool → RX
  | 0, e, i, b => (e, i, b)
  | k + 1, e, i, b => if seesR L i b s then loopR part s o k (xop o [e, (part (i + 1) b).1]) (part (i + 1) b).2.1 (part (i + 1) b).2.2 else (e, i, b)
def opsR (part : Nat → Bool → RX) (s o : List UInt8) (i : Nat) (b : Bool) : RX := loopR L part s o (L.length + 1) (part i b).1 (part i b).2.1 (part i b).2.2
def topS (i : Nat) : List UInt8 := match L.drop i with
  | [] => []
  | t :: _ => t.s
def sumLR (part : Nat → Bool → RX) : Nat → Xp → Nat → Bool → RX
  | 0, e, i, b => (e, i, b)
  | k + 1, e, i, b => if seesR L i b [43] || seesR L i b [45] then sumLR part k (xop (topS L i) [e, (part (i + 1) b).1]) (part (i + 1) b).2.1 (part (i + 1) b).2.2 else (e, i, b)
def termR (or : Nat → Bool → RX) : Nat → Bool → RX := opsR L (unaryR L or (L.length + 1)) [42] [42]
def sumR (or : Nat → Bool → RX) (i : Nat) (b : Bool) : RX := sumLR L (termR L or) (L.length + 1) (termR L or i b).1 (termR L or i b).2.1 (termR L or i b).2.2
def cmpOps : List (List UInt8) := [[61], [60, 62], [60], [60, 61], [62], [62, 61]]
def isR (e : Xp) (i : Nat) (b : Bool) : RX :=
  if seesR L i b [73, 83] then
    (if (hasR L (i + 1) b [78, 79, 84]).1 = true then xop oNot [xop oNull [e]] else xop oNull [e], needR L (hasR L (i + 1) b [78, 79, 84]).2 b [78, 85, 76, 76])
  else (e, i, b)
def cmpR (or : Nat → Bool → RX) (i : Nat) (b : Bool) : RX :=
  match sumR L or i b with
  | (e, j, c) => match pickR L cmpOps j c with
    | (0, _) => isR L e j c
    | (n + 1, j') => (xop (cmpOps.getD n []) [e, (sumR L or j' c).1], (sumR L or j' c).2)
def notR (or : Nat → Bool → RX) : Nat → Nat → Bool → RX
  | 0, i, b => (Xp.zero, i, b)
  | k + 1, i, b => if seesR L i b [78, 79, 84] then (xop oNot [(notR or k (i + 1) b).1], (notR or k (i + 1) b).2) else cmpR L or i b
def andR (or : Nat → Bool → RX) : Nat → Bool → RX := opsR L (notR L or (L.length + 1)) [65, 78, 68] oAnd
def orR : Nat → Nat → Bool → RX
  | 0, i, b => (Xp.zero, i, b)
  | n + 1, i, b => opsR L (andR L (orR n)) [79, 82] oOr i b
end
/- it agrees with the parser -/
section
variable {L : List Tok}
def Rel (L : List Tok) (i : Nat) (p : PR Xp) (x : RX) : Prop :=
  match p with
  | (some e, r) => ∃ j, x = (e, j, false) ∧ L.drop j = r ∧ i ≤ j ∧ j ≤ L.length
  | (none, r) => ∃ e j, x = (e, j, true) ∧ L.drop j = r ∧ i ≤ j ∧ j ≤ L.length
def Stays (R : Nat → Bool → RX) : Prop := ∀ i, ∃ e, R i true = (e, i, true)
theorem seesR_false {i : Nat} {s : List UInt8} : seesR L i false s = isT s (L.drop i) := by simp [seesR]
theorem seesR_true {i : Nat} {s : List UInt8} : seesR L i true s = false := by simp [seesR]
theorem hasR_true {i : Nat} {s : List UInt8} : hasR L i true s = (false, i) := by simp [hasR, seesR]
theorem hasR_false {i : Nat} {s : List UInt8} : hasR L i false s = if isT s (L.drop i) then (true, i + 1) else (false, i) := by simp [hasR, seesR]
theorem rel_le {i j : Nat} {p : PR Xp} {x : RX} (h : i ≤ j) (hr : Rel L j p x) : Rel L i p x := by
  obtain ⟨o, r⟩ := p
  cases o with
  | none => obtain ⟨e, k, h1, h2, h3, h4⟩ := hr; exact ⟨e, k, h1, h2, by omega, h4⟩
  | some e => obtain ⟨k, h1, h2, h3, h4⟩ := hr; exact ⟨k, h1, h2, by omega, h4⟩
theorem isT_lt {i : Nat} {s : List UInt8} (h : isT s (L.drop i) = true) : i < L.length ∧ (L.drop i).tail = L.drop (i + 1) := by
  refine ⟨?_, by simp⟩
  by_cases hi : i < L.length
  · exact hi
  · rw [List.drop_eq_nil_of_le (by omega)] at h; cases h
theorem stay_atom {or : Nat → Bool → RX} : Stays (atomR L or) := by
  intro i
  unfold atomR
  split
  · exact ⟨_, rfl⟩
  · rw [if_pos rfl]; exact ⟨_, rfl⟩
theorem stay_unary {or : Nat → Bool → RX} : ∀ k, Stays (unaryR L or k)
  | 0, i => ⟨_, rfl⟩
  | k + 1, i => by
    unfold unaryR
    rw [seesR_true]
    exact stay_atom i
theorem stay_loop {part : Nat → Bool → RX} {s o : List UInt8} : ∀ k e i, loopR L part s o k e i true = (e, i, true)
  | 0, e, i => rfl
  | k + 1, e, i => by unfold loopR; rw [seesR_true]; rfl
theorem stay_ops {part : Nat → Bool → RX} {s o : List UInt8} (h : Stays part) : Stays (opsR L part s o) := by
  intro i
  obtain ⟨e, he⟩ := h i
  unfold opsR
  rw [he]
  exact ⟨e, stay_loop _ e i⟩
theorem stay_sumL {part : Nat → Bool → RX} : ∀ k e i, sumLR L part k e i true = (e, i, true)
  | 0, e, i => rfl
  | k + 1, e, i => by unfold sumLR; rw [seesR_true, seesR_true]; rfl
theorem stay_term {or : Nat → Bool → RX} : Stays (termR L or) := stay_ops (stay_unary _)
theorem stay_sum {or : Nat → Bool → RX} : Stays (sumR L or) := by
  intro i
  obtain ⟨e, he⟩ := stay_term (L := L) (or := or) i
  unfold sumR
  rw [he]
  exact ⟨e, stay_sumL _ e i⟩
theorem pick_true : ∀ (l : List (List UInt8)) (i : Nat), pickR L l i true = (0, i)
  | [], i => rfl
  | s :: r, i => by unfold pickR; rw [seesR_true, pick_true r i]; rfl
theorem stay_cmp {or : Nat → Bool → RX} : Stays (cmpR L or) := by
  intro i
  obtain ⟨e, he⟩ := stay_sum (L := L) (or := or) i
  unfold cmpR
  rw [he]
  simp only [pick_true, isR, seesR_true, Bool.false_eq_true, if_false]
  exact ⟨e, rfl⟩
theorem stay_not {or : Nat → Bool → RX} : ∀ k, Stays (notR L or k)
  | 0, i => ⟨_, rfl⟩
  | k + 1, i => by
    unfold notR
    rw [seesR_true]
    exact stay_cmp i
theorem stay_and {or : Nat → Bool → RX} : Stays (andR L or) := stay_ops (stay_not _)
theorem stay_or : ∀ n, Stays (orR L n)
  | 0, i => ⟨_, rfl⟩
  | n + 1, i => stay_ops stay_and i
/- a part, over places at most m from the end -/
def Agr (L : List Tok) (m : Nat) (P : List Tok → PR Xp) (R : Nat → Bool → RX) : Prop := ∀ i, i ≤ L.length → L.length - i ≤ m → Rel L i (P (L.drop i)) (R i false)
theorem agr_loop {m : Nat} {P : List Tok → PR Xp} {R : Nat → Bool → RX} (hp : Agr L m P R) (hs : Stays R) (s o : List UInt8) : ∀ (k1 k2 i : Nat) (e : Xp), i ≤ L.length → L.length - i ≤ m → L.length - i < k1 → L.length - i < k2 →
    Rel L i (moreP P [(s, o)] k1 e (L.drop i)) (loopR L R s o k2 e i false)
  | 0, k2, i, e, hi, hm, h1, h2 => by omega
  | k1 + 1, 0, i, e, hi, hm, h1, h2 => by omega
  | k1 + 1, k2 + 1, i, e, hi, hm, h1, h2 => by
    simp only [moreP, loopR, opAt, seesR_false]
    cases ht : isT s (L.drop i)
    · exact ⟨i, rfl, rfl, Nat.le_refl _, hi⟩
    · obtain ⟨hlt, htl⟩ := isT_lt ht
      simp only [if_true]
      rw [htl]
      have hr := hp (i + 1) (by omega) (by omega)
      cases hP : P (L.drop (i + 1)) with
      | mk q r =>
        rw [hP] at hr
        cases q with
        | none =>
          obtain ⟨f, j, h3, h4, h5, h6⟩ := hr
          simp only [thenP, h3, stay_loop]
          exact ⟨_, j, rfl, h4, by omega, h6⟩
        | some f =>
          obtain ⟨j, h3, h4, h5, h6⟩ := hr
          simp only [thenP, h3]
          rw [← h4]
          exact rel_le (by omega) (agr_loop hp hs s o k1 k2 j _ h6 (by omega) (by omega) (by omega))
theorem agr_ops {m : Nat} {P : List Tok → PR Xp} {R : Nat → Bool → RX} (hp : Agr L m P R) (hs : Stays R) (s o : List UInt8) : Agr L m (chainP P [(s, o)]) (opsR L R s o) := by
  intro i hi hm
  have hr := hp i hi hm
  unfold chainP opsR
  cases hP : P (L.drop i) with
  | mk q r =>
    rw [hP] at hr
    cases q with
    | none =>
      obtain ⟨f, j, h3, h4, h5, h6⟩ := hr
      simp only [thenP, h3, stay_loop]
      exact ⟨_, j, rfl, h4, by omega, h6⟩
    | some f =>
      obtain ⟨j, h3, h4, h5, h6⟩ := hr
      simp only [thenP, h3]
      rw [← h4]
      exact rel_le h5 (agr_loop hp hs s o _ _ j f h6 (by omega) (by simp) (by omega))
theorem agr_sumL {m : Nat} {P : List Tok → PR Xp} {R : Nat → Bool → RX} (hp : Agr L m P R) (hs : Stays R) : ∀ (k1 k2 i : Nat) (e : Xp), i ≤ L.length → L.length - i ≤ m → L.length - i < k1 → L.length - i < k2 →
    Rel L i (moreP P sumTbl k1 e (L.drop i)) (sumLR L R k2 e i false)
  | 0, k2, i, e, hi, hm, h1, h2 => by omega
  | k1 + 1, 0, i, e, hi, hm, h1, h2 => by omega
  | k1 + 1, k2 + 1, i, e, hi, hm, h1, h2 => by
    have top : ∀ w, isT w (L.drop i) = true → topS L i = w := by
      intro w hw
      unfold topS
      cases hd : L.drop i with
      | nil => rw [hd] at hw; cases hw
      | cons t r => rw [hd] at hw; simp [isT] at hw; exact hw.2
    have step : ∀ w, isT w (L.drop i) = true → Rel L i (thenP (P (L.drop i).tail) fun f r => moreP P sumTbl k1 (xop w [e, f]) r) (sumLR L R k2 (xop w [e, (R (i + 1) false).1]) (R (i + 1) false).2.1 (R (i + 1) false).2.2) := by
      intro w hw
      obtain ⟨hlt, htl⟩ := isT_lt hw
      rw [htl]
      have hr := hp (i + 1) (by omega) (by omega)
      cases hP : P (L.drop (i + 1)) with
      | mk q r =>
        rw [hP] at hr
        cases q with
        | none =>
          obtain ⟨f, j, h3, h4, h5, h6⟩ := hr
          simp only [thenP, h3, stay_sumL]
          exact ⟨_, j, rfl, h4, by omega, h6⟩
        | some f =>
          obtain ⟨j, h3, h4, h5, h6⟩ := hr
          simp only [thenP, h3]
          rw [← h4]
          exact rel_le (by omega) (agr_sumL hp hs k1 k2 j _ h6 (by omega) (by omega) (by omega))
    rw [moreP, sumLR, seesR_false, seesR_false]
    simp only [sumTbl, opAt]
    cases h1 : isT [43] (L.drop i)
    · cases h2 : isT [45] (L.drop i)
      · exact ⟨i, rfl, rfl, Nat.le_refl _, hi⟩
      · simpa [sumTbl, top _ h2] using step _ h2
    · simpa [sumTbl, top _ h1] using step _ h1
theorem rel_need {i : Nat} {s : List UInt8} {e : Xp} (hi : i ≤ L.length) : Rel L i (thenP (needP s (L.drop i)) fun _ r => (some e, r)) (e, needR L i false s) := by
  unfold needP needR
  rw [hasR_false]
  cases ht : isT s (L.drop i)
  · exact ⟨e, i, rfl, rfl, Nat.le_refl _, hi⟩
  · obtain ⟨hlt, htl⟩ := isT_lt ht
    simp only [if_true, thenP]
    exact ⟨i + 1, rfl, htl.symm, by omega, by omega⟩
theorem agr_atom {m : Nat} {or : List Tok → PR Xp} {R : Nat → Bool → RX} (hp : ∀ i, i ≤ L.length → L.length - i < m → Rel L i (or (L.drop i)) (R i false)) : Agr L m (atomP or) (atomR L R) := by
  intro i hi hm
  cases hd : L.drop i with
  | nil => simp only [atomP, atomR, hd]; exact ⟨_, i, rfl, hd, Nat.le_refl _, hi⟩
  | cons t r =>
    have hlt : i < L.length := by
      have := congrArg List.length hd
      simp at this
      omega
    have hn : L.drop (i + 1) = r := by
      have := congrArg List.tail hd
      simpa using this
    have one : ∀ e, Rel L i (some e, r) (e, i + 1, false) := fun e => ⟨i + 1, rfl, hn, by omega, by omega⟩
    simp only [atomP, atomR, hd, Bool.false_eq_true, if_false]
    by_cases k3 : t.kind = 3
    · simp only [k3, if_true]; exact one _
    by_cases k4 : t.kind = 4
    · simp only [k4, show ¬ ((4 : Int) = 3) by decide, if_true, if_false]; exact one _
    by_cases k2 : t.kind = 2
    · simp only [k2, show ¬ ((2 : Int) = 3) by decide, show ¬ ((2 : Int) = 4) by decide, if_true, if_false]
      cases hdot : isT [46] r
      · exact one _
      · rw [← hn] at hdot ⊢
        obtain ⟨hlt2, htl⟩ := isT_lt hdot
        simp only [if_true]
        rw [htl]
        unfold kindR nameP
        cases hd2 : L.drop (i + 2) with
        | nil => exact ⟨_, i + 2, rfl, hd2, by omega, by omega⟩
        | cons u q =>
          have hlt3 : i + 2 < L.length := by
            have := congrArg List.length hd2
            simp at this
            omega
          have hn3 : L.drop (i + 2 + 1) = q := by
            have := congrArg List.tail hd2
            simpa using this
          by_cases ku : u.kind = 2
          · simp only [ku, if_true, thenP]
            simp
            exact ⟨i + 2 + 1, rfl, hn3, by omega, by omega⟩
          · simp only [ku, if_false, thenP]
            simp [ku]
            exact ⟨_, i + 2, rfl, hd2, by omega, by omega⟩
    simp only [k2, k3, k4, if_false]
    cases iN : isT [78, 85, 76, 76] (t :: r)
    rotate_left
    · exact one _
    cases iF : isT [70, 65, 76, 83, 69] (t :: r)
    rotate_left
    · cases iT : isT [84, 82, 85, 69] (t :: r)
      · exact one _
      · simp [isT] at iF iT
        rw [iF.2] at iT
        simp at iT
    cases iT : isT [84, 82, 85, 69] (t :: r)
    rotate_left
    · exact one _
    cases iP : isT [40] (t :: r)
    · exact ⟨_, i, rfl, hd, Nat.le_refl _, hi⟩
    · simp only [if_true, Bool.false_eq_true, if_false]
      have hr := hp (i + 1) (by omega) (by omega)
      rw [hn] at hr
      unfold parenP
      cases hO : or r with
      | mk q r' =>
        rw [hO] at hr
        cases q with
        | none =>
          obtain ⟨f, j, h3, h4, h5, h6⟩ := hr
          simp only [thenP, h3]
          exact ⟨f, j, by unfold needR; rw [hasR_true]; rfl, h4, by omega, h6⟩
        | some f =>
          obtain ⟨j, h3, h4, h5, h6⟩ := hr
          simp only [thenP, h3]
          rw [← h4]
          have := rel_need (L := L) (i := j) (s := [41]) (e := f) h6
          unfold needP at this
          cases ht : isT [41] (L.drop j)
          · rw [ht] at this; exact rel_le (by omega) this
          · rw [ht] at this; exact rel_le (by omega) this
/- one op ahead, then the same again -/
theorem rel_pre {i : Nat} {p : PR Xp} {x : RX} (o : List UInt8) (hr : Rel L (i + 1) p x) : Rel L i (thenP p fun e r => (some (xop o [e]), r)) (xop o [x.1], x.2) := by
  obtain ⟨q, r⟩ := p
  cases q with
  | none => obtain ⟨e, k, h1, h2, h3, h4⟩ := hr; rw [h1]; exact ⟨_, k, rfl, h2, by omega, h4⟩
  | some e => obtain ⟨k, h1, h2, h3, h4⟩ := hr; rw [h1]; exact ⟨k, rfl, h2, by omega, h4⟩
section
variable {m : Nat} {or : List Tok → PR Xp} {R : Nat → Bool → RX} (hp : ∀ i, i ≤ L.length → L.length - i < m → Rel L i (or (L.drop i)) (R i false))
include hp
theorem agr_unary : ∀ (k1 k2 i : Nat), i ≤ L.length → L.length - i ≤ m → L.length - i < k1 → L.length - i < k2 → Rel L i (unaryP or k1 (L.drop i)) (unaryR L R k2 i false)
  | 0, k2, i, hi, hm, h1, h2 => by omega
  | k1 + 1, 0, i, hi, hm, h1, h2 => by omega
  | k1 + 1, k2 + 1, i, hi, hm, h1, h2 => by
    simp only [unaryP, unaryR, seesR_false]
    cases ht : isT [45] (L.drop i)
    · exact agr_atom hp i hi hm
    · obtain ⟨hlt, htl⟩ := isT_lt ht
      simp only [if_true]
      rw [htl]
      exact rel_pre oNeg (agr_unary k1 k2 (i + 1) (by omega) (by omega) (by omega) (by omega))
theorem agr_unaryL : Agr L m (unaryL or) (unaryR L R (L.length + 1)) := fun i hi hm => agr_unary hp _ _ i hi hm (by simp) (by omega)
theorem agr_term : Agr L m (termP or) (termR L R) := agr_ops (agr_unaryL hp) (stay_unary _) _ _
theorem agr_sum : Agr L m (sumP or) (sumR L R) := by
  intro i hi hm
  have hr := agr_term hp i hi hm
  unfold sumP chainP sumR
  cases hP : termP or (L.drop i) with
  | mk q r =>
    rw [hP] at hr
    cases q with
    | none =>
      obtain ⟨f, j, h3, h4, h5, h6⟩ := hr
      simp only [thenP, h3, stay_sumL]
      exact ⟨_, j, rfl, h4, by omega, h6⟩
    | some f =>
      obtain ⟨j, h3, h4, h5, h6⟩ := hr
      simp only [thenP, h3]
      rw [← h4]
      exact rel_le h5 (agr_sumL (agr_term hp) stay_term _ _ j f h6 (by omega) (by simp) (by omega))
theorem agr_cmp : Agr L m (cmpP (sumP or)) (cmpR L R) := by
  intro i hi hm
  have hr := agr_sum hp i hi hm
  unfold cmpP cmpR
  cases hP : sumP or (L.drop i) with
  | mk q r =>
    rw [hP] at hr
    cases q with
    | none =>
      obtain ⟨f, j, h3, h4, h5, h6⟩ := hr
      simp only [thenP, h3, pick_true, isR, seesR_true, Bool.false_eq_true, if_false]
      exact ⟨_, j, rfl, h4, by omega, h6⟩
    | some f =>
      obtain ⟨j, h3, h4, h5, h6⟩ := hr
      simp only [thenP, h3]
      rw [← h4]
      refine rel_le h5 ?_
      have step : ∀ (w : List UInt8), isT w (L.drop j) = true → Rel L j (thenP (sumP or (L.drop j).tail) fun g r' => (some (xop w [f, g]), r')) (xop w [f, (sumR L R (j + 1) false).1], (sumR L R (j + 1) false).2) := by
        intro w hw
        obtain ⟨hlt, htl⟩ := isT_lt hw
        rw [htl]
        have hr := agr_sum hp (j + 1) (by omega) (by omega)
        cases hP : sumP or (L.drop (j + 1)) with
        | mk q r =>
          rw [hP] at hr
          cases q with
          | none =>
            obtain ⟨g, j', h3, h4, h5, h6⟩ := hr
            simp only [thenP, h3]
            exact ⟨_, j', rfl, h4, by omega, h6⟩
          | some g =>
            obtain ⟨j', h3, h4, h5, h6⟩ := hr
            simp only [thenP, h3]
            exact ⟨j', rfl, h4, by omega, h6⟩
      simp only [cmpTbl, cmpOps, opAt, pickR, seesR_false]
      cases i1 : isT [61] (L.drop j)
      rotate_left
      · simpa [thenP] using step _ i1
      cases i2 : isT [60, 62] (L.drop j)
      rotate_left
      · simpa [thenP] using step _ i2
      cases i3 : isT [60] (L.drop j)
      rotate_left
      · simpa [thenP] using step _ i3
      cases i4 : isT [60, 61] (L.drop j)
      rotate_left
      · simpa [thenP] using step _ i4
      cases i5 : isT [62] (L.drop j)
      rotate_left
      · simpa [thenP] using step _ i5
      cases i6 : isT [62, 61] (L.drop j)
      rotate_left
      · simpa [thenP] using step _ i6
      simp only [Bool.false_eq_true, if_false, isP, isR, seesR_false]
      cases i7 : isT [73, 83] (L.drop j)
      · exact ⟨j, rfl, rfl, Nat.le_refl _, h6⟩
      · obtain ⟨hlt, htl⟩ := isT_lt i7
        simp only [if_true]
        rw [htl, hasR_false]
        unfold maybeP
        cases i8 : isT [78, 79, 84] (L.drop (j + 1))
        · simp only [Bool.false_eq_true, if_false]
          exact rel_le (by omega) (rel_need (by omega))
        · obtain ⟨hlt2, htl2⟩ := isT_lt i8
          simp only [if_true]
          rw [htl2]
          exact rel_le (by omega) (rel_need (by omega))
theorem agr_not : ∀ (k1 k2 i : Nat), i ≤ L.length → L.length - i ≤ m → L.length - i < k1 → L.length - i < k2 → Rel L i (notP (cmpP (sumP or)) k1 (L.drop i)) (notR L R k2 i false)
  | 0, k2, i, hi, hm, h1, h2 => by omega
  | k1 + 1, 0, i, hi, hm, h1, h2 => by omega
  | k1 + 1, k2 + 1, i, hi, hm, h1, h2 => by
    simp only [notP, notR, seesR_false]
    cases ht : isT [78, 79, 84] (L.drop i)
    · exact agr_cmp hp i hi hm
    · obtain ⟨hlt, htl⟩ := isT_lt ht
      simp only [if_true]
      rw [htl]
      exact rel_pre oNot (agr_not k1 k2 (i + 1) (by omega) (by omega) (by omega) (by omega))
theorem agr_and : Agr L m (andP or) (andR L R) := agr_ops (P := notL or) (R := notR L R (L.length + 1)) (fun i hi hm => agr_not hp _ _ i hi hm (by simp) (by omega)) (stay_not _) _ _
end
theorem agr_or : ∀ (n1 n2 i : Nat), i ≤ L.length → L.length - i < n1 → L.length - i < n2 → Rel L i (orP n1 (L.drop i)) (orR L n2 i false)
  | 0, n2, i, hi, h1, h2 => by omega
  | n1 + 1, 0, i, hi, h1, h2 => by omega
  | n1 + 1, n2 + 1, i, hi, h1, h2 => by
    have h := agr_ops (L := L) (m := L.length - i) (agr_and (fun j hj hm => agr_or n1 n2 j hj (by omega) (by omega))) stay_and [79, 82] oOr i hi (Nat.le_refl _)
    exact h
end
end Go.Abs

