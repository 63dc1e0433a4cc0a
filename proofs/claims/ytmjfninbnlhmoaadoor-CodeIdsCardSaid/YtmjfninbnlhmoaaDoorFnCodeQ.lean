/- Plain: keys and rows come back, and stand as values do. -/
import Derived.Test.YtmjfninbnlhmoaaDoorFnCodeP
namespace Go.Abs
set_option linter.unusedSimpArgs false
set_option linter.unusedVariables false
open Go Go.Proofs

theorem right_kind {v : Val} (h : rightS v = true) : v = ⟨0, 0, []⟩ ∨ (v.kind = 1 ∧ v.s = [] ∧ (v.n = 0 ∨ v.n = 1)) ∨ (v.kind = 2 ∧ v.s = []) ∨ (v.kind = 3 ∧ v.n = 0 ∧ v.s.length ≤ 24) := by
  obtain ⟨k, n, s⟩ := v
  unfold rightS at h
  simp only at h
  split at h
  · rename_i hk; simp at h; left; simp [hk, h.1, h.2]
  · split at h
    · rename_i hk; simp at h; exact .inr (.inl ⟨hk, h⟩)
    · split at h
      · rename_i hk; simp at h; exact .inr (.inr (.inl ⟨hk, h⟩))
      · split at h
        · rename_i hk; simp at h; exact .inr (.inr (.inr ⟨hk, h⟩))
        · cases h
theorem value_key {v : Val} (hr : rightS v = true) (hi : inI v.n) (more : List UInt8) : valueS (keyS v ++ more) = .ok (v, more) := by
  obtain ⟨k, n, s⟩ := v
  rcases right_kind hr with h | ⟨h1, h2, h3⟩ | ⟨h1, h2⟩ | ⟨h1, h2, h3⟩
  · rw [h]; simp [keyS, valueS, valueR, rightS]
  · simp only at h1 h2 h3
    subst h1; subst h2
    rcases h3 with rfl | rfl <;> simp [keyS, valueS, valueR, rightS]
  · simp only at h1 h2 hi
    subst h1; subst h2
    have hu : inU ((n + 9223372036854775808) % 18446744073709551616) := ⟨by omega, by omega⟩
    have hl : (eightS ((n + 9223372036854775808) % 18446744073709551616)).length = 8 := rfl
    have hne := num_eight hu
    have hk : keyS ⟨2, n, []⟩ = 2 :: eightS ((n + 9223372036854775808) % 18446744073709551616) := by
      simp only [keyS, show ¬ (2 : Int) = 1 by decide, if_false, if_true]
    generalize eightS ((n + 9223372036854775808) % 18446744073709551616) = l at *
    have ht : (l ++ more).take 8 = l := by rw [← hl]; exact List.take_left
    have hd : (l ++ more).drop 8 = more := by rw [← hl]; exact List.drop_left
    have hn : numS l - 9223372036854775808 = n := by unfold inI at hi; omega
    rw [hk]
    have hle : ¬ (l ++ more).length < 8 := by simp; omega
    simp only [List.cons_append, valueS, show ¬ (2 : UInt8) = 1 by decide, if_false, if_true, if_neg hle, ht, hd, hn]
    simp [valueR, rightS]
  · simp only at h1 h2 h3
    subst h1; subst h2
    have hk : keyS ⟨3, 0, s⟩ = 3 :: (escS s ++ [0, 1]) := by simp [keyS]
    have ht := text_esc s [] more
    rw [hk]
    have e : escS s ++ [0, 1] ++ more = escS s ++ 0 :: 1 :: more := by simp
    simp only [List.cons_append, valueS, show ¬ (3 : UInt8) = 1 by decide, show ¬ (3 : UInt8) = 2 by decide, if_false, if_true, e, ht, List.nil_append]
    simp [valueR, rightS, h3]
theorem key_value {s : List UInt8} {v : Val} {r : List UInt8} (h : valueS s = .ok (v, r)) : keyS v ++ r = s ∧ inI v.n := by
  match s, h with
  | [], h => simp [valueS] at h
  | k :: s, h =>
    have hk := u8_lt k
    simp only [valueS] at h
    split at h
    · rename_i h1
      subst h1
      match s, h with
      | [], h => simp at h
      | b :: s, h =>
        obtain ⟨rfl, rfl, hq⟩ := valueR_rest h
        have hb := u8_lt b
        refine ⟨?_, by unfold inI; simp only; omega⟩
        have : UInt8.ofNat ((b.toNat : Int) % 256).toNat = b := by
          apply UInt8.toNat_inj.1; rw [UInt8.toNat_ofNat']; omega
        simp [keyS, this]
    · split at h
      · rename_i h2
        subst h2
        split at h
        · cases h
        · rename_i h8
          obtain ⟨rfl, rfl, hq⟩ := valueR_rest h
          have hl : (s.take 8).length = 8 := by rw [List.length_take]; omega
          have hu := numS_inU hl
          unfold inU at hu
          refine ⟨?_, by unfold inI; simp only; omega⟩
          have e : (numS (s.take 8) - 9223372036854775808 + 9223372036854775808) % 18446744073709551616 = numS (s.take 8) := by omega
          have hk : keyS ⟨2, numS (s.take 8) - 9223372036854775808, []⟩ = 2 :: eightS ((numS (s.take 8) - 9223372036854775808 + 9223372036854775808) % 18446744073709551616) := by
            simp only [keyS, show ¬ (2 : Int) = 1 by decide, if_false, if_true]
          rw [hk, e, eight_num hl, List.cons_append, List.take_append_drop]
      · split at h
        · rename_i h3
          subst h3
          split at h
          · rename_i a r' ht
            obtain ⟨rfl, rfl, hq⟩ := valueR_rest h
            obtain ⟨m, h1, h2⟩ := esc_text _ _ _ _ ht
            refine ⟨?_, by unfold inI; simp only; omega⟩
            rw [h2]
            simp only [List.nil_append] at h1
            subst h1
            simp [keyS]
          · cases h
        · rename_i h1 h2 h3
          obtain ⟨rfl, rfl, hq⟩ := valueR_rest h
          refine ⟨?_, by unfold inI; simp only; omega⟩
          have h1i : ¬ (k.toNat : Int) = 1 := fun q => h1 ((u8_eq k 1 (by decide)).1 q)
          have h2i : ¬ (k.toNat : Int) = 2 := fun q => h2 ((u8_eq k 2 (by decide)).1 q)
          have h3i : ¬ (k.toNat : Int) = 3 := fun q => h3 ((u8_eq k 3 (by decide)).1 q)
          have h0 : k = 0 := by
            rcases right_kind hq with h | ⟨h, _⟩ | ⟨h, _⟩ | ⟨h, _⟩
            · simp only [Val.mk.injEq] at h; exact (u8_eq k 0 (by decide)).1 h.1
            · exact absurd h h1i
            · exact absurd h h2i
            · exact absurd h h3i
          subst h0
          simp [keyS]
theorem key_inj {v w : Val} (hv : rightS v = true) (hw : rightS w = true) (iv : inI v.n) (iw : inI w.n) {x y : List UInt8} (h : keyS v ++ x = keyS w ++ y) : v = w ∧ x = y := by
  have h1 := value_key hv iv x
  rw [h, value_key hw iw y] at h1
  simp only [Except.ok.injEq, Prod.mk.injEq] at h1
  exact ⟨h1.1.symm, h1.2.symm⟩

/- keys stand as values do -/
theorem less_key {v w : Val} (hv : rightS v = true) (hw : rightS w = true) (iv : inI v.n) (iw : inI w.n) (hne : v ≠ w) (x y : List UInt8) : Op.bytesLess (keyS v ++ x) (keyS w ++ y) = decide (orderR v w = -1) := by
  have hd : ∀ {a b : UInt8} {p q : List UInt8}, a ≠ b → Op.bytesLess (a :: p) (b :: q) = decide (a < b) := fun {a b p q} h => by
    have : (a == b) = false := by simpa using h
    simp [Op.bytesLess, this]
  obtain ⟨k, n, s⟩ := v
  obtain ⟨k', n', s'⟩ := w
  have ord : orderR ⟨k, n, s⟩ ⟨k', n', s'⟩ = -1 ↔ (if k = k' then n < n' ∨ n = n' ∧ Op.bytesLess s s' = true else k < k') := by
    unfold orderR
    rw [if_neg hne]
    simp only
    split <;> split <;> simp_all
  have two : ∀ (m : Int), keyS ⟨2, m, []⟩ = 2 :: eightS ((m + 9223372036854775808) % 18446744073709551616) := fun m => by
    simp only [keyS, show ¬ (2 : Int) = 1 by decide, if_false, if_true]
  have three : ∀ (t : List UInt8), keyS ⟨3, 0, t⟩ = 3 :: (escS t ++ [0, 1]) := fun t => by simp [keyS]
  have one : ∀ (m : Int), keyS ⟨1, m, []⟩ = [1, UInt8.ofNat (m % 256).toNat] := fun m => by simp [keyS]
  have zero : keyS ⟨0, 0, []⟩ = [0] := by simp [keyS]
  rw [Bool.eq_iff_iff, decide_eq_true_eq, ord]
  have head : ∀ {v : Val}, rightS v = true → ∃ t, keyS v = UInt8.ofNat v.kind.toNat :: t ∧ 0 ≤ v.kind ∧ v.kind ≤ 3 := fun {v} h => by
    obtain ⟨k, n, s⟩ := v
    rcases right_kind h with h | ⟨h1, h2, h3⟩ | ⟨h1, h2⟩ | ⟨h1, h2, h3⟩
    · simp only [Val.mk.injEq] at h; obtain ⟨rfl, rfl, rfl⟩ := h; exact ⟨_, zero, by decide, by decide⟩
    · simp only at h1 h2; subst h1; subst h2; exact ⟨_, one _, by simp, by simp⟩
    · simp only at h1 h2; subst h1; subst h2; exact ⟨_, two _, by simp, by simp⟩
    · simp only at h1 h2; subst h1; subst h2; exact ⟨_, three _, by simp, by simp⟩
  by_cases hkk : k = k'
  · subst hkk
    simp only [if_true]
    rcases right_kind hv with h | ⟨h1, h2, h3⟩ | ⟨h1, h2⟩ | ⟨h1, h2, h3⟩
    · simp only [Val.mk.injEq] at h
      obtain ⟨rfl, rfl, rfl⟩ := h
      rcases right_kind hw with g | ⟨g1, _⟩ | ⟨g1, _⟩ | ⟨g1, _⟩
      · exact absurd g.symm hne
      all_goals simp at g1
    · simp only at h1 h2 h3
      subst h1; subst h2
      rcases right_kind hw with g | ⟨g1, g2, g3⟩ | ⟨g1, _⟩ | ⟨g1, _⟩
      · simp at g
      · simp only at g2 g3
        subst g2
        rw [one, one]
        rcases h3 with rfl | rfl <;> rcases g3 with rfl | rfl
        · exact absurd rfl hne
        · simp [Op.bytesLess]
        · simp [Op.bytesLess]
        · exact absurd rfl hne
      all_goals simp at g1
    · simp only at h1 h2
      subst h1; subst h2
      rcases right_kind hw with g | ⟨g1, _⟩ | ⟨g1, g2⟩ | ⟨g1, _⟩
      · simp at g
      · simp at g1
      · simp only at g2
        subst g2
        rw [two, two]
        simp only at iv iw
        unfold inI at iv iw
        have hnn : n ≠ n' := fun e => hne (by rw [e])
        have hu : inU ((n + 9223372036854775808) % 18446744073709551616) := ⟨by omega, by omega⟩
        have hu' : inU ((n' + 9223372036854775808) % 18446744073709551616) := ⟨by omega, by omega⟩
        have hl := less_eight hu hu' (by omega) x y
        have hc : ∀ (p q : List UInt8), Op.bytesLess (2 :: p) (2 :: q) = Op.bytesLess p q := fun p q => less_app [2] p q
        rw [List.cons_append, List.cons_append, hc, hl, decide_eq_true_eq]
        have hll : Op.bytesLess [] [] = false := rfl
        rw [hll]
        constructor
        · intro h; left; omega
        · rintro (h | ⟨_, h⟩)
          · omega
          · cases h
      · simp at g1
    · simp only at h1 h2 h3
      subst h1; subst h2
      rcases right_kind hw with g | ⟨g1, _⟩ | ⟨g1, _⟩ | ⟨g1, g2, g3⟩
      · simp at g
      · simp at g1
      · simp at g1
      · simp only at g2
        subst g2
        rw [three, three]
        have hss : s ≠ s' := fun e => hne (by rw [e])
        have hl := less_text s s' x y hss
        have hc : ∀ (p q : List UInt8), Op.bytesLess (3 :: p) (3 :: q) = Op.bytesLess p q := fun p q => less_app [3] p q
        have e : ∀ (t z : List UInt8), escS t ++ [0, 1] ++ z = escS t ++ 0 :: 1 :: z := fun t z => by simp
        rw [List.cons_append, List.cons_append, hc, e, e, hl]
        cases Op.bytesLess s s' <;> simp
  · simp only [if_neg hkk]
    obtain ⟨t, ht, h0, h3⟩ := head hv
    obtain ⟨t', ht', h0', h3'⟩ := head hw
    simp only at ht ht' h0 h3 h0' h3'
    have hb : (UInt8.ofNat k.toNat).toNat = k.toNat := by rw [UInt8.toNat_ofNat']; omega
    have hb' : (UInt8.ofNat k'.toNat).toNat = k'.toNat := by rw [UInt8.toNat_ofNat']; omega
    rw [ht, ht', List.cons_append, List.cons_append, hd (fun e => hkk (by have := congrArg UInt8.toNat e; rw [hb, hb'] at this; omega)), decide_eq_true_eq, UInt8.lt_iff_toNat_lt, hb, hb']
    omega
theorem orderR_sign (v w : Val) : orderR v w = 0 ∧ v = w ∨ v ≠ w ∧ (orderR v w = -1 ∧ orderR w v = 1 ∨ orderR v w = 1 ∧ orderR w v = -1) := by
  by_cases h : v = w
  · left; exact ⟨by simp [orderR, h], h⟩
  · right
    refine ⟨h, ?_⟩
    have h' : ¬ w = v := fun e => h e.symm
    unfold orderR
    rw [if_neg h, if_neg h']
    obtain ⟨k, n, s⟩ := v
    obtain ⟨k', n', s'⟩ := w
    simp only [Val.mk.injEq] at h ⊢
    by_cases hk : k = k'
    · subst hk
      simp only [if_true]
      by_cases hn : n = n'
      · subst hn
        have hs : s ≠ s' := fun e => h ⟨rfl, rfl, e⟩
        cases h1 : Op.bytesLess s s' with
        | true => have := less_asymm _ _ h1; simp [this]
        | false =>
          cases h2 : Op.bytesLess s' s with
          | true => simp
          | false => exact absurd (less_total _ _ h1 h2) hs
      · by_cases hl : n < n'
        · have : ¬ n' < n := by omega
          have hn' : ¬ n' = n := by omega
          simp [hl, this, hn, hn']
        · have : n' < n := by omega
          have hn' : ¬ n' = n := by omega
          simp [hl, this, hn, hn']
    · have hk' : ¬ k' = k := fun e => hk e.symm
      simp only [if_neg hk, if_neg hk']
      by_cases hl : k < k'
      · have : ¬ k' < k := by omega
        simp [hl, this]
      · have : k' < k := by omega
        simp [hl, this]
theorem sign_key {v w : Val} (hv : rightS v = true) (hw : rightS w = true) (iv : inI v.n) (iw : inI w.n) (hne : v ≠ w) (x y : List UInt8) : signS (keyS v ++ x) (keyS w ++ y) = orderR v w := by
  have h1 := less_key hv hw iv iw hne x y
  have h2 := less_key hw hv iw iv (Ne.symm hne) y x
  unfold signS
  rw [h1, h2]
  rcases orderR_sign v w with ⟨_, h⟩ | ⟨_, ⟨h3, h4⟩ | ⟨h3, h4⟩⟩
  · exact absurd h hne
  · simp [h3]
  · simp [h3, h4]
theorem sign_self (x : List UInt8) : signS x x = 0 := by unfold signS; rw [less_irrefl]; rfl
theorem sign_app (p x y : List UInt8) : signS (p ++ x) (p ++ y) = signS x y := by unfold signS; rw [less_app, less_app]

/- rows come back -/
theorem parse_row : ∀ (l : List Val) (f : Nat) (acc : List Val), l.all rightS = true → (∀ v ∈ l, inI v.n) → (l.flatMap keyS).length < f → parseS f acc (l.flatMap keyS) = .ok (acc ++ l)
  | [], f + 1, acc, _, _, _ => by simp [parseS]
  | v :: l, f + 1, acc, h, hi, hf => by
    simp only [List.all_cons, Bool.and_eq_true] at h
    have hv := value_key h.1 (hi v (by simp)) (l.flatMap keyS)
    have hl := (valueS_suf hv).1
    rw [List.flatMap_cons] at hf ⊢
    have hne : ¬ keyS v ++ l.flatMap keyS = [] := fun e => by rw [e] at hl; simp at hl
    rw [parseS, if_neg hne, hv]
    simp only
    rw [parse_row l f (acc ++ [v]) h.2 (fun w hw => hi w (by simp [hw])) (by omega)]
    simp
theorem row_parse : ∀ (f : Nat) (acc : List Val) (s : List UInt8) (l : List Val), parseS f acc s = .ok l → ∃ m, l = acc ++ m ∧ m.flatMap keyS = s ∧ m.all rightS = true ∧ ∀ v ∈ m, inI v.n
  | 0, acc, s, l, h => by simp [parseS] at h
  | f + 1, acc, s, l, h => by
    rw [parseS] at h
    split at h
    · rename_i hs
      simp only [Except.ok.injEq] at h
      exact ⟨[], by simp [h], by simp [hs], rfl, by simp⟩
    · split at h
      · rename_i v r hv
        obtain ⟨m, h1, h2, h3, h4⟩ := row_parse f _ _ l h
        obtain ⟨k1, k2⟩ := key_value hv
        refine ⟨v :: m, by simp [h1], by rw [List.flatMap_cons, h2, k1], by simp [h3, (valueS_suf hv).2.2], fun w hw => ?_⟩
        rcases List.mem_cons.1 hw with rfl | hw
        · exact k2
        · exact h4 w hw
      · cases h

/- how two rows stand -/
def firstS : List Val → List Val → Int
  | v :: l, w :: m => if orderR v w ≠ 0 then orderR v w else firstS l m
  | _, _ => 0
theorem sign_rows : ∀ (l m : List Val), l.length = m.length → l.all rightS = true → m.all rightS = true → (∀ v ∈ l, inI v.n) → (∀ v ∈ m, inI v.n) → signS (l.flatMap keyS) (m.flatMap keyS) = firstS l m
  | [], [], _, _, _, _, _ => rfl
  | [], _ :: _, h, _, _, _, _ => by simp at h
  | _ :: _, [], h, _, _, _, _ => by simp at h
  | v :: l, w :: m, h, hl, hm, il, im => by
    simp only [List.all_cons, Bool.and_eq_true] at hl hm
    rw [List.flatMap_cons, List.flatMap_cons, firstS]
    by_cases hvw : v = w
    · subst hvw
      rw [sign_app, if_neg (by simp [orderR])]
      exact sign_rows l m (by simpa using h) hl.2 hm.2 (fun v hv => il v (by simp [hv])) (fun v hv => im v (by simp [hv]))
    · rw [sign_key hl.1 hm.1 (il v (by simp)) (im w (by simp)) hvw]
      rcases orderR_sign v w with ⟨_, h⟩ | ⟨_, ⟨h3, h4⟩ | ⟨h3, h4⟩⟩
      · exact absurd h hvw
      · simp [h3]
      · simp [h3]

/- what is above all that begin so -/
def nextF : List UInt8 → Option (List UInt8)
  | [] => none
  | c :: r => match nextF r with
    | some r' => some (c :: r')
    | none => if c = 255 then none else some [c + 1]
theorem nextF_app : ∀ (l : List UInt8) (b : UInt8), nextF (l ++ [b]) = if b = 255 then nextF l else some (l ++ [b + 1])
  | [], b => by simp [nextF]
  | c :: l, b => by
    rw [List.cons_append, nextF, nextF_app l b]
    by_cases h : b = 255
    · simp only [if_pos h, nextF]
    · simp [if_neg h]
theorem nextR_eq : ∀ r : List UInt8, nextR r = (nextF r.reverse).getD []
  | [] => rfl
  | b :: r => by
    rw [nextR, List.reverse_cons, nextF_app]
    by_cases h : b = 255
    · rw [if_pos h, if_pos h, nextR_eq r]
    · rw [if_neg h, if_neg h]; rfl
theorem nextF_ne : ∀ (s n : List UInt8), nextF s = some n → n ≠ []
  | [], n, h => by simp [nextF] at h
  | c :: r, n, h => by
    rw [nextF] at h
    split at h
    · simp only [Option.some.injEq] at h; subst h; simp
    · split at h
      · cases h
      · simp only [Option.some.injEq] at h; subst h; simp
theorem nextS_nil (s : List UInt8) : nextS s = [] ↔ nextF s = none := by
  unfold nextS
  rw [nextR_eq, List.reverse_reverse]
  cases h : nextF s with
  | none => simp
  | some n => simp [nextF_ne s n h]
theorem begins_iff : ∀ (s t : List UInt8), s <+: t ↔ Op.bytesLess t s = false ∧ (match nextF s with
    | none => True
    | some n => Op.bytesLess t n = true)
  | [], t => by
    have : Op.bytesLess t [] = false := by cases t <;> rfl
    simp [this, nextF]
  | c :: r, [] => by simp [Op.bytesLess]
  | c :: r, d :: u => by
    rw [List.cons_prefix_cons, begins_iff r u, nextF]
    have hlt : ∀ {a b : UInt8}, a < b ↔ a.toNat < b.toNat := UInt8.lt_iff_toNat_lt
    have heq : ∀ {a b : UInt8}, a = b ↔ a.toNat = b.toNat := fun {a b} => UInt8.toNat_inj.symm
    cases hn : nextF r with
    | some r' =>
      simp only [Op.bytesLess, Bool.or_eq_false_iff, decide_eq_false_iff_not, Bool.and_eq_false_iff, beq_eq_false_iff_ne, Bool.or_eq_true, decide_eq_true_eq, Bool.and_eq_true, beq_iff_eq, hlt]
      by_cases hcd : c = d
      · subst hcd; simp
      · have h1 : c.toNat ≠ d.toNat := fun e => hcd (heq.2 e)
        have h2 : ¬ d = c := fun e => hcd e.symm
        simp only [hcd, h2, false_and, false_iff, not_false_eq_true, ne_eq, true_or, and_true, or_false, not_and]
        omega
    | none =>
      have hcl := c.toNat_lt
      have hdl := d.toNat_lt
      by_cases h255 : c = 255
      · subst h255
        simp only [if_true, Op.bytesLess, Bool.or_eq_false_iff, decide_eq_false_iff_not, Bool.and_eq_false_iff, beq_eq_false_iff_ne, hlt, and_true]
        have e255 : (255 : UInt8).toNat = 255 := rfl
        by_cases hcd : (255 : UInt8) = d
        · subst hcd; simp
        · have h1 : d.toNat ≠ 255 := fun e => hcd (heq.2 (by rw [e255, e]))
          have h2 : ¬ d = 255 := fun e => hcd e.symm
          simp only [hcd, h2, false_and, false_iff, not_false_eq_true, ne_eq, true_or, and_true, e255]
          omega
      · have hc : c.toNat ≠ 255 := fun e => h255 (heq.2 e)
        have hc1 : (c + 1).toNat = c.toNat + 1 := by rw [UInt8.toNat_add]; simp; omega
        have hu : Op.bytesLess u [] = false := by cases u <;> rfl
        simp only [if_neg h255, Op.bytesLess, Bool.or_eq_false_iff, decide_eq_false_iff_not, Bool.and_eq_false_iff, beq_eq_false_iff_ne, Bool.or_eq_true, decide_eq_true_eq, Bool.and_eq_true, hlt, hu, Bool.false_eq_true, and_false, or_false, hc1, and_true]
        by_cases hcd : c = d
        · subst hcd; simp
        · have h1 : c.toNat ≠ d.toNat := fun e => hcd (heq.2 e)
          have h2 : ¬ d = c := fun e => hcd e.symm
          simp only [hcd, h2, false_and, false_iff, not_false_eq_true, ne_eq, true_or, and_true]
          omega
end Go.Abs
