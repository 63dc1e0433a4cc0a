/- Plain: acts, rules and whole statements: their texts, in tokens, are read back. -/
import Derived.Test.YtpmeklllgnnffaaGreatDoorP31
import Derived.Test.YtpmeklllgnnffaaGreatDoorP11
import Derived.Test.YtpmeklllgnnffaaGreatDoorP26
import Derived.Test.YtpmeklllgnnffaaGreatDoorP27
import Derived.Test.YtpmeklllgnnffaaGreatDoorP28
import Derived.Test.YtpmeklllgnnffaaGreatDoorP29
set_option linter.unusedSimpArgs false
set_option linter.unusedVariables false

namespace Go.Abs
set_option linter.unusedSimpArgs false
set_option linter.unusedVariables false
open Go Go.Proofs
theorem bare_ins {b : StB} {acts : List Stm} (hk : b.kind = 12) (h : bareS (.mk b acts) = true) : acts = [] ∧ b = { StB.zero with kind := 12, table := b.table, values := b.values, items := b.items, src := b.src, wher := b.wher } := by
  obtain ⟨kind, name, table, col, cols, values, items, wher, sets, src, prio, event, deferred, rolls⟩ := b
  subst hk
  cases acts <;> cases cols <;> cases sets <;> simp_all [bareS, bareOf, blankS, nameK, Stm.b, Stm.acts, StB.zero] <;> omega
theorem bare_upd {b : StB} {acts : List Stm} (hk : b.kind = 13) (h : bareS (.mk b acts) = true) : acts = [] ∧ b = { StB.zero with kind := 13, table := b.table, sets := b.sets, wher := b.wher } := by
  obtain ⟨kind, name, table, col, cols, values, items, wher, sets, src, prio, event, deferred, rolls⟩ := b
  subst hk
  cases acts <;> cases cols <;> cases values <;> cases items <;> cases src <;> simp_all [bareS, bareOf, blankS, nameK, Stm.b, Stm.acts, StB.zero] <;> omega
theorem bare_del {b : StB} {acts : List Stm} (hk : b.kind = 14) (h : bareS (.mk b acts) = true) : acts = [] ∧ b = { StB.zero with kind := 14, table := b.table, wher := b.wher } := by
  obtain ⟨kind, name, table, col, cols, values, items, wher, sets, src, prio, event, deferred, rolls⟩ := b
  subst hk
  cases acts <;> cases cols <;> cases values <;> cases items <;> cases src <;> cases sets <;> simp_all [bareS, bareOf, blankS, nameK, Stm.b, Stm.acts, StB.zero] <;> omega
theorem bare_qry {b : StB} {acts : List Stm} (hk : b.kind = 15) (h : bareS (.mk b acts) = true) : acts = [] ∧ b = { StB.zero with kind := 15, items := b.items, src := b.src, wher := b.wher } := by
  obtain ⟨kind, name, table, col, cols, values, items, wher, sets, src, prio, event, deferred, rolls⟩ := b
  subst hk
  cases acts <;> cases cols <;> cases values <;> cases sets <;> simp_all [bareS, bareOf, blankS, nameK, Stm.b, Stm.acts, StB.zero] <;> omega
theorem bare_rule {b : StB} {acts : List Stm} (hk : b.kind = 8) (h : bareS (.mk b acts) = true) : b = { StB.zero with kind := 8, name := b.name, table := b.table, src := b.src, wher := b.wher, prio := b.prio, event := b.event, deferred := b.deferred, rolls := b.rolls } := by
  obtain ⟨kind, name, table, col, cols, values, items, wher, sets, src, prio, event, deferred, rolls⟩ := b
  subst hk
  cases cols <;> cases values <;> cases items <;> cases sets <;> simp_all [bareS, bareOf, blankS, nameK, Stm.b, Stm.acts, StB.zero] <;> omega
theorem bare_index {b : StB} {acts : List Stm} (hk : b.kind = 7) (h : bareS (.mk b acts) = true) : acts = [] ∧ b = { StB.zero with kind := 7, name := b.name, table := b.table, col := b.col } := by
  obtain ⟨kind, name, table, col, cols, values, items, wher, sets, src, prio, event, deferred, rolls⟩ := b
  subst hk
  cases acts <;> cases cols <;> cases values <;> cases items <;> cases src <;> cases sets <;> cases wher <;> simp_all [bareS, bareOf, blankS, nameK, Stm.b, Stm.acts, StB.zero] <;> omega
theorem bare_table {b : StB} {acts : List Stm} (hk : b.kind = 6) (h : bareS (.mk b acts) = true) : acts = [] ∧ b = { StB.zero with kind := 6, name := b.name, cols := b.cols } := by
  obtain ⟨kind, name, table, col, cols, values, items, wher, sets, src, prio, event, deferred, rolls⟩ := b
  subst hk
  cases acts <;> cases values <;> cases items <;> cases src <;> cases sets <;> cases wher <;> simp_all [bareS, bareOf, blankS, nameK, Stm.b, Stm.acts, StB.zero] <;> omega
theorem bare_name {b : StB} {acts : List Stm} (hk : nameK b.kind) (h : bareS (.mk b acts) = true) : acts = [] ∧ b = { StB.zero with kind := b.kind, name := b.name } := by
  obtain ⟨kind, name, table, col, cols, values, items, wher, sets, src, prio, event, deferred, rolls⟩ := b
  simp only at hk
  cases acts <;> cases cols <;> cases values <;> cases items <;> cases src <;> cases sets <;> cases wher <;> simp_all [bareS, bareOf, blankS, Stm.b, Stm.acts, StB.zero] <;> omega
theorem bare_small {b : StB} {acts : List Stm} (hk : b.kind = 1 ∨ b.kind = 2 ∨ b.kind = 3) (h : bareS (.mk b acts) = true) : acts = [] ∧ b = { StB.zero with kind := b.kind } := by
  obtain ⟨kind, name, table, col, cols, values, items, wher, sets, src, prio, event, deferred, rolls⟩ := b
  simp only at hk
  rcases hk with rfl | rfl | rfl <;> cases acts <;> cases cols <;> cases values <;> cases items <;> cases src <;> cases sets <;> cases wher <;> simp_all [bareS, bareOf, blankS, nameK, Stm.b, Stm.acts, StB.zero] <;> omega
def pcA (b : StB) (fl : Bool) : Pcs :=
  if b.kind = 12 then
    if b.values = [] then (wT [73, 78, 83, 69, 82, 84], fl) :: (wT [73, 78, 84, 79], true) :: (nT b.table, true) :: pcQry b true
    else (wT [73, 78, 83, 69, 82, 84], fl) :: (wT [73, 78, 84, 79], true) :: (nT b.table, true) :: (wT [86, 65, 76, 85, 69, 83], true) :: (yT [40], true) :: (pcL [44] pcE b.values false ++ [(yT [41], false)])
  else if b.kind = 13 then (wT [85, 80, 68, 65, 84, 69], fl) :: (nT b.table, true) :: (wT [83, 69, 84], true) :: (pcL [44] pcSet b.sets true ++ pcWhere b.wher)
  else (wT [68, 69, 76, 69, 84, 69], fl) :: (wT [70, 82, 79, 77], true) :: (nT b.table, true) :: pcWhere b.wher
structure Act (b : StB) : Prop where
  good : ∀ r, GoodR r → GoodR (pcA b true ++ r)
  seq : ∀ fl r, GoodR r → SeqOk (pcA b fl ++ r)
  render : ∀ fl, renderS (pcA b fl) = bl fl ++ showStm (.mk b [])
  rd : ∀ fl r, Fw r → actP (ts (pcA b fl) ++ r) = (some (some b), r)
  head : ∀ fl r, isT [82, 79, 76, 76, 66, 65, 67, 75] (ts (pcA b fl) ++ r) = false
theorem act_of {b : StB} {t : Tok} {p : Pcs} (e : ∀ fl, pcA b fl = (t, fl) :: p) (ht : OkTok t ∧ t.kind ≠ 0) (hg : ∀ r, GoodR r → GoodR (p ++ r)) (hr : showTok t ++ renderS p = showStm (.mk b [])) (hp : ∀ r, Fw r → actP (t :: (ts p ++ r)) = (some (some b), r))
    (hh : ∀ r, isT [82, 79, 76, 76, 66, 65, 67, 75] (t :: r) = false) : Act b :=
  ⟨fun r h => by rw [e]; exact gb ht (hg r h), fun fl r h => by rw [e]; exact sq ht (hg r h), fun fl => by rw [e, render_cons, hr], fun fl r h => by rw [e]; exact hp r h, fun fl r => by rw [e]; exact hh _⟩
theorem act_ins {b : StB} {acts : List Stm} (hk : b.kind = 12) (h : rightStm (.mk b acts) = true) (ho : b.ok) : acts = [] ∧ Act b := by
  simp only [rightStm, Bool.and_eq_true] at h
  obtain ⟨hb, hr⟩ := h
  obtain ⟨ha, hb⟩ := bare_ins hk hb
  refine ⟨ha, ?_⟩
  by_cases hv : b.values = []
  · have hr : nameS b.table = true ∧ rightsE b.items 0 40 = true ∧ rightFromS b.src b.wher 1 = true := by simpa [rightK, nameK, hk, hv] using hr
    obtain ⟨hn, hi, hf⟩ := hr
    simp only [rightFromS, Bool.and_eq_true, decide_eq_true_eq, List.all_eq_true] at hf
    have q : QOk b := by
      refine ⟨(rights_all hi).1, hf.1, fun e => ?_, ?_, ho.items.2, ho.wher.2⟩
      · have := hf.2.1; rw [e] at this; simp at this
      · have h3 := hf.2.2.2
        have h1 := hf.2.1
        simp only [rightsE, Bool.and_eq_true, decide_eq_true_eq] at h3 ⊢
        refine ⟨h3.1, h3.2.1, ?_⟩
        have := h3.2.2
        split at this <;> omega
    have e : ∀ fl, pcA b fl = (wT [73, 78, 83, 69, 82, 84], fl) :: ((wT [73, 78, 84, 79], true) :: (nT b.table, true) :: pcQry b true) := fun fl => by simp [pcA, hk, hv]
    refine act_of e (ok_word (by decide)) (fun r hr => gb (ok_word (by decide)) (gb (ok_name hn) (good_qry q hr).1)) ?_ (fun r hf => ?_) (fun r => by simp [isT_w])
    · rw [render_cons, render_cons, render_qry q]
      simp [showStm, hk, hv, showTok_w, showTok_n, bl]
    · have e2 : ts ((wT [73, 78, 84, 79], true) :: (nT b.table, true) :: pcQry b true) ++ r = wT [73, 78, 84, 79] :: nT b.table :: (ts (pcQry b true) ++ r) := rfl
      have e3 : isT [86, 65, 76, 85, 69, 83] (ts (pcQry b true) ++ r) = false := by simp [pcQry, ts, isT, wT]
      rw [e2, actP, isT_w]
      simp only [decide_true, if_true, List.tail_cons, insP, need_w, then_some, name_n, e3, Bool.false_eq_true, if_false, rd_qry q true hf]
      rw [hb, hv]
      rfl
  · have hv' : 0 < b.values.length := List.length_pos_iff.2 hv
    have hr : nameS b.table = true ∧ rightsE b.values 1 6 = true ∧ (b.items.length : Int) + b.src.length + b.wher.length = 0 := by simpa [rightK, nameK, hk, hv'] using hr
    obtain ⟨hn, hi, h0⟩ := hr
    have h1 : b.items = [] := List.eq_nil_of_length_eq_zero (by omega)
    have h2 : b.src = [] := List.eq_nil_of_length_eq_zero (by omega)
    have h3 : b.wher = [] := List.eq_nil_of_length_eq_zero (by omega)
    have hvs := (rights_all hi).1
    have e : ∀ fl, pcA b fl = (wT [73, 78, 83, 69, 82, 84], fl) :: ((wT [73, 78, 84, 79], true) :: (nT b.table, true) :: (wT [86, 65, 76, 85, 69, 83], true) :: (yT [40], true) :: (pcL [44] pcE b.values false ++ [(yT [41], false)])) := fun fl => by simp [pcA, hk, hv]
    refine act_of e (ok_word (by decide)) (fun r hr => ?_) ?_ (fun r hf => ?_) (fun r => by simp [isT_w])
    · simp only [List.cons_append, List.append_assoc, List.nil_append]
      exact gb (ok_word (by decide)) (gb (ok_name hn) (gb (ok_word (by decide)) (gopen ((list_good (.inl rfl) (good_close (by simp) hr) b.values fun a ha => it_expr (hvs a ha) (ho.values.2 a ha)).2 false))))
    · rw [render_cons, render_cons, render_cons, render_cons, render_app, render_list (g := showE) b.values false hv (fun a ha b => render_pc 20 a b (hvs a ha))]
      simp [showStm, hk, hv, showTok_w, showTok_n, showTok_y, bl, renderS, commaS]
    · have e2 : ts ((wT [73, 78, 84, 79], true) :: (nT b.table, true) :: (wT [86, 65, 76, 85, 69, 83], true) :: (yT [40], true) :: (pcL [44] pcE b.values false ++ [(yT [41], false)])) ++ r = wT [73, 78, 84, 79] :: nT b.table :: wT [86, 65, 76, 85, 69, 83] :: yT [40] :: (ts (pcL [44] pcE b.values false) ++ (yT [41] :: r)) := by simp [ts]
      have hl := rd_lst (F := Fo) (P := exprP) (f := pcE) (fun r => fo_sym (by simp) r) (r := yT [41] :: r) (fo_sym (by simp) r) (by simp [isT_y]) b.values false hv fun a ha b r hr => rd_expr (hvs a ha) hr
      rw [e2, actP, isT_w]
      simp only [decide_true, if_true, List.tail_cons, insP, need_w, then_some, name_n, isT_w, need_y, hl]
      rw [hb, h1, h2, h3]
      rfl
theorem act_upd {b : StB} {acts : List Stm} (hk : b.kind = 13) (h : rightStm (.mk b acts) = true) (ho : b.ok) : acts = [] ∧ Act b := by
  simp only [rightStm, Bool.and_eq_true] at h
  obtain ⟨hb, hr⟩ := h
  obtain ⟨ha, hb⟩ := bare_upd hk hb
  refine ⟨ha, ?_⟩
  have hr : nameS b.table = true ∧ rightSetsS b.sets = true ∧ rightsE b.wher 0 1 = true := by simpa [rightK, nameK, hk] using hr
  obtain ⟨hn, hs, hw⟩ := hr
  simp only [rightSetsS, Bool.and_eq_true, List.all_eq_true, decide_eq_true_eq] at hs
  have hne : b.sets ≠ [] := fun e => by have := hs.2.1; rw [e] at this; simp at this
  have e : ∀ fl, pcA b fl = (wT [85, 80, 68, 65, 84, 69], fl) :: ((nT b.table, true) :: (wT [83, 69, 84], true) :: (pcL [44] pcSet b.sets true ++ pcWhere b.wher)) := fun fl => by simp [pcA, hk]
  refine act_of e (ok_word (by decide)) (fun r hr => ?_) ?_ (fun r hf => ?_) (fun r => by simp [isT_w])
  · simp only [List.cons_append, List.append_assoc]
    exact gb (ok_name hn) (gb (ok_word (by decide)) (list_good (.inl rfl) (good_where hw ho.wher.2 hr) b.sets fun a ha => it_set (hs.1 a ha).1 (hs.1 a ha).2 (ho.sets.2 a ha).2).1)
  · rw [render_cons, render_cons, render_app, render_list (g := showSetS) b.sets true hne (fun a ha b => render_set (hs.1 a ha).2 b), render_where hw]
    simp [showStm, hk, showTok_w, showTok_n, bl, commaS]
  · have e2 : ts ((nT b.table, true) :: (wT [83, 69, 84], true) :: (pcL [44] pcSet b.sets true ++ pcWhere b.wher)) ++ r = nT b.table :: wT [83, 69, 84] :: (ts (pcL [44] pcSet b.sets true) ++ (ts (pcWhere b.wher) ++ r)) := by simp [ts]
    obtain ⟨f1, f2⟩ := fo_where (l := b.wher) hf
    have hl := rd_lst (F := Fo) (P := setP) (f := pcSet) (fun r => fo_sym (by simp) r) f1 f2 b.sets true hne fun a ha b r hr => rd_set (hs.1 a ha).2 b r hr
    have i1 : isT [73, 78, 83, 69, 82, 84] (wT [85, 80, 68, 65, 84, 69] :: (nT b.table :: wT [83, 69, 84] :: (ts (pcL [44] pcSet b.sets true) ++ (ts (pcWhere b.wher) ++ r)))) = false := by simp [isT_w]
    rw [e2, actP, i1, isT_w]
    simp only [Bool.false_eq_true, if_false, decide_true, if_true, List.tail_cons, updP, need_w, then_some, name_n, hl, rd_where hw hf]
    rw [← hb]
theorem act_del {b : StB} {acts : List Stm} (hk : b.kind = 14) (h : rightStm (.mk b acts) = true) (ho : b.ok) : acts = [] ∧ Act b := by
  simp only [rightStm, Bool.and_eq_true] at h
  obtain ⟨hb, hr⟩ := h
  obtain ⟨ha, hb⟩ := bare_del hk hb
  refine ⟨ha, ?_⟩
  have hr : nameS b.table = true ∧ rightsE b.wher 0 1 = true := by simpa [rightK, nameK, hk] using hr
  obtain ⟨hn, hw⟩ := hr
  have e : ∀ fl, pcA b fl = (wT [68, 69, 76, 69, 84, 69], fl) :: ((wT [70, 82, 79, 77], true) :: (nT b.table, true) :: pcWhere b.wher) := fun fl => by simp [pcA, hk]
  refine act_of e (ok_word (by decide)) (fun r hr => gb (ok_word (by decide)) (gb (ok_name hn) (good_where hw ho.wher.2 hr))) ?_ (fun r hf => ?_) (fun r => by simp [isT_w])
  · rw [render_cons, render_cons, render_where hw]
    simp [showStm, hk, showTok_w, showTok_n, bl]
  · have e2 : ts ((wT [70, 82, 79, 77], true) :: (nT b.table, true) :: pcWhere b.wher) ++ r = wT [70, 82, 79, 77] :: nT b.table :: (ts (pcWhere b.wher) ++ r) := rfl
    have i1 : isT [73, 78, 83, 69, 82, 84] (wT [68, 69, 76, 69, 84, 69] :: (wT [70, 82, 79, 77] :: nT b.table :: (ts (pcWhere b.wher) ++ r))) = false := by simp [isT_w]
    have i2 : isT [85, 80, 68, 65, 84, 69] (wT [68, 69, 76, 69, 84, 69] :: (wT [70, 82, 79, 77] :: nT b.table :: (ts (pcWhere b.wher) ++ r))) = false := by simp [isT_w]
    rw [e2, actP, i1, i2, isT_w]
    simp only [Bool.false_eq_true, if_false, decide_true, if_true, List.tail_cons, delP, need_w, then_some, name_n, rd_where hw hf]
    rw [← hb]
theorem act_all {b : StB} {acts : List Stm} (h1 : 12 ≤ b.kind) (h2 : b.kind ≤ 14) (h : rightStm (.mk b acts) = true) (ho : b.ok) : acts = [] ∧ Act b := by
  by_cases k12 : b.kind = 12
  · exact act_ins k12 h ho
  · by_cases k13 : b.kind = 13
    · exact act_upd k13 h ho
    · exact act_del (by omega) h ho
def pcS (a : Stm) (fl : Bool) : Pcs := pcA a.b fl
theorem acts_all : ∀ {l : List Stm}, rightActs l = true → Stm.oks l → ∀ a ∈ l, Act a.b ∧ a = .mk a.b []
  | [], _, _, a, ha => by cases ha
  | ⟨b, acts⟩ :: l, h, ho, a, ha => by
    simp only [rightActs, Bool.and_eq_true] at h
    simp only [Stm.oks, Stm.ok] at ho
    rcases List.mem_cons.1 ha with rfl | ha
    · obtain ⟨rfl, hA⟩ := act_all (of_decide_eq_true h.1.1) (of_decide_eq_true h.1.2.1) h.1.2.2 ho.1.1
      exact ⟨hA, rfl⟩
    · exact acts_all h.2 ho.2 a ha
theorem rd_acts {r : List Tok} (hr : Fw r) (hs : isT [59] r = false) : ∀ (l : List Stm) (b : Bool) (n : Nat), l ≠ [] → l.length ≤ n → (∀ a ∈ l, Act a.b ∧ a = .mk a.b []) → actsP n (ts (pcL [59] pcS l b) ++ r) = (some l, r)
  | [], b, n, hn, _, _ => absurd rfl hn
  | [a], b, 0, _, hl, _ => by simp at hl
  | [a], b, n + 1, _, _, h => by
    obtain ⟨hA, he⟩ := h a (by simp)
    rw [show ts (pcL [59] pcS [a] b) ++ r = ts (pcA a.b b) ++ r from rfl, actsP, hA.rd b r hr, then_some]
    simp only [hs, Bool.false_eq_true, if_false]
    rw [← he]
  | a :: c :: l, b, 0, _, hl, _ => by simp at hl
  | a :: c :: l, b, n + 1, _, hl, h => by
    obtain ⟨hA, he⟩ := h a (by simp)
    have ih := rd_acts hr hs (c :: l) true n (by simp) (by simpa using hl) (fun x hx => h x (.tail _ hx))
    have e : ts (pcL [59] pcS (a :: c :: l) b) ++ r = ts (pcA a.b b) ++ (yT [59] :: (ts (pcL [59] pcS (c :: l) true) ++ r)) := by simp [pcL, ts, pcS]
    rw [e, actsP, hA.rd b _ ⟨fo_sym (by simp) _, by simp [isT_y], by simp [isT_y]⟩, then_some]
    simp only [isT_y, decide_true, if_true, List.tail_cons, ih, then_some]
    rw [← he]
def pcWhen (b : StB) : Pcs := if b.src = [] then [(wT [65, 76, 87, 65, 89, 83], true)] else (wT [87, 72, 69, 78], true) :: (pcL [44] pcSrc b.src true ++ pcWhere b.wher)
def pcDo (b : StB) (acts : List Stm) : Pcs := (wT [68, 79], true) :: (if b.rolls = true then [(wT [82, 79, 76, 76, 66, 65, 67, 75], true)] else pcL [59] pcS acts true ++ [(wT [69, 78, 68], true)])
def pcDef (b : StB) : Pcs := if b.deferred = true then [(wT [68, 69, 70, 69, 82, 82, 69, 68], true)] else []
def pcRule (b : StB) (acts : List Stm) : Pcs :=
  (wT [80, 82, 73, 79, 82, 73, 84, 89], true) :: (iT b.prio, true) :: (wT [79, 78], true) :: (wT (eventW b.event), true) :: (wT [84, 79], true) :: (nT b.table, true) :: (pcDef b ++ (pcWhen b ++ pcDo b acts))
structure ROk (b : StB) (acts : List Stm) : Prop where
  table : nameS b.table = true
  prio : 0 ≤ b.prio ∧ b.prio ≤ 999
  event : b.event = 1 ∨ b.event = 2 ∨ b.event = 3
  src : ∀ x ∈ b.src, rightSrc x = true
  wher : rightsE b.wher 0 1 = true
  both : b.src = [] → b.wher = []
  rolls : b.rolls = true ↔ acts = []
  acts : ∀ a ∈ acts, Act a.b ∧ a = .mk a.b []
  wok : ∀ m ∈ b.wher, m.ok
theorem rule_ok {b : StB} {acts : List Stm} (hk : b.kind = 8) (h : rightStm (.mk b acts) = true) (ho : (Stm.mk b acts).ok) : nameS b.name = true ∧ ROk b acts := by
  simp only [rightStm, Bool.and_eq_true] at h
  obtain ⟨hb, hr⟩ := h
  have hr : nameS b.name = true ∧ nameS b.table = true ∧ rightRuleS b acts.length (rightActs acts) = true := by simpa [rightK, nameK, hk] using hr
  obtain ⟨hn, ht, hr⟩ := hr
  simp only [rightRuleS, Bool.and_eq_true, decide_eq_true_eq] at hr
  obtain ⟨ra, p1, p2, e1, e2, hf, hro, hl⟩ := hr
  simp only [rightFromS, Bool.and_eq_true, decide_eq_true_eq, List.all_eq_true] at hf
  obtain ⟨f1, f2, f3, f4⟩ := hf
  refine ⟨hn, ht, ⟨p1, p2⟩, by omega, f1, ?_, fun e => ?_, ?_, acts_all ra ho.2.2, ho.1.wher.2⟩
  · simp only [rightsE, Bool.and_eq_true, decide_eq_true_eq] at f4 ⊢
    refine ⟨f4.1, f4.2.1, ?_⟩
    have := f4.2.2
    split at this <;> omega
  · rw [e] at f4
    simp only [rightsE, Bool.and_eq_true, decide_eq_true_eq] at f4
    have := f4.2.2
    simp at this
    exact this
  · rw [hro]
    simp
theorem rule_good {b : StB} {acts : List Stm} (R : ROk b acts) {r : Pcs} (hr : GoodR r) : GoodR (pcRule b acts ++ r) := by
  have hdo : GoodR (pcDo b acts ++ r) := by
    unfold pcDo
    by_cases h : b.rolls = true
    · rw [if_pos h]; exact gb (ok_word (by decide)) (gb (ok_word (by decide)) hr)
    · rw [if_neg h]
      simp only [List.cons_append, List.append_assoc, List.nil_append]
      exact gb (ok_word (by decide)) (list_good (f := pcS) (.inr rfl) (gb (ok_word (by decide)) hr) acts fun a ha => ⟨(R.acts a ha).1.seq, (R.acts a ha).1.good⟩).1
  have hwhen : GoodR (pcWhen b ++ (pcDo b acts ++ r)) := by
    unfold pcWhen
    by_cases h : b.src = []
    · rw [if_pos h]; exact gb (ok_word (by decide)) hdo
    · rw [if_neg h]
      simp only [List.cons_append, List.append_assoc]
      exact gb (ok_word (by decide)) (list_good (.inl rfl) (good_where R.wher R.wok hdo) b.src fun a ha => it_src (R.src a ha)).1
  have hdef : GoodR (pcDef b ++ (pcWhen b ++ (pcDo b acts ++ r))) := by
    unfold pcDef
    by_cases h : b.deferred = true
    · rw [if_pos h]; exact gb (ok_word (by decide)) hwhen
    · rw [if_neg h]; exact hwhen
  have he : OkTok (wT (eventW b.event)) ∧ (wT (eventW b.event)).kind ≠ 0 := by rcases R.event with k | k | k <;> rw [k] <;> exact ok_word (by decide)
  simp only [pcRule, List.cons_append, List.append_assoc]
  exact gb (ok_word (by decide)) (gb (ok_num R.prio.1 (by have := R.prio.2; omega)) (gb (ok_word (by decide)) (gb he (gb (ok_word (by decide)) (gb (ok_name R.table) hdef)))))
theorem showTok_i (n : Int) : showTok (iT n) = Lib.itoa n := by simp [showTok, iT]
theorem rule_render {b : StB} {acts : List Stm} (hk : b.kind = 8) (R : ROk b acts) : [67, 82, 69, 65, 84, 69, 32, 82, 85, 76, 69, 32] ++ (b.name ++ renderS (pcRule b acts)) = showStm (.mk b acts) := by
  have hwhen : renderS (pcWhen b) = if b.src = [] then [32, 65, 76, 87, 65, 89, 83] else [32, 87, 72, 69, 78, 32] ++ (commaS (b.src.map showSrcS) ++ whereS b.wher) := by
    unfold pcWhen
    by_cases h : b.src = []
    · rw [if_pos h, if_pos h]; simp [renderS, showTok_w]
    · rw [if_neg h, if_neg h, render_cons, render_app, render_list (g := showSrcS) b.src true h (fun a _ b => render_src b), render_where R.wher, showTok_w]
      simp [bl, commaS]
  have hdef : renderS (pcDef b) = if b.deferred = true then [32, 68, 69, 70, 69, 82, 82, 69, 68] else [] := by
    unfold pcDef
    cases b.deferred <;> simp [renderS, showTok_w]
  have hdo : renderS (pcDo b acts) = if b.rolls = true then [32, 68, 79, 32, 82, 79, 76, 76, 66, 65, 67, 75] else [32, 68, 79, 32] ++ (Lib.join (showStms acts) [59, 32] ++ [32, 69, 78, 68]) := by
    unfold pcDo
    by_cases h : b.rolls = true
    · rw [if_pos h, if_pos h]; simp [renderS, showTok_w]
    · have hne : acts ≠ [] := fun e => h (R.rolls.2 e)
      rw [if_neg h, if_neg h, render_cons, render_app, render_list (f := pcS) (g := showStm) acts true hne (fun a ha b => by rw [show pcS a b = pcA a.b b from rfl, (R.acts a ha).1.render, ← (R.acts a ha).2]), showTok_w, showStms_eq]
      simp [bl, renderS, showTok_w]
  have hr : renderS (pcRule b acts) = [32, 80, 82, 73, 79, 82, 73, 84, 89, 32] ++ (Lib.itoa b.prio ++ ([32, 79, 78, 32] ++ (eventW b.event ++ ([32, 84, 79, 32] ++ (b.table ++ (renderS (pcDef b) ++ (renderS (pcWhen b) ++ renderS (pcDo b acts)))))))) := by
    simp [pcRule, render_cons, render_app, showTok_w, showTok_n, showTok_i, bl]
  rw [hr, hwhen, hdef, hdo]
  by_cases h : b.rolls = true <;> simp [showStm, hk, h, ruleHead]
theorem rd_event {e : Int} (h : e = 1 ∨ e = 2 ∨ e = 3) (r : List Tok) : ∃ n : Nat, oneOfP [[73, 78, 83, 69, 82, 84], [68, 69, 76, 69, 84, 69], [85, 80, 68, 65, 84, 69]] (wT (eventW e) :: r) = (some n, r) ∧ (n : Int) = e := by
  rcases h with rfl | rfl | rfl
  · exact ⟨1, by simp [oneOfP, oneP, isT_w, eventW], rfl⟩
  · exact ⟨2, by simp [oneOfP, oneP, isT_w, eventW], rfl⟩
  · exact ⟨3, by simp [oneOfP, oneP, isT_w, eventW], rfl⟩
theorem rd_do {b : StB} {acts : List Stm} (R : ROk b acts) {r : List Tok} (hr : Fw r) : ∃ d : Option (List Stm), doP (ts (pcDo b acts) ++ r) = (some d, r) ∧ d.isNone = b.rolls ∧ d.getD [] = acts := by
  by_cases h : b.rolls = true
  · refine ⟨none, ?_, by simp [h], by simp [R.rolls.1 h]⟩
    have e : ts (pcDo b acts) ++ r = wT [68, 79] :: wT [82, 79, 76, 76, 66, 65, 67, 75] :: r := by simp [pcDo, h, ts]
    rw [e, doP, need_w, then_some]
    simp [isT_w]
  · have hne : acts ≠ [] := fun e => h (R.rolls.2 e)
    refine ⟨some acts, ?_, by simpa using h, rfl⟩
    have e : ts (pcDo b acts) ++ r = wT [68, 79] :: (ts (pcL [59] pcS acts true) ++ (wT [69, 78, 68] :: r)) := by simp [pcDo, h, ts]
    have hh : isT [82, 79, 76, 76, 66, 65, 67, 75] (ts (pcL [59] pcS acts true) ++ (wT [69, 78, 68] :: r)) = false := by
      match acts, hne, R with
      | [a], _, R => exact (R.acts a (by simp)).1.head true _
      | a :: c :: l, _, R =>
        have := (R.acts a (by simp)).1.head true (yT [59] :: (ts (pcL [59] pcS (c :: l) true) ++ (wT [69, 78, 68] :: r)))
        simpa [pcL, ts, pcS] using this
    have hw : Fw (wT [69, 78, 68] :: r) := ⟨fo_word (by decide) (by decide) (by decide) (by decide) _, by simp [isT_w], by simp [isT_w]⟩
    have hl := rd_acts hw (by simp [isT_w]) acts true ((ts (pcL [59] pcS acts true) ++ (wT [69, 78, 68] :: r)).length + 1) hne (by
      have := list_len (s := [59]) (f := pcS) acts true
      simp only [List.length_append, ts, List.length_map]
      omega) R.acts
    rw [e, doP, need_w, then_some, hh]
    simp only [Bool.false_eq_true, if_false, hl, then_some, need_w]
theorem rd_when {b : StB} {acts : List Stm} (R : ROk b acts) (r : List Tok) : whenP (ts (pcWhen b) ++ (wT [68, 79] :: r)) = (some (b.src, b.wher), wT [68, 79] :: r) := by
  by_cases h : b.src = []
  · have e : ts (pcWhen b) ++ (wT [68, 79] :: r) = wT [65, 76, 87, 65, 89, 83] :: wT [68, 79] :: r := by simp [pcWhen, h, ts]
    rw [e, h, R.both h]
    simp [whenP, oneOfP, oneP, isT_w, then_some]
  · have e : ts (pcWhen b) ++ (wT [68, 79] :: r) = wT [87, 72, 69, 78] :: (ts (pcL [44] pcSrc b.src true) ++ (ts (pcWhere b.wher) ++ (wT [68, 79] :: r))) := by simp [pcWhen, h, ts]
    have hw : Fw (wT [68, 79] :: r) := ⟨fo_word (by decide) (by decide) (by decide) (by decide) _, by simp [isT_w], by simp [isT_w]⟩
    obtain ⟨f1, f2⟩ := fo_where (l := b.wher) hw
    have hl := rd_lst (F := Fo) (P := sourceP) (f := pcSrc) (fun r => fo_sym (by simp) r) f1 f2 b.src true h fun a ha b r hr => rd_src (R.src a ha) b r hr
    have ho : oneOfP [[65, 76, 87, 65, 89, 83], [87, 72, 69, 78]] (wT [87, 72, 69, 78] :: (ts (pcL [44] pcSrc b.src true) ++ (ts (pcWhere b.wher) ++ (wT [68, 79] :: r)))) = (some 2, ts (pcL [44] pcSrc b.src true) ++ (ts (pcWhere b.wher) ++ (wT [68, 79] :: r))) := by simp [oneOfP, oneP, isT_w]
    rw [e, whenP, ho, then_some]
    simp only [if_true, hl, then_some, rd_where R.wher hw]
theorem rd_rule {b : StB} {acts : List Stm} (hk : b.kind = 8) (hb : b = { StB.zero with kind := 8, name := b.name, table := b.table, src := b.src, wher := b.wher, prio := b.prio, event := b.event, deferred := b.deferred, rolls := b.rolls }) (R : ROk b acts) {r : List Tok} (hr : Fw r) : ruleP b.name (ts (pcRule b acts) ++ r) = (some (.mk b acts), r) := by
  obtain ⟨d, hd, d1, d2⟩ := rd_do R hr
  have e : ts (pcRule b acts) ++ r = wT [80, 82, 73, 79, 82, 73, 84, 89] :: iT b.prio :: wT [79, 78] :: wT (eventW b.event) :: wT [84, 79] :: nT b.table :: (ts (pcDef b) ++ (ts (pcWhen b) ++ (ts (pcDo b acts) ++ r))) := by simp [pcRule, ts]
  obtain ⟨n, hn, hne⟩ := rd_event R.event (wT [84, 79] :: nT b.table :: (ts (pcDef b) ++ (ts (pcWhen b) ++ (ts (pcDo b acts) ++ r))))
  have hm : maybeP [68, 69, 70, 69, 82, 82, 69, 68] (ts (pcDef b) ++ (ts (pcWhen b) ++ (ts (pcDo b acts) ++ r))) = (b.deferred, ts (pcWhen b) ++ (ts (pcDo b acts) ++ r)) := by
    cases hdf : b.deferred
    · have : isT [68, 69, 70, 69, 82, 82, 69, 68] (ts (pcWhen b) ++ (ts (pcDo b acts) ++ r)) = false := by
        by_cases h : b.src = [] <;> simp [pcWhen, h, ts, isT, wT]
      simp [pcDef, hdf, ts, maybeP] at this ⊢
      simp [this]
    · simp [pcDef, hdf, ts, maybeP, isT_w]
  have hw := rd_when R (ts (if b.rolls = true then [(wT [82, 79, 76, 76, 66, 65, 67, 75], true)] else pcL [59] pcS acts true ++ [(wT [69, 78, 68], true)]) ++ r)
  have hdo : wT [68, 79] :: (ts (if b.rolls = true then [(wT [82, 79, 76, 76, 66, 65, 67, 75], true)] else pcL [59] pcS acts true ++ [(wT [69, 78, 68], true)]) ++ r) = ts (pcDo b acts) ++ r := rfl
  rw [hdo] at hw
  rw [e, ruleP, need_w, then_some, num_i, then_some, need_w, then_some, hn, then_some, need_w, then_some, name_n, then_some, hm]
  simp only
  rw [hw, then_some, hd, then_some, d1, d2, hne]
  simp only
  rw [← hb]
def pcSt : Stm → Pcs
  | .mk b acts =>
    if b.kind = 1 then [(wT [66, 69, 71, 73, 78], false)] else if b.kind = 2 then [(wT [67, 79, 77, 77, 73, 84], false)] else if b.kind = 3 then [(wT [65, 66, 79, 82, 84], false)]
    else if b.kind = 4 then [(wT [83, 65, 86, 69, 80, 79, 73, 78, 84], false), (nT b.name, true)] else if b.kind = 5 then [(wT [82, 79, 76, 76, 66, 65, 67, 75], false), (wT [84, 79], true), (nT b.name, true)]
    else if b.kind = 6 then (wT [67, 82, 69, 65, 84, 69], false) :: (wT [84, 65, 66, 76, 69], true) :: (nT b.name, true) :: (yT [40], true) :: (pcL [44] pcCol b.cols false ++ [(yT [41], false)])
    else if b.kind = 7 then [(wT [67, 82, 69, 65, 84, 69], false), (wT [73, 78, 68, 69, 88], true), (nT b.name, true), (wT [79, 78], true), (nT b.table, true), (yT [40], true), (nT b.col, false), (yT [41], false)]
    else if b.kind = 8 then (wT [67, 82, 69, 65, 84, 69], false) :: (wT [82, 85, 76, 69], true) :: (nT b.name, true) :: pcRule b acts
    else if b.kind = 9 then [(wT [68, 82, 79, 80], false), (wT [84, 65, 66, 76, 69], true), (nT b.name, true)] else if b.kind = 10 then [(wT [68, 82, 79, 80], false), (wT [73, 78, 68, 69, 88], true), (nT b.name, true)] else if b.kind = 11 then [(wT [68, 82, 79, 80], false), (wT [82, 85, 76, 69], true), (nT b.name, true)]
    else if b.kind = 15 then pcQry b false
    else pcA b false
structure StOk (s : Stm) : Prop where
  seq : SeqOk (pcSt s)
  render : renderS (pcSt s) = showStm s
  rd : ∀ n, stmtP (ts (pcSt s) ++ e0 n) = (some s, e0 n)
theorem fw_end (n : Int) : Fw (e0 n) := ⟨fo_end n, isT_e _ n, isT_e _ n⟩
theorem stok_small {b : StB} {acts : List Stm} (hk : b.kind = 1 ∨ b.kind = 2 ∨ b.kind = 3) (h : rightStm (.mk b acts) = true) : StOk (.mk b acts) := by
  simp only [rightStm, Bool.and_eq_true] at h
  obtain ⟨rfl, hb⟩ := bare_small hk h.1
  generalize b.kind = k at hk hb
  subst hb
  rcases hk with rfl | rfl | rfl
  · exact ⟨by simpa [pcSt] using sq (b := false) (ok_word (w := [66, 69, 71, 73, 78]) (by decide)) good_nil, by simp [pcSt, renderS, showTok_w, showStm], fun n => by simp [pcSt, ts, stmtP, actP, isT_w, then_some, oneOfP, oneP, smallP, StB.zero]⟩
  · exact ⟨by simpa [pcSt] using sq (b := false) (ok_word (w := [67, 79, 77, 77, 73, 84]) (by decide)) good_nil, by simp [pcSt, renderS, showTok_w, showStm], fun n => by simp [pcSt, ts, stmtP, actP, isT_w, then_some, oneOfP, oneP, smallP, StB.zero]⟩
  · exact ⟨by simpa [pcSt] using sq (b := false) (ok_word (w := [65, 66, 79, 82, 84]) (by decide)) good_nil, by simp [pcSt, renderS, showTok_w, showStm], fun n => by simp [pcSt, ts, stmtP, actP, isT_w, then_some, oneOfP, oneP, smallP, StB.zero]⟩
theorem stok_name {b : StB} {acts : List Stm} (hk : nameK b.kind) (h : rightStm (.mk b acts) = true) : StOk (.mk b acts) := by
  simp only [rightStm, Bool.and_eq_true] at h
  obtain ⟨rfl, hb⟩ := bare_name hk h.1
  have hn : nameS b.name = true := by
    have := h.2
    have hk' := hk
    unfold nameK at hk'
    rw [rightK, if_neg (by omega), if_pos hk] at this
    exact this
  generalize b.kind = k at hk hb
  generalize b.name = nm at hn hb
  subst hb
  rcases hk with rfl | rfl | rfl | rfl | rfl
  · exact ⟨by simpa [pcSt] using sq (b := false) (ok_word (w := [83, 65, 86, 69, 80, 79, 73, 78, 84]) (by decide)) (gb (ok_name hn) good_nil), by simp [pcSt, renderS, showTok_w, showTok_n, showStm], fun n => by simp [pcSt, ts, stmtP, actP, isT_w, then_some, oneOfP, oneP, smallP, StB.zero, name_n]⟩
  · exact ⟨by simpa [pcSt] using sq (b := false) (ok_word (w := [82, 79, 76, 76, 66, 65, 67, 75]) (by decide)) (gb (ok_word (w := [84, 79]) (by decide)) (gb (ok_name hn) good_nil)), by simp [pcSt, renderS, showTok_w, showTok_n, showStm], fun n => by simp [pcSt, ts, stmtP, actP, isT_w, then_some, oneOfP, oneP, smallP, StB.zero, name_n, need_w]⟩
  · exact ⟨by simpa [pcSt] using sq (b := false) (ok_word (w := [68, 82, 79, 80]) (by decide)) (gb (ok_word (w := [84, 65, 66, 76, 69]) (by decide)) (gb (ok_name hn) good_nil)), by simp [pcSt, renderS, showTok_w, showTok_n, showStm], fun n => by simp [pcSt, ts, stmtP, actP, isT_w, then_some, oneOfP, oneP, smallP, dropP, whatP, StB.zero, name_n]⟩
  · exact ⟨by simpa [pcSt] using sq (b := false) (ok_word (w := [68, 82, 79, 80]) (by decide)) (gb (ok_word (w := [73, 78, 68, 69, 88]) (by decide)) (gb (ok_name hn) good_nil)), by simp [pcSt, renderS, showTok_w, showTok_n, showStm], fun n => by simp [pcSt, ts, stmtP, actP, isT_w, then_some, oneOfP, oneP, smallP, dropP, whatP, StB.zero, name_n]⟩
  · exact ⟨by simpa [pcSt] using sq (b := false) (ok_word (w := [68, 82, 79, 80]) (by decide)) (gb (ok_word (w := [82, 85, 76, 69]) (by decide)) (gb (ok_name hn) good_nil)), by simp [pcSt, renderS, showTok_w, showTok_n, showStm], fun n => by simp [pcSt, ts, stmtP, actP, isT_w, then_some, oneOfP, oneP, smallP, dropP, whatP, StB.zero, name_n]⟩
theorem rd_create (r : List Tok) : stmtP (wT [67, 82, 69, 65, 84, 69] :: r) = createP r := by simp [stmtP, actP, isT_w, then_some, oneOfP, oneP, smallP]
theorem stok_table {b : StB} {acts : List Stm} (hk : b.kind = 6) (h : rightStm (.mk b acts) = true) : StOk (.mk b acts) := by
  simp only [rightStm, Bool.and_eq_true] at h
  obtain ⟨rfl, hb⟩ := bare_table hk h.1
  have hr : nameS b.name = true ∧ colsS b.cols = 0 := by simpa [rightK, nameK, hk] using h.2
  obtain ⟨hn, hc⟩ := hr
  have hco := (cols_ok hc).1
  have hne : b.cols ≠ [] := by intro e; rw [e] at hc; simp [colsS] at hc
  have e : pcSt (.mk b []) = (wT [67, 82, 69, 65, 84, 69], false) :: (wT [84, 65, 66, 76, 69], true) :: (nT b.name, true) :: (yT [40], true) :: (pcL [44] pcCol b.cols false ++ [(yT [41], false)]) := by simp [pcSt, hk]
  refine ⟨?_, ?_, fun n => ?_⟩
  · rw [e]
    exact sq (ok_word (by decide)) (gb (ok_word (by decide)) (gb (ok_name hn) (gopen ((list_good (.inl rfl) (good_close (by simp) good_nil) b.cols fun a ha => it_col (hco a ha)).2 false))))
  · rw [e, render_cons, render_cons, render_cons, render_cons, render_app, render_list (g := showColS) b.cols false hne (fun a _ b => render_col b)]
    simp [showStm, hk, showTok_w, showTok_n, showTok_y, bl, renderS, commaS]
  · have e2 : ts (pcSt (.mk b [])) ++ e0 n = wT [67, 82, 69, 65, 84, 69] :: wT [84, 65, 66, 76, 69] :: nT b.name :: yT [40] :: (ts (pcL [44] pcCol b.cols false) ++ (yT [41] :: e0 n)) := by rw [e]; simp [ts]
    have hl := rd_lst (F := FoC) (P := columnP) (f := pcCol) (fun r => foc_y _ (by simp) r) (r := yT [41] :: e0 n) (foc_y _ (by simp) _) (by simp [isT_y]) b.cols false hne fun a ha b r hr => rd_col (hco a ha) b r hr
    have hw : whatP (wT [84, 65, 66, 76, 69] :: nT b.name :: yT [40] :: (ts (pcL [44] pcCol b.cols false) ++ (yT [41] :: e0 n))) = (some 1, nT b.name :: yT [40] :: (ts (pcL [44] pcCol b.cols false) ++ (yT [41] :: e0 n))) := by simp [whatP, oneOfP, oneP, isT_w]
    rw [e2, rd_create, createP, hw, then_some, name_n, then_some]
    simp only [if_true, need_y, then_some, hl]
    rw [← hb]
theorem stok_index {b : StB} {acts : List Stm} (hk : b.kind = 7) (h : rightStm (.mk b acts) = true) : StOk (.mk b acts) := by
  simp only [rightStm, Bool.and_eq_true] at h
  obtain ⟨rfl, hb⟩ := bare_index hk h.1
  have hr : nameS b.name = true ∧ nameS b.table = true ∧ nameS b.col = true := by simpa [rightK, nameK, hk] using h.2
  obtain ⟨hn, ht, hc⟩ := hr
  have e : pcSt (.mk b []) = [(wT [67, 82, 69, 65, 84, 69], false), (wT [73, 78, 68, 69, 88], true), (nT b.name, true), (wT [79, 78], true), (nT b.table, true), (yT [40], true), (nT b.col, false), (yT [41], false)] := by simp [pcSt, hk]
  refine ⟨?_, ?_, fun n => ?_⟩
  · rw [e]
    exact sq (ok_word (by decide)) (gb (ok_word (by decide)) (gb (ok_name hn) (gb (ok_word (by decide)) (gb (ok_name ht) (gopen (sq (ok_name hc) (good_close (by simp) good_nil)))))))
  · rw [e]; simp [showStm, hk, showTok_w, showTok_n, showTok_y, renderS]
  · have e2 : ts (pcSt (.mk b [])) ++ e0 n = wT [67, 82, 69, 65, 84, 69] :: wT [73, 78, 68, 69, 88] :: nT b.name :: wT [79, 78] :: nT b.table :: yT [40] :: nT b.col :: yT [41] :: e0 n := by rw [e]; simp [ts]
    have hw : whatP (wT [73, 78, 68, 69, 88] :: nT b.name :: wT [79, 78] :: nT b.table :: yT [40] :: nT b.col :: yT [41] :: e0 n) = (some 2, nT b.name :: wT [79, 78] :: nT b.table :: yT [40] :: nT b.col :: yT [41] :: e0 n) := by simp [whatP, oneOfP, oneP, isT_w]
    rw [e2, rd_create, createP, hw, then_some, name_n, then_some]
    simp only [show ¬ (2 : Nat) = 1 by omega, if_false, if_true, need_w, need_y, then_some, name_n]
    rw [← hb]
theorem stok_rule {b : StB} {acts : List Stm} (hk : b.kind = 8) (h : rightStm (.mk b acts) = true) (ho : (Stm.mk b acts).ok) : StOk (.mk b acts) := by
  obtain ⟨hn, R⟩ := rule_ok hk h ho
  simp only [rightStm, Bool.and_eq_true] at h
  have hb := bare_rule hk h.1
  have e : pcSt (.mk b acts) = (wT [67, 82, 69, 65, 84, 69], false) :: (wT [82, 85, 76, 69], true) :: (nT b.name, true) :: pcRule b acts := by simp [pcSt, hk]
  refine ⟨?_, ?_, fun n => ?_⟩
  · rw [e]
    have := rule_good R good_nil
    rw [List.append_nil] at this
    exact sq (ok_word (by decide)) (gb (ok_word (by decide)) (gb (ok_name hn) this))
  · rw [e, ← rule_render hk R, render_cons, render_cons, render_cons]
    simp [showTok_w, showTok_n, bl]
  · have e2 : ts (pcSt (.mk b acts)) ++ e0 n = wT [67, 82, 69, 65, 84, 69] :: wT [82, 85, 76, 69] :: nT b.name :: (ts (pcRule b acts) ++ e0 n) := by rw [e]; rfl
    have hw : whatP (wT [82, 85, 76, 69] :: nT b.name :: (ts (pcRule b acts) ++ e0 n)) = (some 3, nT b.name :: (ts (pcRule b acts) ++ e0 n)) := by simp [whatP, oneOfP, oneP, isT_w]
    rw [e2, rd_create, createP, hw, then_some, name_n, then_some]
    simp only [show ¬ (3 : Nat) = 1 by omega, show ¬ (3 : Nat) = 2 by omega, if_false]
    exact rd_rule hk hb R (fw_end n)
theorem stok_qry {b : StB} {acts : List Stm} (hk : b.kind = 15) (h : rightStm (.mk b acts) = true) (ho : b.ok) : StOk (.mk b acts) := by
  simp only [rightStm, Bool.and_eq_true] at h
  obtain ⟨rfl, hb⟩ := bare_qry hk h.1
  have hr : rightsE b.items 0 40 = true ∧ rightFromS b.src b.wher 1 = true := by simpa [rightK, nameK, hk] using h.2
  obtain ⟨hi, hf⟩ := hr
  simp only [rightFromS, Bool.and_eq_true, decide_eq_true_eq, List.all_eq_true] at hf
  have q : QOk b := by
    refine ⟨(rights_all hi).1, hf.1, fun e => ?_, ?_, ho.items.2, ho.wher.2⟩
    · have := hf.2.1; rw [e] at this; simp at this
    · have h3 := hf.2.2.2
      have h1 := hf.2.1
      simp only [rightsE, Bool.and_eq_true, decide_eq_true_eq] at h3 ⊢
      refine ⟨h3.1, h3.2.1, ?_⟩
      have := h3.2.2
      split at this <;> omega
  have e : pcSt (.mk b []) = pcQry b false := by simp [pcSt, hk]
  refine ⟨?_, ?_, fun n => ?_⟩
  · rw [e]; have := (good_qry q good_nil).2 false; rwa [List.append_nil] at this
  · rw [e, render_qry q]; simp [bl, showStm, hk]
  · have hs : ts (pcQry b false) ++ e0 n = wT [83, 69, 76, 69, 67, 84] :: (ts (pcItems b.items ++ (wT [70, 82, 79, 77], true) :: (pcL [44] pcSrc b.src true ++ pcWhere b.wher)) ++ e0 n) := rfl
    have ha : actP (ts (pcQry b false) ++ e0 n) = (some none, ts (pcQry b false) ++ e0 n) := by rw [hs]; simp [actP, isT_w]
    have hi : isT [83, 69, 76, 69, 67, 84] (ts (pcQry b false) ++ e0 n) = true := by rw [hs]; simp [isT_w]
    rw [e, stmtP, ha, then_some]
    simp only [hi, if_true, rd_qry q false (fw_end n), then_some]
    rw [← hb]
theorem stok_act {b : StB} {acts : List Stm} (h1 : 12 ≤ b.kind) (h2 : b.kind ≤ 14) (h : rightStm (.mk b acts) = true) (ho : b.ok) : StOk (.mk b acts) := by
  obtain ⟨rfl, A⟩ := act_all h1 h2 h ho
  have e : pcSt (.mk b []) = pcA b false := by simp only [pcSt]; repeat rw [if_neg (by omega)]
  refine ⟨?_, ?_, fun n => ?_⟩
  · rw [e]; have := A.seq false [] good_nil; rwa [List.append_nil] at this
  · rw [e, A.render]; rfl
  · rw [e, stmtP, A.rd false _ (fw_end n), then_some]
theorem st_ok : ∀ (s : Stm), rightStm s = true → s.ok → StOk s
  | .mk b acts, h, ho => by
    by_cases k1 : b.kind = 1 ∨ b.kind = 2 ∨ b.kind = 3
    · exact stok_small k1 h
    by_cases k2 : nameK b.kind
    · exact stok_name k2 h
    by_cases k6 : b.kind = 6
    · exact stok_table k6 h
    by_cases k7 : b.kind = 7
    · exact stok_index k7 h
    by_cases k8 : b.kind = 8
    · exact stok_rule k8 h ho
    by_cases k15 : b.kind = 15
    · exact stok_qry k15 h ho.1
    by_cases ka : 12 ≤ b.kind ∧ b.kind ≤ 14
    · exact stok_act ka.1 ka.2 h ho.1
    · simp only [rightStm, Bool.and_eq_true] at h
      have := h.2
      rw [rightK, if_neg k1, if_neg k2, if_neg k6, if_neg k7, if_neg k8, if_neg (by omega), if_neg (by omega), if_neg (by omega), if_neg k15] at this
      cases this
theorem parse_back {s : Stm} (hs : rightStm s = true) (os : s.ok) : parseS (showStm s) = if 2000 < (showStm s).length then (Stm.zero, 8, 0) else (s, 0, 0) := by
  have A := st_ok s hs os
  by_cases hl : 2000 < (showStm s).length
  · rw [if_pos hl]; unfold parseS readP; rw [if_pos hl]
  · rw [if_neg hl]
    obtain ⟨m, e, ht, hk, hn, hse, ha⟩ := toks_render (pcSt s) ((pcSt s).length + (renderS (pcSt s)).length + 1) 0 A.seq (by omega)
    rw [toks_fuel _ ((renderS (pcSt s)).length + 1) 0 _ (by omega) (by omega)] at ht
    obtain ⟨ek, en, ea, es⟩ := e
    simp only at hk hn hse
    subst hk hn hse
    have h1 := A.rd ea
    have hst : strips (m ++ [⟨0, 0, ea, []⟩]) = strips (ts (pcSt s) ++ e0 ea) := by
      have := alikes_strips ha
      simp only [strips, List.map_append, e0] at this ⊢
      rw [this]
    have h2 := nat_alike nat_stmt hst
    rw [h1] at h2
    rw [A.render] at ht
    unfold parseS readP
    rw [if_neg hl, ht]
    simp only
    cases hx : stmtP (m ++ [⟨0, 0, ea, []⟩]) with
    | mk o r =>
      rw [hx] at h2
      obtain ⟨h2, h3⟩ := h2
      simp only at h2 h3
      subst h2
      have : topK r = 0 := by
        have := congrArg topK h3
        rw [topK_strip, topK_strip] at this
        exact this
      simp only [this, if_true, hs]
end Go.Abs
namespace Go.Abs
open Go Go.Proofs
theorem ev_awake14 : EV 27 [] [] = some (.ret (.bool true), []) := ev_some.2 ⟨200, by kernel_rfl⟩
end Go.Abs
namespace Go.Abs
set_option linter.unusedSimpArgs false
set_option linter.unusedVariables false
open Go Go.Proofs
attribute [local simp] i_nil i_blk i_skip i_ret i_exit i_seq i_block i_cond i_region' i_ops_nil i_ops i_drawn' k_none k_0 k_1 k_2 k_3 k_4 k_5 d_in a_nil a_cons alt1 h_nil h_one h_two z_nil z_cons z_cells zeqL zeq q_alloc q_some nxtN i_drh d_hi i_drw_nil i_drw u_nil u_code u_ops u_drw u_lp u_again u_exit u_ret u_panic c_bool o_some o_val o_panic d_some d_val d_panic w_none w_fast wantG q_nil q_zero q_succ t_zero t_succ g_zero g_succ s_zero s_succ s_some s_none v_tmp v_const v_func f_quiet gc_none gc_pure wrap_i64 p_move p_assign p_pick p_alloc p_box p_build p_buildSlice p_load p_store p_nilCheck p_binOp n_tmp n_int n_bool n_str n_ptr n_fun n_iface nilCmp p_unOp p_convert p_makeSlice p_makeInterface p_makeFunc p_slice p_fieldAddr p_field p_indexAddr p_index p_extract p_callv p_callb p_panic quiet_val new_val e_assign e_call e_load e_store e_alloc e_box e_move e_pick e_build e_buildSlice e_nilCheck e_binOp e_unOp e_convert e_makeSlice e_makeInterface e_makeFunc e_slice e_fieldAddr e_field e_indexAddr e_index e_extract e_panic callD fpRead adoptZ fulls adopt adoptL ofValue ofScalar binOpV unOpV intBin strBin eqRes veq veqF eqDepth val? finish resL r_tmp r_cell normL normTop tipIs refsL refs ownRefs single frz frzL ren renL renOwn callOp doCall backR writeBack builtinV loadV storeV storeW iceT cellsAt takeV D.isAgg overlay vcells cellOk fieldAddrV indexAddrV fieldV partV indexV buildV fillV buildSliceV litElems appendV appElems elemOk convertV convV winStr makeSliceV sliceV natOf
attribute [local simp ↓] brB_true brB_false brB_dec brB_not brB_and brB_or brB_beq brB_bne
attribute [local irreducible] fpsQ panQ
theorem same_self (s : Stm) (h : s.ok) : EV 19 [s.enc, s.enc] [] = some (.ret (.bool true), []) := by
  rw [ev_sames2 s s h h, (sameS_iff s s).2 rfl]
set_option maxRecDepth 100000 in
set_option maxHeartbeats 4000000 in
theorem ev_parseback (e : Stm) (h : e.ok) : EV 7 [e.enc] [] = some (.ret (.bool true), []) := by
  have hw := ev_awake14
  have hg := ev_great e h
  have hp := ev_plainstm e h
  have hr := ev_rightstm e h
  have hs := ev_showstm e h
  have hq := ev_pparse (showStm e)
  have hb := fun h' => parse_back (s := e) h' h
  have hsame := same_self e h
  rw [EV_mki rfl Tryz.func7 rfl (by kernel_rfl) rfl]
  unfold stmO errV at hq
  generalize greatS e = g at hg
  generalize rightStm e = R at hr hs hb
  generalize showStm e = T at hs hq hb
  cases g
  rotate_left
  · obtain ⟨b, acts⟩ := e
    rw [senc_mk] at hg ⊢
    simp [Tryz.f7, Tryz.ti3, Tryz.ti4, Tryz.ti9, Tryz.ti22, Tryz.ti23, Tryz.ti24, Tryz.ti25, Tryz.ti26, Tryz.ti28, Tryz.ti44, Tryz.ti46, Tryz.ti56, Tryz.ti58, Tryz.ti80, Tryz.ti84, Tryz.ti94, hw, hg] <;> first | (refine panQ_of ?_; decide +kernel) | (change _ = true; decide +kernel) | kernel_rfl | (refine ⟨?_, ?_⟩ <;> first | (change _ = true; decide +kernel) | kernel_rfl)
  cases R
  · obtain ⟨b, acts⟩ := e
    rw [senc_mk] at hg hr ⊢
    simp [Tryz.f7, Tryz.ti3, Tryz.ti4, Tryz.ti9, Tryz.ti22, Tryz.ti23, Tryz.ti24, Tryz.ti25, Tryz.ti26, Tryz.ti28, Tryz.ti44, Tryz.ti46, Tryz.ti56, Tryz.ti58, Tryz.ti80, Tryz.ti84, Tryz.ti94, hw, hg, hr] <;> first | (refine panQ_of ?_; decide +kernel) | (change _ = true; decide +kernel) | kernel_rfl | (refine ⟨?_, ?_⟩ <;> first | (change _ = true; decide +kernel) | kernel_rfl)
  simp only [if_true] at hs
  rw [hb rfl] at hq
  by_cases hl : 2000 < T.length
  · have hl' : 2000 < (T.length : Int) := by omega
    simp only [hl, if_true, Stm.zero] at hq
    obtain ⟨b, acts⟩ := e
    rw [senc_mk] at hg hr hs ⊢
    rw [senc_mk] at hq
    simp [Tryz.f7, Tryz.ti3, Tryz.ti4, Tryz.ti9, Tryz.ti22, Tryz.ti23, Tryz.ti24, Tryz.ti25, Tryz.ti26, Tryz.ti28, Tryz.ti44, Tryz.ti46, Tryz.ti56, Tryz.ti58, Tryz.ti80, Tryz.ti84, Tryz.ti94, hw, hg, hr, hs, hq, hl', StB.zero] <;> first | (refine panQ_of ?_; decide +kernel) | (change _ = true; decide +kernel) | kernel_rfl | (refine ⟨?_, ?_⟩ <;> first | (change _ = true; decide +kernel) | kernel_rfl)
  · have hl' : ¬ 2000 < (T.length : Int) := by omega
    simp only [hl, if_false] at hq
    obtain ⟨b, acts⟩ := e
    rw [senc_mk] at hg hr hs hq hp hsame ⊢
    simp [Tryz.f7, Tryz.ti3, Tryz.ti4, Tryz.ti9, Tryz.ti22, Tryz.ti23, Tryz.ti24, Tryz.ti25, Tryz.ti26, Tryz.ti28, Tryz.ti44, Tryz.ti46, Tryz.ti56, Tryz.ti58, Tryz.ti80, Tryz.ti84, Tryz.ti94, hw, hg, hr, hs, hq, hl', hp, hsame] <;> first | (refine panQ_of ?_; decide +kernel) | (change _ = true; decide +kernel) | kernel_rfl | (refine ⟨?_, ?_⟩ <;> first | (change _ = true; decide +kernel) | kernel_rfl)
end Go.Abs
