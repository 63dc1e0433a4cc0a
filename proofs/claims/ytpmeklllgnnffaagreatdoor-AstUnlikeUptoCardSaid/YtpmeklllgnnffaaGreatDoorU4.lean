/- New immutable rows, and append: the steps in the relation. -/
import Derived.Test.YtpmeklllgnnffaaGreatDoorU3
set_option linter.unusedSimpArgs false
set_option linter.unusedVariables false

namespace Go.Abs
open Go

def Ghost.fill (G : Ghost) (B lo : Nat) (vs : List Value) : Ghost :=
  { G with imm := fun B' o => if B' = B ∧ lo ≤ o ∧ o < lo + vs.length then vs[o - lo]? else G.imm B' o }

theorem Ghost.fill_in (G : Ghost) (B lo : Nat) (vs : List Value) {i : Nat} {v : Value} (h : vs[i]? = some v) : (G.fill B lo vs).imm B (lo + i) = some v := by
  have := (List.getElem?_eq_some_iff.1 h).1
  simp only [Ghost.fill]
  rw [if_pos ⟨trivial, by omega, by omega⟩, Nat.add_sub_cancel_left]; exact h
theorem Ghost.fill_old (G : Ghost) {B lo : Nat} {vs : List Value} (hn : ∀ o, lo ≤ o → G.imm B o = none) {B' o : Nat} {v : Value} (h : G.imm B' o = some v) : (G.fill B lo vs).imm B' o = some v := by
  simp only [Ghost.fill]
  rw [if_neg]; · exact h
  rintro ⟨rfl, h1, _⟩
  rw [hn o h1] at h; cases h
theorem Ghost.fill_inv (G : Ghost) {B lo : Nat} {vs : List Value} {B' o : Nat} {v : Value} (h : (G.fill B lo vs).imm B' o = some v) :
    G.imm B' o = some v ∨ (B' = B ∧ lo ≤ o ∧ vs[o - lo]? = some v) := by
  simp only [Ghost.fill] at h
  split at h
  · rename_i hc; exact .inr ⟨hc.1, hc.2.1, h⟩
  · exact .inl h

theorem Reads.of_reps {G G' : Ghost} (hi : ∀ B o v, G.imm B o = some v → G'.imm B o = some v) :
    ∀ {cs : List V} {vs : List Value} {B o : Nat}, Reps G cs vs → (∀ u ∈ vs, u.oneCell' = true) → refsL cs = [] → (∀ (i : Nat) (v : Value), vs[i]? = some v → G'.imm B (o + i) = some v) → Reads G' cs B o
  | [], _, _, _, _, _, _, _ => trivial
  | x :: xs, _, B, o, h, h1, hn, hv => by
    obtain ⟨v, r, rfl, h2, h3⟩ := h
    simp only [refsL, List.append_eq_nil_iff] at hn
    refine ⟨⟨v, by simpa using hv 0 v rfl, h1 v (by simp), h2.pure hi hn.1⟩, Reads.of_reps hi h3 (fun u hu => h1 u (by simp [hu])) hn.2 fun i v e => ?_⟩
    have := hv (i + 1) v (by simpa using e)
    rwa [show o + (i + 1) = o + 1 + i by omega] at this

theorem Reads.exists {G : Ghost} : ∀ {cs : List V} {B o : Nat}, Reads G cs B o → ∃ vs, Reps G cs vs ∧ (∀ u ∈ vs, u.oneCell' = true) ∧ ∀ (i : Nat) (v : Value), vs[i]? = some v → G.imm B (o + i) = some v
  | [], _, _, _ => ⟨[], rfl, by simp, by simp⟩
  | x :: xs, B, o, h => by
    obtain ⟨⟨v, h1, h2, h3⟩, h4⟩ := h
    obtain ⟨vs, k1, k2, k3⟩ := Reads.exists h4
    refine ⟨v :: vs, ⟨v, vs, rfl, h3, k1⟩, ?_, fun i u e => ?_⟩
    · intro u hu; rcases List.mem_cons.1 hu with rfl | hu
      · exact h2
      · exact k2 u hu
    · cases i with
      | zero => simp at e; subst e; exact h1
      | succ i =>
        have := k3 i u (by simpa using e)
        rwa [show o + 1 + i = o + (i + 1) by omega] at this

variable {G : Ghost} {st : St} {W : World}

theorem Sim.imm_new (h : Sim G st W) (o : Nat) : G.imm W.heap.size o = none := by
  cases e : G.imm W.heap.size o with
  | none => rfl
  | some v => exact absurd (h.lt_imm e) (Nat.lt_irrefl _)

theorem le_fill {B lo : Nat} {vs : List Value} (hn : ∀ o, lo ≤ o → G.imm B o = none) : Le G (G.fill B lo vs) :=
  ⟨fun _ _ _ e => G.fill_old hn e, fun _ _ e => e, fun _ d e => ⟨d, e, .refl d⟩⟩

/- a literal's row -/
theorem Good.pushImm (h : Sim G st W) (c : Array Value) (T : TypeId) :
    Good G W (G.fill W.heap.size 0 c.toList) st (W.alloc (.cells c T)) := by
  have hn : ∀ o, 0 ≤ o → G.imm W.heap.size o = none := fun o _ => h.imm_new o
  have hs := h.alloc (.cells c T)
  have le : Le G (G.fill W.heap.size 0 c.toList) := le_fill hn
  have other : ∀ B, B ≠ W.heap.size → ∀ o, (G.fill W.heap.size 0 c.toList).imm B o = G.imm B o := fun B hB o => by
    simp only [Ghost.fill]; rw [if_neg]; rintro ⟨e, _⟩; exact hB e
  refine mkGood h ⟨fun B o v e => ?_, h.dom, fun b B hb => ?_, h.inj, fun b d hd => ?_, h.tinj, baseOk_mono le.imm h.base, h.res⟩ ⟨le.imm, by simp, fun B hB _ => heap_alloc_old W _ B hB, fun B hB _ o => ?_, fun _ _ t => t, ⟨rfl, rfl, rfl⟩, rfl⟩ le (fun _ h => h)
  · rcases G.fill_inv e with e | ⟨rfl, _, e⟩
    · exact hs.imm B o v e
    · exact ⟨c, T, (0, 0), heap_alloc_new W _, by simpa using e⟩
  · obtain ⟨⟨cs, c', T', h1, h2, h3⟩, h4⟩ := hs.box b B hb
    exact ⟨⟨cs, c', T', h1, h2, h3.le le⟩, fun o => by rw [other B (Nat.ne_of_lt (h.lt_box hb).2)]; exact h4 o⟩
  · have t := hs.tip b d hd
    refine ⟨t.st, t.nobox, t.le, t.none, t.pos, fun r => ?_⟩
    obtain ⟨B, c', T', h1, h2, h3, h4, h5⟩ := t.room r
    exact ⟨B, c', T', h1, h2, h3, fun o ho => by rw [other B (Nat.ne_of_lt (h.lt_tb (.inr ⟨b, d, hd, r, h1⟩)))]; exact h4 o ho, h5⟩
  · exact other B (Nat.ne_of_lt hB) o

/- a new row that is owned -/
theorem Good.newTip (h : Sim G st W) {b : Nat} {d : Hdr} {st' : St} (hres : G.res b = false) (hnob : G.box b = none) (hle : ∀ d', G.hdr b = some d' → d'.le d) (hlen : st.length ≤ st'.length)
    (hget : ∀ b' x, b' ≠ b → st[b']? = some x → st'[b']? = some x) (hb : st'[b]? = some [.tip d.tip])
    (c : Array Value) (T : TypeId) (vs : List Value) (hvs : ∀ (i : Nat) (v : Value), vs[i]? = some v → c[i]? = some v) (ha : d.addr = some (W.heap.size, 0)) (htc : d.tip ≤ d.cap) (hpos : 0 < d.tip) (hc : d.cap * d.size ≤ c.size)
    (hl : vs.length ≤ d.tip * d.size) :
    Good G W ((G.fill W.heap.size 0 vs).addHdr b d) st' (W.drew.alloc (.cells c T)) := by
  have hn : ∀ o, 0 ≤ o → G.imm W.heap.size o = none := fun o _ => h.imm_new o
  have hs : Sim G st (W.drew.alloc (.cells c T)) := (h.of_heap (W' := W.drew) rfl).alloc _
  have le : Le G ((G.fill W.heap.size 0 vs).addHdr b d) := ⟨fun _ _ _ e => G.fill_old hn e, fun _ _ e => e, fun b' x e => by
    by_cases hbb : b' = b
    · subst hbb; exact ⟨d, by simp [Ghost.addHdr], hle x e⟩
    · exact ⟨x, by simp [Ghost.addHdr, hbb, Ghost.fill, e], .refl x⟩⟩
  have other : ∀ B, B ≠ W.heap.size → ∀ o, ((G.fill W.heap.size 0 vs).addHdr b d).imm B o = G.imm B o := fun B hB o => by
    simp only [Ghost.addHdr, Ghost.fill]; rw [if_neg]; rintro ⟨e, _⟩; exact hB e
  have hx : ∀ {b' x}, ((G.fill W.heap.size 0 vs).addHdr b d).hdr b' = some x → (b' = b ∧ x = d) ∨ (b' ≠ b ∧ G.hdr b' = some x) := fun {b' x} e => by
    by_cases hbb : b' = b
    · subst hbb; simp only [Ghost.addHdr, if_true, Option.some.injEq] at e; exact .inl ⟨rfl, e.symm⟩
    · exact .inr ⟨hbb, by simpa [Ghost.addHdr, hbb, Ghost.fill] using e⟩
  have hbl : b < st'.length := (List.getElem?_eq_some_iff.1 hb).1
  have new : (W.drew.alloc (.cells c T)).heap[W.heap.size]? = some (.cells c T (0, 0)) := heap_alloc_new W.drew _
  refine mkGood h ⟨fun B o v e => ?_, fun b' hb' => ?_, fun b' B hb' => ?_, h.inj, fun b' x hx' => ?_, fun b1 b2 x1 x2 e1 e2 r1 r2 e => ?_, baseOk_mono le.imm h.base, fun b' hb' => ?_⟩
    ⟨le.imm, by simp, fun B hB _ => heap_alloc_old W.drew _ B hB, fun B hB _ o => other B (Nat.ne_of_lt hB) o, fun B hB t => ?_, ⟨rfl, rfl, rfl⟩, rfl⟩ le (fun _ h => h)
  · rcases G.fill_inv (show (G.fill W.heap.size 0 vs).imm B o = some v from e) with e | ⟨rfl, _, e⟩
    · exact hs.imm B o v e
    · exact ⟨c, T, (0, 0), new, hvs _ _ (by simpa using e)⟩
  · have k := h.dom b' (Nat.le_trans hlen hb')
    have hne : b' ≠ b := by omega
    exact ⟨k.1, by simp [Ghost.addHdr, hne, Ghost.fill, k.2]⟩
  · have hne : b' ≠ b := by intro e; rw [e] at hb'; rw [show ((G.fill W.heap.size 0 vs).addHdr b d).box = G.box from rfl, hnob] at hb'; cases hb'
    obtain ⟨⟨cs, c', T', h1, h2, h3⟩, h4⟩ := hs.box b' B hb'
    exact ⟨⟨cs, c', T', hget b' _ hne h1, h2, h3.le le⟩, fun o => by rw [other B (Nat.ne_of_lt (h.lt_box hb').2)]; exact h4 o⟩
  · rcases hx hx' with ⟨rfl, rfl⟩ | ⟨hne, hx''⟩
    · refine ⟨hb, hnob, htc, fun e => (by rw [ha] at e; cases e), fun _ => hpos, fun _ => ⟨W.heap.size, c, T, ha, new, hc, fun o ho => ?_, fun b2 hb2 => absurd (h.lt_box hb2).2 (Nat.lt_irrefl _)⟩⟩
      show (G.fill W.heap.size 0 vs).imm W.heap.size o = none
      simp only [Ghost.fill]
      rw [if_neg (by omega)]
      exact h.imm_new o
    · have t := hs.tip b' x hx''
      refine ⟨hget b' _ hne t.st, t.nobox, t.le, t.none, t.pos, fun r => ?_⟩
      obtain ⟨B, c', T', h1, h2, h3, h4, h5⟩ := t.room r
      exact ⟨B, c', T', h1, h2, h3, fun o ho => by rw [other B (Nat.ne_of_lt (h.lt_tb (.inr ⟨b', x, hx'', r, h1⟩)))]; exact h4 o ho, h5⟩
  · rcases hx e1 with ⟨rfl, rfl⟩ | ⟨n1, k1⟩ <;> rcases hx e2 with ⟨rfl, rfl⟩ | ⟨n2, k2⟩
    · rfl
    · obtain ⟨B, q1, q2⟩ := Hdr.room_addr h k2 r2
      rw [ha, q1] at e; cases e; exact absurd (h.lt_tb q2) (Nat.lt_irrefl _)
    · obtain ⟨B, q1, q2⟩ := Hdr.room_addr h k1 r1
      rw [ha, q1] at e; cases e; exact absurd (h.lt_tb q2) (Nat.lt_irrefl _)
    · exact h.tinj b1 b2 x1 x2 k1 k2 r1 r2 e
  · obtain ⟨r1, r2, r3⟩ := h.res b' hb'
    have hne : b' ≠ b := by intro e; rw [e] at hb'; rw [show ((G.fill W.heap.size 0 vs).addHdr b d).res = G.res from rfl, hres] at hb'; cases hb'
    exact ⟨by omega, r2, by simp [Ghost.addHdr, hne, Ghost.fill, r3]⟩
  · rcases t with ⟨b', hb'⟩ | ⟨b', x, e, r, e'⟩
    · exact .inl ⟨b', hb'⟩
    · rcases hx e with ⟨rfl, rfl⟩ | ⟨_, k⟩
      · rw [ha] at e'; cases e'; exact absurd hB (Nat.lt_irrefl _)
      · exact .inr ⟨b', x, k, r, e'⟩

/- an owned row written on in its room -/
theorem Good.tipRoom (h : Sim G st W) {b : Nat} {d : Hdr} (hd : G.hdr b = some d) {m : Nat} (hm : 0 < m) (hroom : d.tip + m ≤ d.cap) {B : Nat} (ha : d.addr = some (B, 0))
    {c : Array Value} {T : TypeId} (hB : W.heap[B]? = some (.cells c T (0, 0))) (hc : d.cap * d.size ≤ c.size) (vs : List Value) (hl : vs.length = m * d.size) :
    Good G W ((G.fill B (d.tip * d.size) vs).addHdr b { d with tip := d.tip + m }) (st.set b [.tip (d.tip + m)])
      (W.setRow B (c.toList.take (d.tip * d.size) ++ vs ++ c.toList.drop (d.tip * d.size + vs.length)).toArray) := by
  have t := h.tip b d hd
  obtain ⟨B0, c0, T0, q1, q2, q3, q4, q5⟩ := t.room (by omega)
  rw [ha] at q1; cases q1
  rw [hB] at q2; cases q2
  have hbl : b < st.length := h.lt_hdr hd
  have hfit : d.tip * d.size + vs.length ≤ c.size := by
    rw [hl, ← Nat.add_mul]; exact Nat.le_trans (Nat.mul_le_mul_right _ hroom) hc
  have le : Le G ((G.fill B (d.tip * d.size) vs).addHdr b { d with tip := d.tip + m }) := ⟨fun _ _ _ e => G.fill_old q4 e, fun _ _ e => e, fun b' x e => by
    by_cases hbb : b' = b
    · subst hbb; rw [hd] at e; cases e; exact ⟨{ d with tip := d.tip + m }, by simp [Ghost.addHdr], ⟨Nat.le_add_right _ _, fun e => by have e' : d.tip = d.tip + m := e; omega, fun _ => rfl⟩⟩
    · exact ⟨x, by simp [Ghost.addHdr, hbb, Ghost.fill, e], .refl x⟩⟩
  have other : ∀ B', B' ≠ B → ∀ o, ((G.fill B (d.tip * d.size) vs).addHdr b { d with tip := d.tip + m }).imm B' o = G.imm B' o := fun B' hB' o => by
    simp only [Ghost.addHdr, Ghost.fill]; rw [if_neg]; rintro ⟨e, _⟩; exact hB' e
  have hx : ∀ {b' x}, ((G.fill B (d.tip * d.size) vs).addHdr b { d with tip := d.tip + m }).hdr b' = some x → (b' = b ∧ x = { d with tip := d.tip + m }) ∨ (b' ≠ b ∧ G.hdr b' = some x) := fun {b' x} e => by
    by_cases hbb : b' = b
    · subst hbb; simp only [Ghost.addHdr, if_true, Option.some.injEq] at e; exact .inl ⟨rfl, e.symm⟩
    · exact .inr ⟨hbb, by simpa [Ghost.addHdr, hbb, Ghost.fill] using e⟩
  have hnew := setRow_heap W B c (c.toList.take (d.tip * d.size) ++ vs ++ c.toList.drop (d.tip * d.size + vs.length)).toArray T (0, 0) hB
  have hold : ∀ k, k ≠ B → (W.setRow B (c.toList.take (d.tip * d.size) ++ vs ++ c.toList.drop (d.tip * d.size + vs.length)).toArray).heap[k]? = W.heap[k]? := fun k hk => setRow_other W B k _ hk
  have htb : TB G B := .inr ⟨b, d, hd, by omega, ha⟩
  have nb : ∀ {b' x}, b' ≠ b → G.hdr b' = some x → x.tip < x.cap → ∀ B', x.addr = some (B', 0) → B' ≠ B := fun {b' x} hne e r B' e' => by
    intro hBB; subst hBB
    exact hne (h.tinj b' b x d e hd r (by omega) (by rw [e', ha]))
  refine mkGood h ⟨fun B' o v e => ?_, fun b' hb' => ?_, fun b' B' hb' => ?_, h.inj, fun b' x hx' => ?_, fun b1 b2 x1 x2 e1 e2 r1 r2 e => ?_, baseOk_mono le.imm h.base, fun b' hb' => ?_⟩
    ⟨le.imm, by simp, fun B' _ hn => hold B' (fun e => hn (e ▸ htb)), fun B' _ hn o => other B' (fun e => hn (e ▸ htb)) o, fun B' _ t' => ?_, ⟨rfl, rfl, rfl⟩, rfl⟩ le (fun _ h => h)
  · rcases G.fill_inv (show (G.fill B (d.tip * d.size) vs).imm B' o = some v from e) with e2 | ⟨rfl, h1, e2⟩
    · clear e
      have e := e2
      clear e2
      by_cases hBB : B' = B
      · subst hBB
        obtain ⟨c', T', f', k1, k2⟩ := h.imm B' o v e
        rw [hB] at k1; cases k1
        have ho : o < d.tip * d.size := by
          rcases Nat.lt_or_ge o (d.tip * d.size) with h1 | h1
          · exact h1
          · rw [q4 o h1] at e; cases e
        refine ⟨_, T, (0, 0), hnew, ?_⟩
        simp only [List.getElem?_toArray]
        rw [List.append_assoc, List.getElem?_append_left (by simp; omega), List.getElem?_take_of_lt ho]
        simpa using k2
      · obtain ⟨c', T', f', k1, k2⟩ := h.imm B' o v e
        exact ⟨c', T', f', by rw [hold B' hBB]; exact k1, k2⟩
    · clear e
      have e := e2
      refine ⟨_, T, (0, 0), hnew, ?_⟩
      have h2 := (List.getElem?_eq_some_iff.1 e).1
      simp only [List.getElem?_toArray]
      have htl : (c.toList.take (d.tip * d.size)).length = d.tip * d.size := by simp; omega
      rw [List.append_assoc, List.getElem?_append_right (by rw [htl]; exact h1), htl, List.getElem?_append_left h2]
      exact e
  · have k := h.dom b' (by simpa using hb')
    have hne : b' ≠ b := by intro e; rw [e, hd] at k; cases k.2
    exact ⟨k.1, by simp [Ghost.addHdr, hne, Ghost.fill, k.2]⟩
  · have hne : b' ≠ b := by intro e; rw [e] at hb'; rw [show ((G.fill B (d.tip * d.size) vs).addHdr b { d with tip := d.tip + m }).box = G.box from rfl, t.nobox] at hb'; cases hb'
    obtain ⟨⟨cs, c', T', h1, h2, h3⟩, h4⟩ := h.box b' B' hb'
    have hBB : B' ≠ B := fun e => q5 b' (e ▸ hb')
    exact ⟨⟨cs, c', T', by rw [List.getElem?_set_ne (Ne.symm hne)]; exact h1, by rw [hold B' hBB]; exact h2, h3.le le⟩, fun o => by rw [other B' hBB]; exact h4 o⟩
  · rcases hx hx' with ⟨rfl, rfl⟩ | ⟨hne, hx''⟩
    · refine ⟨by simp [hbl], t.nobox, hroom, fun e => (by rw [show d.addr = none from e] at ha; cases ha), fun _ => Nat.add_pos_right _ hm, fun _ => ⟨B, _, T, ha, hnew, ?_, fun o ho => ?_, q5⟩⟩
      · simp only [List.size_toArray, List.length_append, List.length_take, List.length_drop, Array.length_toList]
        show d.cap * d.size ≤ _
        omega
      · have ho' : (d.tip + m) * d.size ≤ o := ho
        rw [Nat.add_mul, ← hl] at ho'
        show (G.fill B (d.tip * d.size) vs).imm B o = none
        simp only [Ghost.fill]
        rw [if_neg (by omega)]
        exact q4 o (by omega)
    · have t' := h.tip b' x hx''
      refine ⟨by rw [List.getElem?_set_ne (Ne.symm hne)]; exact t'.st, t'.nobox, t'.le, t'.none, t'.pos, fun r => ?_⟩
      obtain ⟨B', c', T', h1, h2, h3, h4, h5⟩ := t'.room r
      have hBB := nb hne hx'' r B' h1
      exact ⟨B', c', T', h1, by rw [hold B' hBB]; exact h2, h3, fun o ho => by rw [other B' hBB]; exact h4 o ho, h5⟩
  · rcases hx e1 with ⟨rfl, rfl⟩ | ⟨n1, k1⟩ <;> rcases hx e2 with ⟨rfl, rfl⟩ | ⟨n2, k2⟩
    · rfl
    · obtain ⟨B', q1', _⟩ := Hdr.room_addr h k2 r2
      exact absurd (show B' = B by have : some (B, 0) = some (B', 0) := by rw [← ha, ← q1']; exact e
                                   cases this; rfl) (nb n2 k2 r2 B' q1')
    · obtain ⟨B', q1', _⟩ := Hdr.room_addr h k1 r1
      exact absurd (show B' = B by have : some (B', 0) = some (B, 0) := by rw [← ha, ← q1']; exact e
                                   cases this; rfl) (nb n1 k1 r1 B' q1')
    · exact h.tinj b1 b2 x1 x2 k1 k2 r1 r2 e
  · obtain ⟨s1, s2, s3⟩ := h.res b' hb'
    have hne : b' ≠ b := by intro e; rw [e, hd] at s3; cases s3
    exact ⟨by simpa using s1, s2, by simp [Ghost.addHdr, hne, Ghost.fill, s3]⟩
  · rcases t' with ⟨b', hb'⟩ | ⟨b', x, e, r, e'⟩
    · exact .inl ⟨b', hb'⟩
    · rcases hx e with ⟨rfl, rfl⟩ | ⟨_, k⟩
      · exact .inr ⟨b', d, hd, by have r' : d.tip + m < d.cap := r; omega, e'⟩
      · exact .inr ⟨b', x, k, r, e'⟩

end Go.Abs

