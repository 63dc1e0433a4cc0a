/- The relation of an abstract state to a world, and the steps that keep it. -/
import Derived.Test.YtpmeklllgnnffaaGreatDoorU2
import Derived.Deep.AppendSrc
import Derived.Lib.ItoaNum
set_option linter.unusedSimpArgs false
set_option linter.unusedVariables false

namespace Go.Abs
open Go

structure TipOk (G : Ghost) (st : St) (W : World) (b : Nat) (h : Hdr) : Prop where
  st : st[b]? = some [.tip h.tip]
  nobox : G.box b = none
  le : h.tip ≤ h.cap
  none : h.addr = none → h.cap = 0
  pos : h.tip < h.cap → 0 < h.tip
  room : h.tip < h.cap → ∃ B c T, h.addr = some (B, 0) ∧ W.heap[B]? = some (.cells c T (0, 0)) ∧ h.cap * h.size ≤ c.size ∧
    (∀ o, h.tip * h.size ≤ o → G.imm B o = Option.none) ∧ (∀ b', G.box b' ≠ some B)

structure BoxOk (G : Ghost) (st : St) (W : World) (b B : Nat) : Prop where
  st : ∃ cs c T, st[b]? = some cs ∧ W.heap[B]? = some (.cells c T (0, 0)) ∧ Reps G cs c.toList
  imm : ∀ o, G.imm B o = none

/- what package-level variables hold, as far as functions without a body ask it -/
def baseOk (imm : Nat → Nat → Option Value) (fix : Nat → Option Obj) : Prop := (∃ m : Int, imm 1 0 = some (.int .i64 m)) ∧ ∃ g T f, g = 2 ∧ fix g = some (.cells (Go.Lib.pow10Tab.map fun z => Value.int .u64 z).toArray T f)
theorem baseOk_mono {f g : Nat → Nat → Option Value} {fix : Nat → Option Obj} (h : ∀ B o v, f B o = some v → g B o = some v) : baseOk f fix → baseOk g fix := fun q => ⟨q.1.imp fun _ e => h _ _ _ e, q.2⟩

structure Sim0 (G : Ghost) (st : St) (W : World) : Prop where
  imm : ∀ B o v, G.imm B o = some v → ∃ c T f, W.heap[B]? = some (.cells c T f) ∧ c[o]? = some v
  dom : ∀ b, st.length ≤ b → G.box b = none ∧ G.hdr b = none
  box : ∀ b B, G.box b = some B → BoxOk G st W b B
  inj : ∀ b b' B, G.box b = some B → G.box b' = some B → b = b'
  tip : ∀ b h, G.hdr b = some h → TipOk G st W b h
  tinj : ∀ b b' h h', G.hdr b = some h → G.hdr b' = some h' → h.tip < h.cap → h'.tip < h'.cap → h.addr = h'.addr → b = b'
  base : baseOk G.imm G.fix
  res : ∀ b, G.res b = true → b < st.length ∧ G.box b = none ∧ G.hdr b = none

/- the blocks that may be written -/
def TB (G : Ghost) (B : Nat) : Prop := (∃ b, G.box b = some B) ∨ ∃ b h, G.hdr b = some h ∧ h.tip < h.cap ∧ h.addr = some (B, 0)

structure Sim (G : Ghost) (st : St) (W : World) : Prop extends Sim0 G st W where
  fix : ∀ B o, G.fix B = some o → W.heap[B]? = some o ∧ ¬ TB G B

structure Ext (G : Ghost) (W : World) (G' : Ghost) (W' : World) : Prop where
  imm : ∀ B o v, G.imm B o = some v → G'.imm B o = some v
  size : W.heap.size ≤ W'.heap.size
  keep : ∀ B, B < W.heap.size → ¬ TB G B → W'.heap[B]? = W.heap[B]?
  immK : ∀ B, B < W.heap.size → ¬ TB G B → ∀ o, G'.imm B o = G.imm B o
  tb : ∀ B, B < W.heap.size → TB G' B → TB G B
  env : W'.os = W.os ∧ W'.tape = W.tape ∧ W'.output = W.output
  fix : G'.fix = G.fix

structure Good (G : Ghost) (W : World) (G' : Ghost) (st' : St) (W' : World) : Prop where
  sim : Sim G' st' W'
  ext : Ext G W G' W'
  le : Le G G'
  res : ∀ b, G.res b = true → G'.res b = true

theorem Ext.refl (G : Ghost) (W : World) : Ext G W G W := ⟨fun _ _ _ h => h, Nat.le_refl _, fun _ _ _ => rfl, fun _ _ _ _ => rfl, fun _ _ h => h, ⟨rfl, rfl, rfl⟩, rfl⟩
theorem Ext.trans {A B C : Ghost} {U V W : World} (h : Ext A U B V) (h' : Ext B V C W) : Ext A U C W :=
  ⟨fun b o v e => h'.imm b o v (h.imm b o v e), Nat.le_trans h.size h'.size,
   fun b hb hn => (h'.keep b (Nat.lt_of_lt_of_le hb h.size) (fun t => hn (h.tb b hb t))).trans (h.keep b hb hn),
   fun b hb hn o => (h'.immK b (Nat.lt_of_lt_of_le hb h.size) (fun t => hn (h.tb b hb t)) o).trans (h.immK b hb hn o),
   fun b hb t => h.tb b hb (h'.tb b (Nat.lt_of_lt_of_le hb h.size) t), ⟨h'.env.1.trans h.env.1, h'.env.2.1.trans h.env.2.1, h'.env.2.2.trans h.env.2.2⟩, h'.fix.trans h.fix⟩
theorem Good.refl {G : Ghost} {st : St} {W : World} (h : Sim G st W) : Good G W G st W := ⟨h, .refl _ _, .refl _, fun _ h => h⟩
theorem Good.trans {A B C : Ghost} {U V W : World} {s t : St} (h : Good A U B s V) (h' : Good B V C t W) : Good A U C t W :=
  ⟨h'.sim, h.ext.trans h'.ext, h.le.trans h'.le, fun b hb => h'.res b (h.res b hb)⟩

variable {G : Ghost} {st : St} {W : World}

theorem Sim.fixE (h : Sim G st W) {G' : Ghost} {W' : World} (e : Ext G W G' W') : ∀ B o, G'.fix B = some o → W'.heap[B]? = some o ∧ ¬ TB G' B := fun B o hb => by
  rw [e.fix] at hb
  obtain ⟨h1, h2⟩ := h.fix B o hb
  have hlt := (Array.getElem?_eq_some_iff.1 h1).1
  exact ⟨by rw [e.keep B hlt h2]; exact h1, fun t => h2 (e.tb B hlt t)⟩
theorem Sim.to (h : Sim G st W) {G' : Ghost} {st' : St} {W' : World} (s : Sim0 G' st' W') (e : Ext G W G' W') : Sim G' st' W' := ⟨s, h.fixE e⟩
theorem mkGood (h : Sim G st W) {G' : Ghost} {st' : St} {W' : World} (s : Sim0 G' st' W') (e : Ext G W G' W') (l : Le G G') (r : ∀ b, G.res b = true → G'.res b = true) : Good G W G' st' W' := ⟨h.to s e, e, l, r⟩

theorem Sim.of_heap {W' : World} (h : Sim G st W) (e : W'.heap = W.heap) : Sim G st W' :=
  ⟨⟨by rw [e]; exact h.imm, h.dom, fun b B hb => by
     obtain ⟨⟨cs, c, T, h1, h2, h3⟩, h4⟩ := h.box b B hb
     exact ⟨⟨cs, c, T, h1, by rw [e]; exact h2, h3⟩, h4⟩, h.inj, fun b d hd => by
     have t := h.tip b d hd
     exact ⟨t.st, t.nobox, t.le, t.none, t.pos, by rw [e]; exact t.room⟩, h.tinj, h.base, h.res⟩, by rw [e]; exact h.fix⟩
theorem Ext.of_heap {G' : Ghost} {W' W'' : World} (h : Ext G W G' W') (e : W''.heap = W'.heap) (o : W''.os = W'.os ∧ W''.tape = W'.tape ∧ W''.output = W'.output) : Ext G W G' W'' :=
  ⟨h.imm, by rw [e]; exact h.size, by rw [e]; exact h.keep, h.immK, h.tb, ⟨o.1.trans h.env.1, o.2.1.trans h.env.2.1, o.2.2.trans h.env.2.2⟩, h.fix⟩
theorem Good.of_heap {G' : Ghost} {st' : St} {W' W'' : World} (h : Good G W G' st' W') (e : W''.heap = W'.heap) (o : W''.os = W'.os ∧ W''.tape = W'.tape ∧ W''.output = W'.output) : Good G W G' st' W'' :=
  ⟨h.sim.of_heap e, h.ext.of_heap e o, h.le, h.res⟩

theorem Sim.lt_box (h : Sim G st W) {b B : Nat} (hb : G.box b = some B) : b < st.length ∧ B < W.heap.size := by
  obtain ⟨⟨cs, c, T, h1, h2, _⟩, _⟩ := h.box b B hb
  exact ⟨(List.getElem?_eq_some_iff.1 h1).1, (Array.getElem?_eq_some_iff.1 h2).1⟩
theorem Sim.lt_hdr (h : Sim G st W) {b : Nat} {d : Hdr} (hb : G.hdr b = some d) : b < st.length :=
  (List.getElem?_eq_some_iff.1 (h.tip b d hb).st).1
theorem Sim.lt_imm (h : Sim G st W) {B o : Nat} {v : Value} (hb : G.imm B o = some v) : B < W.heap.size := by
  obtain ⟨c, T, f, h1, _⟩ := h.imm B o v hb
  exact (Array.getElem?_eq_some_iff.1 h1).1
theorem Sim.lt_tb (h : Sim G st W) {B : Nat} (t : TB G B) : B < W.heap.size := by
  rcases t with ⟨b, hb⟩ | ⟨b, d, hd, ht, ha⟩
  · exact (h.lt_box hb).2
  · obtain ⟨B', c, T, h1, h2, _⟩ := (h.tip b d hd).room ht
    rw [h1] at ha; cases ha
    exact (Array.getElem?_eq_some_iff.1 h2).1
theorem Sim.refs_lt (h : Sim G st W) {x : V} {v : Value} (hr : Rep G x v) : ∀ b ∈ refs x, b < st.length := fun b hb => by
  rcases Rep.dom x v hr b hb with ⟨B, e⟩ | ⟨d, e⟩
  · exact (h.lt_box e).1
  · exact h.lt_hdr e
theorem Sim.cell (h : Sim G st W) {B o : Nat} {v : Value} (hb : G.imm B o = some v) : W.cell? (adr B o) = some v := by
  obtain ⟨c, T, f, h1, h2⟩ := h.imm B o v hb
  simp [World.cell?, adr, h1, h2]

/- what is tracked names its block whole -/
theorem Hdr.room_addr (h : Sim G st W) {b : Nat} {d : Hdr} (hb : G.hdr b = some d) (hr : d.tip < d.cap) : ∃ B, d.addr = some (B, 0) ∧ TB G B := by
  obtain ⟨B, c, T, h1, _⟩ := (h.tip b d hb).room hr
  exact ⟨B, h1, .inr ⟨b, d, hb, hr, h1⟩⟩

/- a block more, that nobody tracks -/
theorem Sim.alloc (h : Sim G st W) (o : Obj) : Sim G st (W.alloc o) := by
  have old : ∀ {B : Nat} {x : Obj}, W.heap[B]? = some x → (W.alloc o).heap[B]? = some x := fun {B x} e => by
    rw [heap_alloc_old W o B (Array.getElem?_eq_some_iff.1 e).1]; exact e
  exact ⟨⟨fun B o v e => by obtain ⟨c, T, f, h1, h2⟩ := h.imm B o v e; exact ⟨c, T, f, old h1, h2⟩, h.dom,
    fun b B hb => by obtain ⟨⟨cs, c, T, h1, h2, h3⟩, h4⟩ := h.box b B hb; exact ⟨⟨cs, c, T, h1, old h2, h3⟩, h4⟩, h.inj,
    fun b d hd => by
      have t := h.tip b d hd
      exact ⟨t.st, t.nobox, t.le, t.none, t.pos, fun hr => by
        obtain ⟨B, c, T, h1, h2, h3⟩ := t.room hr
        exact ⟨B, c, T, h1, old h2, h3⟩⟩, h.tinj, h.base, h.res⟩, fun B x e => ⟨old (h.fix B x e).1, (h.fix B x e).2⟩⟩
theorem Ext.alloc (G : Ghost) (W : World) (o : Obj) : Ext G W G (W.alloc o) :=
  ⟨fun _ _ _ h => h, by simp, fun B hB _ => heap_alloc_old W o B hB, fun _ _ _ _ => rfl, fun _ _ h => h, ⟨rfl, rfl, rfl⟩, rfl⟩
theorem Good.alloc (h : Sim G st W) (o : Obj) : Good G W G st (W.alloc o) := ⟨h.alloc o, .alloc G W o, .refl _, fun _ h => h⟩

/- a new box -/
def Ghost.addBox (G : Ghost) (n B : Nat) : Ghost := { G with box := fun b => if b = n then some B else G.box b }

theorem Good.pushBox (h : Sim G st W) (c : Array Value) (T : TypeId) {cs : List V} (hr : Reps G cs c.toList) :
    Good G W (G.addBox st.length W.heap.size) (st ++ [cs]) (W.alloc (.cells c T)) ∧ (G.addBox st.length W.heap.size).box st.length = some W.heap.size := by
  have hd := h.dom st.length (Nat.le_refl _)
  have le : Le G (G.addBox st.length W.heap.size) := ⟨fun _ _ _ e => e, fun b B e => by
    have hne : b ≠ st.length := by intro hb; rw [hb, hd.1] at e; cases e
    simp [Ghost.addBox, hne, e], fun b d e => ⟨d, e, .refl d⟩⟩
  have hs := h.alloc (.cells c T)
  have himm : ∀ o, G.imm W.heap.size o = none := fun o => by
    cases e : G.imm W.heap.size o with
    | none => rfl
    | some v => exact absurd (h.lt_imm e) (Nat.lt_irrefl _)
  have getold : ∀ b x, st[b]? = some x → (st ++ [cs])[b]? = some x := fun b x e => by
    rw [List.getElem?_append_left (List.getElem?_eq_some_iff.1 e).1]; exact e
  refine ⟨mkGood h ⟨hs.imm, fun b hb => ?_, fun b B hb => ?_, fun b b' B hb hb' => ?_, fun b d hd' => ?_, hs.tinj, h.base, fun b hb => ?_⟩ ⟨fun _ _ _ e => e, by simp, fun B hB _ => heap_alloc_old W _ B hB, fun _ _ _ _ => rfl, fun B hB t => ?_, ⟨rfl, rfl, rfl⟩, rfl⟩ le (fun _ h => h), by simp [Ghost.addBox]⟩
  · simp only [List.length_append, List.length_singleton] at hb
    have := h.dom b (by omega)
    exact ⟨by simp [Ghost.addBox, show b ≠ st.length by omega, this.1], this.2⟩
  · by_cases hbn : b = st.length
    · subst hbn
      simp only [Ghost.addBox, if_true, Option.some.injEq] at hb
      subst hb
      exact ⟨⟨cs, c, T, by simp, heap_alloc_new W _, hr.le le⟩, himm⟩
    · simp only [Ghost.addBox, hbn, if_false] at hb
      obtain ⟨⟨cs', c', T', h1, h2, h3⟩, h4⟩ := hs.box b B hb
      exact ⟨⟨cs', c', T', getold _ _ h1, h2, h3.le le⟩, h4⟩
  · by_cases h1 : b = st.length <;> by_cases h2 : b' = st.length <;> simp only [Ghost.addBox, h1, h2, if_true, if_false, Option.some.injEq] at hb hb'
    · omega
    · subst hb; exact absurd (h.lt_box hb').2 (Nat.lt_irrefl _)
    · subst hb'; exact absurd (h.lt_box hb).2 (Nat.lt_irrefl _)
    · exact h.inj b b' B hb hb'
  · have t := hs.tip b d hd'
    have hne : b ≠ st.length := by intro e; rw [e] at hd'; rw [show (G.addBox st.length W.heap.size).hdr = G.hdr from rfl, hd.2] at hd'; cases hd'
    refine ⟨getold _ _ t.st, by simp [Ghost.addBox, hne, t.nobox], t.le, t.none, t.pos, fun hr' => ?_⟩
    obtain ⟨B, c', T', h1, h2, h3, h4, h5⟩ := t.room hr'
    refine ⟨B, c', T', h1, h2, h3, h4, fun b' => ?_⟩
    by_cases hb' : b' = st.length
    · simp only [Ghost.addBox, hb', if_true, ne_eq, Option.some.injEq]
      intro e
      have := h.lt_tb (.inr ⟨b, d, hd', hr', h1⟩)
      omega
    · simpa [Ghost.addBox, hb'] using h5 b'
  · obtain ⟨r1, r2, r3⟩ := h.res b hb
    exact ⟨by simp; omega, by simp [Ghost.addBox, show b ≠ st.length by omega, r2], r3⟩
  · rcases t with ⟨b, hb⟩ | t
    · by_cases hbn : b = st.length
      · simp only [Ghost.addBox, hbn, if_true, Option.some.injEq] at hb; omega
      · simp only [Ghost.addBox, hbn, if_false] at hb; exact .inl ⟨b, hb⟩
    · exact .inr t

/- a place that was held back gets its box -/
def Ghost.fillBox (G : Ghost) (n B : Nat) : Ghost := { G with box := fun b => if b = n then some B else G.box b, res := fun b => if b = n then false else G.res b }

theorem Good.fillBox (h : Sim G st W) {n : Nat} (hn : G.res n = true) (c : Array Value) (T : TypeId) {cs : List V} (hs0 : st[n]? = some cs) (hr : Reps G cs c.toList) :
    Sim (G.fillBox n W.heap.size) st (W.alloc (.cells c T)) ∧ Ext G W (G.fillBox n W.heap.size) (W.alloc (.cells c T)) ∧ Le G (G.fillBox n W.heap.size) ∧
      (G.fillBox n W.heap.size).box n = some W.heap.size ∧ ∀ b, b ≠ n → G.res b = true → (G.fillBox n W.heap.size).res b = true := by
  obtain ⟨hlt, hnb, hnh⟩ := h.res n hn
  have le : Le G (G.fillBox n W.heap.size) := ⟨fun _ _ _ e => e, fun b B e => by
    have hne : b ≠ n := by intro hb; rw [hb, hnb] at e; cases e
    simp [Ghost.fillBox, hne, e], fun b d e => ⟨d, e, .refl d⟩⟩
  have hs := h.alloc (.cells c T)
  have himm : ∀ o, G.imm W.heap.size o = none := fun o => by
    cases e : G.imm W.heap.size o with
    | none => rfl
    | some v => exact absurd (h.lt_imm e) (Nat.lt_irrefl _)
  have fin : ∀ (s : Sim0 (G.fillBox n W.heap.size) st (W.alloc (.cells c T))) (e : Ext G W (G.fillBox n W.heap.size) (W.alloc (.cells c T))), Sim (G.fillBox n W.heap.size) st (W.alloc (.cells c T)) ∧ Ext G W (G.fillBox n W.heap.size) (W.alloc (.cells c T)) ∧ Le G (G.fillBox n W.heap.size) ∧ (G.fillBox n W.heap.size).box n = some W.heap.size ∧ ∀ b, b ≠ n → G.res b = true → (G.fillBox n W.heap.size).res b = true := fun s e => ⟨h.to s e, e, le, by simp [Ghost.fillBox], fun b hne hb => by simp [Ghost.fillBox, hne, hb]⟩
  refine fin ⟨hs.imm, fun b hb => ?_, fun b B hb => ?_, fun b b' B hb hb' => ?_, fun b d hd' => ?_, hs.tinj, h.base, fun b hb => ?_⟩ ⟨fun _ _ _ e => e, by simp, fun B hB _ => heap_alloc_old W _ B hB, fun _ _ _ _ => rfl, fun B hB t => ?_, ⟨rfl, rfl, rfl⟩, rfl⟩
  · have := h.dom b hb
    exact ⟨by simp [Ghost.fillBox, show b ≠ n by omega, this.1], this.2⟩
  · by_cases hbn : b = n
    · subst hbn
      simp only [Ghost.fillBox, if_true, Option.some.injEq] at hb
      subst hb
      exact ⟨⟨cs, c, T, hs0, heap_alloc_new W _, hr.le le⟩, himm⟩
    · simp only [Ghost.fillBox, hbn, if_false] at hb
      obtain ⟨⟨cs', c', T', h1, h2, h3⟩, h4⟩ := hs.box b B hb
      exact ⟨⟨cs', c', T', h1, h2, h3.le le⟩, h4⟩
  · by_cases h1 : b = n <;> by_cases h2 : b' = n <;> simp only [Ghost.fillBox, h1, h2, if_true, if_false, Option.some.injEq] at hb hb'
    · omega
    · subst hb; exact absurd (h.lt_box hb').2 (Nat.lt_irrefl _)
    · subst hb'; exact absurd (h.lt_box hb).2 (Nat.lt_irrefl _)
    · exact h.inj b b' B hb hb'
  · have t := hs.tip b d hd'
    have hne : b ≠ n := by intro e; rw [e] at hd'; rw [show (G.fillBox n W.heap.size).hdr = G.hdr from rfl, hnh] at hd'; cases hd'
    refine ⟨t.st, by simp [Ghost.fillBox, hne, t.nobox], t.le, t.none, t.pos, fun hr' => ?_⟩
    obtain ⟨B, c', T', h1, h2, h3, h4, h5⟩ := t.room hr'
    refine ⟨B, c', T', h1, h2, h3, h4, fun b' => ?_⟩
    by_cases hb' : b' = n
    · simp only [Ghost.fillBox, hb', if_true, ne_eq, Option.some.injEq]
      intro e
      have := h.lt_tb (.inr ⟨b, d, hd', hr', h1⟩)
      omega
    · simpa [Ghost.fillBox, hb'] using h5 b'
  · by_cases hbn : b = n
    · subst hbn; simp [Ghost.fillBox] at hb
    · simp only [Ghost.fillBox, hbn, if_false] at hb
      obtain ⟨r1, r2, r3⟩ := h.res b hb
      exact ⟨r1, by simp [Ghost.fillBox, hbn, r2], r3⟩
  · rcases t with ⟨b, hb⟩ | t
    · by_cases hbn : b = n
      · simp only [Ghost.fillBox, hbn, if_true, Option.some.injEq] at hb; omega
      · simp only [Ghost.fillBox, hbn, if_false] at hb; exact .inl ⟨b, hb⟩
    · exact .inr t

/- places are held back -/
def Ghost.hold (G : Ghost) (lo hi : Nat) : Ghost := { G with res := fun b => G.res b || (decide (lo ≤ b) && decide (b < hi)) }
theorem Good.hold (h : Sim G st W) (zs : List (List V)) : Good G W (G.hold st.length (st.length + zs.length)) (st ++ zs) W := by
  have le : Le G (G.hold st.length (st.length + zs.length)) := ⟨fun _ _ _ e => e, fun _ _ e => e, fun _ d e => ⟨d, e, .refl d⟩⟩
  have getold : ∀ b x, st[b]? = some x → (st ++ zs)[b]? = some x := fun b x e => by
    rw [List.getElem?_append_left (List.getElem?_eq_some_iff.1 e).1]; exact e
  refine mkGood h ⟨h.imm, fun b hb => h.dom b (by rw [List.length_append] at hb; omega), fun b B hb => ?_, h.inj, fun b d hd => ?_, h.tinj, h.base, fun b hb => ?_⟩ ⟨fun _ _ _ e => e, Nat.le_refl _, fun _ _ _ => rfl, fun _ _ _ _ => rfl, fun _ _ t => t, ⟨rfl, rfl, rfl⟩, rfl⟩ le (fun b hb => by simp [Ghost.hold, hb])
  · obtain ⟨⟨cs, c, T, h1, h2, h3⟩, h4⟩ := h.box b B hb
    exact ⟨⟨cs, c, T, getold _ _ h1, h2, h3.le le⟩, h4⟩
  · have t := h.tip b d hd
    exact ⟨getold _ _ t.st, t.nobox, t.le, t.none, t.pos, t.room⟩
  · rw [List.length_append]
    simp only [Ghost.hold, Bool.or_eq_true, Bool.and_eq_true, decide_eq_true_eq] at hb
    rcases hb with hb | hb
    · obtain ⟨r1, r2⟩ := h.res b hb
      exact ⟨by omega, r2⟩
    · exact ⟨hb.2, h.dom b hb.1⟩

/- a box is written -/
theorem Good.setBox (h : Sim G st W) {b B : Nat} (hb : G.box b = some B) {c' : Array Value} {cs' : List V} (hr : Reps G cs' c'.toList) :
    Good G W G (st.set b cs') (W.setRow B c') := by
  obtain ⟨⟨cs, c, T, h1, h2, h3⟩, h4⟩ := h.box b B hb
  have hbl : b < st.length := (List.getElem?_eq_some_iff.1 h1).1
  have other : ∀ k, k ≠ B → (W.setRow B c').heap[k]? = W.heap[k]? := fun k hk => setRow_other W B k c' hk
  have this : (W.setRow B c').heap[B]? = some (.cells c' T (0, 0)) := setRow_heap W B c c' T (0, 0) h2
  refine mkGood h ⟨fun B' o v e => ?_, fun b' hb' => h.dom b' (by simpa using hb'), fun b' B' hb' => ?_, h.inj, fun b' d hd => ?_, h.tinj, h.base, fun b' hb' => by obtain ⟨r1, r2⟩ := h.res b' hb'; exact ⟨by simpa using r1, r2⟩⟩
    ⟨fun _ _ _ e => e, by simp, fun B' _ hn => other B' (fun e => hn (.inl ⟨b, by rw [e]; exact hb⟩)), fun _ _ _ _ => rfl, fun _ _ t => t, ⟨rfl, rfl, rfl⟩, rfl⟩ (.refl _) (fun _ h => h)
  · have hne : B' ≠ B := by intro e'; rw [e', h4 o] at e; cases e
    rw [other B' hne]; exact h.imm B' o v e
  · by_cases hbb : b' = b
    · subst hbb
      rw [hb] at hb'; cases hb'
      exact ⟨⟨cs', c', T, by simp [hbl], this, hr⟩, h4⟩
    · have hne : B' ≠ B := fun e => hbb (h.inj b' b B (e ▸ hb') hb)
      obtain ⟨⟨cs2, c2, T2, k1, k2, k3⟩, k4⟩ := h.box b' B' hb'
      exact ⟨⟨cs2, c2, T2, by rw [List.getElem?_set_ne (Ne.symm hbb)]; exact k1, by rw [other B' hne]; exact k2, k3⟩, k4⟩
  · have t := h.tip b' d hd
    have hne : b' ≠ b := by intro e; rw [e] at hd; have := (h.tip b d hd).nobox; rw [hb] at this; cases this
    refine ⟨by rw [List.getElem?_set_ne (Ne.symm hne)]; exact t.st, t.nobox, t.le, t.none, t.pos, fun hr' => ?_⟩
    obtain ⟨B', c2, T2, k1, k2, k3, k4, k5⟩ := t.room hr'
    exact ⟨B', c2, T2, k1, by rw [other B' (fun e => k5 b (by rw [e]; exact hb))]; exact k2, k3, k4, k5⟩

/- what has no room left is owned -/
def Ghost.addHdr (G : Ghost) (n : Nat) (h : Hdr) : Ghost := { G with hdr := fun b => if b = n then some h else G.hdr b }

theorem Le.addHdr (h : Sim G st W) (d : Hdr) : Le G (G.addHdr st.length d) :=
  ⟨fun _ _ _ e => e, fun _ _ e => e, fun b x e => ⟨x, by
    have hne : b ≠ st.length := by intro hb; rw [hb, (h.dom st.length (Nat.le_refl _)).2] at e; cases e
    simp [Ghost.addHdr, hne, e], .refl x⟩⟩

theorem Good.pushFull (h : Sim G st W) (d : Hdr) (hc : d.cap = d.tip) (hn : d.addr = none → d.cap = 0) :
    Good G W (G.addHdr st.length d) (st ++ [[.tip d.tip]]) W := by
  have hd := h.dom st.length (Nat.le_refl _)
  have le := Le.addHdr h d
  have getold : ∀ b x, st[b]? = some x → (st ++ [[V.tip d.tip]])[b]? = some x := fun b x e => by
    rw [List.getElem?_append_left (List.getElem?_eq_some_iff.1 e).1]; exact e
  refine mkGood h ⟨h.imm, fun b hb => ?_, fun b B hb => ?_, h.inj, fun b x hx => ?_, fun b b' x x' hx hx' r r' e => ?_, h.base, fun b hb => by obtain ⟨r1, r2, r3⟩ := h.res b hb; exact ⟨by simp; omega, r2, by simp [Ghost.addHdr, show b ≠ st.length by omega, r3]⟩⟩ ⟨fun _ _ _ e => e, Nat.le_refl _, fun _ _ _ => rfl, fun _ _ _ _ => rfl, fun B hB t => ?_, ⟨rfl, rfl, rfl⟩, rfl⟩ le (fun _ h => h)
  · simp only [List.length_append, List.length_singleton] at hb
    have := h.dom b (by omega)
    exact ⟨this.1, by simp [Ghost.addHdr, show b ≠ st.length by omega, this.2]⟩
  · obtain ⟨⟨cs, c, T, h1, h2, h3⟩, h4⟩ := h.box b B hb
    exact ⟨⟨cs, c, T, getold _ _ h1, h2, h3.le le⟩, h4⟩
  · by_cases hb : b = st.length
    · subst hb
      simp only [Ghost.addHdr, if_true, Option.some.injEq] at hx
      subst hx
      exact ⟨by simp, hd.1, by omega, hn, fun r => by omega, fun r => by omega⟩
    · simp only [Ghost.addHdr, hb, if_false] at hx
      have t := h.tip b x hx
      exact ⟨getold _ _ t.st, t.nobox, t.le, t.none, t.pos, t.room⟩
  · have k : ∀ {b x}, (G.addHdr st.length d).hdr b = some x → x.tip < x.cap → G.hdr b = some x := fun {b x} e r => by
      by_cases hb : b = st.length
      · subst hb; simp only [Ghost.addHdr, if_true, Option.some.injEq] at e; subst e; omega
      · simpa [Ghost.addHdr, hb] using e
    exact h.tinj b b' x x' (k hx r) (k hx' r') r r' e
  · rcases t with ⟨b, hb⟩ | ⟨b, x, hx, r, ha⟩
    · exact .inl ⟨b, hb⟩
    · by_cases hb : b = st.length
      · subst hb; simp only [Ghost.addHdr, if_true, Option.some.injEq] at hx; subst hx; omega
      · exact .inr ⟨b, x, by simpa [Ghost.addHdr, hb] using hx, r, ha⟩

/- boxes are forgotten from some place on -/
def Ghost.cut (G : Ghost) (n : Nat) : Ghost := { G with box := fun b => if b < n then G.box b else none, hdr := fun b => if b < n then G.hdr b else none, res := fun b => decide (b < n) && G.res b }

theorem Tr.cut (G : Ghost) (n : Nat) (L : List Nat) (h : ∀ b ∈ L, b < n) : Tr G (G.cut n) id L :=
  ⟨fun _ _ _ e => e, fun b hb B e => by simp [Ghost.cut, h b hb, e], fun b hb d e => ⟨d, by simp [Ghost.cut, h b hb, e], .refl d⟩⟩
theorem Rep.cut {x : V} {v : Value} {n : Nat} (hr : Rep G x v) (h : ∀ b ∈ refs x, b < n) : Rep (G.cut n) x v := by
  have := Rep.tr x v (Tr.cut G n _ h) hr
  rwa [ren_id id x (fun _ _ => rfl)] at this
theorem Reps.cut {xs : List V} {vs : List Value} {n : Nat} (hr : Reps G xs vs) (h : ∀ b ∈ refsL xs, b < n) : Reps (G.cut n) xs vs := by
  have := Reps.tr xs vs (Tr.cut G n _ h) hr
  rwa [renL_id id xs (fun _ _ => rfl)] at this

theorem Sim.cut (h : Sim G st W) {n : Nat} (hc : ∀ b, b < n → ∀ r ∈ refsL (st.getD b []), r < n) : Sim (G.cut n) (st.take n) W := by
  have bx : ∀ {b B}, (G.cut n).box b = some B → b < n ∧ G.box b = some B := fun {b B} e => by
    simp only [Ghost.cut] at e; split at e
    · exact ⟨‹_›, e⟩
    · cases e
  have hx : ∀ {b d}, (G.cut n).hdr b = some d → b < n ∧ G.hdr b = some d := fun {b B} e => by
    simp only [Ghost.cut] at e; split at e
    · exact ⟨‹_›, e⟩
    · cases e
  refine ⟨⟨h.imm, fun b hb => ?_, fun b B hb => ?_, fun b b' B hb hb' => h.inj b b' B (bx hb).2 (bx hb').2, fun b d hd => ?_, fun b b' x x' e e' => h.tinj b b' x x' (hx e).2 (hx e').2, h.base, fun b hb => ?_⟩, fun B o e => ⟨(h.fix B o e).1, fun t => (h.fix B o e).2 (by
    rcases t with ⟨b, hb⟩ | ⟨b, d, hd, r, ha⟩
    · exact .inl ⟨b, (bx hb).2⟩
    · exact .inr ⟨b, d, (hx hd).2, r, ha⟩)⟩⟩
  · rw [List.length_take] at hb
    by_cases hbn : b < n
    · have := h.dom b (by omega)
      simp [Ghost.cut, hbn, this]
    · simp [Ghost.cut, hbn]
  · obtain ⟨hbn, hb⟩ := bx hb
    obtain ⟨⟨cs, c, T, h1, h2, h3⟩, h4⟩ := h.box b B hb
    refine ⟨⟨cs, c, T, by rw [List.getElem?_take_of_lt hbn]; exact h1, h2, h3.cut ?_⟩, h4⟩
    have := hc b hbn
    simpa [List.getD, h1] using this
  · obtain ⟨hbn, hd⟩ := hx hd
    have t := h.tip b d hd
    refine ⟨by rw [List.getElem?_take_of_lt hbn]; exact t.st, by simp [Ghost.cut, t.nobox], t.le, t.none, t.pos, fun r => ?_⟩
    obtain ⟨B, c, T, h1, h2, h3, h4, h5⟩ := t.room r
    exact ⟨B, c, T, h1, h2, h3, h4, fun b' e => h5 b' (bx e).2⟩
  · simp only [Ghost.cut, Bool.and_eq_true, decide_eq_true_eq] at hb
    obtain ⟨r1, r2, r3⟩ := h.res b hb.2
    exact ⟨by rw [List.length_take]; omega, by simp [Ghost.cut, r2], by simp [Ghost.cut, r3]⟩

theorem Ext.cut {G' : Ghost} {W' : World} (h : Ext G W G' W') (n : Nat) : Ext G W (G'.cut n) W' :=
  ⟨h.imm, h.size, h.keep, h.immK, fun B hB t => h.tb B hB (by
    rcases t with ⟨b, hb⟩ | ⟨b, d, hd, r, ha⟩
    · simp only [Ghost.cut] at hb; split at hb
      · exact .inl ⟨b, hb⟩
      · cases hb
    · simp only [Ghost.cut] at hd; split at hd
      · exact .inr ⟨b, d, hd, r, ha⟩
      · cases hd), h.env, h.fix⟩
theorem Le.cut {G' : Ghost} (h : Le G G') (s : Sim G st W) {n : Nat} (hn : st.length ≤ n) : Le G (G'.cut n) :=
  ⟨h.imm, fun b B e => by have := (s.lt_box e).1; simp [Ghost.cut, show b < n by omega, h.box b B e], fun b d e => by
    have := s.lt_hdr e
    obtain ⟨d', e', l⟩ := h.hdr b d e
    exact ⟨d', by simp [Ghost.cut, show b < n by omega, e'], l⟩⟩

end Go.Abs

