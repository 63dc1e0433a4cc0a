/- A block that nobody tracks may be turned. -/
import Derived.Test.YtjafjngbllmgbaaDoorAbsLim
import Derived.Carry
namespace Go.Abs
open Go

/- one block that nobody tracks is turned -/
structure Turned (B : Nat) (c : Array Value) (t : TypeId) (W W' : World) : Prop where
  env : W'.os = W.os ∧ W'.tape = W.tape ∧ W'.output = W.output
  size : W.heap.size ≤ W'.heap.size
  at_ : W'.heap[B]? = some (.cells c t (0, 0))
  other : ∀ k, k ≠ B → k < W.heap.size → W'.heap[k]? = W.heap[k]?

theorem Turned.trans {B : Nat} {c c' : Array Value} {t : TypeId} {U V W : World} (h : Turned B c t U V) (h' : Turned B c' t V W) : Turned B c' t U W :=
  ⟨⟨h'.env.1.trans h.env.1, h'.env.2.1.trans h.env.2.1, h'.env.2.2.trans h.env.2.2⟩, Nat.le_trans h.size h'.size, h'.at_, fun k hk hlt => (h'.other k hk (Nat.lt_of_lt_of_le hlt h.size)).trans (h.other k hk hlt)⟩

theorem Good.turned {G0 G : Ghost} {W0 W W' : World} {st0 st : St} (g : Good G0 W0 G st W) (s0 : Sim G0 st0 W0) {B : Nat} {c : Array Value} {t : TypeId} (h : Turned B c t W W') (hB : W0.heap.size ≤ B) (hi : ∀ o, G.imm B o = none) (ht : ¬ TB G B) : Good G0 W0 G st W' := by
  have old : ∀ {k : Nat} {x : Obj}, k ≠ B → W.heap[k]? = some x → W'.heap[k]? = some x := fun {k x} hk e => by
    rw [h.other k hk (Array.getElem?_eq_some_iff.1 e).1]; exact e
  refine ⟨⟨⟨fun k o v e => ?_, g.sim.dom, fun b k hb => ?_, g.sim.inj, fun b d hd => ?_, g.sim.tinj, g.sim.base, g.sim.res⟩, fun k o e => ?_⟩,
    ⟨g.ext.imm, Nat.le_trans g.ext.size h.size, fun k hk hn => ?_, g.ext.immK, g.ext.tb, ⟨h.env.1.trans g.ext.env.1, h.env.2.1.trans g.ext.env.2.1, h.env.2.2.trans g.ext.env.2.2⟩, g.ext.fix⟩, g.le, g.res⟩
  · obtain ⟨c', T, f, h1, h2⟩ := g.sim.imm k o v e
    exact ⟨c', T, f, old (fun e' => by rw [e', hi] at e; cases e) h1, h2⟩
  · obtain ⟨⟨cs, c', T, h1, h2, h3⟩, h4⟩ := g.sim.box b k hb
    exact ⟨⟨cs, c', T, h1, old (fun e' => ht (.inl ⟨b, e' ▸ hb⟩)) h2, h3⟩, h4⟩
  · have q := g.sim.tip b d hd
    refine ⟨q.st, q.nobox, q.le, q.none, q.pos, fun r => ?_⟩
    obtain ⟨k, c', T, h1, h2, h3⟩ := q.room r
    exact ⟨k, c', T, h1, old (fun e' => ht (.inr ⟨b, d, hd, r, e' ▸ h1⟩)) h2, h3⟩
  · have q := g.sim.fix k o e
    rw [g.ext.fix] at e
    have hk := (Array.getElem?_eq_some_iff.1 (s0.fix k o e).1).1
    exact ⟨old (by omega) q.1, q.2⟩
  · rw [h.other k (by omega) (Nat.lt_of_lt_of_le hk g.ext.size)]
    exact g.ext.keep k hk hn

theorem turned_set {W : World} {B : Nat} {x0 x1 a b : Value} {t : TypeId} (h : W.heap[B]? = some (.cells #[x0, x1] t (0, 0))) :
    Turned B #[a, b] t W ((W.setCell ⟨B, 0, none⟩ a).setCell ⟨B, 1, none⟩ b) := by
  have hlt := (Array.getElem?_eq_some_iff.1 h).1
  refine ⟨⟨rfl, rfl, rfl⟩, by simp [World.setCell], ?_, fun k hk _ => ?_⟩
  · simp [World.setCell, Array.getElem?_modify, h]
  · simp only [World.setCell, Array.getElem?_modify]
    rw [if_neg (Ne.symm hk), if_neg (Ne.symm hk)]

theorem turned_alloc {W : World} {B : Nat} {c : Array Value} {t : TypeId} (h : W.heap[B]? = some (.cells c t (0, 0))) (o : Obj) : Turned B c t W (W.alloc o) :=
  ⟨⟨rfl, rfl, rfl⟩, by simp, by rw [RowKit.Below.heap_alloc _ _ _ (Array.getElem?_eq_some_iff.1 h).1]; exact h, fun k _ hlt => RowKit.Below.heap_alloc _ _ _ hlt⟩

theorem upon_does {P : Program} {o : Oper} {a : Act} {next : Act → World → Prop} {Q : Exit → Act → World → Prop} {g : FuncId} {vs : Array Value} {W : World} {R : Ending → World → Prop} (hd : Does P g vs W R)
    (hn : ∀ u W', R (.returned u) W' → next (a.put o.dst u) W') (hq : ∀ ch W', R (.panicked ch) W' → Q (.panic ch) a W') (ho : ∀ W', ¬ R .outgrown W') : Oper.upon P o a next Q ((callFunc g vs).run P W) := by
  unfold Does at hd
  cases hr : (callFunc g vs).run P W with
  | halt x w => rw [hr] at hd; exact hd.elim
  | ok n W1 =>
    rw [hr] at hd
    cases n <;> try exact hd.elim
    case value v => exact hn v W1 hd
    case enter g' vs' =>
      simp only at hd
      rw [Oper.upon_enter]
      refine Calls.mono hd fun e W2 hR => ?_
      cases e with
      | returned v => exact hn v W2 hR
      | panicked ch => exact hq ch W2 hR
      | outgrown => exact (ho W2 hR).elim

end Go.Abs
