/- Nodes, values and rows, read as arguments. -/
import Derived.Test.YthdcamicjblnkaaFnNode
import Derived.Test.YthdcamicjblnkaaAbsRead
namespace Go.Abs
set_option linter.unusedSimpArgs false
set_option linter.unusedVariables false
open Go Go.Proofs

def Val.q (v : Val) : Prop := inI v.kind ∧ inI v.n
def Val.sz (v : Val) : Nat := v.s.length + 4
mutual
def Node.q : Node → Prop
  | .mk _ v var col kids => v.q ∧ inI var ∧ inI col ∧ Node.qs kids
def Node.qs : List Node → Prop
  | [] => True
  | n :: l => n.q ∧ Node.qs l
end
mutual
def Node.sz : Node → Nat
  | .mk op v _ _ kids => op.length + 1 + (v.sz + (1 + (1 + (Node.szl kids + 1)))) + 1
def Node.szl : List Node → Nat
  | [] => 0
  | n :: l => n.sz + Node.szl l
end
theorem qs_iff : ∀ l : List Node, Node.qs l ↔ ∀ m ∈ l, m.q
  | [] => by simp [Node.qs]
  | n :: l => by simp [Node.qs, qs_iff l]
theorem szl_eq : ∀ l : List Node, Node.szl l = szs Node.sz l
  | [] => rfl
  | n :: l => by simp [Node.szl, szs, szl_eq l]
theorem sz_pos : ∀ n : Node, 1 ≤ n.sz
  | .mk op v var col kids => by simp only [Node.sz]; omega
mutual
theorem ok_of : ∀ n : Node, n.q → n.sz ≤ 1048576 → n.ok
  | .mk op v var col kids, h, hs => by
    obtain ⟨hv, h1, h2, h3⟩ := h
    simp only [Node.sz, Val.sz] at hs
    have hl := szs_len Node.sz sz_pos kids
    rw [← szl_eq] at hl
    exact ⟨by omega, ⟨hv.1, hv.2, by omega⟩, h1, h2, by omega, oks_of kids h3 (by omega)⟩
theorem oks_of : ∀ l : List Node, Node.qs l → Node.szl l ≤ 1048576 → Node.oks l
  | [], _, _ => trivial
  | n :: l, h, hs => by
    simp only [Node.szl] at hs
    exact ⟨ok_of n h.1 (by omega), oks_of l h.2 (by omega)⟩
end

theorem inI_of {m : Int} (h : (Lit.int .i64 m).wf = true) : inI m := by
  simpa [Lit.wf, IntKind.min, IntKind.max, IntKind.signed, IntKind.bits, inI] using h

section
variable {H : Type} {enc : TypeId × Value → H} {W : World}

theorem cells3 : Try.prog.cellsOf 3 = 1 := by kernel_rfl
theorem cells9 : Try.prog.cellsOf 9 = 1 := by kernel_rfl
theorem cells37 : Try.prog.cellsOf 37 = 3 := by kernel_rfl
theorem cells23 : Try.prog.cellsOf 23 = 1 := by kernel_rfl
theorem cells51 : Try.prog.cellsOf 51 = 7 := by kernel_rfl
theorem cells26 : Try.prog.cellsOf 26 = 1 := by kernel_rfl
theorem rs_i64 (n : Nat) : Rs enc Try.prog W n 3 (V.int .i64) inI (fun _ => 1) := (Rs.int Try.underlying3 n).map id fun a h => ⟨inI_of h, Nat.le_refl _, rfl⟩
theorem rs_text (n : Nat) : Rs enc Try.prog W n 9 V.str (fun _ => True) (fun s => s.length + 1) := Rs.str Try.underlying9 n
theorem rs_val (n : Nat) : Rs enc Try.prog W n 37 Val.enc Val.q Val.sz :=
  Rs.struct Try.underlying37 (L := 3) (by kernel_rfl) (fun m _ => RsF.cons (w := 1) (by kernel_rfl) (rs_i64 m) (RsF.cons (w := 1) (by kernel_rfl) (rs_i64 m) (RsF.cons (w := 1) (by kernel_rfl) (rs_text m) RsF.nil)))
    (fun p => ⟨p.1, p.2.1, p.2.2.1⟩) fun ⟨k, n, s, _⟩ h => ⟨⟨h.1, h.2.1⟩, (by simp only [Val.sz]; omega), rfl⟩
theorem well_val : Well Try.prog 37 Val.enc := ⟨fun a => (by rw [cells37]; rfl), fun a => rfl, fun a => rfl⟩
theorem well_node : Well Try.prog 51 Node.enc := ⟨fun ⟨op, v, var, col, kids⟩ => (by rw [cells51, enc_mk]; rfl), fun ⟨op, v, var, col, kids⟩ => (by rw [enc_mk]; rfl), fun ⟨op, v, var, col, kids⟩ => by rw [enc_mk]; rfl⟩
theorem rs_node : ∀ n : Nat, Rs enc Try.prog W n 51 Node.enc Node.q Node.sz := by
  intro n
  induction n using Nat.strongRecOn with
  | ind n ih =>
    exact Rs.struct Try.underlying51 (L := 7) (by kernel_rfl) (fun m hm => RsF.cons (w := 1) (by kernel_rfl) (rs_text m) (RsF.cons (w := 3) (by kernel_rfl) (rs_val m) (RsF.cons (w := 1) (by kernel_rfl) (rs_i64 m) (RsF.cons (w := 1) (by kernel_rfl) (rs_i64 m)
      (RsF.cons (w := 1) (by kernel_rfl) (Rs.slice Try.underlying23 well_node (by rw [cells51]; omega) fun m' hm' => ih m' (by omega)) RsF.nil)))))
      (fun p => .mk p.1 p.2.1 p.2.2.1 p.2.2.2.1 p.2.2.2.2.1) fun ⟨op, v, var, col, kids, _⟩ h => ⟨⟨h.2.1, h.2.2.1, h.2.2.2.1, (qs_iff _).2 h.2.2.2.2.1⟩, (by simp only [Node.sz, szl_eq]; omega), by rw [enc_mk]; rfl⟩
theorem rs_nodes (n : Nat) : Rs enc Try.prog W n 23 (fun l : List Node => V.slice .froz (l.map Node.enc)) (fun l => ∀ x ∈ l, Node.q x) (fun l => szs Node.sz l + 1) :=
  Rs.slice Try.underlying23 well_node (by rw [cells51]; omega) fun m _ => rs_node m
def rowQ (r : List Val) : Prop := ∀ v ∈ r, v.q
def rowZ (r : List Val) : Nat := szs Val.sz r + 1
theorem rs_row (n : Nat) : Rs enc Try.prog W n 26 rowE rowQ rowZ :=
  Rs.slice Try.underlying26 well_val (by rw [cells37]; omega) fun m _ => rs_val m
theorem well_row : Well Try.prog 26 rowE := ⟨fun a => (by rw [cells26]; rfl), fun a => rfl, fun a => rfl⟩
theorem rs_rows (n : Nat) : Rs enc Try.prog W n 57 (fun l : List (List Val) => V.slice .froz (rowsE l)) (fun l => ∀ r ∈ l, rowQ r) (fun l => szs rowZ l + 1) :=
  Rs.slice Try.underlying57 well_row (by rw [cells26]; omega) fun m _ => rs_row m
end
end Go.Abs
