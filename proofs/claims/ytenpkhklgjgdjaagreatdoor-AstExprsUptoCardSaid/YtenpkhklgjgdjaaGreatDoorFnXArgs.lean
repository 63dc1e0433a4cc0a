/- Expressions, read as arguments. -/
import Derived.Test.YtenpkhklgjgdjaaGreatDoorFnAstS
import Derived.Test.YtenpkhklgjgdjaaGreatDoorAbsRead
namespace Go.Abs
set_option linter.unusedSimpArgs false
set_option linter.unusedVariables false
open Go Go.Proofs

def Val.q (v : Val) : Prop := inI v.kind ∧ inI v.n
def Val.sz (v : Val) : Nat := v.s.length + 4
mutual
def Xp.q : Xp → Prop
  | .mk _ v _ _ kids => v.q ∧ Xp.qs kids
def Xp.qs : List Xp → Prop
  | [] => True
  | n :: l => n.q ∧ Xp.qs l
end
mutual
def Xp.sz : Xp → Nat
  | .mk op v var col kids => op.length + 1 + (v.sz + (var.length + 1 + (col.length + 1 + (Xp.szl kids + 1)))) + 1
def Xp.szl : List Xp → Nat
  | [] => 0
  | n :: l => n.sz + Xp.szl l
end
theorem xqs_iff : ∀ l : List Xp, Xp.qs l ↔ ∀ m ∈ l, m.q
  | [] => by simp [Xp.qs]
  | n :: l => by simp [Xp.qs, xqs_iff l]
theorem xszl_eq : ∀ l : List Xp, Xp.szl l = szs Xp.sz l
  | [] => rfl
  | n :: l => by simp [Xp.szl, szs, xszl_eq l]
theorem xsz_pos : ∀ n : Xp, 1 ≤ n.sz
  | .mk op v var col kids => by simp only [Xp.sz]; omega
mutual
theorem xok_of : ∀ n : Xp, n.q → n.sz ≤ 1048576 → n.ok
  | .mk op v var col kids, h, hs => by
    obtain ⟨hv, h3⟩ := h
    simp only [Xp.sz, Val.sz] at hs
    have hl := szs_len Xp.sz xsz_pos kids
    rw [← xszl_eq] at hl
    exact ⟨by omega, ⟨hv.1, hv.2, by omega⟩, by omega, by omega, by omega, xoks_of kids h3 (by omega)⟩
theorem xoks_of : ∀ l : List Xp, Xp.qs l → Xp.szl l ≤ 1048576 → Xp.oks l
  | [], _, _ => trivial
  | n :: l, h, hs => by
    simp only [Xp.szl] at hs
    exact ⟨xok_of n h.1 (by omega), xoks_of l h.2 (by omega)⟩
end
theorem inI_of {m : Int} (h : (Lit.int .i64 m).wf = true) : inI m := by
  simpa [Lit.wf, IntKind.min, IntKind.max, IntKind.signed, IntKind.bits, inI] using h

section
variable {H : Type} {enc : TypeId × Value → H} {W : World}
theorem cells3 : Tryz.prog.cellsOf 3 = 1 := by kernel_rfl
theorem cells9 : Tryz.prog.cellsOf 9 = 1 := by kernel_rfl
theorem cells44 : Tryz.prog.cellsOf 44 = 3 := by kernel_rfl
theorem cells23 : Tryz.prog.cellsOf 23 = 1 := by kernel_rfl
theorem cells46 : Tryz.prog.cellsOf 46 = 7 := by kernel_rfl
theorem rs_i64 (n : Nat) : Rs enc Tryz.prog W n 3 (V.int .i64) inI (fun _ => 1) := (Rs.int Tryz.underlying3 n).map id fun a h => ⟨inI_of h, Nat.le_refl _, rfl⟩
theorem rs_text (n : Nat) : Rs enc Tryz.prog W n 9 V.str (fun _ => True) (fun s => s.length + 1) := Rs.str Tryz.underlying9 n
theorem rs_val (n : Nat) : Rs enc Tryz.prog W n 44 Val.enc Val.q Val.sz :=
  Rs.struct Tryz.underlying44 (L := 3) (by kernel_rfl) (fun m _ => RsF.cons (w := 1) (by kernel_rfl) (rs_i64 m) (RsF.cons (w := 1) (by kernel_rfl) (rs_i64 m) (RsF.cons (w := 1) (by kernel_rfl) (rs_text m) RsF.nil)))
    (fun p => ⟨p.1, p.2.1, p.2.2.1⟩) fun ⟨k, n, s, _⟩ h => ⟨⟨h.1, h.2.1⟩, (by simp only [Val.sz]; omega), rfl⟩
theorem well_val : Well Tryz.prog 44 Val.enc := ⟨fun a => (by rw [cells44]; rfl), fun a => rfl, fun a => rfl⟩
theorem well_xp : Well Tryz.prog 46 Xp.enc := ⟨fun ⟨op, v, var, col, kids⟩ => (by rw [cells46, xenc_mk]; rfl), fun ⟨op, v, var, col, kids⟩ => (by rw [xenc_mk]; rfl), fun ⟨op, v, var, col, kids⟩ => by rw [xenc_mk]; rfl⟩
theorem rs_xp : ∀ n : Nat, Rs enc Tryz.prog W n 46 Xp.enc Xp.q Xp.sz := by
  intro n
  induction n using Nat.strongRecOn with
  | ind n ih =>
    exact Rs.struct Tryz.underlying46 (L := 7) (by kernel_rfl) (fun m hm => RsF.cons (w := 1) (by kernel_rfl) (rs_text m) (RsF.cons (w := 3) (by kernel_rfl) (rs_val m) (RsF.cons (w := 1) (by kernel_rfl) (rs_text m) (RsF.cons (w := 1) (by kernel_rfl) (rs_text m)
      (RsF.cons (w := 1) (by kernel_rfl) (Rs.slice Tryz.underlying23 well_xp (by rw [cells46]; omega) fun m' hm' => ih m' (by omega)) RsF.nil)))))
      (fun p => .mk p.1 p.2.1 p.2.2.1 p.2.2.2.1 p.2.2.2.2.1) fun ⟨op, v, var, col, kids, _⟩ h => ⟨⟨h.2.1, (xqs_iff _).2 h.2.2.2.2.1⟩, (by simp only [Xp.sz, xszl_eq]; omega), by rw [xenc_mk]; rfl⟩
theorem rs_xps (n : Nat) : Rs enc Tryz.prog W n 23 (fun l : List Xp => V.slice .froz (l.map Xp.enc)) (fun l => ∀ x ∈ l, Xp.q x) (fun l => szs Xp.sz l + 1) :=
  Rs.slice Tryz.underlying23 well_xp (by rw [cells46]; omega) fun m _ => rs_xp m
theorem agg_xp (a : Xp) : ∃ cs, a.enc = .agg cs := by cases a; rw [xenc_mk]; exact ⟨_, rfl⟩
end
end Go.Abs
