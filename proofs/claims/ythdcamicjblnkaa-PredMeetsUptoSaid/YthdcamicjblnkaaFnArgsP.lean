/- Conditions, read as arguments. -/
import Derived.Test.YthdcamicjblnkaaFnArgs
import Derived.Test.YthdcamicjblnkaaFnPredA
namespace Go.Abs
set_option linter.unusedSimpArgs false
set_option linter.unusedVariables false
open Go Go.Proofs

def Bd.enc (b : Bd) : V := .agg [.bool b.has, .bool b.incl, .int .i64 b.v.kind, .int .i64 b.v.n, .str b.v.s]
def Bd.sz (b : Bd) : Nat := 1 + (1 + b.v.sz)
def Tst.sz (t : Tst) : Nat := 1 + (t.lo.sz + t.hi.sz)
structure Cnd where
  ts : List Tst
  ns : List Node
def Cnd.enc (c : Cnd) : V := .agg [.slice .froz (c.ts.map Tst.enc), .slice .froz (c.ns.map Node.enc)]
def Cnd.sz (c : Cnd) : Nat := szs Tst.sz c.ts + szs Node.sz c.ns

section
variable {H : Type} {enc : TypeId × Value → H} {W : World}
theorem cells4 : Try.prog.cellsOf 4 = 1 := by kernel_rfl
theorem cells41 : Try.prog.cellsOf 41 = 11 := by kernel_rfl
theorem rs_bo (n : Nat) : Rs enc Try.prog W n 4 V.bool (fun _ => True) (fun _ => 1) := Rs.bool Try.underlying4 n
theorem rs_bd (n : Nat) : Rs enc Try.prog W n 39 Bd.enc (fun _ => True) Bd.sz :=
  Rs.struct Try.underlying39 (L := 5) (by kernel_rfl) (fun m _ => RsF.cons (w := 1) (by kernel_rfl) (rs_bo m) (RsF.cons (w := 1) (by kernel_rfl) (rs_bo m) (RsF.cons (w := 3) (by kernel_rfl) (rs_val m) RsF.nil)))
    (fun p => ⟨p.1, p.2.1, p.2.2.1⟩) fun ⟨h, i, v, _⟩ _ => ⟨trivial, (by simp only [Bd.sz]; omega), rfl⟩
theorem rs_tst (n : Nat) : Rs enc Try.prog W n 41 Tst.enc (fun _ => True) Tst.sz :=
  Rs.struct Try.underlying41 (L := 11) (by kernel_rfl) (fun m _ => RsF.cons (w := 1) (by kernel_rfl) (rs_i64 m) (RsF.cons (w := 5) (by kernel_rfl) (rs_bd m) (RsF.cons (w := 5) (by kernel_rfl) (rs_bd m) RsF.nil)))
    (fun p => ⟨p.1, p.2.1, p.2.2.1⟩) fun ⟨c, l, h, _⟩ _ => ⟨trivial, (by simp only [Tst.sz]; omega), rfl⟩
theorem well_tst : Well Try.prog 41 Tst.enc := ⟨fun a => (by rw [cells41]; rfl), fun a => rfl, fun a => rfl⟩
theorem rs_cnd (n : Nat) : Rs enc Try.prog W n 25 Cnd.enc (fun c => ∀ x ∈ c.ns, Node.q x) Cnd.sz :=
  Rs.struct Try.underlying25 (L := 2) (by kernel_rfl) (fun m _ => RsF.cons (w := 1) (by kernel_rfl) (Rs.slice Try.underlying22 well_tst (by rw [cells41]; omega) fun m' _ => rs_tst m') (RsF.cons (w := 1) (by kernel_rfl) (rs_nodes m) RsF.nil))
    (fun p => ⟨p.1, p.2.1⟩) fun ⟨t, l, _⟩ h => ⟨h.2.1, (by simp only [Cnd.sz]; omega), rfl⟩
end
theorem tsz_pos (t : Tst) : 1 ≤ t.sz := by simp only [Tst.sz]; omega
theorem vsz_pos (v : Val) : 1 ≤ v.sz := by simp only [Val.sz]; omega
end Go.Abs
