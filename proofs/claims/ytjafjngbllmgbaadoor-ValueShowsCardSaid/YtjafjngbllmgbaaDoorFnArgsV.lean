/- Numbers, texts and values, read as arguments. -/
import Derived.Test.YtjafjngbllmgbaaDoorFnValue
import Derived.Test.YtjafjngbllmgbaaDoorAbsRead
namespace Go.Abs
open Go Go.Proofs

def Val.nq (v : Val) : Prop := inI v.kind ∧ inI v.n
def Val.sv (v : Val) : Nat := v.s.length + 4
theorem inI_wf {m : Int} (h : (Lit.int .i64 m).wf = true) : inI m := by
  simpa [Lit.wf, IntKind.min, IntKind.max, IntKind.signed, IntKind.bits, inI] using h
section
variable {H : Type} {enc : TypeId × Value → H} {W : World}
theorem rs_vi64 (n : Nat) : Rs enc Tryd.prog W n 3 (V.int .i64) inI (fun _ => 1) := (Rs.int Tryd.underlying3 n).map id fun a h => ⟨inI_wf h, Nat.le_refl _, rfl⟩
theorem rs_vtext (n : Nat) : Rs enc Tryd.prog W n 9 V.str (fun _ => True) (fun s => s.length + 1) := Rs.str Tryd.underlying9 n
theorem rs_value (n : Nat) : Rs enc Tryd.prog W n 23 Val.enc Val.nq Val.sv :=
  Rs.struct Tryd.underlying23 (L := 3) (by kernel_rfl) (fun m _ => RsF.cons (w := 1) (by kernel_rfl) (rs_vi64 m) (RsF.cons (w := 1) (by kernel_rfl) (rs_vi64 m) (RsF.cons (w := 1) (by kernel_rfl) (rs_vtext m) RsF.nil)))
    (fun p => ⟨p.1, p.2.1, p.2.2.1⟩) fun ⟨k, n, s, _⟩ h => ⟨⟨h.1, h.2.1⟩, (by simp only [Val.sv]; omega), rfl⟩
end
end Go.Abs
