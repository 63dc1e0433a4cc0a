/- Expressions and statements: what is right, and their text. -/
import Derived.Test.YtpmeklllgnnffaaGreatDoorU19
set_option linter.unusedSimpArgs false
set_option linter.unusedVariables false

namespace Go.Abs
set_option linter.unusedSimpArgs false
set_option linter.unusedVariables false
open Go Go.Proofs

inductive Xp where
  | mk (op : List UInt8) (v : Val) (var col : List UInt8) (kids : List Xp)

mutual
def Xp.enc : Xp → V
  | .mk op v var col kids => .agg [.str op, .int .i64 v.kind, .int .i64 v.n, .str v.s, .str var, .str col, .slice .froz (Xp.encs kids)]
def Xp.encs : List Xp → List V
  | [] => []
  | e :: l => e.enc :: Xp.encs l
end
theorem xencs_eq : ∀ l : List Xp, Xp.encs l = l.map Xp.enc
  | [] => rfl
  | n :: l => by simp [Xp.encs, xencs_eq l]
theorem xenc_mk (op : List UInt8) (v : Val) (var col : List UInt8) (kids : List Xp) : (Xp.mk op v var col kids).enc = .agg [.str op, .int .i64 v.kind, .int .i64 v.n, .str v.s, .str var, .str col, .slice .froz (kids.map Xp.enc)] := by simp [Xp.enc, xencs_eq]

def Xp.op : Xp → List UInt8 | .mk op _ _ _ _ => op
def Xp.v : Xp → Val | .mk _ v _ _ _ => v
def Xp.var : Xp → List UInt8 | .mk _ _ var _ _ => var
def Xp.col : Xp → List UInt8 | .mk _ _ _ col _ => col
def Xp.kids : Xp → List Xp | .mk _ _ _ _ kids => kids

def Val.ok (v : Val) : Prop := inI v.kind ∧ inI v.n ∧ v.s.length ≤ 1048576
mutual
def Xp.ok : Xp → Prop
  | .mk op v var col kids => op.length ≤ 1048576 ∧ v.ok ∧ var.length ≤ 1048576 ∧ col.length ≤ 1048576 ∧ kids.length ≤ 1048576 ∧ Xp.oks kids
def Xp.oks : List Xp → Prop
  | [] => True
  | n :: l => n.ok ∧ Xp.oks l
end
theorem xoks_iff : ∀ l : List Xp, Xp.oks l ↔ ∀ m ∈ l, m.ok
  | [] => by simp [Xp.oks]
  | n :: l => by simp [Xp.oks, xoks_iff l]

/- the ops -/
def oValue : List UInt8 := [118, 97, 108, 117, 101]
def oColumn : List UInt8 := [99, 111, 108, 117, 109, 110]
def oNeg : List UInt8 := [110, 101, 103]
def oNot : List UInt8 := [110, 111, 116]
def oNull : List UInt8 := [110, 117, 108, 108]
def oAnd : List UInt8 := [97, 110, 100]
def oOr : List UInt8 := [111, 114]
def twoOps : List (List UInt8) := [[43], [45], [42], [61], [60, 62], [60], [60, 61], [62], [62, 61], oAnd, oOr]

def deepE : Nat → Xp → Bool
  | 0, _ => true
  | m + 1, e => e.kids.any (deepE m)

def arityS (op : List UInt8) : Int :=
  if op = oValue ∨ op = oColumn then 0 else if op = oNeg ∨ op = oNot ∨ op = oNull then 1 else if op ∈ twoOps then 2 else -1

def Val.zero : Val := ⟨0, 0, []⟩
def rightE : Nat → Xp → Bool
  | 0, _ => false
  | d + 1, .mk op v var col kids => decide ((kids.length : Int) = arityS op) && (decide (op = oValue) || decide (v = Val.zero)) && (decide (op = oColumn) || decide (var = [] ∧ col = [])) &&
    (if op = oValue then rightS v && decide (v.kind ≠ 2 ∨ 0 ≤ v.n) else if op = oColumn then nameS col && (decide (var = []) || nameS var) else kids.all (rightE d))

def upS (op : List UInt8) : List UInt8 := if op = oAnd then [65, 78, 68] else if op = oOr then [79, 82] else op
mutual
def showE : Xp → List UInt8
  | .mk op v var col kids =>
    if op = oValue then showV v
    else if op = oColumn then (if var = [] then col else var ++ 46 :: col)
    else match showEs kids with
      | a :: r => if op = oNeg then 40 :: 45 :: 32 :: (a ++ [41]) else if op = oNot then [40, 78, 79, 84, 32] ++ a ++ [41] else if op = oNull then 40 :: (a ++ [32, 73, 83, 32, 78, 85, 76, 76, 41])
        else match r with
          | b :: _ => 40 :: (a ++ 32 :: (upS op ++ 32 :: (b ++ [41])))
          | [] => []
      | [] => []
def showEs : List Xp → List (List UInt8)
  | [] => []
  | e :: l => showE e :: showEs l
end
theorem showEs_eq : ∀ l : List Xp, showEs l = l.map showE
  | [] => rfl
  | n :: l => by simp [showEs, showEs_eq l]
mutual
def sizeE : Xp → Nat
  | .mk _ _ _ _ kids => 1 + sizeEs kids
def sizeEs : List Xp → Nat
  | [] => 0
  | e :: l => sizeE e + sizeEs l
end

/- statements -/
structure Col where
  name : List UInt8
  type : Int
  notNull : Bool
  unique : Bool
  deriving DecidableEq
def Col.cells (c : Col) : List V := [.str c.name, .int .i64 c.type, .bool c.notNull, .bool c.unique]
def Col.enc (c : Col) : V := .agg c.cells
structure Src where
  kind : Int
  table : List UInt8
  var : List UInt8
  deriving DecidableEq
def Src.cells (c : Src) : List V := [.int .i64 c.kind, .str c.table, .str c.var]
def Src.enc (c : Src) : V := .agg c.cells
structure SetE where
  col : List UInt8
  e : Xp
def SetE.enc (x : SetE) : V := .agg (.str x.col :: vcells x.e.enc)
structure StB where
  kind : Int
  name : List UInt8
  table : List UInt8
  col : List UInt8
  cols : List Col
  values : List Xp
  items : List Xp
  wher : List Xp
  sets : List SetE
  src : List Src
  prio : Int
  event : Int
  deferred : Bool
  rolls : Bool
inductive Stm where
  | mk (b : StB) (acts : List Stm)
def Stm.b : Stm → StB | .mk b _ => b
def Stm.acts : Stm → List Stm | .mk _ acts => acts
def StB.head (b : StB) : List V := [.int .i64 b.kind, .str b.name, .str b.table, .str b.col, .slice .froz (b.cols.map Col.enc), .slice .froz (b.values.map Xp.enc), .slice .froz (b.items.map Xp.enc), .slice .froz (b.wher.map Xp.enc),
  .slice .froz (b.sets.map SetE.enc), .slice .froz (b.src.map Src.enc), .int .i64 b.prio, .int .i64 b.event, .bool b.deferred, .bool b.rolls]
mutual
def Stm.enc : Stm → V
  | .mk b acts => .agg (b.head ++ [.slice .froz (Stm.encs acts)])
def Stm.encs : List Stm → List V
  | [] => []
  | e :: l => e.enc :: Stm.encs l
end
theorem sencs_eq : ∀ l : List Stm, Stm.encs l = l.map Stm.enc
  | [] => rfl
  | n :: l => by simp [Stm.encs, sencs_eq l]
theorem senc_mk (b : StB) (acts : List Stm) : (Stm.mk b acts).enc = .agg [.int .i64 b.kind, .str b.name, .str b.table, .str b.col, .slice .froz (b.cols.map Col.enc), .slice .froz (b.values.map Xp.enc), .slice .froz (b.items.map Xp.enc), .slice .froz (b.wher.map Xp.enc),
  .slice .froz (b.sets.map SetE.enc), .slice .froz (b.src.map Src.enc), .int .i64 b.prio, .int .i64 b.event, .bool b.deferred, .bool b.rolls, .slice .froz (acts.map Stm.enc)] := by simp [Stm.enc, sencs_eq, StB.head]
def Col.ok (c : Col) : Prop := c.name.length ≤ 1048576 ∧ inI c.type
def Src.ok (c : Src) : Prop := inI c.kind ∧ c.table.length ≤ 1048576 ∧ c.var.length ≤ 1048576
def SetE.ok (x : SetE) : Prop := x.col.length ≤ 1048576 ∧ x.e.ok
structure StB.ok (b : StB) : Prop where
  kind : inI b.kind
  name : b.name.length ≤ 1048576
  table : b.table.length ≤ 1048576
  col : b.col.length ≤ 1048576
  cols : b.cols.length ≤ 1048576 ∧ ∀ c ∈ b.cols, c.ok
  values : b.values.length ≤ 1048576 ∧ ∀ c ∈ b.values, c.ok
  items : b.items.length ≤ 1048576 ∧ ∀ c ∈ b.items, c.ok
  wher : b.wher.length ≤ 1048576 ∧ ∀ c ∈ b.wher, c.ok
  sets : b.sets.length ≤ 1048576 ∧ ∀ c ∈ b.sets, c.ok
  src : b.src.length ≤ 1048576 ∧ ∀ c ∈ b.src, c.ok
  prio : inI b.prio
  event : inI b.event
mutual
def Stm.ok : Stm → Prop
  | .mk b acts => b.ok ∧ acts.length ≤ 1048576 ∧ Stm.oks acts
def Stm.oks : List Stm → Prop
  | [] => True
  | n :: l => n.ok ∧ Stm.oks l
end
theorem soks_iff : ∀ l : List Stm, Stm.oks l ↔ ∀ m ∈ l, m.ok
  | [] => by simp [Stm.oks]
  | n :: l => by simp [Stm.oks, soks_iff l]
end Go.Abs

namespace Go.Abs
set_option linter.unusedSimpArgs false
set_option linter.unusedVariables false
open Go Go.Proofs

def Val.q (v : Val) : Prop := inI v.kind ∧ inI v.n
def Val.sz (v : Val) : Nat := v.s.length + 4
mutual
def Xp.q : Xp → Prop
  | .mk _ v _ _ kids => v.q ∧ Xp.qs kids
def Xp.qs : List Xp → Prop
  | [] => True
  | n :: l => n.q ∧ Xp.qs l
end
mutual
def Xp.sz : Xp → Nat
  | .mk op v var col kids => op.length + 1 + (v.sz + (var.length + 1 + (col.length + 1 + (Xp.szl kids + 1)))) + 1
def Xp.szl : List Xp → Nat
  | [] => 0
  | n :: l => n.sz + Xp.szl l
end
theorem xqs_iff : ∀ l : List Xp, Xp.qs l ↔ ∀ m ∈ l, m.q
  | [] => by simp [Xp.qs]
  | n :: l => by simp [Xp.qs, xqs_iff l]
theorem xszl_eq : ∀ l : List Xp, Xp.szl l = szs Xp.sz l
  | [] => rfl
  | n :: l => by simp [Xp.szl, szs, xszl_eq l]
theorem xsz_pos : ∀ n : Xp, 1 ≤ n.sz
  | .mk op v var col kids => by simp only [Xp.sz]; omega
mutual
theorem xok_of : ∀ n : Xp, n.q → n.sz ≤ 1048576 → n.ok
  | .mk op v var col kids, h, hs => by
    obtain ⟨hv, h3⟩ := h
    simp only [Xp.sz, Val.sz] at hs
    have hl := szs_len Xp.sz xsz_pos kids
    rw [← xszl_eq] at hl
    exact ⟨by omega, ⟨hv.1, hv.2, by omega⟩, by omega, by omega, by omega, xoks_of kids h3 (by omega)⟩
theorem xoks_of : ∀ l : List Xp, Xp.qs l → Xp.szl l ≤ 1048576 → Xp.oks l
  | [], _, _ => trivial
  | n :: l, h, hs => by
    simp only [Xp.szl] at hs
    exact ⟨xok_of n h.1 (by omega), xoks_of l h.2 (by omega)⟩
end
theorem inI_of {m : Int} (h : (Lit.int .i64 m).wf = true) : inI m := by
  simpa [Lit.wf, IntKind.min, IntKind.max, IntKind.signed, IntKind.bits, inI] using h

section
variable {H : Type} {enc : TypeId × Value → H} {W : World}
theorem cells3 : Tryz.prog.cellsOf 3 = 1 := by kernel_rfl
theorem cells9 : Tryz.prog.cellsOf 9 = 1 := by kernel_rfl
theorem cells44 : Tryz.prog.cellsOf 44 = 3 := by kernel_rfl
theorem cells23 : Tryz.prog.cellsOf 23 = 1 := by kernel_rfl
theorem cells46 : Tryz.prog.cellsOf 46 = 7 := by kernel_rfl
theorem rs_i64 (n : Nat) : Rs enc Tryz.prog W n 3 (V.int .i64) inI (fun _ => 1) := (Rs.int Tryz.underlying3 n).map id fun a h => ⟨inI_of h, Nat.le_refl _, rfl⟩
theorem rs_text (n : Nat) : Rs enc Tryz.prog W n 9 V.str (fun _ => True) (fun s => s.length + 1) := Rs.str Tryz.underlying9 n
theorem rs_val (n : Nat) : Rs enc Tryz.prog W n 44 Val.enc Val.q Val.sz :=
  Rs.struct Tryz.underlying44 (L := 3) (by kernel_rfl) (fun m _ => RsF.cons (w := 1) (by kernel_rfl) (rs_i64 m) (RsF.cons (w := 1) (by kernel_rfl) (rs_i64 m) (RsF.cons (w := 1) (by kernel_rfl) (rs_text m) RsF.nil)))
    (fun p => ⟨p.1, p.2.1, p.2.2.1⟩) fun ⟨k, n, s, _⟩ h => ⟨⟨h.1, h.2.1⟩, (by simp only [Val.sz]; omega), rfl⟩
theorem well_val : Well Tryz.prog 44 Val.enc := ⟨fun a => (by rw [cells44]; rfl), fun a => rfl, fun a => rfl⟩
theorem well_xp : Well Tryz.prog 46 Xp.enc := ⟨fun ⟨op, v, var, col, kids⟩ => (by rw [cells46, xenc_mk]; rfl), fun ⟨op, v, var, col, kids⟩ => (by rw [xenc_mk]; rfl), fun ⟨op, v, var, col, kids⟩ => by rw [xenc_mk]; rfl⟩
theorem rs_xp : ∀ n : Nat, Rs enc Tryz.prog W n 46 Xp.enc Xp.q Xp.sz := by
  intro n
  induction n using Nat.strongRecOn with
  | ind n ih =>
    exact Rs.struct Tryz.underlying46 (L := 7) (by kernel_rfl) (fun m hm => RsF.cons (w := 1) (by kernel_rfl) (rs_text m) (RsF.cons (w := 3) (by kernel_rfl) (rs_val m) (RsF.cons (w := 1) (by kernel_rfl) (rs_text m) (RsF.cons (w := 1) (by kernel_rfl) (rs_text m)
      (RsF.cons (w := 1) (by kernel_rfl) (Rs.slice Tryz.underlying23 well_xp (by rw [cells46]; omega) fun m' hm' => ih m' (by omega)) RsF.nil)))))
      (fun p => .mk p.1 p.2.1 p.2.2.1 p.2.2.2.1 p.2.2.2.2.1) fun ⟨op, v, var, col, kids, _⟩ h => ⟨⟨h.2.1, (xqs_iff _).2 h.2.2.2.2.1⟩, (by simp only [Xp.sz, xszl_eq]; omega), by rw [xenc_mk]; rfl⟩
theorem rs_xps (n : Nat) : Rs enc Tryz.prog W n 23 (fun l : List Xp => V.slice .froz (l.map Xp.enc)) (fun l => ∀ x ∈ l, Xp.q x) (fun l => szs Xp.sz l + 1) :=
  Rs.slice Tryz.underlying23 well_xp (by rw [cells46]; omega) fun m _ => rs_xp m
theorem agg_xp (a : Xp) : ∃ cs, a.enc = .agg cs := by cases a; rw [xenc_mk]; exact ⟨_, rfl⟩
end
end Go.Abs

namespace Go.Abs
set_option linter.unusedSimpArgs false
set_option linter.unusedVariables false
open Go Go.Proofs

def Col.q (c : Col) : Prop := inI c.type
def Col.sz (c : Col) : Nat := c.name.length + 1 + (1 + (1 + (1 + 0)))
def Src.q (c : Src) : Prop := inI c.kind
def Src.sz (c : Src) : Nat := 1 + (c.table.length + 1 + (c.var.length + 1 + 0))
def SetE.q (c : SetE) : Prop := c.e.q
def SetE.sz (c : SetE) : Nat := c.col.length + 1 + (c.e.sz + 0)
structure StB.q (b : StB) : Prop where
  kind : inI b.kind
  cols : ∀ c ∈ b.cols, Col.q c
  values : ∀ c ∈ b.values, Xp.q c
  items : ∀ c ∈ b.items, Xp.q c
  wher : ∀ c ∈ b.wher, Xp.q c
  sets : ∀ c ∈ b.sets, SetE.q c
  src : ∀ c ∈ b.src, Src.q c
  prio : inI b.prio
  event : inI b.event
def StB.sz (b : StB) (n : Nat) : Nat := 1 + (b.name.length + 1 + (b.table.length + 1 + (b.col.length + 1 + (szs Col.sz b.cols + 1 + (szs Xp.sz b.values + 1 + (szs Xp.sz b.items + 1 + (szs Xp.sz b.wher + 1 + (szs SetE.sz b.sets + 1 + (szs Src.sz b.src + 1 + (1 + (1 + (1 + (1 + (n + 1 + 0))))))))))))))
mutual
def Stm.q : Stm → Prop
  | .mk b acts => b.q ∧ Stm.qs acts
def Stm.qs : List Stm → Prop
  | [] => True
  | n :: l => n.q ∧ Stm.qs l
end
mutual
def Stm.sz : Stm → Nat
  | .mk b acts => b.sz (Stm.szl acts)
def Stm.szl : List Stm → Nat
  | [] => 0
  | n :: l => n.sz + Stm.szl l
end
theorem sqs_iff : ∀ l : List Stm, Stm.qs l ↔ ∀ m ∈ l, m.q
  | [] => by simp [Stm.qs]
  | n :: l => by simp [Stm.qs, sqs_iff l]
theorem sszl_eq : ∀ l : List Stm, Stm.szl l = szs Stm.sz l
  | [] => rfl
  | n :: l => by simp [Stm.szl, szs, sszl_eq l]
theorem ssz_pos : ∀ n : Stm, 1 ≤ n.sz
  | .mk b acts => by simp only [Stm.sz, StB.sz]; omega
theorem col_ok {c : Col} (h : c.q) (hs : c.sz ≤ 1048576) : c.ok := by
  simp only [Col.sz] at hs
  exact ⟨by omega, h⟩
theorem src_ok {c : Src} (h : c.q) (hs : c.sz ≤ 1048576) : c.ok := by
  simp only [Src.sz] at hs
  exact ⟨h, by omega, by omega⟩
theorem set_ok {c : SetE} (h : c.q) (hs : c.sz ≤ 1048576) : c.ok := by
  simp only [SetE.sz] at hs
  exact ⟨by omega, xok_of _ h (by omega)⟩
theorem stb_ok {b : StB} {n : Nat} (h : b.q) (hs : b.sz n ≤ 1048576) : b.ok := by
  simp only [StB.sz] at hs
  have l1 := szs_len Col.sz (fun c => by simp only [Col.sz]; omega) b.cols
  have l2 := szs_len Xp.sz xsz_pos b.values
  have l3 := szs_len Xp.sz xsz_pos b.items
  have l4 := szs_len Xp.sz xsz_pos b.wher
  have l5 := szs_len SetE.sz (fun c => by simp only [SetE.sz]; omega) b.sets
  have l6 := szs_len Src.sz (fun c => by simp only [Src.sz]; omega) b.src
  have m1 : ∀ c ∈ b.cols, c.sz ≤ szs Col.sz b.cols := fun c hc => szs_mem Col.sz hc
  have m2 : ∀ c ∈ b.values, c.sz ≤ szs Xp.sz b.values := fun c hc => szs_mem Xp.sz hc
  have m3 : ∀ c ∈ b.items, c.sz ≤ szs Xp.sz b.items := fun c hc => szs_mem Xp.sz hc
  have m4 : ∀ c ∈ b.wher, c.sz ≤ szs Xp.sz b.wher := fun c hc => szs_mem Xp.sz hc
  have m5 : ∀ c ∈ b.sets, c.sz ≤ szs SetE.sz b.sets := fun c hc => szs_mem SetE.sz hc
  have m6 : ∀ c ∈ b.src, c.sz ≤ szs Src.sz b.src := fun c hc => szs_mem Src.sz hc
  generalize szs Col.sz b.cols = z1 at *
  generalize szs Xp.sz b.values = z2 at *
  generalize szs Xp.sz b.items = z3 at *
  generalize szs Xp.sz b.wher = z4 at *
  generalize szs SetE.sz b.sets = z5 at *
  generalize szs Src.sz b.src = z6 at *
  have b0 : b.name.length ≤ 1048576 ∧ b.table.length ≤ 1048576 ∧ b.col.length ≤ 1048576 := by omega
  have b1 : z1 ≤ 1048576 ∧ z2 ≤ 1048576 ∧ z3 ≤ 1048576 ∧ z4 ≤ 1048576 ∧ z5 ≤ 1048576 ∧ z6 ≤ 1048576 := by omega
  clear hs
  exact { kind := h.kind, name := b0.1, table := b0.2.1, col := b0.2.2
          cols := ⟨by omega, fun c hc => col_ok (h.cols c hc) (Nat.le_trans (m1 c hc) b1.1)⟩
          values := ⟨by omega, fun c hc => xok_of c (h.values c hc) (Nat.le_trans (m2 c hc) b1.2.1)⟩
          items := ⟨by omega, fun c hc => xok_of c (h.items c hc) (Nat.le_trans (m3 c hc) b1.2.2.1)⟩
          wher := ⟨by omega, fun c hc => xok_of c (h.wher c hc) (Nat.le_trans (m4 c hc) b1.2.2.2.1)⟩
          sets := ⟨by omega, fun c hc => set_ok (h.sets c hc) (Nat.le_trans (m5 c hc) b1.2.2.2.2.1)⟩
          src := ⟨by omega, fun c hc => src_ok (h.src c hc) (Nat.le_trans (m6 c hc) b1.2.2.2.2.2)⟩
          prio := h.prio, event := h.event }
mutual
theorem sok_of : ∀ n : Stm, n.q → n.sz ≤ 1048576 → n.ok
  | .mk b acts, h, hs => by
    simp only [Stm.sz] at hs
    have hl := szs_len Stm.sz ssz_pos acts
    rw [← sszl_eq] at hl
    have hs' := hs
    simp only [StB.sz] at hs'
    exact ⟨stb_ok h.1 hs, by omega, soks_of acts h.2 (by omega)⟩
theorem soks_of : ∀ l : List Stm, Stm.qs l → Stm.szl l ≤ 1048576 → Stm.oks l
  | [], _, _ => trivial
  | n :: l, h, hs => by
    simp only [Stm.szl] at hs
    exact ⟨sok_of n h.1 (by omega), soks_of l h.2 (by omega)⟩
end
section
variable {H : Type} {enc : TypeId × Value → H} {W : World}
theorem cells4 : Tryz.prog.cellsOf 4 = 1 := by kernel_rfl
theorem cells94 : Tryz.prog.cellsOf 94 = 4 := by kernel_rfl
theorem cells84 : Tryz.prog.cellsOf 84 = 3 := by kernel_rfl
theorem cells80 : Tryz.prog.cellsOf 80 = 8 := by kernel_rfl
theorem cells28 : Tryz.prog.cellsOf 28 = 15 := by kernel_rfl
theorem rs_bl (n : Nat) : Rs enc Tryz.prog W n 4 V.bool (fun _ => True) (fun _ => 1) := Rs.bool Tryz.underlying4 n
theorem rs_col (n : Nat) : Rs enc Tryz.prog W n 94 Col.enc Col.q Col.sz :=
  Rs.struct Tryz.underlying94 (L := 4) (by kernel_rfl) (fun m _ => RsF.cons (w := 1) (by kernel_rfl) (rs_text m) (RsF.cons (w := 1) (by kernel_rfl) (rs_i64 m) (RsF.cons (w := 1) (by kernel_rfl) (rs_bl m) (RsF.cons (w := 1) (by kernel_rfl) (rs_bl m) RsF.nil))))
    (fun p => ⟨p.1, p.2.1, p.2.2.1, p.2.2.2.1⟩) fun ⟨n, t, a, b, _⟩ h => ⟨h.2.1, (by simp only [Col.sz]; omega), rfl⟩
theorem well_col : Well Tryz.prog 94 Col.enc := ⟨fun a => (by rw [cells94]; rfl), fun a => rfl, fun a => rfl⟩
theorem rs_src (n : Nat) : Rs enc Tryz.prog W n 84 Src.enc Src.q Src.sz :=
  Rs.struct Tryz.underlying84 (L := 3) (by kernel_rfl) (fun m _ => RsF.cons (w := 1) (by kernel_rfl) (rs_i64 m) (RsF.cons (w := 1) (by kernel_rfl) (rs_text m) (RsF.cons (w := 1) (by kernel_rfl) (rs_text m) RsF.nil)))
    (fun p => ⟨p.1, p.2.1, p.2.2.1⟩) fun ⟨k, t, v, _⟩ h => ⟨h.1, (by simp only [Src.sz]; omega), rfl⟩
theorem well_src : Well Tryz.prog 84 Src.enc := ⟨fun a => (by rw [cells84]; rfl), fun a => rfl, fun a => rfl⟩
theorem rs_set (n : Nat) : Rs enc Tryz.prog W n 80 SetE.enc SetE.q SetE.sz :=
  Rs.struct Tryz.underlying80 (L := 8) (by kernel_rfl) (fun m _ => RsF.cons (w := 1) (by kernel_rfl) (rs_text m) (RsF.cons (w := 7) (by kernel_rfl) (rs_xp m) RsF.nil))
    (fun p => ⟨p.1, p.2.1⟩) fun ⟨c, ⟨op, v, var, col, kids⟩, _⟩ h => ⟨h.2.1, (by simp only [SetE.sz]; omega), by simp only [SetE.enc, xenc_mk]; rfl⟩
theorem well_set : Well Tryz.prog 80 SetE.enc := ⟨fun ⟨c, ⟨op, v, var, col, kids⟩⟩ => (by rw [cells80]; simp only [SetE.enc, xenc_mk]; rfl), fun ⟨c, ⟨op, v, var, col, kids⟩⟩ => (by simp only [SetE.enc, xenc_mk]; rfl), fun ⟨c, ⟨op, v, var, col, kids⟩⟩ => by simp only [SetE.enc, xenc_mk]; rfl⟩
theorem well_stm : Well Tryz.prog 28 Stm.enc := ⟨fun ⟨b, acts⟩ => (by rw [cells28, senc_mk]; rfl), fun ⟨b, acts⟩ => (by rw [senc_mk]; rfl), fun ⟨b, acts⟩ => by rw [senc_mk]; rfl⟩
set_option maxRecDepth 100000 in
theorem rs_stm : ∀ n : Nat, Rs enc Tryz.prog W n 28 Stm.enc Stm.q Stm.sz := by
  intro n
  induction n using Nat.strongRecOn with
  | ind n ih =>
    exact Rs.struct Tryz.underlying28 (L := 15) (by kernel_rfl) (fun m hm => RsF.cons (w := 1) (by kernel_rfl) (rs_i64 m) (RsF.cons (w := 1) (by kernel_rfl) (rs_text m) (RsF.cons (w := 1) (by kernel_rfl) (rs_text m) (RsF.cons (w := 1) (by kernel_rfl) (rs_text m)
      (RsF.cons (w := 1) (by kernel_rfl) (Rs.slice Tryz.underlying22 well_col (by rw [cells94]; omega) fun m' _ => rs_col m') (RsF.cons (w := 1) (by kernel_rfl) (rs_xps m) (RsF.cons (w := 1) (by kernel_rfl) (rs_xps m) (RsF.cons (w := 1) (by kernel_rfl) (rs_xps m)
      (RsF.cons (w := 1) (by kernel_rfl) (Rs.slice Tryz.underlying24 well_set (by rw [cells80]; omega) fun m' _ => rs_set m') (RsF.cons (w := 1) (by kernel_rfl) (Rs.slice Tryz.underlying25 well_src (by rw [cells84]; omega) fun m' _ => rs_src m')
      (RsF.cons (w := 1) (by kernel_rfl) (rs_i64 m) (RsF.cons (w := 1) (by kernel_rfl) (rs_i64 m) (RsF.cons (w := 1) (by kernel_rfl) (rs_bl m) (RsF.cons (w := 1) (by kernel_rfl) (rs_bl m)
      (RsF.cons (w := 1) (by kernel_rfl) (Rs.slice Tryz.underlying26 well_stm (by rw [cells28]; omega) fun m' hm' => ih m' (by omega)) RsF.nil)))))))))))))))
      (fun p => .mk ⟨p.1, p.2.1, p.2.2.1, p.2.2.2.1, p.2.2.2.2.1, p.2.2.2.2.2.1, p.2.2.2.2.2.2.1, p.2.2.2.2.2.2.2.1, p.2.2.2.2.2.2.2.2.1, p.2.2.2.2.2.2.2.2.2.1, p.2.2.2.2.2.2.2.2.2.2.1, p.2.2.2.2.2.2.2.2.2.2.2.1, p.2.2.2.2.2.2.2.2.2.2.2.2.1, p.2.2.2.2.2.2.2.2.2.2.2.2.2.1⟩ p.2.2.2.2.2.2.2.2.2.2.2.2.2.2.1)
      fun ⟨kind, name, table, col, cols, values, items, wher, sets, src, prio, event, deferred, rolls, acts, _⟩ h =>
        ⟨⟨⟨h.1, h.2.2.2.2.1, h.2.2.2.2.2.1, h.2.2.2.2.2.2.1, h.2.2.2.2.2.2.2.1, h.2.2.2.2.2.2.2.2.1, h.2.2.2.2.2.2.2.2.2.1, h.2.2.2.2.2.2.2.2.2.2.1, h.2.2.2.2.2.2.2.2.2.2.2.1⟩, (sqs_iff _).2 h.2.2.2.2.2.2.2.2.2.2.2.2.2.2.1⟩,
          (by simp only [Stm.sz, StB.sz, sszl_eq]; omega), by rw [senc_mk]; rfl⟩
theorem agg_stm (a : Stm) : ∃ cs, a.enc = .agg cs := by cases a; rw [senc_mk]; exact ⟨_, rfl⟩
end
end Go.Abs

namespace Go.Abs
set_option linter.unusedSimpArgs false
set_option linter.unusedVariables false
open Go Go.Proofs
attribute [local simp] i_nil i_blk i_skip i_ret i_exit i_seq i_block i_cond i_region' i_ops_nil i_ops i_drawn' k_none k_0 k_1 k_2 k_3 k_4 k_5 d_in a_nil a_cons alt1 h_nil h_one h_two z_nil z_cons z_cells zeqL zeq q_alloc q_some nxtN i_drh d_hi i_drw_nil i_drw u_nil u_code u_ops u_drw u_lp u_again u_exit u_ret u_panic c_bool o_some o_val o_panic d_some d_val d_panic w_none w_fast wantG q_nil q_zero q_succ t_zero t_succ g_zero g_succ s_zero s_succ s_some s_none v_tmp v_const v_func f_quiet gc_none gc_pure wrap_i64 p_move p_assign p_pick p_alloc p_box p_build p_buildSlice p_load p_store p_nilCheck p_binOp n_tmp n_int n_bool n_str n_ptr n_fun n_iface nilCmp p_unOp p_convert p_makeSlice p_makeInterface p_makeFunc p_slice p_fieldAddr p_field p_indexAddr p_index p_extract p_callv p_callb p_panic quiet_val new_val e_assign e_call e_load e_store e_alloc e_box e_move e_pick e_build e_buildSlice e_nilCheck e_binOp e_unOp e_convert e_makeSlice e_makeInterface e_makeFunc e_slice e_fieldAddr e_field e_indexAddr e_index e_extract e_panic callD fpRead adoptZ fulls adopt adoptL ofValue ofScalar binOpV unOpV intBin strBin eqRes veq veqF eqDepth val? finish resL r_tmp r_cell normL normTop tipIs refsL refs ownRefs single frz frzL ren renL renOwn callOp doCall backR writeBack builtinV loadV storeV storeW iceT cellsAt takeV D.isAgg overlay vcells cellOk fieldAddrV indexAddrV fieldV partV indexV buildV fillV buildSliceV litElems appendV appElems elemOk convertV convV winStr makeSliceV sliceV natOf
attribute [local simp ↓] brB_true brB_false brB_dec brB_not brB_and brB_or brB_beq brB_bne

theorem xenc_cells (e : Xp) : (vcells e.enc).length = 7 := by cases e; rw [xenc_mk]; rfl

theorem ev_plains_of (l : List Xp) (hl : l.length ≤ 1048576) (ihk : ∀ m ∈ l, EV 22 [m.enc] [] = some (.ret m.enc, [])) :
    EV 38 [.slice .froz (l.map Xp.enc)] [] = some (.ret (.slice (.own 0) (l.map Xp.enc)), [[.tip l.length]]) := by
  rw [EV_mki rfl Tryz.func38 rfl (by kernel_rfl) rfl]
  simp [Tryz.f38, Tryz.ti3, Tryz.ti9, Tryz.ti23, Tryz.ti31, Tryz.ti44, Tryz.ti46, Tryz.ti50]
  rw [i_loop (ts := [9, 10, 11, 5, 12, 13, 14, 15, 16, 17])]
  rotate_left
  · kernel_rfl
  refine i_at (fun i : {i : Nat // i ≤ l.length} => l.length - i.1) (fun i env => setV (setV env 8 (.int .i64 i.1)) 3 (.slice (.own 1) ((l.take i.1).map Xp.enc))) (fun i => [[.tip 0], [.tip i.1]]) (fun _ => some (.ret (.slice (.own 0) (l.map Xp.enc)), [[.tip l.length]])) ⟨0, by omega⟩ (by simp [s_zero, s_succ]) rfl rfl ?_
  intro ⟨i, hil⟩ ih
  dsimp only at hil ⊢
  by_cases hi : i < l.length
  · have ih := ih ⟨i + 1, by omega⟩ (by simp only; omega)
    have hwi : IntKind.i64.wrap ((i : Int) + 1) = (i : Int) + 1 := wrap_i64 (by omega)
    have hlen : ((l.take i).map Xp.enc).length = i := by simp; omega
    have hc := ihk l[i] (List.getElem_mem hi)
    obtain ⟨t, hk⟩ : ∃ m, l[i] = m := ⟨_, rfl⟩
    have ht : l.take (i + 1) = l.take i ++ [t] := by rw [List.take_succ_eq_append_getElem hi, hk]
    have hf : ∀ x ∈ (l.take i).map Xp.enc, (vcells x).length = 7 := fun x hx => by obtain ⟨y, _, rfl⟩ := List.mem_map.1 hx; exact xenc_cells y
    rw [hk] at hc
    obtain ⟨op, v, var, col, kids⟩ := t
    simp only at ih
    rw [ht, List.map_append] at ih
    generalize (l.take i).map Xp.enc = xs at *
    rw [xenc_mk] at hc
    simp only [s_zero, s_succ, Int.natCast_add, Int.natCast_one, Int.cast_ofNat_Int, List.map_cons, List.map_nil, xenc_mk] at ih
    simp only [vcells] at hf
    have hbb : (i + 1) * 112 ≤ 70368744177664 := by omega
    have hbb' : (i + 1) * 104 ≤ 70368744177664 := by omega
    have hbc : i + 1 ≤ 70368744177664 := by omega
    simp +contextual [i_again, roundEnd, dropT, cleanV, Tryz.f38, Tryz.ti3, Tryz.ti9, Tryz.ti23, Tryz.ti31, Tryz.ti44, Tryz.ti46, Tryz.ti50, hi, hk, xenc_mk, hwi, hlen, hbb, hbb', hbc, hf, ih, hc]
  · have ht : l.take i = l := List.take_of_length_le (by omega)
    obtain rfl : i = l.length := by omega
    simp +contextual [i_again, roundEnd, dropT, cleanV, Tryz.f38, Tryz.ti3, Tryz.ti9, Tryz.ti23, Tryz.ti31, Tryz.ti44, Tryz.ti46, Tryz.ti50, hi, ht]
    simp [gc, reach, reachFuel, shut, nodup, List.idxOf, List.findIdx, List.findIdx.go, List.range, List.range.loop]

mutual
theorem ev_plainx : ∀ e : Xp, e.ok → EV 22 [e.enc] [] = some (.ret e.enc, [])
  | .mk op v var col kids, h => by
    have hp := ev_plains_of kids h.2.2.2.2.1 (ev_plain_all kids h.2.2.2.2.2)
    rw [EV_mki rfl Tryz.func22 rfl (by kernel_rfl) rfl, xenc_mk]
    simp [Tryz.f22, Tryz.ti3, Tryz.ti9, Tryz.ti23, Tryz.ti31, Tryz.ti44, Tryz.ti46, Tryz.ti50, hp, gc, reach, reachFuel, shut, nodup, List.idxOf, List.findIdx, List.findIdx.go, List.range, List.range.loop] <;> first | (refine panQ_of ?_; decide +kernel) | (change _ = true; decide +kernel) | kernel_rfl | (refine ⟨?_, ?_⟩ <;> first | (change _ = true; decide +kernel) | kernel_rfl)
theorem ev_plain_all : ∀ l : List Xp, Xp.oks l → ∀ m ∈ l, EV 22 [m.enc] [] = some (.ret m.enc, [])
  | [], _, m, hm => by cases hm
  | e :: l, h, m, hm => by
    rcases List.mem_cons.1 hm with hm | hm
    · rw [hm]; exact ev_plainx e h.1
    · exact ev_plain_all l h.2 m hm
end
theorem ev_plainxs (l : List Xp) (hl : l.length ≤ 1048576) (h : Xp.oks l) : EV 38 [.slice .froz (l.map Xp.enc)] [] = some (.ret (.slice (.own 0) (l.map Xp.enc)), [[.tip l.length]]) := ev_plains_of l hl (ev_plain_all l h)

/- deepExpr -/
theorem ev_deep_of (n : Nat) (op : List UInt8) (v : Val) (var col : List UInt8) (l : List Xp) (hn : n < 1000) (hl : l.length ≤ 1048576) (ihk : ∀ m ∈ l, EV 20 [m.enc, .int .i64 n] [] = some (.ret (.bool (deepE n m)), [])) :
    EV 20 [(Xp.mk op v var col l).enc, .int .i64 (n + 1 : Nat)] [] = some (.ret (.bool (l.any (deepE n))), []) := by
  have hn0 : ¬ ((n : Int) + 1 = 0) := by omega
  have hw : IntKind.i64.wrap (n : Int) = n := wrap_i64 (by omega)
  rw [EV_mki rfl Tryz.func20 rfl (by kernel_rfl) rfl, xenc_mk]
  simp [Tryz.f20, Tryz.ti3, Tryz.ti9, Tryz.ti23, Tryz.ti44, Tryz.ti46, hn0]
  rw [i_loop (ts := [13, 14, 15, 6, 16, 17, 18, 19, 20])]
  rotate_left
  · kernel_rfl
  refine i_at (fun i : {i : Nat // i ≤ l.length} => l.length - i.1) (fun i env => setV env 12 (.int .i64 i.1)) (fun i => _) (fun i => some (.ret (.bool ((l.drop i.1).any (deepE n))), [])) ⟨0, by omega⟩ (by simp [s_zero, s_succ]) rfl (by simp) ?_
  intro ⟨i, hil⟩ ih
  dsimp only at hil ⊢
  by_cases hi : i < l.length
  · have ih := ih ⟨i + 1, by omega⟩ (by simp only; omega)
    have hwi : IntKind.i64.wrap ((i : Int) + 1) = (i : Int) + 1 := wrap_i64 (by omega)
    have hc := ihk l[i] (List.getElem_mem hi)
    obtain ⟨t, hk⟩ : ∃ m, l[i] = m := ⟨_, rfl⟩
    rw [List.drop_eq_getElem_cons hi, List.any_cons, hk]
    rw [hk] at hc
    obtain ⟨op', v', var', col', kids'⟩ := t
    rw [xenc_mk] at hc
    simp only [s_zero, s_succ, Int.natCast_add, Int.natCast_one, Int.cast_ofNat_Int] at ih
    cases hd : deepE n (.mk op' v' var' col' kids') <;> rw [hd] at hc <;> simp [i_again, roundEnd, dropT, cleanV, Tryz.f20, Tryz.ti3, Tryz.ti9, Tryz.ti23, Tryz.ti44, Tryz.ti46, hi, hk, xenc_mk, hwi, hw, ih, hc]
  · rw [List.drop_of_length_le (by omega)]
    simp [i_again, roundEnd, dropT, cleanV, Tryz.f20, Tryz.ti3, Tryz.ti9, Tryz.ti23, Tryz.ti44, Tryz.ti46, hi]
theorem ev_deepx : ∀ (n : Nat) (e : Xp), e.ok → n < 1000 → EV 20 [e.enc, .int .i64 n] [] = some (.ret (.bool (deepE n e)), [])
  | 0, .mk op v var col kids, h, hn => by
    rw [EV_mki rfl Tryz.func20 rfl (by kernel_rfl) rfl, xenc_mk]
    simp [Tryz.f20, Tryz.ti3, Tryz.ti9, Tryz.ti23, Tryz.ti44, Tryz.ti46, deepE]
  | n + 1, .mk op v var col kids, h, hn => by
    have := ev_deep_of n op v var col kids (by omega) h.2.2.2.2.1 (fun m hm => ev_deepx n m ((xoks_iff kids).1 h.2.2.2.2.2 m hm) (by omega))
    rw [this]; rfl
end Go.Abs

namespace Go.Abs
open Go

theorem dig_int (c : UInt8) : isDig c = (decide ((48 : Int) ≤ c.toNat) && decide ((c.toNat : Int) ≤ 57)) := by
  have e1 : (48 : UInt8).toNat = 48 := rfl
  have e2 : (57 : UInt8).toNat = 57 := rfl
  rw [isDig, Bool.eq_iff_iff]
  simp only [Bool.and_eq_true, decide_eq_true_eq, UInt8.le_iff_toNat_le, e1, e2]
  omega
theorem cap_int (c : UInt8) : isCap c = (decide ((65 : Int) ≤ c.toNat) && decide ((c.toNat : Int) ≤ 90)) := by
  have e1 : (65 : UInt8).toNat = 65 := rfl
  have e2 : (90 : UInt8).toNat = 90 := rfl
  rw [isCap, Bool.eq_iff_iff]
  simp only [Bool.and_eq_true, decide_eq_true_eq, UInt8.le_iff_toNat_le, e1, e2]
  omega
theorem low_int (c : UInt8) : isLow c = (decide ((97 : Int) ≤ c.toNat) && decide ((c.toNat : Int) ≤ 122)) := by
  have e1 : (97 : UInt8).toNat = 97 := rfl
  have e2 : (122 : UInt8).toNat = 122 := rfl
  rw [isLow, Bool.eq_iff_iff]
  simp only [Bool.and_eq_true, decide_eq_true_eq, UInt8.le_iff_toNat_le, e1, e2]
  omega
theorem byte_int (c : UInt8) (k : Nat) (hk : k < 256) : (c == UInt8.ofNat k) = decide ((c.toNat : Int) = k) := by
  have e : (UInt8.ofNat k).toNat = k := by rw [UInt8.toNat_ofNat']; omega
  rw [Bool.eq_iff_iff]
  simp only [beq_iff_eq, decide_eq_true_eq]
  constructor
  · rintro rfl; rw [e]
  · intro h; exact UInt8.toNat_inj.1 (by rw [e]; omega)
theorem under_int (c : UInt8) : (c == 95) = decide ((c.toNat : Int) = 95) := byte_int c 95 (by omega)
theorem blk_int (c : UInt8) : isBlk c = (decide ((c.toNat : Int) = 32) || decide ((c.toNat : Int) = 9) || decide ((c.toNat : Int) = 10)) := by
  rw [isBlk]
  have h1 : (c == 32) = decide ((c.toNat : Int) = 32) := byte_int c 32 (by omega)
  have h2 : (c == 9) = decide ((c.toNat : Int) = 9) := byte_int c 9 (by omega)
  have h3 : (c == 10) = decide ((c.toNat : Int) = 10) := byte_int c 10 (by omega)
  rw [h1, h2, h3]
end Go.Abs

