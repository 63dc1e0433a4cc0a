/- Expressions and statements: what is right, and their text. -/
import Derived.Test.YtenpkhklgjgdjaaGreatDoorFnVShow
import Derived.Test.YtenpkhklgjgdjaaGreatDoorFnLexS
namespace Go.Abs
set_option linter.unusedSimpArgs false
set_option linter.unusedVariables false
open Go Go.Proofs

inductive Xp where
  | mk (op : List UInt8) (v : Val) (var col : List UInt8) (kids : List Xp)

mutual
def Xp.enc : Xp → V
  | .mk op v var col kids => .agg [.str op, .int .i64 v.kind, .int .i64 v.n, .str v.s, .str var, .str col, .slice .froz (Xp.encs kids)]
def Xp.encs : List Xp → List V
  | [] => []
  | e :: l => e.enc :: Xp.encs l
end
theorem xencs_eq : ∀ l : List Xp, Xp.encs l = l.map Xp.enc
  | [] => rfl
  | n :: l => by simp [Xp.encs, xencs_eq l]
theorem xenc_mk (op : List UInt8) (v : Val) (var col : List UInt8) (kids : List Xp) : (Xp.mk op v var col kids).enc = .agg [.str op, .int .i64 v.kind, .int .i64 v.n, .str v.s, .str var, .str col, .slice .froz (kids.map Xp.enc)] := by simp [Xp.enc, xencs_eq]

def Xp.op : Xp → List UInt8 | .mk op _ _ _ _ => op
def Xp.v : Xp → Val | .mk _ v _ _ _ => v
def Xp.var : Xp → List UInt8 | .mk _ _ var _ _ => var
def Xp.col : Xp → List UInt8 | .mk _ _ _ col _ => col
def Xp.kids : Xp → List Xp | .mk _ _ _ _ kids => kids

def Val.ok (v : Val) : Prop := inI v.kind ∧ inI v.n ∧ v.s.length ≤ 1048576
mutual
def Xp.ok : Xp → Prop
  | .mk op v var col kids => op.length ≤ 1048576 ∧ v.ok ∧ var.length ≤ 1048576 ∧ col.length ≤ 1048576 ∧ kids.length ≤ 1048576 ∧ Xp.oks kids
def Xp.oks : List Xp → Prop
  | [] => True
  | n :: l => n.ok ∧ Xp.oks l
end
theorem xoks_iff : ∀ l : List Xp, Xp.oks l ↔ ∀ m ∈ l, m.ok
  | [] => by simp [Xp.oks]
  | n :: l => by simp [Xp.oks, xoks_iff l]

/- the ops -/
def oValue : List UInt8 := [118, 97, 108, 117, 101]
def oColumn : List UInt8 := [99, 111, 108, 117, 109, 110]
def oNeg : List UInt8 := [110, 101, 103]
def oNot : List UInt8 := [110, 111, 116]
def oNull : List UInt8 := [110, 117, 108, 108]
def oAnd : List UInt8 := [97, 110, 100]
def oOr : List UInt8 := [111, 114]
def twoOps : List (List UInt8) := [[43], [45], [42], [61], [60, 62], [60], [60, 61], [62], [62, 61], oAnd, oOr]

def deepE : Nat → Xp → Bool
  | 0, _ => true
  | m + 1, e => e.kids.any (deepE m)

def arityS (op : List UInt8) : Int :=
  if op = oValue ∨ op = oColumn then 0 else if op = oNeg ∨ op = oNot ∨ op = oNull then 1 else if op ∈ twoOps then 2 else -1

def Val.zero : Val := ⟨0, 0, []⟩
def rightE : Nat → Xp → Bool
  | 0, _ => false
  | d + 1, .mk op v var col kids => decide ((kids.length : Int) = arityS op) && (decide (op = oValue) || decide (v = Val.zero)) && (decide (op = oColumn) || decide (var = [] ∧ col = [])) &&
    (if op = oValue then rightS v && decide (v.kind ≠ 2 ∨ 0 ≤ v.n) else if op = oColumn then nameS col && (decide (var = []) || nameS var) else kids.all (rightE d))

def upS (op : List UInt8) : List UInt8 := if op = oAnd then [65, 78, 68] else if op = oOr then [79, 82] else op
mutual
def showE : Xp → List UInt8
  | .mk op v var col kids =>
    if op = oValue then showV v
    else if op = oColumn then (if var = [] then col else var ++ 46 :: col)
    else match showEs kids with
      | a :: r => if op = oNeg then 40 :: 45 :: 32 :: (a ++ [41]) else if op = oNot then [40, 78, 79, 84, 32] ++ a ++ [41] else if op = oNull then 40 :: (a ++ [32, 73, 83, 32, 78, 85, 76, 76, 41])
        else match r with
          | b :: _ => 40 :: (a ++ 32 :: (upS op ++ 32 :: (b ++ [41])))
          | [] => []
      | [] => []
def showEs : List Xp → List (List UInt8)
  | [] => []
  | e :: l => showE e :: showEs l
end
theorem showEs_eq : ∀ l : List Xp, showEs l = l.map showE
  | [] => rfl
  | n :: l => by simp [showEs, showEs_eq l]
mutual
def sizeE : Xp → Nat
  | .mk _ _ _ _ kids => 1 + sizeEs kids
def sizeEs : List Xp → Nat
  | [] => 0
  | e :: l => sizeE e + sizeEs l
end

/- statements -/
structure Col where
  name : List UInt8
  type : Int
  notNull : Bool
  unique : Bool
  deriving DecidableEq
def Col.cells (c : Col) : List V := [.str c.name, .int .i64 c.type, .bool c.notNull, .bool c.unique]
def Col.enc (c : Col) : V := .agg c.cells
structure Src where
  kind : Int
  table : List UInt8
  var : List UInt8
  deriving DecidableEq
def Src.cells (c : Src) : List V := [.int .i64 c.kind, .str c.table, .str c.var]
def Src.enc (c : Src) : V := .agg c.cells
structure SetE where
  col : List UInt8
  e : Xp
def SetE.enc (x : SetE) : V := .agg (.str x.col :: vcells x.e.enc)
structure StB where
  kind : Int
  name : List UInt8
  table : List UInt8
  col : List UInt8
  cols : List Col
  values : List Xp
  items : List Xp
  wher : List Xp
  sets : List SetE
  src : List Src
  prio : Int
  event : Int
  deferred : Bool
  rolls : Bool
inductive Stm where
  | mk (b : StB) (acts : List Stm)
def Stm.b : Stm → StB | .mk b _ => b
def Stm.acts : Stm → List Stm | .mk _ acts => acts
def StB.head (b : StB) : List V := [.int .i64 b.kind, .str b.name, .str b.table, .str b.col, .slice .froz (b.cols.map Col.enc), .slice .froz (b.values.map Xp.enc), .slice .froz (b.items.map Xp.enc), .slice .froz (b.wher.map Xp.enc),
  .slice .froz (b.sets.map SetE.enc), .slice .froz (b.src.map Src.enc), .int .i64 b.prio, .int .i64 b.event, .bool b.deferred, .bool b.rolls]
mutual
def Stm.enc : Stm → V
  | .mk b acts => .agg (b.head ++ [.slice .froz (Stm.encs acts)])
def Stm.encs : List Stm → List V
  | [] => []
  | e :: l => e.enc :: Stm.encs l
end
theorem sencs_eq : ∀ l : List Stm, Stm.encs l = l.map Stm.enc
  | [] => rfl
  | n :: l => by simp [Stm.encs, sencs_eq l]
theorem senc_mk (b : StB) (acts : List Stm) : (Stm.mk b acts).enc = .agg [.int .i64 b.kind, .str b.name, .str b.table, .str b.col, .slice .froz (b.cols.map Col.enc), .slice .froz (b.values.map Xp.enc), .slice .froz (b.items.map Xp.enc), .slice .froz (b.wher.map Xp.enc),
  .slice .froz (b.sets.map SetE.enc), .slice .froz (b.src.map Src.enc), .int .i64 b.prio, .int .i64 b.event, .bool b.deferred, .bool b.rolls, .slice .froz (acts.map Stm.enc)] := by simp [Stm.enc, sencs_eq, StB.head]
def Col.ok (c : Col) : Prop := c.name.length ≤ 1048576 ∧ inI c.type
def Src.ok (c : Src) : Prop := inI c.kind ∧ c.table.length ≤ 1048576 ∧ c.var.length ≤ 1048576
def SetE.ok (x : SetE) : Prop := x.col.length ≤ 1048576 ∧ x.e.ok
structure StB.ok (b : StB) : Prop where
  kind : inI b.kind
  name : b.name.length ≤ 1048576
  table : b.table.length ≤ 1048576
  col : b.col.length ≤ 1048576
  cols : b.cols.length ≤ 1048576 ∧ ∀ c ∈ b.cols, c.ok
  values : b.values.length ≤ 1048576 ∧ ∀ c ∈ b.values, c.ok
  items : b.items.length ≤ 1048576 ∧ ∀ c ∈ b.items, c.ok
  wher : b.wher.length ≤ 1048576 ∧ ∀ c ∈ b.wher, c.ok
  sets : b.sets.length ≤ 1048576 ∧ ∀ c ∈ b.sets, c.ok
  src : b.src.length ≤ 1048576 ∧ ∀ c ∈ b.src, c.ok
  prio : inI b.prio
  event : inI b.event
mutual
def Stm.ok : Stm → Prop
  | .mk b acts => b.ok ∧ acts.length ≤ 1048576 ∧ Stm.oks acts
def Stm.oks : List Stm → Prop
  | [] => True
  | n :: l => n.ok ∧ Stm.oks l
end
theorem soks_iff : ∀ l : List Stm, Stm.oks l ↔ ∀ m ∈ l, m.ok
  | [] => by simp [Stm.oks]
  | n :: l => by simp [Stm.oks, soks_iff l]
end Go.Abs
