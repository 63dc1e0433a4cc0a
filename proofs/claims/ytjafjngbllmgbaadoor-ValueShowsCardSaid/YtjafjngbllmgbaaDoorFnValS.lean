/- Plain: what a value is, and whether one is right. -/
import Derived.Test.YtjafjngbllmgbaaDoorAbsDef
namespace Go.Abs
open Go

def inI (x : Int) : Prop := -9223372036854775808 ≤ x ∧ x ≤ 9223372036854775807
structure Val where
  kind : Int
  n : Int
  s : List UInt8
  deriving DecidableEq

def Val.cells (v : Val) : List V := [.int .i64 v.kind, .int .i64 v.n, .str v.s]
def Val.enc (v : Val) : V := .agg v.cells
theorem Val.eta (v : Val) : (⟨v.kind, v.n, v.s⟩ : Val) = v := rfl
theorem Val.enc_eq (v : Val) : v.enc = .agg [.int .i64 v.kind, .int .i64 v.n, .str v.s] := rfl

def rightS (v : Val) : Bool :=
  if v.kind = 0 then v.n = 0 && v.s = []
  else if v.kind = 1 then v.s = [] && (v.n = 0 || v.n = 1)
  else if v.kind = 2 then v.s = []
  else if v.kind = 3 then v.n = 0 && v.s.length ≤ 24 else false
end Go.Abs
