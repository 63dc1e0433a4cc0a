/- An abstract interpreter of the translated code: values instead of memory. Definitions only. -/
import Derived.Calls
import Derived.Orders
set_option linter.unusedSimpArgs false
set_option linter.unusedVariables false

namespace Go.Abs
open Go
inductive Own where
  | froz | full | own (b : Nat)
  deriving DecidableEq, Inhabited
inductive V where
  | undef
  | bool (b : Bool)
  | int (k : IntKind) (n : Int)
  | str (s : List UInt8)
  | nil
  | box (b off : Nat)
  | ro (cs : List V)
  | slice (o : Own) (xs : List V)
  | func (f : FuncId) (first cap : List V)
  | nilfunc
  | iface (t : TypeId) (v : V)
  | niliface
  | agg (cs : List V)
  | tup (cs : List V)
  | tip (n : Nat)
  | win (b off n : Nat)
  deriving Inhabited
abbrev St := List (List V)
abbrev Env := List V
def vcells : V → List V
  | .agg cs => cs
  | v => [v]
def ownRefs : Own → List Nat
  | .own b => [b]
  | .froz => []
  | .full => []
def renOwn (ρ : Nat → Nat) : Own → Own
  | .own b => .own (ρ b)
  | .froz => .froz
  | .full => .full
mutual
def refs : V → List Nat
  | .undef => []
  | .bool _ => []
  | .int _ _ => []
  | .str _ => []
  | .nil => []
  | .box b _ => [b]
  | .ro _ => []
  | .slice o _ => ownRefs o
  | .func _ first cap => refsL first ++ refsL cap
  | .nilfunc => []
  | .iface _ v => refs v
  | .niliface => []
  | .agg cs => refsL cs
  | .tup cs => refsL cs
  | .tip _ => []
  | .win b _ _ => [b]
def refsL : List V → List Nat
  | [] => []
  | x :: xs => refs x ++ refsL xs
end
mutual
def ren (ρ : Nat → Nat) : V → V
  | .undef => .undef
  | .bool b => .bool b
  | .int k n => .int k n
  | .str s => .str s
  | .nil => .nil
  | .box b off => .box (ρ b) off
  | .ro cs => .ro cs
  | .slice o xs => .slice (renOwn ρ o) xs
  | .func f first cap => .func f (renL ρ first) (renL ρ cap)
  | .nilfunc => .nilfunc
  | .iface t v => .iface t (ren ρ v)
  | .niliface => .niliface
  | .agg cs => .agg (renL ρ cs)
  | .tup cs => .tup (renL ρ cs)
  | .tip n => .tip n
  | .win b off n => .win (ρ b) off n
def renL (ρ : Nat → Nat) : List V → List V
  | [] => []
  | x :: xs => ren ρ x :: renL ρ xs
end
mutual
def frz : V → V
  | .undef => .undef
  | .bool b => .bool b
  | .int k n => .int k n
  | .str s => .str s
  | .nil => .nil
  | .box b off => .box b off
  | .ro cs => .ro cs
  | .slice _ xs => .slice .froz xs
  | .func f first cap => .func f first cap
  | .nilfunc => .nilfunc
  | .iface t v => .iface t (frz v)
  | .niliface => .niliface
  | .agg cs => .agg (frzL cs)
  | .tup cs => .tup (frzL cs)
  | .tip n => .tip n
  | .win b off n => .win b off n
def frzL : List V → List V
  | [] => []
  | x :: xs => frz x :: frzL xs
end
def cellOk : V → Bool
  | .bool _ => true
  | .int _ _ => true
  | .str _ => true
  | .nil => true
  | .box _ _ => true
  | .ro _ => true
  | .slice _ _ => true
  | .func _ _ _ => true
  | .nilfunc => true
  | .iface _ _ => true
  | .niliface => true
  | .win _ _ _ => true
  | _ => false
def ofScalar : Value → V
  | .bool b => .bool b
  | .int k n => .int k n
  | .string s => .str s.data.toList
  | .pointer none => .nil
  | .slice none 0 0 => .slice .full []
  | .nilFunc => .nilfunc
  | .nilIface => .niliface
  | _ => .undef
def ofValue : Value → V
  | .agg cs => .agg (cs.toList.map ofScalar)
  | .iface t v => .iface t (ofScalar v)
  | v => ofScalar v
def opv (env : Env) : Operand → V
  | .tmp t => env.getD t .undef
  | .const v => ofValue v
  | .global _ => .undef
  | .func f => .func f [] []
inductive D where
  | bool | int (k : IntKind) | string | pointer (e : TypeId) | slice (e : TypeId) | array (n : Nat) (e : TypeId)
  | struct (fs : List (Nat × TypeId)) | func | iface | other
  deriving Inhabited
def dOf : TypeDesc → D
  | .bool => .bool
  | .int k => .int k
  | .string => .string
  | .pointer e => .pointer e
  | .slice e => .slice e
  | .array n e => .array n e
  | .struct fs => .struct (fs.toList.map fun f => (f.offset, f.type))
  | .func _ _ _ => .func
  | .interface _ => .iface
  | _ => .other
structure TI where
  d : D
  size : Nat
  bytes : Nat
  zero : V
  eqOk : Bool
  deriving Inhabited
def eqOkOf (P : Program) (t : TypeId) : TypeDesc → Bool
  | .struct fs => fs.all (fun f => f.name ≠ "_") && !P.stoodInHeld t && !P.eqGuardType P.depth t
  | _ => true
def ti (P : Program) (t : TypeId) : Option TI :=
  match P.info? t, P.underlying t with
  | some i, some d => match i.zero with
    | some z => if z.cells.size = i.size then some { d := dOf d, size := i.size, bytes := i.bytes, zero := ofValue z, eqOk := eqOkOf P t d } else none
    | none => none
  | _, _ => none
def D.isAgg : D → Bool
  | .struct _ => true
  | .array _ _ => true
  | _ => false
def takeV (T : TI) (cs : List V) : Option V :=
  if T.d.isAgg then (if T.size ≤ cs.length then some (.agg (cs.take T.size)) else none) else cs.head?
def cellsAt (st : St) : V → Option (List V)
  | .box b off => (st[b]?).map (·.drop off)
  | .ro cs => some cs
  | _ => none
def loadV (P : Program) (t : TypeId) (a : V) (st : St) : Option V :=
  match ti P t, cellsAt st a with
  | some T, some cs => takeV T cs
  | _, _ => none
def overlay (cs : List V) (off : Nat) (vs : List V) : Option (List V) :=
  if off + vs.length ≤ cs.length then some (cs.take off ++ vs ++ cs.drop (off + vs.length)) else none
def adoptL : Nat → List V → List V × List (List V)
  | _, [] => ([], [])
  | n, .slice .full xs :: vs => let r := adoptL (n + 1) vs; (.slice (.own n) xs :: r.1, [.tip xs.length] :: r.2)
  | n, v :: vs => let r := adoptL n vs; (v :: r.1, r.2)
def fulls : List V → Nat
  | [] => 0
  | .slice .full _ :: l => fulls l + 1
  | _ :: l => fulls l
def adopt (v : V) (st : St) : V × St :=
  match v with
  | .slice .full xs => (.slice (.own st.length) xs, st ++ [[.tip xs.length]])
  | .agg cs => let r := adoptL st.length cs; (.agg r.1, st ++ r.2)
  | v => (v, st)
def adoptZ (v : V) (st : St) : V × St :=
  match v with
  | .agg cs => if 6 < fulls cs then (.agg cs, st) else adopt (.agg cs) st
  | v => adopt v st
def iceT (t : TypeId) (v : V) : V := if ([50] : List Nat).contains t then frz v else v
def storeW (P : Program) (t : TypeId) (a v : V) (st : St) : Option St :=
  match a with
  | .box b off =>
    match ti P t, st[b]? with
    | some T, some cs =>
      if (vcells v).length = T.size ∧ (vcells v).all cellOk then
        let r := adopt v st
        match overlay cs off (vcells r.1) with
        | some cs' => some (r.2.set b cs')
        | none => none
      else none
    | _, _ => none
  | _ => none
def storeV (P : Program) (t : TypeId) (a v : V) (st : St) : Option St := storeW P t a (iceT t v) st
def fieldAddrV (P : Program) (t : TypeId) (a : V) (f : Nat) : Option V :=
  match ti P t with
  | some { d := .struct fs, .. } => match fs[f]? with
    | some (o, u) => match ti P u, a with
      | some U, .box b off => if U.size = 0 then none else some (.box b (off + o))
      | some U, .ro cs => if U.size = 0 then none else some (.ro (cs.drop o))
      | _, _ => none
    | none => none
  | _ => none
def indexAddrV (P : Program) (t : TypeId) (x i : V) : Option V :=
  match i with
  | .int _ n => match ti P t, x with
    | some { d := .slice e, .. }, .slice _ xs => match ti P e, xs[n.toNat]? with
      | some E, some x => if 0 ≤ n ∧ n < xs.length ∧ (vcells x).length = E.size then some (.ro (vcells x)) else none
      | _, _ => none
    | some { d := .array len e, .. }, .box b off => match ti P e with
      | some E => if 0 ≤ n ∧ n < len then some (.box b (off + n.toNat * E.size)) else none
      | none => none
    | some { d := .slice e, .. }, .win b off len => match ti P e with
      | some E => if 0 ≤ n ∧ n < len then some (.box b (off + n.toNat * E.size)) else none
      | none => none
    | _, _ => none
  | _ => none
def partV (P : Program) (t : TypeId) (cs : List V) (off : Nat) : Option V :=
  match ti P t with
  | some T => if T.d.isAgg then (if off + T.size ≤ cs.length then some (.agg ((cs.drop off).take T.size)) else none) else cs[off]?
  | none => none
def fieldV (P : Program) (t : TypeId) (x : V) (f : Nat) : Option V :=
  match ti P t, x with
  | some { d := .struct fs, .. }, .agg cs => match fs[f]? with
    | some (o, u) => partV P u cs o
    | none => none
  | _, _ => none
def indexV (P : Program) (t : TypeId) (x i : V) : Option V :=
  match i with
  | .int _ n => match ti P t, x with
    | some { d := .string, .. }, .str s => if 0 ≤ n ∧ n < s.length then (s[n.toNat]?).map fun b => .int .u8 b.toNat else none
    | some { d := .array len e, .. }, .agg cs => match ti P e with
      | some E => if 0 ≤ n ∧ n < len then partV P e cs (n.toNat * E.size) else none
      | none => none
    | _, _ => none
  | _ => none
def intBin (op : BinOp) (k : IntKind) (a b : Int) : Option V :=
  match op with
  | .add => some (.int k (k.wrap (a + b)))
  | .sub => some (.int k (k.wrap (a - b)))
  | .mul => some (.int k (k.wrap (a * b)))
  | .quo => if b = 0 then none else some (.int k (k.wrap (a.tdiv b)))
  | .rem => if b = 0 then none else some (.int k (a.tmod b))
  | .and => some (.int k (k.wrap (BitVec.ofInt k.bits a &&& BitVec.ofInt k.bits b).toNat))
  | .or => some (.int k (k.wrap (BitVec.ofInt k.bits a ||| BitVec.ofInt k.bits b).toNat))
  | .xor => some (.int k (k.wrap (BitVec.ofInt k.bits a ^^^ BitVec.ofInt k.bits b).toNat))
  | .andNot => some (.int k (k.wrap (BitVec.ofInt k.bits a &&& ~~~(BitVec.ofInt k.bits b)).toNat))
  | .eql => some (.bool (decide (a = b)))
  | .neq => some (.bool (!decide (a = b)))
  | .lss => some (.bool (decide (a < b)))
  | .leq => some (.bool (decide (a ≤ b)))
  | .gtr => some (.bool (decide (a > b)))
  | .geq => some (.bool (decide (a ≥ b)))
  | .shl => none
  | .shr => none
def strBin (op : BinOp) (a b : List UInt8) : Option V :=
  match op with
  | .add => if a.length + b.length ≤ 4611686018427387904 then some (.str (a ++ b)) else none
  | .eql => some (.bool (decide (a = b)))
  | .neq => some (.bool (!decide (a = b)))
  | .lss => some (.bool (Op.bytesLess a b))
  | .leq => some (.bool (Op.bytesLess a b || decide (a = b)))
  | .gtr => some (.bool (!(Op.bytesLess a b || decide (a = b))))
  | .geq => some (.bool (!Op.bytesLess a b))
  | _ => none
mutual
def veq (P : Program) : Nat → TypeId → V → V → Option Bool
  | 0, _, _, _ => none
  | n + 1, t, x, y =>
    match ti P t with
    | none => none
    | some T => match T.d, x, y with
      | .bool, .bool a, .bool b => some (decide (a = b))
      | .int _, .int k a, .int k' b => if k = k' then some (decide (a = b)) else none
      | .string, .str a, .str b => some (decide (a = b))
      | .struct fs, .agg xs, .agg ys => if T.eqOk then veqF P n fs xs ys else none
      | .pointer _, .nil, .nil => some true
      | .pointer _, .nil, .box _ _ => some false
      | .pointer _, .box _ _, .nil => some false
      | .pointer _, .nil, .ro _ => some false
      | .pointer _, .ro _, .nil => some false
      | .func, .nilfunc, .nilfunc => some true
      | .func, .nilfunc, .func _ _ _ => some false
      | .func, .func _ _ _, .nilfunc => some false
      | _, _, _ => none
def veqF (P : Program) : Nat → List (Nat × TypeId) → List V → List V → Option Bool
  | 0, _, _, _ => none
  | _ + 1, [], _, _ => some true
  | n + 1, (off, t) :: fs, xs, ys =>
    match partV P t xs off, partV P t ys off with
    | some x, some y => match veq P n t x y, veqF P n fs xs ys with
      | some a, some b => some (a && b)
      | _, _ => none
    | _, _ => none
end
def eqDepth : Nat := 40
def eqRes (op : BinOp) : Option Bool → Option V
  | some b => match op with
    | .eql => some (.bool b)
    | .neq => some (.bool (!b))
    | _ => none
  | none => none
def binOpV (P : Program) (op : BinOp) (t : TypeId) (x y : V) : Option V :=
  match x, y with
  | .int k a, .int k' b =>
    match op with
    | .shl => if b < 0 then none else some (.int k (k.wrap (a * 2 ^ (min b.toNat k.bits))))
    | .shr => if b < 0 then none else some (.int k (a.fdiv (2 ^ (min b.toNat k.bits))))
    | _ => if k = k' then intBin op k a b else none
  | .str a, .str b => strBin op a b
  | .bool a, .bool b => eqRes op (veq P eqDepth t (.bool a) (.bool b))
  | .agg a, .agg b => eqRes op (veq P eqDepth t (.agg a) (.agg b))
  | .nil, .nil => eqRes op (veq P eqDepth t .nil .nil)
  | .nil, .box b o => eqRes op (veq P eqDepth t .nil (.box b o))
  | .box b o, .nil => eqRes op (veq P eqDepth t (.box b o) .nil)
  | .nil, .ro c => eqRes op (veq P eqDepth t .nil (.ro c))
  | .ro c, .nil => eqRes op (veq P eqDepth t (.ro c) .nil)
  | .nilfunc, .nilfunc => eqRes op (veq P eqDepth t .nilfunc .nilfunc)
  | .nilfunc, .func f a b => eqRes op (veq P eqDepth t .nilfunc (.func f a b))
  | .func f a b, .nilfunc => eqRes op (veq P eqDepth t (.func f a b) .nilfunc)
  | _, _ => none
def isNilC : Operand → Bool
  | .const .nilIface => true
  | _ => false
def nilCmp (P : Program) (op : BinOp) (t : TypeId) (x : V) : Option V :=
  match ti P t with
  | some { d := .iface, .. } => match x with
    | .niliface => eqRes op (some true)
    | .iface _ _ => eqRes op (some false)
    | _ => none
  | _ => none
def unOpV (op : UnOp) (x : V) : Option V :=
  match op, x with
  | .neg, .int k n => some (.int k (k.wrap (0 - n)))
  | .not, .bool b => some (.bool (!b))
  | _, _ => none
def bytesOf : List V → Option (List UInt8)
  | [] => some []
  | .int .u8 n :: r => (bytesOf r).map (UInt8.ofNat n.toNat :: ·)
  | _ :: _ => none
def convertV (P : Program) (src dst : TypeId) (x : V) : Option V :=
  match ti P src, ti P dst, x with
  | some _, some { d := .int k, .. }, .int _ n => some (.int k (k.wrap n))
  | some { d := .string, .. }, some { d := .string, .. }, .str s => some (.str s)
  | some { d := .slice e, .. }, some { d := .string, .. }, .slice _ xs => match ti P e with
    | some { d := .int .u8, .. } => (bytesOf xs).map .str
    | _ => none
  | _, _, _ => none
def winStr (P : Program) (src dst : TypeId) (b off n : Nat) (st : St) : Option V :=
  match ti P src, ti P dst, st[b]? with
  | some { d := .slice e, .. }, some { d := .string, .. }, some cs => match ti P e with
    | some { d := .int .u8, .. } => if off + n ≤ cs.length then (bytesOf ((cs.drop off).take n)).map .str else none
    | _ => none
  | _, _, _ => none
def convV (P : Program) (src dst : TypeId) (x : V) (st : St) : Option V :=
  match x with
  | .win b off n => winStr P src dst b off n st
  | x => convertV P src dst x
def natOf : V → Option Nat
  | .int _ n => if 0 ≤ n then some n.toNat else none
  | _ => none
def makeSliceV (P : Program) (t : TypeId) (l c : V) (st : St) : Option (V × St) :=
  match ti P t, natOf l, natOf c with
  | some { d := .slice e, .. }, some l, some c => match ti P e with
    | some { size := 1, bytes := bytes, zero := .int k z, .. } => if l ≤ c ∧ c ≤ 1000000 ∧ bytes ≤ 16 then some (.win st.length 0 l, st ++ [List.replicate c (.int k z)]) else none
    | _ => none
  | _, _, _ => none
def sliceV (P : Program) (t : TypeId) (x : V) (lo hi mx : Option V) : Option V :=
  match ti P t, x, mx with
  | some { d := .string, .. }, .str s, none =>
    match (match hi with | some v => natOf v | none => some s.length), (match lo with | some v => natOf v | none => some 0) with
    | some h, some l => if l ≤ h ∧ h ≤ s.length then some (.str ((s.take h).drop l)) else none
    | _, _ => none
  | some { d := .slice e, .. }, .slice _ xs, none =>
    match ti P e, (match hi with | some v => natOf v | none => some xs.length), (match lo with | some v => natOf v | none => some 0) with
    | some E, some h, some l => if l ≤ h ∧ h ≤ xs.length ∧ xs.all (fun x => (vcells x).length == E.size) then some (.slice .froz ((xs.take h).drop l)) else none
    | _, _, _ => none
  | some { d := .slice e, .. }, .slice _ xs, some m =>
    match ti P e, (match hi with | some v => natOf v | none => none), (match lo with | some v => natOf v | none => some 0), natOf m with
    | some E, some h, some l, some m => if l ≤ h ∧ h ≤ m ∧ m ≤ xs.length ∧ xs.all (fun x => (vcells x).length == E.size) then some (.slice (if h = m ∧ 0 < xs.length then .full else .froz) ((xs.take h).drop l)) else none
    | _, _, _, _ => none
  | some { d := .array n e, .. }, .box b off, none =>
    match ti P e, (match hi with | some v => natOf v | none => some n), (match lo with | some v => natOf v | none => some 0) with
    | some E, some h, some l => if l ≤ h ∧ h ≤ n ∧ l < n then some (.win b (off + l * E.size) (h - l)) else none
    | _, _, _ => none
  | _, _, _ => none
def fillV (place : Nat → Option (Nat × Nat)) (cs : List V) : List (Nat × V) → Option (List V)
  | [] => some cs
  | (i, v) :: rest =>
    match place i with
    | none => none
    | some (off, size) =>
      if (vcells v).length = size ∧ (vcells v).all cellOk then
        match overlay cs off (vcells v) with
        | some cs' => fillV place cs' rest
        | none => none
      else none
def buildV (P : Program) (t : TypeId) (parts : List (Nat × V)) : Option V :=
  match ti P t with
  | some { d := .struct fs, zero := .agg z, .. } =>
    if fs.all (fun f => (ti P f.2).isSome) then (fillV (fun i => (fs[i]?).bind fun f => (ti P f.2).map fun T => (f.1, T.size)) z parts).map .agg else none
  | some { d := .array _ e, zero := .agg z, .. } =>
    match ti P e with
    | some E => (fillV (fun i => some (i * E.size, E.size)) z parts).map .agg
    | none => none
  | _ => none
def elemOk (v : V) : Bool := (refs v).isEmpty && (vcells v).all cellOk
def litElems : Nat → List (Nat × V) → Option (List V)
  | _, [] => some []
  | n, (i, v) :: rest => if i = n ∧ elemOk (frz v) then (litElems (n + 1) rest).map (frz v :: ·) else none
def buildSliceV (P : Program) (t : TypeId) (len : Nat) (parts : List (Nat × V)) : Option V :=
  match ti P t with
  | some { d := .slice e, .. } => match ti P e with
    | some E => if len * E.size ≤ 1000000 ∧ parts.length = len ∧ parts.all (fun p => (vcells p.2).length == E.size) then (litElems 0 parts).map (.slice .full) else none
    | none => none
  | _ => none
inductive Res where
  | val (v : V) (st : St)
  | panic (v : V) (st : St)
inductive Out where
  | ret (v : V)
  | panic (v : V)
abbrev Oracle := FuncId → List V → St → Option (Out × St)
def tipIs (st : St) (b n : Nat) : Bool :=
  match st[b]? with
  | some [.tip m] => m == n
  | _ => false
def appElems (E : TI) (x : V) : Option (List V) :=
  match x with
  | .slice _ xs => some xs
  | .str s => if E.size = 1 then some (s.map fun b => .int .u8 b.toNat) else none
  | _ => none
def appendV (P : Program) (t : TypeId) (s x : V) (st : St) : Option Res :=
  match ti P t, s with
  | some { d := .slice e, .. }, .slice o xs =>
    match ti P e with
    | some E =>
      match appElems E x with
      | some zs =>
        if zs.all (fun z => elemOk z && (vcells z).length == E.size) ∧ xs.all (fun z => (vcells z).length == E.size) ∧ (xs.length + zs.length) * E.bytes ≤ 70368744177664 ∧ (xs.length + zs.length) ≤ 70368744177664 ∧ E.bytes ≤ 1048576 ∧ 0 < E.size then
          match o with
          | .froz => if zs.isEmpty then some (.val (.slice .froz xs) st) else none
          | .full => some (.val (.slice (.own st.length) (xs ++ zs)) (st ++ [[.tip (xs.length + zs.length)]]))
          | .own b => if tipIs st b xs.length then some (.val (.slice (.own b) (xs ++ zs)) (st.set b [.tip (xs.length + zs.length)])) else none
        else none
      | none => none
    | none => none
  | _, _ => none
def maxInts (k : IntKind) : List V → Int → Option Int
  | [], m => some m
  | .int k' n :: r, m => if k = k' then maxInts k r (if n > m then n else m) else none
  | _ :: _, _ => none
def minInts (k : IntKind) : List V → Int → Option Int
  | [], m => some m
  | .int k' n :: r, m => if k = k' then minInts k r (if n < m then n else m) else none
  | _ :: _, _ => none
def builtinV (P : Program) (b : Builtin) (argTypes : Array TypeId) (args : List V) (st : St) : Option Res :=
  match b, args with
  | .len, [x] =>
    match argTypes[0]? with
    | some t => match ti P t, x with
      | some { d := .string, .. }, .str s => some (.val (.int .i64 s.length) st)
      | some { d := .slice _, .. }, .slice _ xs => some (.val (.int .i64 xs.length) st)
      | some { d := .slice _, .. }, .win _ _ n => some (.val (.int .i64 n) st)
      | some { d := .array n _, .. }, _ => some (.val (.int .i64 n) st)
      | _, _ => none
    | none => none
  | .append, [s, x] =>
    match argTypes[0]?, argTypes[1]? with
    | some t, some u => match ti P u with
      | some { d := .slice _, .. } => appendV P t s x st
      | some { d := .string, .. } => appendV P t s x st
      | _ => none
    | _, _ => none
  | .max, .int k n :: r => (maxInts k r n).map fun m => .val (.int k m) st
  | .min, .int k n :: r => (minInts k r n).map fun m => .val (.int k m) st
  | _, _ => none
def reach (st : St) : Nat → List Nat → List Nat → List Nat
  | 0, _, acc => acc
  | _ + 1, [], acc => acc
  | k + 1, b :: todo, acc => if acc.contains b then reach st k todo acc else reach st k (refsL (st.getD b []) ++ todo) (acc ++ [b])
def reachFuel : Nat := 200
def shut (st : St) (R : List Nat) : Bool :=
  R.all fun b => b < st.length && (refsL (st.getD b [])).all R.contains
def nodup : List Nat → Bool
  | [] => true
  | a :: l => !l.contains a && nodup l
def backR (R : List Nat) (n j : Nat) : Nat := if j < R.length then R.getD j 0 else n + (j - R.length)
def writeBack (ρ : Nat → Nat) : List Nat → St → St → St
  | b :: R, c :: cs, st => writeBack ρ R cs (st.set b (renL ρ c))
  | _, _, st => st
def doCall (cl : Oracle) (g : FuncId) (args : List V) (st : St) : Option Res :=
  let as := frzL args
  match refsL as with
  | [] =>
    match cl g as [] with
    | some (.ret v, []) => some (.val v st)
    | some (.panic v, []) => some (.panic v st)
    | some (.ret v, st') => some (.val (ren (backR [] st.length) v) (st ++ st'.map (renL (backR [] st.length))))
    | some (.panic _, _) => none
    | none => none
  | r :: rs =>
    let R := reach st reachFuel (r :: rs) []
    if shut st R && nodup R && (r :: rs).all R.contains then
      match cl g (renL (R.idxOf ·) as) (R.map fun b => renL (R.idxOf ·) (st.getD b [])) with
      | some (.ret v, st') => if R.length ≤ st'.length then some (.val (ren (backR R st.length) v)
          (writeBack (backR R st.length) R st' st ++ (st'.drop R.length).map (renL (backR R st.length)))) else none
      | some (.panic v, st') => if R.length ≤ st'.length then some (.panic (ren (backR R st.length) v)
          (writeBack (backR R st.length) R st' st ++ (st'.drop R.length).map (renL (backR R st.length)))) else none
      | none => none
    else none
def callOp (P : Program) (cl : Oracle) (ev : Operand → V) (c : Call) (st : St) : Option Res :=
  match c.callee with
  | .value f => match ev f with
    | .func g first cap => doCall cl g (first ++ c.args.toList.map ev ++ cap) st
    | _ => none
  | .builtin b => builtinV P b c.argTypes (c.args.toList.map ev) st
  | .invoke _ _ => none
def val? (st : St) : Option V → Option Res
  | some v => some (.val v st)
  | none => none
def opStep (P : Program) (cl : Oracle) (ev : Operand → V) (o : Oper) (st : St) : Option Res :=
  match o.op with
  | .move x => some (.val (ev x) st)
  | .assign x => let r := adopt (ev x) st; some (.val r.1 r.2)
  | .pick c a b => match ev c with
    | .bool c => some (.val (if c then ev a else ev b) st)
    | _ => none
  | .alloc t => match ti P t with
    | some T => let r := adoptZ T.zero st; if (vcells T.zero).length = T.size then some (.val (.box r.2.length 0) (r.2 ++ [vcells r.1])) else none
    | none => none
  | .box t x => match ti P t with
    | some T => if (vcells (ev x)).length = T.size ∧ (vcells (ev x)).all cellOk then some (.val (.box st.length 0) (st ++ [vcells (ev x)])) else none
    | none => none
  | .build t parts => val? st (buildV P t (parts.toList.map fun p => (p.1, ev p.2)))
  | .buildSlice t len parts => val? st (buildSliceV P t len (parts.toList.map fun p => (p.1, ev p.2)))
  | .load t a => val? st (loadV P t (ev a) st)
  | .store t a x => match storeV P t (ev a) (ev x) st with
    | some st' => some (.val (.tup []) st')
    | none => none
  | .nilCheck x => match ev x with
    | .box b off => some (.val (.box b off) st)
    | .ro cs => some (.val (.ro cs) st)
    | .func f first cap => some (.val (.func f first cap) st)
    | _ => none
  | .binOp op t x y _ => val? st (if isNilC y then nilCmp P op t (ev x) else binOpV P op t (ev x) (ev y))
  | .unOp op _ x => val? st (unOpV op (ev x))
  | .convert s d x => val? st (convV P s d (ev x) st)
  | .makeSlice t l c => match makeSliceV P t (ev l) (ev c) st with
    | some (v, st') => some (.val v st')
    | none => none
  | .makeInterface t x => match ti P t with
    | some { d := .iface, .. } => none
    | some _ => some (.val (.iface t (ev x)) st)
    | none => none
  | .makeFunc fn first cap => match fn with
    | .func f => some (.val (.func f (first.toList.map ev) (cap.toList.map ev)) st)
    | _ => none
  | .slice t x lo hi mx => val? st (sliceV P t (ev x) (lo.map ev) (hi.map ev) (mx.map ev))
  | .fieldAddr t x f => val? st (fieldAddrV P t (ev x) f)
  | .field t x f => val? st (fieldV P t (ev x) f)
  | .indexAddr t x i => val? st (indexAddrV P t (ev x) (ev i))
  | .index t x i => val? st (indexV P t (ev x) (ev i))
  | .extract x i => match ev x with
    | .tup cs => val? st (cs[i]?)
    | _ => none
  | .call c => callOp P cl ev c st
  | .panic x => match ev x with
    | .iface t v => some (.panic (.iface t v) st)
    | _ => none
  | _ => none
def setD (env : Env) : Option Tmp → V → Env
  | some t, v => env.set t v
  | none, _ => env
def want (ops : Array Oper) (env : Env) : Option (Nat × Bool) → Option Bool
  | none => some true
  | some (j, b) => match (ops[j]?).bind (·.dst) with
    | none => some false
    | some t => match env[t]? with
      | some (.bool c) => some (c == b)
      | some (.tup []) => some false
      | none => some false
      | _ => none
inductive Ex where
  | normal | exit (id : Nat) | ret | panic (v : V)
def regionL (P : Program) (cl : Oracle) (ops : Array Oper) : List Oper → Env → St → Option (Ex × Env × St)
  | [], env, st => some (.normal, env, st)
  | o :: rest, env, st =>
    match want ops env o.guard with
    | some true => match opStep P cl (opv env) o st with
      | some (.val v st') => regionL P cl ops rest (setD env o.dst v) st'
      | some (.panic v st') => some (.panic v, env, st')
      | none => none
    | some false => regionL P cl ops rest (setD env o.dst (.tup [])) st
    | none => none
structure Fp where
  reads : Option Nat
  writes : Option (List Nat × Nat)
def fpRead : V → Option Nat
  | .box b _ => some b
  | .win b _ _ => some b
  | _ => none
def appFp (st : St) : List V → Option (List Nat × Nat)
  | .slice (.own k) _ :: _ => some ([k], st.length)
  | _ => some ([], st.length)
def callD (P : Program) (cl : Oracle) (ev : Operand → V) (c : Call) (st : St) : Option (Res × Option (List Nat × Nat)) :=
  match c.callee with
  | .value f => match ev f with
    | .func g first cap =>
      match refsL (frzL (first ++ c.args.toList.map ev ++ cap)) with
      | [] => match cl g (frzL (first ++ c.args.toList.map ev ++ cap)) [] with
        | some (.ret v, _) => if (refs (frz v)).isEmpty then some (.val (frz v) st, none) else none
        | some (.panic v, []) => some (.panic v st, none)
        | _ => none
      | r :: rs => match doCall cl g (first ++ c.args.toList.map ev ++ cap) st with
        | some q => some (q, some (reach st reachFuel (r :: rs) [], st.length))
        | none => none
    | _ => none
  | .builtin b => match builtinV P b c.argTypes (c.args.toList.map ev) st with
    | some r => some (r, match b with
      | .append => appFp st (c.args.toList.map ev)
      | _ => none)
    | none => none
  | .invoke _ _ => none
def stepD (P : Program) (cl : Oracle) (ev : Operand → V) (o : Oper) (st : St) : Option (Res × Fp) :=
  match o.op with
  | .assign x => some (.val (ev x) st, ⟨none, none⟩)
  | .call c => match callD P cl ev c st with
    | some (r, w) => some (r, ⟨none, w⟩)
    | none => none
  | .load t a => match loadV P t (ev a) st with
    | some v => some (.val v st, ⟨fpRead (ev a), none⟩)
    | none => none
  | .store t a x => match storeV P t (ev a) (ev x) st with
    | some st' => some (.val (.tup []) st', ⟨none, some ((fpRead (ev a)).toList, st.length)⟩)
    | none => none
  | .alloc t => match opStep P cl ev ⟨o.dst, .alloc t, o.type, o.pos, o.after, o.guard⟩ st with
    | some r => some (r, ⟨none, some ([], st.length)⟩)
    | none => none
  | .box t x => match opStep P cl ev ⟨o.dst, .box t x, o.type, o.pos, o.after, o.guard⟩ st with
    | some r => some (r, ⟨none, some ([], st.length)⟩)
    | none => none
  | .convert s d x => match convV P s d (ev x) st with
    | some v => some (.val v st, ⟨fpRead (ev x), none⟩)
    | none => none
  | .makeSlice t l c => match opStep P cl ev ⟨o.dst, .makeSlice t l c, o.type, o.pos, o.after, o.guard⟩ st with
    | some r => some (r, ⟨none, some ([], st.length)⟩)
    | none => none
  | op => match opStep P cl ev ⟨o.dst, op, o.type, o.pos, o.after, o.guard⟩ st with
    | some r => some (r, ⟨none, none⟩)
    | none => none
def zeq : V → V → Bool
  | .bool a, .bool b => a == b
  | .int k n, .int k' n' => k == k' && n == n'
  | .str a, .str b => a == b
  | .nil, .nil => true
  | .slice .froz [], .slice .froz [] => true
  | .nilfunc, .nilfunc => true
  | .niliface, .niliface => true
  | _, _ => false
def zeqL : List V → List V → Bool
  | [], [] => true
  | a :: l, b :: r => zeq a b && zeqL l r
  | _, _ => false
def zcells (P : Program) (t : TypeId) : Option (List V) :=
  match ti P t with
  | some T => some (vcells (frz T.zero))
  | none => none
def zall (P : Program) : List TypeId → Option (List (List V))
  | [] => some []
  | t :: r => match zcells P t, zall P r with
    | some z, some zs => some (z :: zs)
    | _, _ => none
def isAl (o : Oper) : Bool :=
  match o.op with
  | .alloc _ => true
  | _ => false
def allocTys : List Oper → List TypeId
  | [] => []
  | o :: r => match o.op with
    | .alloc t => t :: allocTys r
    | _ => allocTys r
def hoistT (P : Program) (ts : List TypeId) (st : St) : Option Nat × St :=
  match ts with
  | a :: b :: r => match zall P (a :: b :: r) with
    | some zs => (some st.length, st ++ zs)
    | none => (none, st)
  | _ => (none, st)
def hoist (P : Program) (l : List Oper) (st : St) : Option Nat × St := hoistT P (allocTys l) st
def stepR (P : Program) (cl : Oracle) (ev : Operand → V) (o : Oper) (st : St) (r : Option Nat) : Option (Res × Fp) :=
  match r with
  | none => stepD P cl ev o st
  | some n => match o.op with
    | .alloc t => match zcells P t, st[n]? with
      | some z, some cs => if zeqL cs z then some (.val (.box n 0) st, ⟨some n, none⟩) else none
      | _, _ => none
    | _ => stepD P cl ev o st
def nxt (o : Oper) (r : Option Nat) : Option Nat :=
  match r with
  | none => none
  | some n => match o.op with
    | .alloc _ => some (n + 1)
    | _ => some n
def traceD (P : Program) (cl : Oracle) (ops : Array Oper) : List Oper → Env → St → Option Nat → Option (Option V × Env × St × List Fp)
  | [], env, st, _ => some (none, env, st, [])
  | o :: rest, env, st, r =>
    match want ops env o.guard with
    | some true => match stepR P cl (opv env) o st r with
      | some (.val v st', fp) => match traceD P cl ops rest (setD env o.dst v) st' (nxt o r) with
        | some (p, env', st'', fps) => some (p, env', st'', fp :: fps)
        | none => none
      | some (.panic v st', fp) => some (some v, env, st', [fp])
      | none => none
    | some false => match traceD P cl ops rest (setD env o.dst (.tup [])) st (nxt o r) with
      | some (p, env', st'', fps) => some (p, env', st'', ⟨none, none⟩ :: fps)
      | none => none
    | none => none
def edges (ops : Array Oper) (j : Nat) : List Nat :=
  match ops[j]? with
  | some o => (o.after.toList.filter (Region.binds .any ·)).map (·.on)
  | none => []
def ordF (ops : Array Oper) : Nat → Nat → Nat → Bool
  | 0, _, _ => false
  | k + 1, i, j => (edges ops j).any fun e => e == i || ordF ops k i e
def ordB (ops : Array Oper) (i j : Nat) : Bool := ordF ops ops.size i j
def looksB (ops : Array Oper) (i j : Nat) : Bool :=
  match ops[i]?, ops[j]? with
  | some x, some y => match x.dst with
    | some d => (y.looksAt ops).contains d || y.dst == some d
    | none => false
  | _, _ => false
def drawOk (ops : Array Oper) : Bool :=
  Region.noSelect ops &&
  (List.range ops.size).all (fun j => (edges ops j).all (· < j)) &&
  (List.range ops.size).all (fun i => (List.range ops.size).all fun j => i == j || !looksB ops i j || ordB ops i j || ordB ops j i)
def clash (a b : Fp) : Bool :=
  match b.writes with
  | none => false
  | some (T, n) => a.writes.isSome || match a.reads with
    | some x => T.contains x || n ≤ x
    | none => false
def fpsOk (ops : Array Oper) (fps : List Fp) : Bool :=
  fps.zipIdx.all fun (a, i) => fps.zipIdx.all fun (b, j) => i == j || !clash a b || ordB ops i j || ordB ops j i
def safeOp (P : Program) (ops : Array Oper) (env : Env) (j : Nat) : Bool :=
  match ops[j]? with
  | some o => match o.op, o.guard with
    | .fieldAddr t (.tmp x) f, none => (fieldAddrV P t (opv env (.tmp x)) f).isSome && ops.all (fun o => o.dst != some x)
    | _, _ => false
  | none => false
def panicOk (P : Program) (ops : Array Oper) (env : Env) (m : Nat) (fps : List Fp) : Bool :=
  (List.range ops.size).all (fun j => j ≤ m || ordB ops m j || safeOp P ops env j) && fps.zipIdx.all fun (b, j) => b.writes.isNone || j == m || ordB ops j m
def regionD (P : Program) (cl : Oracle) (ops : Array Oper) (env : Env) (st : St) : Option (Ex × Env × St) :=
  if drawOk ops then
    match traceD P cl ops ops.toList env (hoist P ops.toList st).2 (hoist P ops.toList st).1 with
    | some (none, env', st', fps) => if fpsOk ops fps then some (.normal, env', st') else none
    | some (some v, env', st', fps) => if fpsOk ops fps && panicOk P ops env' (fps.length - 1) fps then some (.panic v, env', st') else none
    | none => none
  else none
def seenIn (d : Option (List Nat)) (t : Nat) : Bool :=
  match d with
  | none => true
  | some l => l.contains t
def tmpsOf (xs : List Operand) : List Nat := xs.filterMap fun x => match x with
  | .tmp t => some t
  | _ => none
def anOps : List Oper → Option (List Nat) → List Nat → Option (List Nat) × List Nat
  | [], d, c => (d, c)
  | o :: r, d, c => anOps r (match o.dst with
      | some t => d.map (t :: ·)
      | none => d) ((tmpsOf o.op.operands.toList).filter (fun t => !seenIn d t) ++ c)
def meetD : Option (List Nat) → Option (List Nat) → Option (List Nat)
  | none, b => b
  | a, none => a
  | some a, some b => some (a.filter b.contains)
def anCode : Code → Option (List Nat) → List Nat → Option (List Nat) × List Nat
  | .region _ ops _, d, c => anOps ops.toList d c
  | .seq a b, d, c => let r := anCode a d c; anCode b r.1 r.2
  | .cond x a b, d, c =>
    let r := anCode a d ((tmpsOf [x]).filter (fun t => !seenIn d t) ++ c)
    let q := anCode b d r.2
    (meetD r.1 q.1, q.2)
  | .block _ a, d, c => (d, (anCode a d c).2)
  | .loop a, d, c => (d, (anCode a d c).2)
  | .exit _, _, c => (none, c)
  | .ret, _, c => (none, c)
  | _, d, c => (d, c)
def wrOps : List Oper → List (Nat × Bool)
  | [] => []
  | o :: r => match o.dst, o.op with
    | some t, .assign _ => (t, true) :: wrOps r
    | some t, _ => (t, false) :: wrOps r
    | none, _ => wrOps r
def wrCode : Code → List (Nat × Bool)
  | .region _ ops _ => wrOps ops.toList
  | .seq a b => wrCode a ++ wrCode b
  | .cond _ a b => wrCode a ++ wrCode b
  | .block _ a => wrCode a
  | .loop a => wrCode a
  | _ => []
def rdCode : Code → List Nat
  | .region _ ops _ => ops.toList.flatMap fun o => tmpsOf o.op.operands.toList
  | .seq a b => rdCode a ++ rdCode b
  | .cond x a b => tmpsOf [x] ++ (rdCode a ++ rdCode b)
  | .block _ a => rdCode a
  | .loop a => rdCode a
  | _ => []
def temps (x : Code) : List Nat :=
  let c := (anCode x (some []) []).2
  let r := rdCode x
  ((wrCode x).filter fun p => !c.contains p.1 && (!p.2 || r.contains p.1)).map (·.1)
def cleanV (n : Nat) (v : V) : V := if (refs v).all (· < n) then v else .undef
def dropT (ts : List Nat) : Nat → Env → Env
  | _, [] => []
  | i, v :: r => (if ts.contains i then .undef else v) :: dropT ts (i + 1) r
def gc (n : Nat) (vs : List V) (st : St) : Option (List V × St) :=
  let seen := reach st reachFuel (refsL vs ++ refsL (st.take n).flatten) (List.range n)
  if shut st seen && nodup seen && (refsL vs).all seen.contains && seen.take n == List.range n then
    if seen.length = n then some (vs, st.take n)
    else some (renL (seen.idxOf ·) vs, seen.map fun b => renL (seen.idxOf ·) (st.getD b []))
  else none
def roundEnd (ts : List Nat) (n : Nat) (env : Env) (st : St) : Env × St :=
  if (st.take n).all (fun cs => (refsL cs).all (· < n)) then ((dropT ts 0 env).map (cleanV n), st.take n) else
    match gc n [] st with
    | some (_, st') => ((dropT ts 0 env).map (cleanV n), st')
    | none => (dropT ts 0 env, st)
def loopN (f : Env → St → Option (Ex × Env × St)) (ts : List Nat) (n : Nat) : Nat → Env → St → Option (Ex × Env × St)
  | 0, _, _ => none
  | k + 1, env, st => match f env st with
    | some (.normal, env', st') => loopN f ts n k (roundEnd ts n env' st').1 (roundEnd ts n env' st').2
    | r => r
def isAlO : Op → Bool
  | .alloc _ => true
  | _ => false
def isStO : Op → Bool
  | .store _ _ _ => true
  | _ => false
def isLdO : Op → Bool
  | .load _ _ => true
  | _ => false
def afterB (j : Nat) (after : Array Edge) : Bool := (after.toList.filter (Region.binds .any ·)).all (·.on < j) && (j == 0 || (after.toList.filter (Region.binds .any ·)).any (·.on == 0))
def coinS (t d j : Nat) (o : Oper) : Bool :=
  match o with
  | ⟨none, .store u (.tmp e) (.const (.bool _)), _, _, after, none⟩ => u == t && e == d && afterB j after
  | _ => false
def coinV (a b c d : Oper) : Option (Nat × Nat × Nat) :=
  match a, d with
  | ⟨some x, .alloc t, _, _, after0, none⟩, ⟨some y, .load u (.tmp e), _, _, after, none⟩ =>
    if afterB 0 after0 && u == t && e == x && afterB 3 after && coinS t x 1 b && coinS t x 2 c && x != y then some (t, x, y) else none
  | _, _ => none
def coin4 (a b c d : Oper) : Option (Nat × Nat × Nat) :=
  if isAlO a.op && isStO b.op && isStO c.op && isLdO d.op then coinV a b c d else none
def coinL : List Oper → Option (Nat × Nat × Nat)
  | [a, b, c, d] => coin4 a b c d
  | _ => none
def coinT : Option TI → Option V → Bool
  | some { d := .bool, size := 1, zero := .bool false, .. }, some _ => true
  | _, _ => false
def coinR (P : Program) (q : Nat × Nat × Nat) (env : Env) (st : St) : Option (Ex × Env × St) :=
  if coinT (ti P q.1) env[q.2.1]? = true then some (.normal, (env.set q.2.1 (.box st.length 0)).set q.2.2 (.tip 0), st ++ [[.tip 0]]) else none
def regionC (P : Program) (cl : Oracle) (ops : Array Oper) (env : Env) (st : St) : Option (Ex × Env × St) :=
  match coinL ops.toList with
  | some q => coinR P q env st
  | none => regionD P cl ops env st
open Classical in
noncomputable def meetV (a b : V) : V := if a = b then a else .undef
noncomputable def meetE : Env → Env → Env
  | a :: x, b :: y => meetV a b :: meetE x y
  | _, _ => []
open Classical in
noncomputable def joinR : Option (Ex × Env × St) → Option (Ex × Env × St) → Option (Ex × Env × St)
  | some (.normal, e1, s1), some (.normal, e2, s2) => if s1 = s2 ∧ e1.length = e2.length then some (.normal, meetE e1 e2, s1) else none
  | _, _ => none
structure Arm where
  ops : Array Oper
  pre : List Oper
  a0 : Nat
  a3 : Nat
  a4 : Nat
  a5 : Nat
  a6 : Nat
  a7 : Nat
  a8 : Nat
  b0 : Nat
  b1 : Nat
  x : Nat
  S : TypeId
  f : Nat
  T : TypeId
  E : TypeId
  z : Value
def nodupN : List Nat → Bool
  | [] => true
  | a :: l => !l.contains a && nodupN l
def arm5 (ops : Array Oper) (pre : List Oper) (l B : List Oper) : Option Arm :=
  match l, B with
  | [⟨some a5, .buildSlice T 1 ps, _, _, _, none⟩, ⟨some a6, .call c, _, _, _, none⟩, ⟨some a7, .nilCheck (.tmp a0), _, _, _, none⟩, ⟨some a8, .fieldAddr S (.tmp a7') f, _, _, _, none⟩, ⟨none, .store T1 (.tmp a8') (.tmp a6'), _, _, _, none⟩],
    [⟨some b0, .load E (.tmp x), _, _, _, none⟩, ⟨some b1, .indexAddr T2 (.tmp a6'') (.tmp a4), _, _, _, none⟩, ⟨none, .store E' (.tmp b1') (.tmp b0'), _, _, _, none⟩] =>
    match ps.toList, c with
    | [(0, .const z)], ⟨.builtin .append, as, ts⟩ => match as.toList, ts.toList with
      | [.tmp a3, .tmp a5'], [T3, T4] =>
        if (a7' == a7 && a8' == a8 && a6' == a6 && a6'' == a6 && a5' == a5 && b1' == b1 && b0' == b0 && E' == E && T1 == T && T2 == T && T3 == T && T4 == T && nodupN [a0, a3, a4, x, a5, a6, a7, a8, b0, b1]) = true then
          some ⟨ops, pre, a0, a3, a4, a5, a6, a7, a8, b0, b1, x, S, f, T, E, z⟩ else none
      | _, _ => none
    | _, _ => none
  | _, _ => none
def armOf : Code → Option Arm
  | .seq (.region _ A false) (.region _ B false) => arm5 A (A.toList.take (A.toList.length - 5)) (A.toList.drop (A.toList.length - 5)) B.toList
  | _ => none
def isFull1 : Option V → Option V
  | some (.slice .full [y]) => some y
  | _ => none
def aggT (P : Program) (t : TypeId) : Bool :=
  match ti P t with
  | some T => T.d.isAgg
  | none => false
def armV (P : Program) (S : TypeId) (f : Nat) (T E : TypeId) (z : Value) (v0 v3 v4 vx : V) (st : St) : Option St :=
  match v0, v3, v4, vx with
  | .box pb off, .slice o xs, .int _ n, .box xb xo =>
    if xb ≠ pb ∧ 0 ≤ n ∧ n.toNat = xs.length then
      match fieldAddrV P S (.box pb off) f, loadV P E (.box xb xo) st, isFull1 (buildSliceV P T 1 [(0, ofValue z)]) with
      | some fa, some y, some _ =>
        if aggT P E = true then
          match isFull1 (buildSliceV P T 1 [(0, y)]) with
          | some y' => match appendV P T (.slice o xs) (.slice .full [y']) st with
            | some (.val r st1) => storeV P T fa r st1
            | _ => none
          | none => none
        else none
      | _, _, _ => none
    else none
  | _, _, _, _ => none
def armS (P : Program) (A : Arm) (env : Env) (st : St) : Option (Env × St) :=
  if A.a5 < env.length ∧ A.a6 < env.length ∧ A.a7 < env.length ∧ A.a8 < env.length ∧ A.b0 < env.length ∧ A.b1 < env.length then
    match armV P A.S A.f A.T A.E A.z (env.getD A.a0 .undef) (env.getD A.a3 .undef) (env.getD A.a4 .undef) (env.getD A.x .undef) st with
    | some st2 => some ((((((env.set A.a5 .undef).set A.a6 .undef).set A.a7 .undef).set A.a8 .undef).set A.b0 .undef).set A.b1 .undef, st2)
    | none => none
  else none
def armW {α : Type} (o : Option Arm) (f : Arm → α) (x : α) : α :=
  match o with
  | some A => f A
  | none => x
def armX (P : Program) (cl : Oracle) (A : Arm) (env : Env) (st : St) : Option (Ex × Env × St) :=
  match regionL P cl A.ops A.pre env st with
  | some (.normal, e, s) => match armS P A e s with
    | some (e', s') => some (.normal, e', s')
    | none => none
  | _ => none
noncomputable def exec (P : Program) (cl : Oracle) (k : Nat) : Code → Env → St → Option (Ex × Env × St)
  | .skip, env, st => some (.normal, env, st)
  | .region _ ops false, env, st => regionL P cl ops ops.toList env st
  | .region _ ops true, env, st => regionC P cl ops env st
  | .seq a b, env, st => match exec P cl k a env st with
    | some (.normal, env', st') => exec P cl k b env' st'
    | r => r
  | .cond c a b, env, st => match opv env c with
    | .bool true => exec P cl k a env st
    | .bool false => exec P cl k b env st
    | .tip _ => joinR (armW (armOf a) (fun A => armX P cl A env st) (exec P cl k a env st)) (exec P cl k b env st)
    | _ => none
  | .block id a, env, st => match exec P cl k a env st with
    | some (.exit i, env', st') => if i = id then some (.normal, env', st') else some (.exit i, env', st')
    | r => r
  | .loop a, env, st => loopN (exec P cl k a) (temps a) st.length k env st
  | .exit id, env, st => some (.exit id, env, st)
  | .ret, env, st => some (.ret, env, st)
  | _, _, _ => none
def resV (P : Program) (env : Env) (st : St) : ResultVar → Option V
  | .tmp t => some (env.getD t .undef)
  | .cell a t => loadV P t (env.getD a .undef) st
def resL (P : Program) (env : Env) (st : St) : List ResultVar → Option (List V)
  | [] => some []
  | r :: rs => match resV P env st r, resL P env st rs with
    | some v, some vs => some (v :: vs)
    | _, _ => none
def single : List V → V
  | [v] => v
  | vs => .tup vs
def normTop (v : V) (st : St) : V × St :=
  match v with
  | .slice .full xs => (.slice (.own st.length) xs, st ++ [[.tip xs.length]])
  | .slice (.own b) xs => if tipIs st b xs.length then (.slice (.own b) xs, st) else (.slice .froz xs, st)
  | v => (frz v, st)
def normL : List V → St → List V × St
  | [v], st => ([(normTop v st).1], (normTop v st).2)
  | vs, st => (frzL vs, st)
def finish (P : Program) (n : Nat) (results : List ResultVar) : Ex × Env × St → Option (Out × St)
  | (.panic v, _, st) => match gc n [frz v] st with
    | some ([v'], st') => some (.panic v', st')
    | _ => none
  | (.exit _, _, _) => none
  | (_, env, st) => match resL P env st results with
    | some vs => let r := normL vs st
      match gc n r.1 r.2 with
      | some (vs', st') => some (.ret (single vs'), st')
      | none => none
    | none => none
inductive Prim where
  | grab (fault : TypeId)
  | pure (f : List V → Option V)
abbrev Prims := FuncId → Option Prim
def catchRes (fault : TypeId) : Res → Option Res
  | .val _ st => some (.val (.agg [.int .i64 0, .int .i64 0]) st)
  | .panic (.iface t (.agg [.int .i64 a, .int .i64 b])) st => if t = fault then some (.val (.agg [.int .i64 a, .int .i64 b]) st) else none
  | .panic _ _ => none
def primRun (cl : Oracle) : Prim → List V → St → Option (Out × St)
  | .grab fault, args, st => match args with
    | [.func g first cap] => match doCall cl g (first ++ cap) st with
      | some r => match catchRes fault r with
        | some (.val v st') => match gc st.length [v] st' with
          | some ([v'], st'') => some (.ret v', st'')
          | _ => none
        | _ => none
      | none => none
    | _ => none
  | .pure f, args, st => match f args with
    | some v => some (.ret v, st)
    | none => none
def iceF (f : FuncId) : Bool := ([100, 102, 106, 152] : List Nat).contains f
def keepI : V → Bool
  | .bool false => true
  | _ => false
def iceO (f : FuncId) (n : Nat) : Option (Out × St) → Option (Out × St)
  | some (.ret v, st) => if (iceF f && !keepI v) = true then (match gc n [frz v] (st.map frzL) with
    | some ([v'], st') => some (.ret v', st')
    | _ => none) else some (.ret v, st)
  | some (.panic v, st) => if iceF f then (match gc n [frz v] (st.map frzL) with
    | some ([v'], st') => some (.panic v', st')
    | _ => none) else some (.panic v, st)
  | none => none
noncomputable def run (P : Program) (pr : Prims) : Nat → Oracle
  | 0, _, _, _ => none
  | k + 1, f, args, st =>
    match pr f with
    | some p => primRun (run P pr k) p args st
    | none =>
      match P.funcs[f]? with
      | some fn => match fn.body with
        | some c => match exec P (run P pr k) k c (args ++ List.replicate (fn.ntmps - args.length) .undef) st with
          | some r => iceO f st.length (finish P st.length fn.results.toList r)
          | none => none
        | none => none
      | none => none
end Go.Abs
