/- A second, plain reading of a program's operations: values with lists in them, objects by number. Nothing is proved here. -/
import Derived.Orders
namespace Go.Ev

/-- A value as this reading has it. -/
inductive V where
  | bool (b : Bool)
  | int (k : IntKind) (n : Int)
  | str (s : List UInt8)
  | lst (e : TypeId) (tip : Bool) (xs : List V)
  | agg (cs : List V)
  | tup (cs : List V)
  | ref (i off : Nat)
  | mref (i : Nat)
  | cpt (cs : List V)
  | clo (fn : Fn) (first caps : List V)
  | ifc (t : TypeId) (v : V)
  | raw (v : Value)
  | bot
  deriving Inhabited

/-- What a cell is, by its type. -/
inductive CSh where
  | bool
  | int (k : IntKind)
  | str
  | lst (e : TypeId) (tip : Bool)
  | ref (i off : Nat)
  | mref (i : Nat)
  | other
  deriving Inhabited

structure Ty where
  d : TypeDesc
  size : Nat
  bytes : Nat
  agg : Bool
  sh : List CSh
  zero : List V
  /-- two of them may be held against each other, part by part -/
  eq : Bool
  deriving Inhabited

/-- A key of a map, or what it leads to. -/
inductive Sc where
  | bool (b : Bool)
  | int (k : IntKind) (n : Int)
  | str (s : List UInt8)
  deriving Inhabited, DecidableEq
inductive SK where
  | bool
  | int (k : IntKind)
  | str
  deriving Inhabited, DecidableEq

/-- An object: a variable's cells; a string that is ranged over; a map. -/
inductive Ob where
  | cells (cs : List V)
  | mp (kd vd : SK) (es : List (Sc × Sc))
  | sit (s : List UInt8) (pos : Int)
  | dead
  deriving Inhabited

structure St where
  env : List V
  objs : List Ob
  deriving Inhabited

namespace V
def getB : V → Bool | .bool b => b | _ => false
def getI : V → Int | .int _ n => n | _ => 0
def getS : V → List UInt8 | .str s => s | _ => []
def getL : V → List V | .lst _ _ xs => xs | _ => []
def cells : V → List V | .agg cs => cs | v => [v]
def cell (v : V) (j : Nat) : V := v.cells.getD j .bot
def cut1 : V → V | .lst e _ xs => .lst e false xs | v => v
def cut2 : V → V | .agg cs => .agg (cs.map cut1) | v => v.cut1
/-- Without the right to append. -/
def cut : V → V | .tup cs => .tup (cs.map cut2) | v => v.cut2
def cutL : List V → List V
  | [] => []
  | v :: r => v.cut :: cutL r
def isRef : V → Bool | .ref .. => true | _ => false
/-- A value of one cell. -/
def single : V → Bool
  | .bool _ | .int .. | .str _ | .lst .. | .ref .. | .mref _ | .cpt _ | .clo .. | .ifc .. => true
  | .raw (.agg _) | .raw (.tuple _) => false
  | .raw _ => true
  | _ => false
def tip1 : V → Bool | .lst _ t _ => t | _ => false
def tip2 : V → Bool | .agg cs => cs.any tip1 | v => v.tip1
def tips : V → Bool | .tup cs => cs.any tip2 | v => v.tip2
mutual
def refs : V → List Nat
  | .ref i _ => [i]
  | .mref i => [i]
  | .agg cs | .tup cs | .cpt cs => refsL cs
  | .clo _ a b => refsL a ++ refsL b
  | .ifc _ v => refs v
  | _ => []
def refsL : List V → List Nat
  | [] => []
  | v :: r => refs v ++ refsL r
end
mutual
def ren (ρ : Nat → Nat) : V → V
  | .ref i o => .ref (ρ i) o
  | .mref i => .mref (ρ i)
  | .agg cs => .agg (renL ρ cs)
  | .tup cs => .tup (renL ρ cs)
  | .cpt cs => .cpt (renL ρ cs)
  | .clo f a b => .clo f (renL ρ a) (renL ρ b)
  | .ifc t v => .ifc t (ren ρ v)
  | v => v
def renL (ρ : Nat → Nat) : List V → List V
  | [] => []
  | v :: r => ren ρ v :: renL ρ r
end
end V

namespace CSh
/-- The value that a cell of this kind holds, whatever it is called. -/
def eta : CSh → V → V
  | .bool, v => .bool v.getB
  | .int k, v => .int k v.getI
  | .str, v => .str v.getS
  | .lst e t, v => .lst e t v.getL
  | .ref i o, _ => .ref i o
  | .mref i, _ => .mref i
  | .other, v => v
def fits : CSh → V → Bool
  | .bool, .bool _ => true
  | .int k, .int k' _ => k == k'
  | .str, .str _ => true
  | .lst e t, .lst e' t' _ => e == e' && t == t'
  | .ref i o, .ref i' o' => i == i' && o == o'
  | .mref i, .mref i' => i == i'
  | _, _ => false
def of : V → CSh
  | .bool _ => .bool
  | .int k _ => .int k
  | .str _ => .str
  | .lst e t _ => .lst e t
  | .ref i o => .ref i o
  | .mref i => .mref i
  | _ => .other
def tipped : CSh → CSh | .lst e _ => .lst e true | s => s
end CSh

def etaCells : List CSh → List V → List V
  | [], _ => []
  | s :: r, cs => s.eta (cs.headD .bot) :: etaCells r cs.tail
def fitsCells : List CSh → List V → Bool
  | [], [] => true
  | s :: r, c :: cs => s.fits c && fitsCells r cs
  | _, _ => false

/-- One result, or a part of a tuple: its shape. -/
structure RSh where
  agg : Bool
  sh : List CSh
  deriving Inhabited
def RSh.eta (s : RSh) (v : V) : V := if s.agg then .agg (etaCells s.sh v.cells) else (etaCells s.sh [v]).headD .bot
def RSh.fits (s : RSh) (v : V) : Bool := if s.agg then (match v with | .agg cs => fitsCells s.sh cs | _ => false) else fitsCells s.sh [v]
def etaRs : List RSh → List V → List V
  | [], _ => []
  | s :: r, cs => s.eta (cs.headD .bot) :: etaRs r cs.tail
def fitsRs : List RSh → List V → Bool
  | [], [] => true
  | s :: r, c :: cs => s.fits c && fitsRs r cs
  | _, _ => false
def V.getT : V → List V | .tup cs => cs | _ => []
def etaRes : List RSh → V → V
  | [s], v => s.eta v
  | l, v => .tup (etaRs l v.getT)
def fitsRes : List RSh → V → Bool
  | [s], v => s.fits v
  | l, .tup cs => fitsRs l cs
  | _, _ => false

inductive OSh where
  | cells (sh : List CSh)
  | mp (kd vd : SK)
  | sit
  | dead
  deriving Inhabited
def OSh.of : Ob → OSh
  | .cells cs => .cells (cs.map CSh.of)
  | .mp kd vd _ => .mp kd vd
  | .sit .. => .sit
  | .dead => .dead
def Ob.getC : Ob → List V | .cells cs => cs | _ => []
def Ob.getM : Ob → List (Sc × Sc) | .mp _ _ es => es | _ => []
def Ob.getS : Ob → List UInt8 | .sit s _ => s | _ => []
def Ob.getP : Ob → Int | .sit _ p => p | _ => 0
def OSh.eta : OSh → Ob → Ob
  | .cells sh, o => .cells (etaCells sh o.getC)
  | .mp kd vd, o => .mp kd vd o.getM
  | .sit, o => .sit o.getS o.getP
  | .dead, _ => .dead
def OSh.fits : OSh → Ob → Bool
  | .cells sh, .cells cs => fitsCells sh cs
  | .mp kd vd, .mp kd' vd' _ => kd == kd' && vd == vd'
  | .sit, .sit .. => true
  | .dead, .dead => true
  | _, _ => false
def etaObs : List OSh → List Ob → List Ob
  | [], _ => []
  | s :: r, os => s.eta (os.headD .dead) :: etaObs r os.tail
def fitsObs : List OSh → List Ob → Bool
  | [], [] => true
  | s :: r, o :: os => s.fits o && fitsObs r os
  | _, _ => false
def Ob.refs : Ob → List Nat | .cells cs => V.refsL cs | _ => []
def Ob.ren (ρ : Nat → Nat) : Ob → Ob | .cells cs => .cells (V.renL ρ cs) | o => o

namespace Sc
def toV : Sc → V | .bool b => .bool b | .int k n => .int k n | .str s => .str s
def val : Sc → Value | .bool b => .bool b | .int k n => .int k n | .str s => .string ⟨s.toArray⟩
def kind : Sc → SK | .bool _ => .bool | .int k _ => .int k | .str _ => .str
def same : Sc → Sc → Bool
  | .bool a, .bool b => a == b
  | .int _ a, .int _ b => a == b
  | .str a, .str b => a == b
  | _, _ => false
def getB : Option Sc → Bool | some (.bool b) => b | _ => false
def getI : Option Sc → Int | some (.int _ n) => n | _ => 0
def getS : Option Sc → List UInt8 | some (.str s) => s | _ => []
end Sc
def V.toSc : V → Option Sc | .bool b => some (.bool b) | .int k n => some (.int k n) | .str s => some (.str s) | _ => none
def mget (x : Sc) : List (Sc × Sc) → Option Sc
  | [] => none
  | (k, v) :: r => if x.same k then some v else mget x r
def mput (x v : Sc) : List (Sc × Sc) → List (Sc × Sc)
  | [] => [(x, v)]
  | (k, u) :: r => if x.same k then (x, v) :: r else (k, u) :: mput x v r
def mhas (x : Sc) (es : List (Sc × Sc)) : Bool := (mget x es).isSome
def mval (d : SK) (x : Sc) (es : List (Sc × Sc)) : V :=
  match d with
  | .bool => .bool (Sc.getB (mget x es))
  | .int k => .int k (Sc.getI (mget x es))
  | .str => .str (Sc.getS (mget x es))

abbrev Fun := List V → List Ob → Option (V × List Ob)

structure Cfg where
  P : Program
  ty : TypeId → Option Ty
  fn : FuncId → Option Func
  hand : FuncId → Option Fun
  /-- functions whose code stands where they are called -/
  inl : FuncId → Bool
  /-- functions that may append to their n-th argument -/
  wants : FuncId → Nat → Bool
  /-- functions whose lists may be appended to -/
  rtip : FuncId → Bool
  /-- functions that leave all objects as they are -/
  ro : FuncId → Bool
  /-- functions whose arguments lead to no objects -/
  pur : FuncId → Bool

def Cfg.still (c : Cfg) (f : FuncId) : Bool := c.ro f || c.pur f

section
variable (c : Cfg)

def tySize (t : TypeId) : Nat := match c.ty t with | some y => y.size | none => 0
def isByte (t : TypeId) : Bool := match c.ty t with | some { d := .int .u8, sh := [.int .u8], .. } => true | _ => false
def isStr (t : TypeId) : Bool := match c.ty t with | some { d := .string, .. } => true | _ => false
def elemOf (t : TypeId) : Option TypeId := match c.ty t with | some { d := .slice e, .. } => some e | _ => none

def skD : TypeDesc → Option SK
  | .bool => some .bool
  | .int k => some (.int k)
  | .string => some .str
  | _ => none
def zeroIs : SK → List V → Bool
  | .bool, [.bool b] => !b
  | .int k, [.int k' n] => k == k' && n == 0
  | .str, [.str s] => s.isEmpty
  | _, _ => false
def skOf (t : TypeId) : Option SK :=
  match c.ty t with
  | some y => match skD y.d with | some k => if !y.agg && zeroIs k y.zero then some k else none | none => none
  | none => none
def mapOf (t : TypeId) : Option (SK × SK) :=
  match c.ty t with
  | some { d := .map kt et, .. } => match skOf c kt, skOf c et with | some k, some v => some (k, v) | _, _ => none
  | _ => none

def constV (t : TypeId) : Value → V
  | .bool b => .bool b
  | .int k n => .int k n
  | .string s => .str s.data.toList
  | .slice none 0 0 => match elemOf c t with | some e => if 0 < tySize c e then .lst e true [] else .bot | none => .bot
  | .pointer none => .raw (.pointer none)
  | .map none => .raw (.map none)
  | .nilFunc => .raw .nilFunc
  | .nilIface => .raw .nilIface
  | _ => .bot

/-- A list with another member at a place, handed on. -/
def setK {α R : Type} : List α → Nat → α → (List α → Option R) → Option R
  | [], _, _, K => K []
  | _ :: l, 0, v, K => K (v :: l)
  | x :: l, d + 1, v, K => setK l d v fun l' => K (x :: l')

def St.get (S : St) (t : Nat) : V := S.env.getD t .bot
def St.ob (S : St) (i : Nat) : Ob := S.objs.getD i .dead
section
variable {R : Type}
def St.putK (S : St) (d : Option Tmp) (v : V) (K : St → Option R) : Option R :=
  match d with
  | none => K S
  | some d => match S with | ⟨env, objs⟩ => setK env d v fun env => K ⟨env, objs⟩
def St.setObK (S : St) (i : Nat) (o : Ob) (K : St → Option R) : Option R :=
  match S with | ⟨env, objs⟩ => setK objs i o fun objs => K ⟨env, objs⟩
def pushK : List Ob → Ob → (List Ob → Option R) → Option R
  | [], o, K => K [o]
  | x :: l, o, K => pushK l o fun l' => K (x :: l')
def St.newK (S : St) (o : Ob) (K : Nat → St → Option R) : Option R :=
  match S with | ⟨env, objs⟩ => pushK objs o fun objs' => K objs.length ⟨env, objs'⟩
end

def opd (S : St) (t : TypeId) : Operand → V
  | .tmp s => S.get s
  | .const v => constV c t v
  | .func f => .clo (.func f) [] []
  | .global _ => .bot
/-- A slot loses the right to append: it has been handed on. -/
def shedK {R : Type} (S : St) (x : Operand) (K : St → Option R) : Option R :=
  match x with
  | .tmp s => match S.get s with
    | .lst e true xs => S.putK (some s) (.lst e false xs) K
    | .agg cs => if cs.any V.tip1 then S.putK (some s) (.agg (cs.map V.cut1)) K else K S
    | .tup cs => if cs.any V.tip2 then S.putK (some s) (.tup (cs.map V.cut2)) K else K S
    | _ => K S
  | _ => K S
def shedAllK {R : Type} (S : St) (l : List Operand) (K : St → Option R) : Option R :=
  match l with
  | [] => K S
  | x :: r => shedK S x fun S => shedAllK S r K

def _root_.Go.Op.owns (op : Op) (d : Nat) : Bool :=
  match op with
  | .assign (.tmp t) => t == d
  | .store _ _ (.tmp t) => t == d
  | .box _ (.tmp t) => t == d
  | .call { callee := .builtin .append, args, .. } => match args.toList with | .tmp t :: _ => t == d | _ => false
  | .call { callee := .value (.func f), args, .. } => (args.toList.zipIdx).any fun p => (match p.1 with | .tmp t => t == d | _ => false) && c.wants f p.2
  | _ => false
def owned (ops : List Oper) (d : Option Tmp) : Bool := match d with | some d => ops.any fun o => o.op.owns c d | none => false

variable {R : Type}
def chk (b : Bool) (x : Option R) : Option R := if b then x else none

abbrev K (R : Type) := V → St → Option R

def bits (op : BinOp) (k : IntKind) (x y : Int) : Int :=
  let a := BitVec.ofInt k.bits x
  let b := BitVec.ofInt k.bits y
  match op with
  | .and => k.wrap (a &&& b).toNat
  | .or => k.wrap (a ||| b).toNat
  | .xor => k.wrap (a ^^^ b).toNat
  | _ => k.wrap (a &&& ~~~b).toNat
def sEq (x y : List UInt8) : Bool := x == y
def sLt (x y : List UInt8) : Bool := Op.bytesLess x y

def intOp (op : BinOp) (k : IntKind) (a b : Int) (K : V → Option R) : Option R :=
  match op with
  | .add => K (.int k (k.wrap (a + b)))
  | .sub => K (.int k (k.wrap (a - b)))
  | .mul => K (.int k (k.wrap (a * b)))
  | .quo => chk (b != 0) (K (.int k (k.wrap (a.tdiv b))))
  | .rem => chk (b != 0) (K (.int k (a.tmod b)))
  | .and => K (.int k (bits .and k a b))
  | .or => K (.int k (bits .or k a b))
  | .xor => K (.int k (bits .xor k a b))
  | .andNot => K (.int k (bits .andNot k a b))
  | .eql => K (.bool (a == b))
  | .neq => K (.bool (a != b))
  | .lss => K (.bool (a < b))
  | .leq => K (.bool (a ≤ b))
  | .gtr => K (.bool (a > b))
  | .geq => K (.bool (a ≥ b))
  | _ => none
def shiftOp (op : BinOp) (k : IntKind) (a b : Int) (K : V → Option R) : Option R :=
  match op with
  | .shl => chk (0 ≤ b) (K (.int k (k.wrap (a * 2 ^ min b.toNat k.bits))))
  | .shr => chk (0 ≤ b) (K (.int k (a.fdiv (2 ^ min b.toNat k.bits))))
  | _ => none
/-- Is there room for two texts, one behind the other? -/
def catOk (x y : List UInt8) : Bool := decide (x.length + y.length ≤ 9223372036854775807)
def strOp (op : BinOp) (x y : List UInt8) (K : V → Option R) : Option R :=
  match op with
  | .add => chk (catOk x y) (K (.str (x ++ y)))
  | .eql => K (.bool (sEq x y))
  | .neq => K (.bool (!sEq x y))
  | .lss => K (.bool (sLt x y))
  | .leq => K (.bool (sLt x y || sEq x y))
  | .gtr => K (.bool (!(sLt x y || sEq x y)))
  | .geq => K (.bool (!sLt x y))
  | _ => none

/-- The value of a type in some cells. -/
def isAggT (t : TypeId) : Bool := match c.ty t with | some y => y.agg | none => false
def ofCells (t : TypeId) (cs : List V) : Option V :=
  if isAggT c t then some (.agg cs) else match cs with | [x] => some x | _ => none
def partV (t : TypeId) (off : Nat) (cs : List V) : Option V :=
  if off + tySize c t ≤ cs.length then ofCells c t ((cs.drop off).take (tySize c t)) else none

/-- Are two the same? -/
def eqFs (eqT : TypeId → V → V → Option Bool) (xs ys : List V) : List Field → Option Bool
  | [] => some true
  | f :: fs =>
    match partV c f.type f.offset xs, partV c f.type f.offset ys with
    | some x, some y => match eqT f.type x y, eqFs eqT xs ys fs with | some a, some b => some (a && b) | _, _ => none
    | _, _ => none
def eqT : Nat → TypeId → V → V → Option Bool
  | 0, _, _, _ => none
  | d + 1, t, x, y =>
    match c.ty t with
    | none => none
    | some ty => match ty.d, x, y with
      | .bool, .bool a, .bool b => some (a == b)
      | .int _, .int k a, .int k' b => if k == k' then some (a == b) else none
      | .string, .str a, .str b => some (sEq a b)
      | .pointer _, .ref _ _, .raw (.pointer none) => some false
      | .pointer _, .raw (.pointer none), .ref _ _ => some false
      | .pointer _, .raw (.pointer none), .raw (.pointer none) => some true
      | .struct fs, .agg xs, .agg ys => if ty.eq && fs.toList.all (fun f => f.name != "_") then eqFs c (eqT d) xs ys fs.toList else none
      | _, _, _ => none

def binV (op : BinOp) (t : TypeId) (x y : V) (K : V → Option R) : Option R :=
  match x, y with
  | .int k a, .int k' b =>
    match op with
    | .shl | .shr => shiftOp op k a b K
    | _ => if k == k' then intOp op k a b K else none
  | .str a, .str b => strOp op a b K
  | x, y =>
    match op with
    | .eql => match eqT c 20 t x y with | some b => K (.bool b) | none => none
    | .neq => match eqT c 20 t x y with | some b => K (.bool (!b)) | none => none
    | _ => none

def bytesOf (xs : List V) : List UInt8 := xs.map fun v => UInt8.ofNat v.getI.toNat
def ofBytes (s : List UInt8) : List V := s.map fun b => .int .u8 b.toNat

def convV (src dst : TypeId) (x : V) (K : V → Option R) : Option R :=
  match c.ty src, c.ty dst with
  | some ys, some yd =>
    match ys.d, yd.d, x with
    | _, .int k, .int _ n => K (.int k (k.wrap n))
    | _, .string, .int _ n => K (.str (Utf8.encode n).data.toList)
    | _, .string, .str s => K (.str s)
    | _, .slice e, .str s => if isByte c e then K (.lst e true (ofBytes s)) else none
    | .slice e, .string, .lst e' _ xs => if isByte c e && e == e' then K (.str (bytesOf xs)) else none
    | _, _, _ => none
  | _, _ => none

/-- Cells written over others, from a place on. -/
def over : (off : Nat) → (new old : List V) → List V
  | 0, n, old => n ++ old.drop n.length
  | o + 1, n, x :: old => x :: over o n old
  | _ + 1, _, [] => []

def fillV (place : Nat → Option (Nat × Nat)) : List (Nat × V) → List V → Option (List V)
  | [], cells => some cells
  | (i, v) :: r, cells =>
    match place i with
    | none => none
    | some (off, size) => if v.cells.length == size && off + size ≤ cells.length && v.cells.all V.single then fillV place r (over off v.cells cells) else none

def fieldsOf (t : TypeId) : Option (Array Field) := match c.ty t with | some { d := .struct fs, .. } => some fs | _ => none
def buildV (t : TypeId) (parts : List (Nat × V)) : Option V :=
  match c.ty t with
  | some { d := .struct fs, zero, .. } =>
    (fillV (fun i => (fs[i]?).map fun f => (f.offset, tySize c f.type)) parts zero).map .agg
  | some { d := .array _ e, zero, .. } => (fillV (fun i => some (i * tySize c e, tySize c e)) parts zero).map .agg
  | _ => none

/-- So many values of a type, out of cells. -/
def chunksV (e : TypeId) : Nat → List V → Option (List V)
  | 0, [] => some []
  | 0, _ => none
  | n + 1, cs => match partV c e 0 cs, chunksV e n (cs.drop (tySize c e)) with | some v, some r => some (v :: r) | _, _ => none
def sliceCells (e : TypeId) (n : Nat) (parts : List (Nat × V)) : Option (List V) :=
  match c.ty e with
  | some y => fillV (fun i => some (i * tySize c e, tySize c e)) parts ((List.replicate n (y.zero.map V.cut1)).flatten)
  | none => none

def zeroV (t : TypeId) : Option V := match c.ty t with | some y => ofCells c t y.zero | none => none

def etaE (t : TypeId) (v : V) : V := match c.ty t with | some y => RSh.eta ⟨y.agg, y.sh⟩ v | none => .bot
def fitsE (t : TypeId) (v : V) : Bool := match c.ty t with | some y => RSh.fits ⟨y.agg, y.sh⟩ v | none => false

def loadV (S : St) (t : TypeId) : V → Option V
  | .ref i off => match S.ob i with
    | .cells cs => partV c t off cs
    | _ => none
  | .cpt cs => partV c t 0 cs
  | _ => none
def storeK (S : St) (t : TypeId) (a v : V) (K : St → Option R) : Option R :=
  match a with
  | .ref i off => match S.ob i with
    | .cells cs => if (c.ty t).isSome && off + tySize c t ≤ cs.length && v.cells.length == tySize c t && v.cells.all V.single then S.setObK i (.cells (over off v.cells cs)) K else none
    | _ => none
  | _ => none

def cutAt : (off n : Nat) → List V → List V
  | 0, 0, cs => cs
  | 0, n + 1, x :: cs => x.cut1 :: cutAt 0 n cs
  | o + 1, n, x :: cs => x :: cutAt o n cs
  | _, _, [] => []
/-- The cells behind an address lose the right to append. -/
def shedMemK (S : St) (t : TypeId) (a : V) (K : St → Option R) : Option R :=
  match a with
  | .ref i off => match S.ob i with
    | .cells cs => S.setObK i (.cells (cutAt off (tySize c t) cs)) K
    | _ => K S
  | _ => K S

def sliceOk (t : TypeId) : V → Bool
  | .str _ => isStr c t
  | .lst e _ _ => elemOf c t == some e
  | _ => false
def intB : Option V → Bool
  | none => true
  | some (.int ..) => true
  | _ => false
def sliceV (x : V) (lo hi mx : Option V) (K : V → Option R) : Option R :=
  let l : Int := match lo with | some v => v.getI | none => 0
  match x, mx with
  | .str s, none =>
    match hi with
    | none => chk (decide (0 ≤ l)) (chk (decide (l ≤ s.length)) (K (.str (s.drop l.toNat))))
    | some hv => chk (decide (0 ≤ hv.getI)) (chk (decide (hv.getI ≤ s.length)) (chk (decide (0 ≤ l)) (chk (decide (l ≤ hv.getI)) (K (.str ((s.take hv.getI.toNat).drop l.toNat))))))
  | .lst e _ xs, none =>
    match hi with
    | none => chk (decide (0 ≤ l)) (chk (decide (l ≤ xs.length)) (K (.lst e false (xs.drop l.toNat))))
    | some hv => chk (decide (0 ≤ hv.getI)) (chk (decide (hv.getI ≤ xs.length)) (chk (decide (0 ≤ l)) (chk (decide (l ≤ hv.getI)) (K (.lst e false ((xs.take hv.getI.toNat).drop l.toNat))))))
  | _, _ => none

def lenV (t : TypeId) : V → Option V
  | .str s => if isStr c t then some (.int .i64 s.length) else none
  | .lst _ _ xs => if (elemOf c t).isSome then some (.int .i64 xs.length) else none
  | _ => none

def maxV : V → V → Option V
  | .int k x, .int _ y => some (.int k (if y > x then y else x))
  | _, _ => none
def minV : V → V → Option V
  | .int k x, .int _ y => some (.int k (if y < x then y else x))
  | _, _ => none
def foldV (f : V → V → Option V) : V → List V → Option V
  | x, [] => some x
  | x, y :: r => (f x y).bind fun z => foldV f z r

/-- Is there room for so many? -/
def appOk (xs ys : List V) (n : Nat) : Bool := decide ((xs.length + ys.length) * n ≤ 70368744177664)
def appOkS (xs : List V) (t : List UInt8) (n : Nat) : Bool := decide ((xs.length + t.length) * n ≤ 70368744177664)
def appendV (st xt : TypeId) (s x : V) (K : V → Option R) : Option R :=
  match s, x with
  | .lst e true xs, .lst e' _ ys =>
    match c.ty e with
    | some y => if e == e' && elemOf c st == some e && elemOf c xt == some e && 0 < y.size then chk (appOk xs ys (y.bytes + 1)) (K (.lst e true (xs ++ ys))) else none
    | none => none
  | .lst e true xs, .str t =>
    match c.ty e with
    | some y => if isByte c e && elemOf c st == some e && isStr c xt then chk (appOkS xs t (y.bytes + 1)) (K (.lst e true (xs ++ ofBytes t))) else none
    | none => none
  | _, _ => none

def reach (objs : List Ob) : Nat → List Nat → List Nat → List Nat
  | 0, _, acc => acc
  | _ + 1, [], acc => acc
  | n + 1, i :: r, acc => if acc.contains i then reach objs n r acc else reach objs n ((objs.getD i .dead).refs ++ r) (acc ++ [i])
def backObK : List Nat → List Ob → List Ob → (List Ob → Option R) → Option R
  | j :: js, o :: os, objs, K => setK objs j o fun objs => backObK js os objs K
  | _, _, objs, K => K objs

def rshOf (fn : Func) (tip : Bool) : Option (List RSh) :=
  fn.resultTypes.toList.mapM fun t => (c.ty t).map fun y => ⟨y.agg, if tip then y.sh.map CSh.tipped else y.sh⟩

def nodupB : List Nat → Bool
  | [] => true
  | x :: r => !r.contains x && nodupB r
def obRefs : List Ob → List Nat
  | [] => []
  | o :: r => o.refs ++ obRefs r
/-- A call of a function that stands apart: it gets the objects that its arguments lead to. -/
def callOut (call : FuncId → Fun) (rsh : List RSh) (f : FuncId) (args : List V) (S : St) (K : K R) : Option R :=
  let js := reach S.objs 100 (V.refsL args) []
  if js.all (· < S.objs.length) && nodupB js && (V.refsL args).all js.contains && (obRefs (js.map S.ob)).all js.contains && (!c.pur f || js.isEmpty) then
    let to := fun i => js.idxOf i
    let back := fun i => js.getD i 0
    let sub := js.map fun j => (S.ob j).ren to
    (call f (V.renL to args) sub).bind fun p =>
      match S with
      | ⟨env, objs⟩ => if c.still f then K ((etaRes rsh p.1).ren back) ⟨env, objs⟩
        else backObK js ((etaObs (sub.map OSh.of) p.2).map (Ob.ren back)) objs fun objs => K ((etaRes rsh p.1).ren back) ⟨env, objs⟩
  else none

def argsOf (S : St) : List Operand → List TypeId → List V
  | [], _ => []
  | x :: r, ts => opd c S (ts.headD 0) x :: argsOf S r ts.tail

/-- Arguments are handed on; the right to append goes with those that want it. -/
def passK (f : FuncId) : Nat → St → List Operand → List TypeId → (List V → St → Option R) → Option R
  | _, S, [], _, K => K [] S
  | i, S, x :: r, ts, K => passK f (i + 1) S r ts.tail fun vs S' =>
    if c.wants f i then shedK S' x fun S'' => K (opd c S' (ts.headD 0) x :: vs) S'' else K ((opd c S' (ts.headD 0) x).cut :: vs) S'

abbrev ICall (R : Type) := FuncId → List V → List Ob → (V → List Ob → Option R) → Option R

def enter (call : FuncId → Fun) (icall : ICall R) (f : FuncId) (args : List V) (S : St) (K : K R) : Option R :=
  if c.inl f then (match S with | ⟨env, objs⟩ => icall f args objs fun v objs => K v ⟨env, objs⟩)
  else match c.fn f with
    | none => none
    | some fn => match rshOf c fn (c.rtip f) with
      | none => none
      | some rsh => callOut c call rsh f args S K

def callV (call : FuncId → Fun) (icall : ICall R) (cl : Call) (S : St) (K : K R) : Option R :=
  let args := argsOf c S cl.args.toList cl.argTypes.toList
  match cl.callee with
  | .builtin .len => match cl.args.toList, cl.argTypes.toList with
    | [x], [t] => (match lenV c t (opd c S t x) with | some v => K v S | none => none)
    | _, _ => none
  | .builtin .append => match cl.args.toList, cl.argTypes.toList with
    | [so, xo], [st, xt] => shedK S so fun S' => appendV c st xt (opd c S st so) (opd c S xt xo) fun v => K v S'
    | _, _ => none
  | .builtin .max => match args with | x :: r => (match foldV maxV x r with | some v => K v.cut S | none => none) | _ => none
  | .builtin .min => match args with | x :: r => (match foldV minV x r with | some v => K v.cut S | none => none) | _ => none
  | .value fo => match opd c S 0 fo with
    | .clo (.func f) first caps =>
      if first.isEmpty then passK c f 0 S cl.args.toList cl.argTypes.toList fun vs S' => enter c call icall f (vs ++ V.cutL caps) S' K
      else enter c call icall f (V.cutL (first ++ args ++ caps)) S K
    | _ => none
  | _ => none

/-- One operation: its value, and the state behind it. -/
def opK (call : FuncId → Fun) (icall : ICall R) (ops : List Oper) (o : Oper) (S : St) (K : K R) : Option R :=
  match o.op with
  | .move x => if owned c ops o.dst then shedK S x (K (opd c S o.type x)) else K (opd c S o.type x).cut S
  | .assign x => shedK S x (K (opd c S o.type x))
  | .pick cx a b => match opd c S 0 cx with
    | .bool true => K (opd c S o.type a).cut S
    | .bool false => K (opd c S o.type b).cut S
    | _ => none
  | .binOp op t x y ty => binV c op t (opd c S t x) (opd c S ty y) fun v => K v S
  | .unOp .not _ x => match opd c S o.type x with | .bool b => K (.bool !b) S | _ => none
  | .unOp .neg _ x => match opd c S o.type x with | .int k n => K (.int k (k.wrap (0 - n))) S | _ => none
  | .unOp .xor _ x => match opd c S o.type x with | .int k n => K (.int k (bits .xor k (if k.signed then -1 else k.max) n)) S | _ => none
  | .convert src dst x => convV c src dst (opd c S src x) fun v => K v S
  | .build t parts =>
    match buildV c t (parts.toList.map fun p => (p.1, opd c S (match c.ty t with | some { d := .struct fs, .. } => ((fs[p.1]?).map (·.type)).getD 0 | some { d := .array _ e, .. } => e | _ => 0) p.2 |>.cut)) with
    | some v => K v S
    | none => none
  | .buildSlice t n parts =>
    match elemOf c t with
    | none => none
    | some e => match (sliceCells c e n (parts.toList.map fun p => (p.1, (opd c S e p.2).cut))).bind (chunksV c e n) with
      | none => none
      | some xs => if xs.all (fitsE c e) && (V.refsL xs).isEmpty && n * tySize c e ≤ 16777216 && 0 < tySize c e then K (.lst e true xs) S else none
  | .alloc t => match c.ty t with
    | some y => S.newK (.cells y.zero) fun n S => K (.ref n 0) S
    | none => none
  | .box t x =>
    let v := opd c S t x
    if v.cells.length == tySize c t && v.cells.all V.single then shedK S x fun S => S.newK (.cells v.cells) fun n S => K (.ref n 0) S else none
  | .load t a =>
    let p := opd c S 0 a
    match loadV c S t p with
    | some v => if owned c ops o.dst && p.isRef then shedMemK c S t p (K v) else K v.cut S
    | none => none
  | .store t a x =>
    let v := opd c S t x
    let p := opd c S 0 a
    shedK S x fun S => storeK c S t p v (K .bot)
  | .nilCheck x => match opd c S 0 x with
    | .ref i f => K (.ref i f) S
    | .cpt cs => K (.cpt cs) S
    | .clo f a b => match f with | .func _ => K (.clo f a b) S | _ => none
    | _ => none
  | .fieldAddr t x f =>
    match fieldsOf c t with
    | none => none
    | some fs => match fs[f]? with
      | none => none
      | some fd => if tySize c fd.type == 0 then none else
        match opd c S 0 x with
        | .ref i off => K (.ref i (off + fd.offset)) S
        | .cpt cs => K (.cpt (cs.drop fd.offset)) S
        | _ => none
  | .field t x f =>
    match fieldsOf c t with
    | none => none
    | some fs => match fs[f]?, opd c S t x with
      | some fd, .agg cs => match partV c fd.type fd.offset cs with
        | some v => K v.cut S
        | none => none
      | _, _ => none
  | .indexAddr t x i =>
    match opd c S t x, opd c S 0 i with
    | .lst e _ xs, .int _ n =>
      match elemOf c t with
      | some e' => if e == e' && 0 < tySize c e then chk (decide (0 ≤ n)) (chk (decide (n < xs.length)) (K (.cpt (etaE c e (xs.getD n.toNat .bot)).cells) S)) else none
      | none => none
    | _, _ => none
  | .index t x i =>
    match opd c S 0 x, opd c S 0 i with
    | .str s, .int _ n => if isStr c t then chk (decide (0 ≤ n)) (chk (decide (n < s.length)) (K (.int .u8 (s.getD n.toNat 0).toNat) S)) else none
    | _, _ => none
  | .slice t x lo hi mx => if sliceOk c t (opd c S t x) && intB (lo.map (opd c S 0)) && intB (hi.map (opd c S 0)) then sliceV (opd c S t x) (lo.map (opd c S 0)) (hi.map (opd c S 0)) (mx.map (opd c S 0)) fun v => K v S else none
  | .extract t n => match opd c S 0 t with
    | .tup cs => if n < cs.length then K (cs.getD n .bot).cut S else none
    | _ => none
  | .makeFunc fn first caps => K (.clo fn (first.toList.map fun x => (opd c S 0 x).cut) (caps.toList.map fun x => (opd c S 0 x).cut)) S
  | .call cl => callV c call icall cl S K
  | .makeMap t n => match mapOf c t, n with
    | some (kd, vd), none => S.newK (.mp kd vd []) fun n S => K (.mref n) S
    | _, _ => none
  | .lookup t x i ok => match opd c S t x, mapOf c t, (opd c S 0 i).toSc with
    | .mref j, some (kd, vd), some k => match S.ob j with
      | .mp kd' vd' es => if kd == kd' && vd == vd' && k.kind == kd then K (if ok then .tup [mval vd k es, .bool (mhas k es)] else mval vd k es) S else none
      | _ => none
    | _, _, _ => none
  | .mapUpdate t x i v => match opd c S t x, mapOf c t, (opd c S 0 i).toSc, (opd c S 0 v).toSc with
    | .mref j, some (kd, vd), some k, some u => match S.ob j with
      | .mp kd' vd' es => if kd == kd' && vd == vd' && k.kind == kd && u.kind == vd then S.setObK j (.mp kd vd (mput k u es)) fun S => K .bot S else none
      | _ => none
    | _, _, _, _ => none
  | .range t x => match opd c S t x with
    | .str s => if isStr c t then S.newK (.sit s 0) fun n S => K (.ref n 0) S else none
    | _ => none
  | .next it str => match opd c S 0 it with
    | .ref i off => if str && off == 0 then (match S.ob i with
      | .sit s pos => if pos.toNat < s.length
        then S.setObK i (.sit s ((pos.toNat + (Utf8.decode ⟨s.toArray⟩ pos.toNat).2 : Nat) : Int)) fun S => K (.tup [.bool true, .int .i64 pos.toNat, .int .i32 (Utf8.decode ⟨s.toArray⟩ pos.toNat).1]) S
        else K (.tup [.bool false]) S
      | _ => none) else none
    | _ => none
  | _ => none

/-- What a slot holds whose operation was passed over. -/
def skipV : V := .raw (.tuple ⟨[]⟩)
/-- Operations, one behind the other. -/
def opsK (call : FuncId → Fun) (icall : ICall R) (ops : List Oper) : List Oper → St → (St → Option R) → Option R
  | [], S, K => K S
  | o :: r, S, K =>
    match o.guard with
    | none => opK c call icall ops o S fun v S' => S'.putK o.dst v fun S' => opsK call icall ops r S' K
    | some (j, want) =>
      match (ops[j]?).bind (·.dst) with
      | none => none
      | some t => match S.get t with
        | .bool b => if b = want then S.putK (some t) (.bool want) fun S => opK c call icall ops o S fun v S' => S'.putK o.dst v fun S' => opsK call icall ops r S' K
          else S.putK (some t) (.bool !want) fun S => S.putK o.dst skipV fun S => opsK call icall ops r S K
        | .raw (.tuple ⟨[]⟩) => S.putK o.dst skipV fun S => opsK call icall ops r S K
        | _ => none
end
end Go.Ev
