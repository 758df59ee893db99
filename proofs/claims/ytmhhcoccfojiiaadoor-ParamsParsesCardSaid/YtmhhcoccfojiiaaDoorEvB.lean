/- The plain reading of code: blocks, loops, calls. Nothing is proved here. -/
import Derived.Test.YtmhhcoccfojiiaaDoorEvA
namespace Go.Ev

/-- What is left to do. -/
inductive It where
  | code (x : Code)
  | inBlock (id : Nat)
  | inLoop (x : Code)
  | inScope (x : Code)
  deriving Inhabited

/-- Which slots are looked at: behind this; behind the exit of each block; by the results. -/
structure Lv where
  n : List Nat
  ex : List (Nat × List Nat)
  r : List Nat

def join (a b : List Nat) : List Nat := a.foldl (fun b x => if b.contains x then b else x :: b) b
def tmpsOf (l : List Operand) : List Nat := l.filterMap fun | .tmp t => some t | _ => none
def opReads (o : Op) : List Nat := tmpsOf o.operands.toList
def liveOp (ops : List Oper) (o : Oper) (live : List Nat) : List Nat :=
  let l := match o.dst with | some d => live.filter (· != d) | none => live
  let g := match o.guard with | some (j, _) => ((ops[j]?).bind (·.dst)).toList | none => []
  join (g ++ opReads o.op) l
def liveOps (ops l : List Oper) (live : List Nat) : List Nat := l.foldr (liveOp ops) live
def Lv.at (lv : Lv) (id : Nat) : List Nat := match lv.ex.find? fun p => p.1 == id with | some p => p.2 | none => []

def liveC : Code → Lv → List Nat
  | .region _ ops _, lv => liveOps ops.toList ops.toList lv.n
  | .seq a b, lv => liveC a { lv with n := liveC b lv }
  | .cond x a b, lv => join (tmpsOf [x]) (join (liveC a lv) (liveC b lv))
  | .block id a, lv => liveC a { lv with ex := (id, lv.n) :: lv.ex }
  | .scope a, lv => liveC a lv
  | .loop a, lv =>
    let x0 := liveC a { lv with n := [] }
    let x1 := join (liveC a { lv with n := x0 }) x0
    join (liveC a { lv with n := x1 }) x1
  | .exit id, lv => lv.at id
  | .ret, lv => lv.r
  | _, lv => lv.n

/-- What is looked at by all that is left. -/
def liveT (r : List Nat) : List It → Lv
  | [] => ⟨r, [], r⟩
  | .code x :: k => let lv := liveT r k; { lv with n := liveC x lv }
  | .inBlock id :: k => let lv := liveT r k; { lv with ex := (id, lv.n) :: lv.ex }
  | .inLoop x :: k => let lv := liveT r k; { lv with n := liveC (.loop x) lv }
  | .inScope _ :: k => liveT r k

def exitIt (id : Nat) : List It → Option (List It)
  | .inBlock i :: k => if i == id then some k else exitIt id k
  | _ :: k => exitIt id k
  | [] => none

/-- The loops of a code, each with what is left to do when it begins a round. -/
def loopTds : Code → List It → List (List It)
  | .seq a b, k => loopTds a (.code b :: k) ++ loopTds b k
  | .cond _ a b, k => loopTds a k ++ loopTds b k
  | .block id a, k => loopTds a (.inBlock id :: k)
  | .scope a, k => loopTds a (.inScope a :: k)
  | .loop a, k => (.code a :: .inLoop a :: k) :: loopTds a (.inLoop a :: k)
  | _, _ => []
def codeOf (fn : Func) : Code := match fn.body with | some c => c | none => .skip
def tdOf (fn : Func) (j : Nat) : List It := (loopTds (codeOf fn) []).getD j []

section
variable (c : Cfg)

/-- What an operation does besides giving a value: 0 nothing; 1 it looks at objects; 2 it changes them. -/
def opClass : Op → Nat
  | .move _ | .assign _ | .pick .. | .binOp .. | .unOp .. | .convert .. | .build .. | .buildSlice .. | .nilCheck _ | .fieldAddr .. | .field ..
  | .indexAddr .. | .index .. | .slice .. | .extract .. | .makeFunc .. => 0
  | .load .. | .lookup .. => 1
  | .call { callee := .builtin .len, .. } | .call { callee := .builtin .append, .. } | .call { callee := .builtin .max, .. } | .call { callee := .builtin .min, .. } => 0
  | .call { callee := .value (.func f), args, .. } => 2
  | _ => 2

/-- It changes no object that is there. -/
def roOp (ops : List Oper) (o : Oper) : Bool :=
  match o.op with
  | .store .. | .next .. | .mapUpdate .. => false
  | .load .. => !owned c ops o.dst
  | .call { callee := .value (.func f), .. } => c.still f
  | .call { callee := .value _, .. } => false
  | _ => true
def roCode : Code → Bool
  | .region _ ops _ => ops.toList.all fun o => roOp c ops.toList o
  | .seq a b | .cond _ a b => roCode a && roCode b
  | .block _ a | .loop a | .scope a => roCode a
  | _ => true
def roIt : It → Bool
  | .code x | .inLoop x => roCode c x
  | .inBlock _ | .inScope _ => true

/-- Slots that an operation may turn, but for its own. -/
def opSheds (ops : List Oper) (o : Oper) : List Nat :=
  match o.op with
  | .move x => if owned c ops o.dst then tmpsOf [x] else []
  | .assign x => tmpsOf [x]
  | .box _ x => tmpsOf [x]
  | .store _ _ x => tmpsOf [x]
  | .call { callee := .builtin .append, args, .. } => tmpsOf (args.toList.take 1)
  | .call { callee := .value _, args, .. } => tmpsOf args.toList
  | _ => []
def opWrites (ops : List Oper) (o : Oper) : List Nat := o.dst.toList ++ opSheds c ops o
def opLooks (ops : List Oper) (o : Oper) : List Nat :=
  (match o.guard with | some (j, _) => ((ops[j]?).bind (·.dst)).toList | none => []) ++ opReads o.op
/-- A load that takes the right to append changes its object. -/
def opClassAt (ops : List Oper) (o : Oper) : Nat :=
  match o.op with
  | .load .. => if owned c ops o.dst then 2 else 1
  | .call { callee := .value (.func f), .. } => if c.still f then 1 else 2
  | op => opClass op

def disj (a b : List Nat) : Bool := a.all fun x => !b.contains x
def isLd (o : Oper) : Bool := match o.op with | .load .. => true | _ => false
/-- Two operations whose order is of no account. -/
def swaps (ops : List Oper) (x y : Oper) : Bool :=
  disj (opWrites c ops x) (opWrites c ops y ++ opLooks ops y) && disj (opWrites c ops y) (opLooks ops x)
  && (opClassAt c ops x + opClassAt c ops y ≤ 2 || (isLd x && isLd y && (opClassAt c ops x == 1 || opClassAt c ops y == 1)))

/-- Which operations stand ahead of each, as bits. -/
def ahead : List Oper → List Nat → List Nat
  | [], acc => acc
  | o :: r, acc => ahead r (acc ++ [o.after.toList.foldl (fun s e => if Region.binds .any e then s ||| (1 <<< e.on) ||| acc.getD e.on 0 else s) 0])
def swapsAll (ops : List Oper) (b : List Nat) (j : Nat) (y : Oper) : (i : Nat) → List Oper → Bool
  | _, [] => true
  | i, x :: r => (if i < j then (b.getD j 0).testBit i || swaps c ops x y else true) && swapsAll ops b j y (i + 1) r
def orderFree (ops : List Oper) : Bool :=
  let b := ahead ops []
  let rec go : Nat → List Oper → Bool
    | _, [] => true
    | j, y :: r => y.after.toList.all (fun e => !Region.binds .any e || e.on < j) && swapsAll c ops b j y 0 ops && go (j + 1) r
  go 0 ops

def guarded (ops : List Oper) : Bool := ops.any fun o => o.guard.isSome
def opQuiet : Op → Bool
  | .move _ | .pick .. | .binOp .. | .unOp .. | .nilCheck _ | .fieldAddr .. | .field .. | .indexAddr .. | .index .. | .extract .. => true
  | .assign _ => true
  | .load .. | .lookup .. => true
  | .slice .. => true
  | .call { callee := .builtin .len, .. } => true
  | _ => false
def quiet (ops : List Oper) : Bool := ops.all fun o => opQuiet o.op && !(match o.op with | .load .. => owned c ops o.dst | _ => false)
def forgetK {R : Type} (S : St) (l : List Nat) (K : St → Option R) : Option R :=
  match l with
  | [] => K S
  | t :: r => S.putK (some t) .bot fun S => forgetK S r K
def lastDst : List Oper → Option Nat
  | [] => none
  | [o] => o.dst
  | _ :: r => lastDst r

def keepLK {R : Type} (live : List Nat) : Nat → List V → (List V → Option R) → Option R
  | _, [], K => K []
  | t, v :: r, K => keepLK live (t + 1) r fun r' => K ((if live.contains t then v else .bot) :: r')
def takeK {R : Type} : Nat → List Ob → (List Ob → Option R) → Option R
  | 0, _, K => K []
  | _ + 1, [], K => K []
  | n + 1, o :: r, K => takeK n r fun r' => K (o :: r')
def maxRef (l : List Nat) (n : Nat) : Nat := l.foldl (fun m i => max m (i + 1)) n
/-- Only what is still needed; objects to which nothing leads are dropped from the end. -/
def St.normK {R : Type} (S : St) (live : List Nat) (base : Nat) (K : St → Option R) : Option R :=
  match S with
  | ⟨env, objs⟩ => keepLK live 0 env fun env =>
    takeK (maxRef (reach objs 100 (V.refsL env ++ List.range base) []) base) objs fun objs' =>
      if (V.refsL env).all (· < objs'.length) && (obRefs objs').all (· < objs'.length) then K ⟨env, objs'⟩ else K ⟨env, objs⟩

variable {R : Type}

/-- What a test has shown. -/
def refineK (S : St) (x : Operand) (b : Bool) (K : St → Option R) : Option R := match x with | .tmp s => S.putK (some s) (.bool b) K | _ => K S

def noICall : ICall Bool := fun _ _ _ _ => none

/-- All that is left to do, up to the next round of a loop. -/
def runM (call : FuncId → Fun) (icall : ICall R) (rs : List Nat) (base : Nat) (again : List It → St → Option R) (fin : St → Option R) : Nat → List It → St → Option R
  | 0, _, _ => none
  | _ + 1, [], S => fin S
  | _ + 1, .code .ret :: _, S => fin S
  | m + 1, .code .skip :: k, S => runM call icall rs base again fin m k S
  | m + 1, .code (.label _) :: k, S => runM call icall rs base again fin m k S
  | m + 1, .inBlock _ :: k, S => runM call icall rs base again fin m k S
  | m + 1, .inScope _ :: k, S => runM call icall rs base again fin m k S
  | m + 1, .code (.scope a) :: k, S => runM call icall rs base again fin m (.code a :: .inScope a :: k) S
  | m + 1, .code (.seq a b) :: k, S => runM call icall rs base again fin m (.code a :: .code b :: k) S
  | m + 1, .code (.block id a) :: k, S => runM call icall rs base again fin m (.code a :: .inBlock id :: k) S
  | m + 1, .code (.exit id) :: k, S => match exitIt id k with | some k' => runM call icall rs base again fin m k' S | none => none
  | m + 1, .code (.cond x a b) :: k, S => match opd c S 0 x with
    | .bool t => if t then refineK S x true fun S => runM call icall rs base again fin m (.code a :: k) S
      else refineK S x false fun S => runM call icall rs base again fin m (.code b :: k) S
    | _ => none
  | m + 1, .code (.region _ ops draw) :: k, S =>
    let l := ops.toList
    if draw && !orderFree c l then none
    else if guarded l && quiet c l then
      match lastDst l with
      | none => none
      | some t => (opsK c call noICall l l S fun S' => match S'.get t with | .bool b => some b | _ => none).bind fun b =>
          forgetK S (l.flatMap (opWrites c l)) fun S => S.putK (some t) (.bool b) fun S => runM call icall rs base again fin m k S
    else opsK c call icall l l S fun S => runM call icall rs base again fin m k S
  | _ + 1, .code (.loop a) :: k, S => S.normK (liveT rs (.inLoop a :: k)).n base fun S => again (.code a :: .inLoop a :: k) S
  | _ + 1, .inLoop a :: k, S => S.normK (liveT rs (.inLoop a :: k)).n base fun S => again (.code a :: .inLoop a :: k) S
  | _ + 1, .code _ :: _, _ => none

def depth : Nat := 100000

/-- With so many rounds. -/
def runN (call : FuncId → Fun) (icall : ICall R) (rs : List Nat) (base : Nat) (fin : St → Option R) : Nat → List It → St → Option R
  | 0, _, _ => none
  | n + 1, td, S => runM c call icall rs base (runN call icall rs base fin n) fin depth td S

def resultsV (S : St) : List ResultVar → Option (List V)
  | [] => some []
  | .tmp t :: r => (resultsV S r).map (S.get t :: ·)
  | .cell q t :: r => match S.get q, loadV c S t (S.get q) with
    | .ref .., some v => (resultsV S r).map (v.cut :: ·)
    | _, _ => none

def slotsOf (l : List ResultVar) : List Nat := l.map fun | .tmp t => t | .cell a _ => a

def padK : Nat → (List V → Option R) → Option R
  | 0, K => K []
  | n + 1, K => padK n fun l => K (.bot :: l)
def envK : List V → Nat → (List V → Option R) → Option R
  | [], n, K => padK n K
  | v :: r, n, K => envK r (n - 1) fun l => K (v :: l)

/-- The results of a function that is through. -/
def finV (fn : Func) (K : V → List Ob → Option R) (S : St) : Option R :=
  if nodupB (slotsOf fn.results.toList) then
    match resultsV c S fn.results.toList with
    | none => none
    | some [v] => K v S.objs
    | some l => K (.tup l) S.objs
  else none

/-- Functions without loops, where they are called. -/
def icallN (call : FuncId → Fun) : Nat → ICall R
  | 0 => fun _ _ _ _ => none
  | d + 1 => fun f args objs K =>
    match c.fn f with
    | none => none
    | some fn => match fn.body with
      | none => none
      | some code => envK args fn.ntmps fun env =>
        runM c call (icallN call d) (slotsOf fn.results.toList) objs.length (fun _ _ => none) (finV c fn K) depth [.code code] ⟨env, objs⟩

def finish (fn : Func) (f : FuncId) (osh : List OSh) (v : V) (objs : List Ob) : Option (V × List Ob) :=
  match rshOf c fn (c.rtip f) with
  | none => none
  | some rsh =>
    let v := if c.rtip f then v else v.cut
    let out := objs.take osh.length
    if fitsRes rsh v && fitsObs osh out && v.refs.all (· < osh.length) && (obRefs out).all (· < osh.length) then some (v, out) else none

/-- A function's answer, with so many rounds. -/
def callN : Nat → FuncId → Fun
  | 0 => fun _ _ _ => none
  | k + 1 => fun f args objs =>
    match c.hand f with
    | some h => h args objs
    | none => match c.fn f with
      | none => none
      | some fn => match fn.body with
        | none => none
        | some code => envK args fn.ntmps fun env =>
          runN c (callN k) (icallN c (callN k) 20) (slotsOf fn.results.toList) objs.length (finV c fn (finish c fn f (objs.map OSh.of))) (k + 1) [.code code] ⟨env, objs⟩
end
end Go.Ev
