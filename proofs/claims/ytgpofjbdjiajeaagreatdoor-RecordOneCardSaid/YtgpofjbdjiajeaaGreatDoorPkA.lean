/- Lemmas for the claim, merged: the plain reading of the program's functions, its soundness, and what they compute. -/
import Derived.Orders
import Derived.Tactics
import Derived.Laws.Cells
import Derived.Laws.NewBlocks
import Derived.Laws.StructEq
import Derived.Laws.Strings
import Derived.ChangeKeysEq
import Derived.Laws.Append
import Derived.Laws.AppendOwn
import Derived.Laws.BytesString
import Derived.Lib.ConvBytes
open List renaming all_eq_true→Ux,append_assoc→Ud,append_nil→UI,cons_append→UA,count_append→VK,count_cons→Vx,count_pos_iff→UQ,drop_eq_getElem_cons→UM,eq_nil_of_length_eq_zero→Ue,ext_getElem?→UK,flatMap_cons→U8,foldl_cons→V9,getD→Ul,getElem?_append_left→TU,getElem?_append_right→Ub,getElem?_cons_succ→Ve,getElem?_drop→UN,getElem?_eq_getElem→TP,getElem?_eq_none→Ut,getElem?_eq_some_iff→TQ,getElem?_map→UC,getElem?_set_ne→Uq,getElem?_set_self→Us,getElem?_take→Uw,getElem_mem→U3,length→US,length_append→Ug,length_cons→Ua,length_nil→Uh,length_pos_iff→U6,map_cons→UE,mem_append→TV,mem_cons→UH,mem_map→Vy,mem_of_getElem?→Uu,mem_of_mem_drop→U1,mem_of_mem_take→U0,nil_append→UV,range→Vr,replicate→TZ,set_cons_succ→VG,set_cons_zero→V5,set_eq_of_length_le→We,size_toArray→Vj,take_add_one→VE
open Nat renaming add_mul→Vh,add_zero→U2,eq_zero_or_pos→VH,le_of_not_lt→UZ,le_refl→TY,le_trans→Uy,lt_irrefl→Wg,lt_of_lt_of_le→Up,mul_le_mul_right→Vi,zero_add→UD
open Bool renaming and_eq_true→TR,false_eq_true→TL
open Option renaming getD_some→Vg
open Array renaming ext'→Vl,getD_eq_getD_getElem?→Un,getElem?_eq_getElem→Uj,getElem?_eq_some_iff→TX,getElem?_setIfInBounds_ne→VU,length_toList→Vq
open UInt8 renaming ofNat→Uo
set_option linter.all false
set_option linter.unusedVariables false
set_option linter.unusedSimpArgs false
section
namespace Go.Ev
inductive V where
 |bool (b:Bool)
 |int (k:IntKind) (n:Int)
 |str (s:List UInt8)
 |lst (e:TypeId) (tip:Bool) (xs:List V)
 |agg (cs:List V)
 |tup (cs:List V)
 |ref (i off:Nat)
 |mref (i:Nat)
 /-- nil,or where the object stands -/
 |opt (i off:Nat)
 |cpt (cs:List V)
 |clo (fn:Fn) (first caps:List V)
 |ifc (t:TypeId) (v:V)
 /-- a value of an interface's type,or (true) nil;it leads to no objects -/
 |ifo (b:Bool) (t:TypeId) (v:V)
 |raw (v:Value)
 /-- a list that nobody else looks at:its members may be written -/
 |own (e:TypeId) (xs:List V)
 |bot
 deriving Inhabited
inductive CSh where
 |bool
 |int (k:IntKind)
 |str
 |lst (e:TypeId) (tip:Bool)
 |ref (i off:Nat)
 |mref (i:Nat)
 |opt (i off:Nat)
 |nili
 /-- a value of an interface's type,not nil -/
 |ifc
 /-- one that may be nil -/
 |ifo
 |other
 deriving Inhabited
structure Ty where
 d:TypeDesc
 size:Nat
 bytes:Nat
 agg:Bool
 sh:List CSh
 zero:List V
 /-- two of them may be held against each other,part by part -/
 eq:Bool
 deriving Inhabited
inductive Sc where
 |bool (b:Bool)
 |int (k:IntKind) (n:Int)
 |str (s:List UInt8)
 /-- a function that has no captures -/
 |fn (f:FuncId)
 /-- a struct of two strings:a key alone -/
 |two (a b:List UInt8)
 deriving Inhabited,DecidableEq
inductive SK where
 |bool
 |int (k:IntKind)
 |str
 |fn
 |two
 deriving Inhabited,DecidableEq
inductive Ob where
 |cells (cs:List V)
 |mp (kd vd:SK) (es:List (Sc×Sc))
 |sit (s:List UInt8) (pos:Int)
 |dead
 deriving Inhabited
structure St where
 env:List V
 objs:List Ob
 deriving Inhabited
namespace V
def getB:V→Bool| .bool b=>b|_=>false
def getI:V→Int| .int _ n=>n|_=>0
def getS:V→List UInt8| .str s=>s|_=>[]
def getL:V→List V| .lst _ _ xs=>xs|_=>[]
def ifT:V→TypeId| .ifc t _=>t| .ifo _ t _=>t|_=>0
def ifV:V→V| .ifc _ v=>v| .ifo _ _ v=>v|_=> .bot
def ifN:V→Bool| .ifo b _ _=>b|_=>true
def nif:V→V| .raw .nilIface=> .ifo true 0 .bot|v=>v
def cells:V→List V| .agg cs=>cs|v=>[v]
def cell (v:V) (j:Nat):V:=v.cells.getD j .bot
def cut1:V→V| .lst e _ xs=> .lst e false xs| .own _ _=> .bot|v=>v
def cut2:V→V| .agg cs=> .agg (cs.map cut1)|v=>v.cut1
def cut:V→V| .tup cs=> .tup (cs.map cut2)|v=>v.cut2
def cutL:List V→List V
 |[]=>[]
 |v::r=>v.cut::cutL r
def isRef:V→Bool| .ref .. =>true|_=>false
def single:V→Bool
 | .bool _| .int .. | .str _| .lst .. | .ref .. | .mref _| .opt .. | .cpt _| .clo .. | .ifc .. | .ifo .. =>true
 | .raw (.agg _)| .raw (.tuple _)=>false
 | .raw _=>true
 |_=>false
def solid:V→Bool| .opt .. =>false|v=>v.single
def tip1:V→Bool| .lst _ t _=>t| .own _ _=>true|_=>false
def tip2:V→Bool| .agg cs=>cs.any tip1|v=>v.tip1
def tips:V→Bool| .tup cs=>cs.any tip2|v=>v.tip2
mutual
def refs:V→List Nat
 | .ref i _=>[i]
 | .mref i=>[i]
 | .opt i _=>[i]
 | .agg cs| .tup cs| .cpt cs=>refsL cs
 | .clo _ a b=>refsL a++refsL b
 | .ifc _ v=>refs v
 |_=>[]
def refsL:List V→List Nat
 |[]=>[]
 |v::r=>refs v++refsL r
end
mutual
def ren (ρ:Nat→Nat):V→V
 | .ref i o=> .ref (ρ i) o
 | .mref i=> .mref (ρ i)
 | .opt i o=> .opt (ρ i) o
 | .agg cs=> .agg (renL ρ cs)
 | .tup cs=> .tup (renL ρ cs)
 | .cpt cs=> .cpt (renL ρ cs)
 | .clo f a b=> .clo f (renL ρ a) (renL ρ b)
 | .ifc t v=> .ifc t (ren ρ v)
 |v=>v
def renL (ρ:Nat→Nat):List V→List V
 |[]=>[]
 |v::r=>ren ρ v::renL ρ r
end
end V
namespace CSh
def eta:CSh→V→V
 | .bool,v=> .bool v.getB
 | .int k,v=> .int k v.getI
 | .str,v=> .str v.getS
 | .lst e t,v=> .lst e t v.getL
 | .ref i o,_=> .ref i o
 | .mref i,_=> .mref i
 | .opt i o,_=> .opt i o
 | .nili,_=> .raw .nilIface
 | .ifc,v=> .ifc v.ifT v.ifV
 | .ifo,v=> .ifo v.ifN v.ifT v.ifV
 | .other,v=>v
def fits:CSh→V→Bool
 | .bool, .bool _=>true
 | .int k, .int k' _=>k==k'
 | .str, .str _=>true
 | .lst e t, .lst e' t' _=>e==e' &&t==t'
 | .ref i o, .ref i' o' =>i==i' &&o==o'
 | .mref i, .mref i' =>i==i'
 | .opt i o, .opt i' o' =>i==i' &&o==o'
 | .nili, .raw .nilIface=>true
 | .ifc, .ifc _ _=>true
 | .ifo, .ifo _ _ _=>true
 |_,_=>false
def of:V→CSh
 | .bool _=> .bool
 | .int k _=> .int k
 | .str _=> .str
 | .lst e t _=> .lst e t
 | .ref i o=> .ref i o
 | .mref i=> .mref i
 | .opt i o=> .opt i o
 | .raw .nilIface=> .nili
 | .ifc _ _=> .ifc
 | .ifo _ _ _=> .ifo
 |_=> .other
def tipped:CSh→CSh| .lst e _=> .lst e true|s=>s
end CSh
def nH:List CSh→List V→List V
 |[],_=>[]
 |s::r,cs=>s.eta (cs.headD .bot)::nH r cs.tail
def dB:List CSh→List V→Bool
 |[],[]=>true
 |s::r,c::cs=>s.fits c&&dB r cs
 |_,_=>false
structure RSh where
 agg:Bool
 sh:List CSh
 deriving Inhabited
def RSh.eta (s:RSh) (v:V):V:=if s.agg then .agg (nH s.sh v.cells)else(nH s.sh [v]).headD .bot
def RSh.fits (s:RSh) (v:V):Bool:=if s.agg then(match v with| .agg cs=>dB s.sh cs|_=>false)else dB s.sh [v]
def EA:List RSh→List V→List V
 |[],_=>[]
 |s::r,cs=>s.eta (cs.headD .bot)::EA r cs.tail
def vR:List RSh→List V→Bool
 |[],[]=>true
 |s::r,c::cs=>s.fits c&&vR r cs
 |_,_=>false
def V.getT:V→List V| .tup cs=>cs|_=>[]
def vS:List RSh→V→V
 |[s],v=>s.eta v
 |l,v=> .tup (EA l v.getT)
def jK:List RSh→V→Bool
 |[s],v=>s.fits v
 |l, .tup cs=>vR l cs
 |_,_=>false
inductive OSh where
 |cells (sh:List CSh)
 |mp (kd vd:SK)
 |sit
 |dead
 deriving Inhabited
def OSh.of:Ob→OSh
 | .cells cs=> .cells (cs.map CSh.of)
 | .mp kd vd _=> .mp kd vd
 | .sit .. => .sit
 | .dead=> .dead
def Ob.getC:Ob→List V| .cells cs=>cs|_=>[]
def Ob.getM:Ob→List (Sc×Sc)| .mp _ _ es=>es|_=>[]
def Ob.getS:Ob→List UInt8| .sit s _=>s|_=>[]
def Ob.getP:Ob→Int| .sit _ p=>p|_=>0
def OSh.eta:OSh→Ob→Ob
 | .cells sh,o=> .cells (nH sh o.getC)
 | .mp kd vd,o=> .mp kd vd o.getM
 | .sit,o=> .sit o.getS o.getP
 | .dead,_=> .dead
def OSh.fits:OSh→Ob→Bool
 | .cells sh, .cells cs=>dB sh cs
 | .mp kd vd, .mp kd' vd' _=>kd==kd' &&vd==vd'
 | .sit, .sit .. =>true
 | .dead, .dead=>true
 |_,_=>false
def Dt:List OSh→List Ob→List Ob
 |[],_=>[]
 |s::r,os=>s.eta (os.headD .dead)::Dt r os.tail
def iH:List OSh→List Ob→Bool
 |[],[]=>true
 |s::r,o::os=>s.fits o&&iH r os
 |_,_=>false
def Ob.refs:Ob→List Nat| .cells cs=>V.refsL cs|_=>[]
def Ob.ren (ρ:Nat→Nat):Ob→Ob| .cells cs=> .cells (V.renL ρ cs)|o=>o
namespace Sc
def toV:Sc→V| .bool b=> .bool b| .int k n=> .int k n| .str s=> .str s| .fn f=> .clo (.func f) [] []| .two a b=> .agg [.str a, .str b]
def val:Sc→Value| .bool b=> .bool b| .int k n=> .int k n| .str s=> .string ⟨s.toArray⟩| .fn f=> .func (.func f) #[] #[]| .two a b=> .agg #[.string ⟨a.toArray⟩, .string ⟨b.toArray⟩]
def kind:Sc→SK| .bool _=> .bool| .int k _=> .int k| .str _=> .str| .fn _=> .fn| .two _ _=> .two
def same:Sc→Sc→Bool
 | .bool a, .bool b=>a==b
 | .int _ a, .int _ b=>a==b
 | .str a, .str b=>a==b
 | .two a b, .two c d=>a==c&&b==d
 |_,_=>false
def getB:Option Sc→Bool|some (.bool b)=>b|_=>false
def getI:Option Sc→Int|some (.int _ n)=>n|_=>0
def getS:Option Sc→List UInt8|some (.str s)=>s|_=>[]
def getF:Option Sc→V|some (.fn f)=> .clo (.func f) [] []|_=> .raw .nilFunc
end Sc
def V.toSc:V→Option Sc| .bool b=>some (.bool b)| .int k n=>some (.int k n)| .str s=>some (.str s)| .clo (.func f) [] []=>some (.fn f)| .agg [.str a, .str b]=>some (.two a b)|_=>none
def jP (x:Sc):List (Sc×Sc)→Option Sc
 |[]=>none
 |(k,v)::r=>if x.same k then some v else jP x r
def rW (x v:Sc):List (Sc×Sc)→List (Sc×Sc)
 |[]=>[(x,v)]
 |(k,u)::r=>if x.same k then(x,v)::r else(k,u)::rW x v r
def Du (x:Sc) (es:List (Sc×Sc)):Bool:=(jP x es).isSome
def pN (d:SK) (x:Sc) (es:List (Sc×Sc)):V:=
 match d with
 | .bool=> .bool (Sc.getB (jP x es))
 | .int k=> .int k (Sc.getI (jP x es))
 | .str=> .str (Sc.getS (jP x es))
 | .fn=>Sc.getF (jP x es)
 | .two=>match jP x es with|some v=>v.toV|none=> .agg [.str [], .str []]
def Ik {R:Type} (x:Sc):List (Sc×Sc)→(Option Sc→Option R)→Option R
 |[],K=>K none
 |(k,v)::r,K=>if x.same k then K (some v)else Ik x r K
def Kq {R:Type} (vd:SK) (k:Sc) (es:List (Sc×Sc)) (ok:Bool) (K:V→Option R):Option R:=
 match vd with
 | .fn=>Ik k es fun o=>K (if ok then .tup [Sc.getF o, .bool o.isSome]else Sc.getF o)
 |vd=>K (if ok then .tup [pN vd k es, .bool (Du k es)]else pN vd k es)
inductive Dv where
 |ints (k:IntKind) (zs:List Int)
 |one (x:Value)
def Dv.vals:Dv→List Value
 | .ints k zs=>zs.map (Value.int k)
 | .one x=>[x]
abbrev Fun:=List V→List Ob→Option (V×List Ob)
structure Cfg where
 P:Program
 ty:TypeId→Option Ty
 fn:FuncId→Option Func
 hand:FuncId→Option ((FuncId→Fun)→Fun)
 /-- functions whose code stands where they are called -/
 inl:FuncId→Bool
 /-- functions that may append to their n-th argument -/
 wants:FuncId→Nat→Bool
 /-- functions whose lists may be appended to -/
 rtip:FuncId→Bool
 /-- functions that leave all objects as they are -/
 ro:FuncId→Bool
 /-- functions whose arguments lead to no objects -/
 pur:FuncId→Bool
 /-- what a function's results are,where their types do not say it -/
 rsh:FuncId→Option (List RSh):=fun _=>none
 /-- types whose first part is nil,or leads to its own variable -/
 bld:TypeId→Bool:=fun _=>false
 /-- functions behind which the objects' lists may no longer be appended to -/
 cutO:FuncId→Bool:=fun _=>false
 /-- members of lists that are nobody else's when they begin -/
 owns:TypeId→Bool:=fun _=>false
 /-- tables of numbers that never change,by their number -/
 glob:Nat→Option Dv:=fun _=>none
 /-- functions without loops whose code is read where they are called:what they make may be handed back -/
 inn:FuncId→Bool:=fun _=>false
 /-- types of lists whose right to append goes with an assignment -/
 mvt:TypeId→Bool:=fun _=>false
def CSh.soft:CSh→CSh| .lst e _=> .lst e false|s=>s
def OSh.soft:OSh→OSh| .cells sh=> .cells (sh.map CSh.soft)|s=>s
def Cfg.osh (c:Cfg) (f:FuncId) (l:List OSh):List OSh:=if c.cutO f then l.map OSh.soft else l
def Cfg.still (c:Cfg) (f:FuncId):Bool:=c.ro f||c.pur f
section
variable (c : Cfg)
def aE (t:TypeId):Nat:=match c.ty t with|some y=>y.size|none=>0
def isByte (t:TypeId):Bool:=match c.ty t with|some { d:= .int .u8,sh:=[.int .u8], .. }=>true|_=>false
def jQ (t:TypeId):Bool:=match c.ty t with|some { d:= .string, .. }=>true|_=>false
def elemOf (t:TypeId):Option TypeId:=match c.ty t with|some { d:= .slice e, .. }=>some e|_=>none
def pS (t:TypeId):Option (Nat×TypeId):=match c.ty t with|some { d:= .array n e, .. }=>some (n,e)|_=>none
def skD:TypeDesc→Option SK
 | .bool=>some .bool
 | .int k=>some (.int k)
 | .string=>some .str
 | .func _ _ _=>some .fn
 |_=>none
def Kr:SK→List V→Bool
 | .bool,[.bool b]=> !b
 | .int k,[.int k' n]=>k==k' &&n==0
 | .str,[.str s]=>s.isEmpty
 | .fn,[.raw .nilFunc]=>true
 |_,_=>false
def GX (t:TypeId):Option SK:=
 match c.ty t with
 |some y=>match skD y.d with|some k=>if !y.agg&&Kr k y.zero then some k else none|none=>none
 |none=>none
def Ks (t:TypeId):Bool:=
 match c.ty t with
 |some { d:= .struct fs,eq:=true, .. }=>(match fs.toList with
  | [f, g] => f.name != "_" && g.name != "_" && f.offset == 0 && g.offset == 1 && jQ c f.type && jQ c g.type && aE c f.type == 1 && aE c g.type == 1 &&
   (match c.ty f.type,c.ty g.type with|some y,some z=> !y.agg&& !z.agg|_,_=>false)
  |_=>false)
 |_=>false
def keyOf (t:TypeId):Option SK:=match GX c t with|some k=>some k|none=>if Ks c t then some .two else none
def mapOf (t:TypeId):Option (SK×SK):=
 match c.ty t with
 |some { d:= .map kt et, .. }=>match keyOf c kt,GX c et with|some .fn,_=>none|some k,some v=>some (k,v)|_,_=>none
 |_=>none
def MO:V→Value→Bool
 | .bool b, .bool b' =>b==b'
 | .int k n, .int k' n' =>k==k' &&n==n'
 | .str [], .string s=>s.size==0
 | .lst e true [], .slice none 0 0=>0<aE c e
 | .raw (.pointer none), .pointer none=>true
 | .raw (.map none), .map none=>true
 | .raw .nilFunc, .nilFunc=>true
 | .raw .nilIface, .nilIface=>true
 |_,_=>false
def fB:List V→List Value→Bool
 |[],[]=>true
 |v::vs,x::xs=>MO c v x&&fB vs xs
 |_,_=>false
def nZ (t:TypeId):Value→V
 | .bool b=> .bool b
 | .int k n=> .int k n
 | .string s=> .str s.data.toList
 | .slice none 0 0=>match elemOf c t with|some e=>if 0<aE c e then .lst e true []else .bot|none=> .bot
 | .pointer none=> .raw (.pointer none)
 | .map none=> .raw (.map none)
 | .nilFunc=> .raw .nilFunc
 | .nilIface=> .raw .nilIface
 | .agg l=>match c.ty t with|some y=>if fB c y.zero l.toList then .agg y.zero else .bot|none=> .bot
 |_=> .bot
def EB {α R:Type}:List α→Nat→α→(List α→Option R)→Option R
 |[],_,_,K=>K []
 |_::l,0,v,K=>K (v::l)
 |x::l,d+1,v,K=>EB l d v fun l' =>K (x::l')
def St.get (S:St) (t:Nat):V:=S.env.getD t .bot
def St.ob (S:St) (i:Nat):Ob:=S.objs.getD i .dead
section
variable {R : Type}
def St.putK (S:St) (d:Option Tmp) (v:V) (K:St→Option R):Option R:=
 match d with
 |none=>K S
 |some d=>match S with|⟨env,objs⟩=>EB env d v fun env=>K ⟨env,objs⟩
def St.setObK (S:St) (i:Nat) (o:Ob) (K:St→Option R):Option R:=
 match S with|⟨env,objs⟩=>EB objs i o fun objs=>K ⟨env,objs⟩
def EC:List Ob→Ob→(List Ob→Option R)→Option R
 |[],o,K=>K [o]
 |x::l,o,K=>EC l o fun l' =>K (x::l')
def St.newK (S:St) (o:Ob) (K:Nat→St→Option R):Option R:=
 match S with|⟨env,objs⟩=>EC objs o fun objs' =>K objs.length ⟨env,objs'⟩
end
def opd (S:St) (t:TypeId):Operand→V
 | .tmp s=>S.get s
 | .const v=>nZ c t v
 | .func f=> .clo (.func f) [] []
 | .global g=>match c.glob g with|some (.ints k zs)=> .cpt (zs.map (V.int k))|_=> .bot
def lY {R:Type} (S:St) (x:Operand) (K:St→Option R):Option R:=
 match x with
 | .tmp s=>match S.get s with
  | .lst e true xs=>S.putK (some s) (.lst e false xs) K
  | .own _ _=>S.putK (some s) .bot K
  | .agg cs=>if cs.any V.tip1 then S.putK (some s) (.agg (cs.map V.cut1)) K else K S
  | .tup cs=>if cs.any V.tip2 then S.putK (some s) (.tup (cs.map V.cut2)) K else K S
  |_=>K S
 |_=>K S
def _root_.Go.Op.owns (op:Op) (d:Nat):Bool:=
 match op with
 | .assign (.tmp t)=>t==d
 | .store _ _ (.tmp t)=>t==d
 | .box _ (.tmp t)=>t==d
 | .call { callee:= .builtin .append,args, .. }=>match args.toList with| .tmp t::_=>t==d|_=>false
 | .call { callee:= .value (.func f),args, .. }=>(args.toList.zipIdx).any fun p=>(match p.1 with| .tmp t=>t==d|_=>false)&&c.wants f p.2
 |_=>false
def _root_.Go.Op.ownsM (op:Op) (d:Nat):Bool:=match op with| .assign _=>false|op=>op.owns c d
def _root_.Go.Op.movesTo (op:Op) (d:Nat):Bool:=match op with| .assign (.tmp t)=>t==d|_=>false
def sU (ops:List Oper) (d:Option Tmp):Bool:=match d with|some d=>ops.any fun o=>o.op.ownsM c d||(c.mvt o.type&&o.op.movesTo d)|none=>false
def owned (ops:List Oper) (d:Option Tmp):Bool:=match d with|some d=>ops.any fun o=>o.op.owns c d|none=>false
variable {R : Type}
def chk (b:Bool) (x:Option R):Option R:=if b then x else none
abbrev K (R:Type):=V→St→Option R
def bits (op:BinOp) (k:IntKind) (x y:Int):Int:=
 let a:=BitVec.ofInt k.bits x
 let b:=BitVec.ofInt k.bits y
 match op with
 | .and=>k.wrap (a &&& b).toNat
 | .or=>k.wrap (a ||| b).toNat
 | .xor=>k.wrap (a ^^^ b).toNat
 |_=>k.wrap (a &&& ~~~b).toNat
def sEq (x y:List UInt8):Bool:=x==y
def sLt (x y:List UInt8):Bool:=Op.bytesLess x y
def BY (op:BinOp) (k:IntKind) (a b:Int) (K:V→Option R):Option R:=
 match op with
 | .add=>K (.int k (k.wrap (a+b)))
 | .sub=>K (.int k (k.wrap (a - b)))
 | .mul=>K (.int k (k.wrap (a*b)))
 | .quo=>chk (b != 0) (K (.int k (k.wrap (a.tdiv b))))
 | .rem=>chk (b != 0) (K (.int k (a.tmod b)))
 | .and=>K (.int k (bits .and k a b))
 | .or=>K (.int k (bits .or k a b))
 | .xor=>K (.int k (bits .xor k a b))
 | .andNot=>K (.int k (bits .andNot k a b))
 | .eql=>K (.bool (a==b))
 | .neq=>K (.bool (a != b))
 | .lss=>K (.bool (a<b))
 | .leq=>K (.bool (a≤b))
 | .gtr=>K (.bool (a>b))
 | .geq=>K (.bool (a≥b))
 |_=>none
def rB (op:BinOp) (k:IntKind) (a b:Int) (K:V→Option R):Option R:=
 match op with
 | .shl=>chk (0≤b) (K (.int k (k.wrap (a*2 ^ min b.toNat k.bits))))
 | .shr=>chk (0≤b) (K (.int k (a.fdiv (2 ^ min b.toNat k.bits))))
 |_=>none
def fK (x y:List UInt8):Bool:=decide (x.length+y.length≤9223372036854775807)
def BZ (op:BinOp) (x y:List UInt8) (K:V→Option R):Option R:=
 match op with
 | .add=>chk (fK x y) (K (.str (x++y)))
 | .eql=>K (.bool (sEq x y))
 | .neq=>K (.bool (!sEq x y))
 | .lss=>K (.bool (sLt x y))
 | .leq=>K (.bool (sLt x y||sEq x y))
 | .gtr=>K (.bool (!(sLt x y||sEq x y)))
 | .geq=>K (.bool (!sLt x y))
 |_=>none
def kD (t:TypeId):Bool:=match c.ty t with|some y=>y.agg|none=>false
def dZ (t:TypeId) (cs:List V):Option V:=
 if kD c t then some (.agg cs)else match cs with|[x]=>some x|_=>none
def partV (t:TypeId) (off:Nat) (cs:List V):Option V:=
 if off+aE c t≤cs.length then dZ c t ((cs.drop off).take (aE c t))else none
def Dw (eqT:TypeId→V→V→Option Bool) (xs ys:List V):List Field→Option Bool
 |[]=>some true
 |f::fs=>
  match partV c f.type f.offset xs,partV c f.type f.offset ys with
  |some x,some y=>match eqT f.type x y,Dw eqT xs ys fs with|some a,some b=>some (a&&b)|_,_=>none
  |_,_=>none
def eqT:Nat→TypeId→V→V→Option Bool
 |0,_,_,_=>none
 |d+1,t,x,y=>
  match c.ty t with
  |none=>none
  |some ty=>match ty.d,x,y with
   | .bool, .bool a, .bool b=>some (a==b)
   | .int _, .int k a, .int k' b=>if k==k' then some (a==b)else none
   | .string, .str a, .str b=>some (sEq a b)
   | .pointer _, .ref _ _, .raw (.pointer none)=>some false
   | .pointer _, .raw (.pointer none), .ref _ _=>some false
   | .pointer _, .raw (.pointer none), .raw (.pointer none)=>some true
   | .struct fs, .agg xs, .agg ys => if ty.eq && fs.toList.all (fun f => f.name != "_") then Dw c (eqT d) xs ys fs.toList else none
   |_,_,_=>none
def Jl (op:BinOp) (t:TypeId) (x y:V) (K:V→Option R):Option R:=
 match x,y with
 | .int k a, .int k' b=>
  match op with
  | .shl| .shr=>rB op k a b K
  |_=>if k==k' then BY op k a b K else none
 | .str a, .str b=>BZ op a b K
 |x,y=>
  match op with
  | .eql=>match eqT c 20 t x y with|some b=>K (.bool b)|none=>none
  | .neq=>match eqT c 20 t x y with|some b=>K (.bool (!b))|none=>none
  |_=>none
def isConst:Operand→Bool| .const _=>true|_=>false
def Il:TypeDesc→Bool| .interface _=>true|_=>false
def P7 (t:TypeId):Bool:=match c.ty t with|some y=>Il y.d|none=>false
def N5 (t:TypeId):Bool:=match c.ty t with|some { d:= .interface ms, .. }=>ms.isEmpty|_=>false
def Dx (t1:TypeId) (v1:V) (t2:TypeId) (v2:V) (K:Bool→Option R):Option R:=
 match c.ty t2,v2 with
 |some { d:= .int _,eq:=true, .. }, .int k n=>if t1==t2 then chk (CSh.fits (.int k) v1) (K (v1.getI==n))else K false
 |some { d:= .string,eq:=true, .. }, .str s=>if t1==t2 then chk (CSh.fits .str v1) (K (sEq v1.getS s))else K false
 |_,_=>none
def GY (op:BinOp) (t:TypeId) (lit:Bool) (x y:V) (K:V→Option R):Option R:=
 match x,y with
 | .ifc t1 v1, .ifc t2 v2=>if N5 c t then(match op with
   | .eql=>Dx c t1 v1 t2 v2 fun b=>K (.bool b)
   | .neq=>Dx c t1 v1 t2 v2 fun b=>K (.bool (!b))
   |_=>none)else none
 | .ifo b _ _, .raw .nilIface=>if lit&&P7 c t then(match op with
   | .eql=>K (.bool b)
   | .neq=>K (.bool (!b))
   |_=>none)else none
 |x,y=>Jl c op t x y K
def bytesOf (xs:List V):List UInt8:=xs.map fun v=>Uo v.getI.toNat
def ofBytes (s:List UInt8):List V:=s.map fun b=> .int .u8 b.toNat
def B0 (src dst:TypeId) (x:V) (K:V→Option R):Option R:=
 match c.ty src,c.ty dst with
 |some ys,some yd=>
  match ys.d,yd.d,x with
  |_, .int k, .int _ n=>K (.int k (k.wrap n))
  |_, .string, .int _ n=>K (.str (Utf8.encode n).data.toList)
  |_, .string, .str s=>K (.str s)
  |_, .slice e, .str s=>if isByte c e then K (.lst e true (ofBytes s))else none
  | .slice e1, .slice e2, .lst e' true xs=>if src==dst&&e1==e' &&e2==e' &&isByte c e' && !xs.isEmpty then K (.lst e' false xs)else none
  | .slice e, .string, .lst e' _ xs=>if isByte c e&&e==e' then K (.str (bytesOf xs))else none
  |_,_,_=>none
 |_,_=>none
def Im (src:TypeId) (x:V):Option V:=
 match x,elemOf c src with
 | .lst e true xs,some e' =>if e==e' &&isByte c e&& !xs.isEmpty then some (.lst e true xs)else none
 |_,_=>none
def over:(off:Nat)→(new old:List V)→List V
 |0,n,old=>n++old.drop n.length
 |o+1,n,x::old=>x::over o n old
 |_+1,_,[]=>[]
def zH (place:Nat→Option (Nat×Nat)):List (Nat×V)→List V→Option (List V)
 |[],cells=>some cells
 |(i,v)::r,cells=>
  match place i with
  |none=>none
  |some (off,size)=>if v.cells.length==size&&off+size≤cells.length&&v.cells.all V.solid then zH place r (over off v.cells cells)else none
def fieldsOf (t:TypeId):Option (Array Field):=match c.ty t with|some { d:= .struct fs, .. }=>some fs|_=>none
def Dy (t:TypeId) (parts:List (Nat×V)):Option V:=
 match c.ty t with
 |some { d:= .struct fs,zero, .. }=>
  (zH (fun i=>(fs[i]?).map fun f=>(f.offset,aE c f.type)) parts zero).map .agg
 |some { d:= .array _ e,zero, .. }=>(zH (fun i=>some (i*aE c e,aE c e)) parts zero).map .agg
 |_=>none
def iI (e:TypeId):Nat→List V→Option (List V)
 |0,[]=>some []
 |0,_=>none
 |n+1,cs=>match partV c e 0 cs,iI e n (cs.drop (aE c e))with|some v,some r=>some (v::r)|_,_=>none
def kZ (e:TypeId) (n:Nat) (parts:List (Nat×V)):Option (List V):=
 match c.ty e with
 |some y=>zH (fun i=>some (i*aE c e,aE c e)) parts ((TZ n (y.zero.map V.cut1)).flatten)
 |none=>none
def zeroV (t:TypeId):Option V:=match c.ty t with|some y=>dZ c t y.zero|none=>none
def vT (t:TypeId) (v:V):V:=match c.ty t with|some y=>RSh.eta ⟨y.agg,y.sh⟩ v|none=> .bot
def cI (t:TypeId) (v:V):Bool:=match c.ty t with|some y=>RSh.fits ⟨y.agg,y.sh⟩ v|none=>false
def rC {R:Type} (t:TypeId) (ok:Bool) (x:V) (K:V→Option R):Option R:=
 match x,c.ty t with
 | .ifc u v,some y=>
  if Il y.d then none
  else if ok then(match zeroV c t with
   |some z=>if u==t then chk (cI c t v) (K (.tup [(vT c t v).cut2, .bool true]))else K (.tup [z.cut2, .bool false])
   |none=>none)
  else if u==t then chk (cI c t v) (K (vT c t v).cut)else none
 |_,_=>none
def jR (S:St) (t:TypeId):V→Option V
 | .ref i off=>match S.ob i with
  | .cells cs=>partV c t off cs
  |_=>none
 | .cpt cs=>partV c t 0 cs
 |_=>none
def N6 (S:St) (t:TypeId) (p:V):Option (IntKind×List V×Nat):=
 match c.ty t with
 |some y=>match y.d,y.agg,p with
  | .int k,false, .ref i off=>match S.ob i with
   | .cells cs=>if y.size==1&&cs.all (fun v=>(CSh.int k).fits v)then some (k,cs,off)else none
   |_=>none
  |_,_,_=>none
 |none=>none
def Kt (S:St) (t:TypeId) (p:V) (K:V→Option R):Option R:=
 match N6 c S t p with
 |some q=>chk (decide (q.2.2<q.2.1.length)) (K (.int q.1 (q.2.1.getD q.2.2 .bot).getI))
 |none=>match jR c S t p with
  |some v=>K v
  |none=>none
def Dz (S:St) (t:TypeId) (a v:V) (K:St→Option R):Option R:=
 match a with
 | .ref i off=>match S.ob i with
  | .cells cs=>if(c.ty t).isSome&&off+aE c t≤cs.length&&v.cells.length==aE c t&&v.cells.all V.solid then S.setObK i (.cells (over off v.cells cs)) K else none
  |_=>none
 |_=>none
def cutAt:(off n:Nat)→List V→List V
 |0,0,cs=>cs
 |0,n+1,x::cs=>x.cut1::cutAt 0 n cs
 |o+1,n,x::cs=>x::cutAt o n cs
 |_,_,[]=>[]
def tY (S:St) (t:TypeId) (a:V) (K:St→Option R):Option R:=
 match a with
 | .ref i off=>match S.ob i with
  | .cells cs=>S.setObK i (.cells (cutAt off (aE c t) cs)) K
  |_=>K S
 |_=>K S
def tZ (t:TypeId):V→Bool
 | .str _=>jQ c t
 | .lst e _ _=>elemOf c t==some e
 |_=>false
def BI:Option V→Bool
 |none=>true
 |some (.int ..)=>true
 |_=>false
def fE (x:V) (lo hi mx:Option V) (K:V→Option R):Option R:=
 let l:Int:=match lo with|some v=>v.getI|none=>0
 match x,mx with
 | .str s,none=>
  match hi with
  |none=>chk (decide (0≤l)) (chk (decide (l≤s.length)) (K (.str (s.drop l.toNat))))
  |some hv=>chk (decide (0≤hv.getI)) (chk (decide (hv.getI≤s.length)) (chk (decide (0≤l)) (chk (decide (l≤hv.getI)) (K (.str ((s.take hv.getI.toNat).drop l.toNat))))))
 | .lst e _ xs,none=>
  match hi with
  |none=>chk (decide (0≤l)) (chk (decide (l≤xs.length)) (K (.lst e false (xs.drop l.toNat))))
  |some hv=>chk (decide (0≤hv.getI)) (chk (decide (hv.getI≤xs.length)) (chk (decide (0≤l)) (chk (decide (l≤hv.getI)) (K (.lst e false ((xs.take hv.getI.toNat).drop l.toNat))))))
 | .lst e _ _,some mv=>
  match hi with
  |some hv=>if l==0&&hv.getI==0&&mv.getI==0 then K (.lst e true [])else none
  |none=>none
 |_,_=>none
def lenV (t:TypeId):V→Option V
 | .str s=>if jQ c t then some (.int .i64 s.length)else none
 | .lst _ _ xs=>if(elemOf c t).isSome then some (.int .i64 xs.length)else none
 |_=>none
def Jm:V→V→Option V
 | .int k x, .int _ y=>some (.int k (if y>x then y else x))
 |_,_=>none
def Jn:V→V→Option V
 | .int k x, .int _ y=>some (.int k (if y<x then y else x))
 |_,_=>none
def sD (f:V→V→Option V):V→List V→Option V
 |x,[]=>some x
 |x,y::r=>(f x y).bind fun z=>sD f z r
def cE (xs ys:List V) (n:Nat):Bool:=decide ((xs.length+ys.length)*n≤70368744177664)
def oC (xs:List V) (t:List UInt8) (n:Nat):Bool:=decide ((xs.length+t.length)*n≤70368744177664)
def rD (st xt:TypeId) (s x:V) (K:V→Option R):Option R:=
 match s,x with
 | .lst e true xs, .lst e' _ ys=>
  match c.ty e with
  |some y=>if e==e' &&elemOf c st==some e&&elemOf c xt==some e&&0<y.size then chk (cE xs ys (y.bytes+1)) (K (.lst e true (xs++ys)))else none
  |none=>none
 | .own e xs, .lst e' _ ys=>
  match c.ty e with
  |some y=>if e==e' &&elemOf c st==some e&&elemOf c xt==some e&&0<y.size then chk (cE xs ys (y.bytes+1)) (K (.own e (xs++ys)))else none
  |none=>none
 | .own e xs, .str t=>
  match c.ty e with
  |some y=>if isByte c e&&elemOf c st==some e&&jQ c xt then chk (oC xs t (y.bytes+1)) (K (.own e (xs++ofBytes t)))else none
  |none=>none
 | .lst e true xs, .str t=>
  match c.ty e with
  |some y=>if isByte c e&&elemOf c st==some e&&jQ c xt then chk (oC xs t (y.bytes+1)) (K (.lst e true (xs++ofBytes t)))else none
  |none=>none
 |_,_=>none
def gG (objs:List Ob):Nat→List Nat→List Nat→List Nat
 |0,_,acc=>acc
 |_+1,[],acc=>acc
 |n+1,i::r,acc=>if acc.contains i then gG objs n r acc else gG objs n ((objs.getD i .dead).refs++r) (acc++[i])
def dM:List Nat→List Ob→List Ob→(List Ob→Option R)→Option R
 |j::js,o::os,objs,K=>EB objs j o fun objs=>dM js os objs K
 |_,_,objs,K=>K objs
def fZ (f:FuncId) (fn:Func):Option (List RSh):=
 match c.rsh f with
 |some r=>some r
 |none=>fn.resultTypes.toList.mapM fun t=>(c.ty t).map fun y=>⟨y.agg,if c.rtip f then y.sh.map CSh.tipped else y.sh⟩
def nodupB:List Nat→Bool
 |[]=>true
 |x::r=> !r.contains x&&nodupB r
def lA:List Ob→List Nat
 |[]=>[]
 |o::r=>o.refs++lA r
def lZ (call:FuncId→Fun) (rsh:List RSh) (f:FuncId) (args:List V) (S:St) (K:K R):Option R:=
 let js:=gG S.objs 100 (V.refsL args) []
 if js.all (· <S.objs.length)&&nodupB js&&(V.refsL args).all js.contains&&(lA (js.map S.ob)).all js.contains&&(!c.pur f||js.isEmpty)then
  let to:=fun i=>js.idxOf i
  let back:=fun i=>js.getD i 0
  let sub:=js.map fun j=>(S.ob j).ren to
  (call f (V.renL to args) sub).bind fun p=>
   match S with
   |⟨env,objs⟩=>if c.still f then K ((vS rsh p.1).ren back) ⟨env,objs⟩
    else dM js ((Dt (c.osh f (sub.map OSh.of)) p.2).map (Ob.ren back)) objs fun objs=>K ((vS rsh p.1).ren back) ⟨env,objs⟩
 else none
def eO (S:St):List Operand→List TypeId→List V
 |[],_=>[]
 |x::r,ts=>opd c S (ts.headD 0) x::eO S r ts.tail
def ED (f:FuncId):Nat→St→List Operand→List TypeId→(List V→St→Option R)→Option R
 |_,S,[],_,K=>K [] S
 |i,S,x::r,ts,K=>ED f (i+1) S r ts.tail fun vs S' =>
  if c.wants f i then lY S' x fun S'' =>K (opd c S' (ts.headD 0) x::vs) S'' else K ((opd c S' (ts.headD 0) x).cut::vs) S'
abbrev aN (R:Type):=FuncId→List V→List Ob→(V→List Ob→Option R)→Option R
def enter (call:FuncId→Fun) (icall:aN R) (f:FuncId) (args:List V) (S:St) (K:K R):Option R:=
 if c.inl f then(match S with|⟨env,objs⟩=>icall f args objs fun v objs=>K v ⟨env,objs⟩)
 else match c.fn f with
  |none=>none
  |some fn=>match fZ c f fn with
   |none=>none
   |some rsh=>lZ c call rsh f args S K
def gI (call:FuncId→Fun) (icall:aN R) (cl:Call) (S:St) (K:K R):Option R:=
 let args:=eO c S cl.args.toList cl.argTypes.toList
 match cl.callee with
 | .builtin .len=>match cl.args.toList,cl.argTypes.toList with
  |[x],[t]=>(match lenV c t (opd c S t x)with|some v=>K v S|none=>none)
  |_,_=>none
 | .builtin .append=>match cl.args.toList,cl.argTypes.toList with
  |[so,xo],[st,xt]=>lY S so fun S' =>rD c st xt (opd c S st so) (opd c S xt xo) fun v=>K v S'
  |_,_=>none
 | .builtin .max=>match args with|x::r=>(match sD Jm x r with|some v=>K v.cut S|none=>none)|_=>none
 | .builtin .min=>match args with|x::r=>(match sD Jn x r with|some v=>K v.cut S|none=>none)|_=>none
 | .value fo=>match opd c S 0 fo with
  | .clo (.func f) first caps=>
   if first.isEmpty then ED c f 0 S cl.args.toList cl.argTypes.toList fun vs S' =>enter c call icall f (vs++V.cutL caps) S' K
   else enter c call icall f (V.cutL (first++args++caps)) S K
  |_=>none
 |_=>none
def uA (t:TypeId) (n:Nat) (z:List V):List V:=
 if c.bld t then(match z with| .raw (.pointer none)::r=> .opt n 0::r|z=>z)else z.map V.nif
def GZ:V→V
 | .lst e true []=>if c.owns e then .own e []else .lst e true []
 |v=>v
def opK (call:FuncId→Fun) (icall:aN R) (ops:List Oper) (o:Oper) (S:St) (K:K R):Option R:=
 match o.op with
 | .move x=>if sU c ops o.dst then lY S x (K (opd c S o.type x))else K (opd c S o.type x).cut S
 | .assign x=>lY S x (K (if isConst x then GZ c (opd c S o.type x)else opd c S o.type x))
 | .pick cx a b=>match opd c S 0 cx with
  | .bool true=>K (opd c S o.type a).cut S
  | .bool false=>K (opd c S o.type b).cut S
  |_=>none
 | .binOp op t x y ty=>GY c op t (isConst y) (opd c S t x) (opd c S ty y) fun v=>K v S
 | .makeInterface t x=>match c.ty t with|some y=>if Il y.d then none else K (.ifc t (opd c S t x).cut) S|none=>none
 | .typeAssert x _ t ok=>rC c t ok (opd c S 0 x) fun v=>K v S
 | .unOp .not _ x=>match opd c S o.type x with| .bool b=>K (.bool !b) S|_=>none
 | .unOp .neg _ x=>match opd c S o.type x with| .int k n=>K (.int k (k.wrap (0 - n))) S|_=>none
 | .unOp .xor _ x=>match opd c S o.type x with| .int k n=>K (.int k (bits .xor k (if k.signed then -1 else k.max) n)) S|_=>none
 | .convert src dst x=>if src==dst&&sU c ops o.dst then(match Im c src (opd c S src x)with|some v=>lY S x (K v)|none=>none)
  else B0 c src dst (opd c S src x) fun v=>K v S
 | .build t parts=>
  match Dy c t (parts.toList.map fun p=>(p.1,opd c S (match c.ty t with|some { d:= .struct fs, .. }=>((fs[p.1]?).map (·.type)).getD 0|some { d:= .array _ e, .. }=>e|_=>0) p.2 |>.cut))with
  |some v=>K v S
  |none=>none
 | .buildSlice t n parts=>
  match elemOf c t with
  |none=>none
  |some e=>match(kZ c e n (parts.toList.map fun p=>(p.1,(opd c S e p.2).cut))).bind (iI c e n)with
   |none=>none
   |some xs=>if xs.all (cI c e)&&(V.refsL xs).isEmpty&&n*aE c e≤16777216&&0<aE c e then K (.lst e true xs) S else none
 | .makeSlice t l m=>
  match elemOf c t,opd c S 0 l,opd c S 0 m with
  |some e, .int _ n, .int _ n' =>match c.ty e with
   |some y=>match dZ c e (y.zero.map V.cut1)with
    |some z=>if 0<y.size&&cI c e z&&(V.refs z).isEmpty then chk (n==n') (chk (decide (0≤n)) (chk (decide (n* ((y.bytes+1:Nat):Int)≤70368744177664)) (K (.own e (TZ n.toNat z)) S)))else none
    |none=>none
   |none=>none
  |_,_,_=>none
 | .alloc t=>match c.ty t with
  |some y=>S.newK (.cells (uA c t S.objs.length y.zero)) fun n S=>K (.ref n 0) S
  |none=>none
 | .box t x=>
  let v:=opd c S t x
  if v.cells.length==aE c t&&v.cells.all V.solid then lY S x fun S=>S.newK (.cells (v.cells.map V.nif)) fun n S=>K (.ref n 0) S else none
 | .load t a=>
  let p:=opd c S 0 a
  Kt c S t p fun v=>if owned c ops o.dst&&p.isRef then tY c S t p (K v)else K v.cut S
 | .store t a x=>
  let v:=opd c S t x
  let p:=opd c S 0 a
  lY S x fun S=>Dz c S t p v (K .bot)
 | .nilCheck x=>match opd c S 0 x with
  | .ref i f=>K (.ref i f) S
  | .cpt cs=>K (.cpt cs) S
  | .clo f a b=>match f with| .func _=>K (.clo f a b) S|_=>none
  |_=>none
 | .fieldAddr t x f=>
  match fieldsOf c t with
  |none=>none
  |some fs=>match fs[f]? with
   |none=>none
   |some fd=>if aE c fd.type==0 then none else
    match opd c S 0 x with
    | .ref i off=>K (.ref i (off+fd.offset)) S
    | .cpt cs=>K (.cpt (cs.drop fd.offset)) S
    |_=>none
 | .field t x f=>
  match fieldsOf c t with
  |none=>none
  |some fs=>match fs[f]?,opd c S t x with
   |some fd, .agg cs=>match partV c fd.type fd.offset cs with
    |some v=>K v.cut S
    |none=>none
   |_,_=>none
 | .indexAddr t x i=>
  match opd c S t x,opd c S 0 i with
  | .lst e _ xs, .int _ n=>
   match elemOf c t with
   |some e' =>if e==e' &&0<aE c e then chk (decide (0≤n)) (chk (decide (n<xs.length)) (K (.cpt (vT c e (xs.getD n.toNat .bot)).cells) S))else none
   |none=>none
  | .ref o off, .int _ n=>
   match pS c t with
   |some (m,e)=>if 0<aE c e then chk (decide (0≤n∧n<(m:Int))) (K (.ref o (off+n.toNat*aE c e)) S)else none
   |none=>none
  | .cpt cs, .int _ n=>
   match pS c t with
   |some (m,e)=>if(aE c e==1&&cs.length==m)&&cs.all (fun v=>cI c e v)then chk (decide (0≤n)) (chk (decide (n<cs.length)) (K (.cpt [vT c e (cs.getD n.toNat .bot)]) S))else none
   |none=>none
  |_,_=>none
 | .index t x i=>
  match opd c S 0 x,opd c S 0 i with
  | .str s, .int _ n=>if jQ c t then chk (decide (0≤n)) (chk (decide (n<s.length)) (K (.int .u8 (s.getD n.toNat 0).toNat) S))else none
  | .agg cs, .int _ n=>
   match pS c t with
   |some (m,e)=>chk (decide (0≤n∧n<(m:Int))) (match partV c e (n.toNat*aE c e) cs with|some v=>K v.cut S|none=>none)
   |none=>none
  |_,_=>none
 | .slice t x lo hi mx=>if tZ c t (opd c S t x)&&BI (lo.map (opd c S 0))&&BI (hi.map (opd c S 0))&&BI (mx.map (opd c S 0))then fE (opd c S t x) (lo.map (opd c S 0)) (hi.map (opd c S 0)) (mx.map (opd c S 0)) fun v=>K v S else none
 | .extract t n=>match opd c S 0 t with
  | .tup cs=>if n<cs.length then K (cs.getD n .bot).cut S else none
  |_=>none
 | .makeFunc fn first caps=>K (.clo fn (first.toList.map fun x=>(opd c S 0 x).cut) (caps.toList.map fun x=>(opd c S 0 x).cut)) S
 | .call cl=>gI c call icall cl S K
 | .makeMap t n=>match mapOf c t,n with
  |some (kd,vd),none=>S.newK (.mp kd vd []) fun n S=>K (.mref n) S
  |_,_=>none
 | .lookup t x i ok=>match opd c S t x,mapOf c t,(opd c S 0 i).toSc with
  | .mref j,some (kd,vd),some k=>match S.ob j with
   | .mp kd' vd' es=>if kd==kd' &&vd==vd' &&k.kind==kd then Kq vd k es ok fun v=>K v S else none
   |_=>none
  |_,_,_=>none
 | .mapUpdate t x i v| .insert t x i v=>match opd c S t x,mapOf c t,(opd c S 0 i).toSc,(opd c S 0 v).toSc with
  | .mref j,some (kd,vd),some k,some u=>match S.ob j with
   | .mp kd' vd' es=>if kd==kd' &&vd==vd' &&k.kind==kd&&u.kind==vd then S.setObK j (.mp kd vd (rW k u es)) fun S=>K .bot S else none
   |_=>none
  |_,_,_,_=>none
 | .range t x=>match opd c S t x with
  | .str s=>if jQ c t then S.newK (.sit s 0) fun n S=>K (.ref n 0) S else none
  |_=>none
 | .next it str=>match opd c S 0 it with
  | .ref i off=>if str&&off==0 then(match S.ob i with
   | .sit s pos=>if pos.toNat<s.length
    then S.setObK i (.sit s ((pos.toNat+(Utf8.decode ⟨s.toArray⟩ pos.toNat).2:Nat):Int)) fun S=>K (.tup [.bool true, .int .i64 pos.toNat, .int .i32 (Utf8.decode ⟨s.toArray⟩ pos.toNat).1]) S
    else K (.tup [.bool false]) S
   |_=>none)else none
  |_=>none
 |_=>none
def iJ:V:= .raw (.tuple ⟨[]⟩)
def dR (call:FuncId→Fun) (icall:aN R) (ops:List Oper):List Oper→St→(St→Option R)→Option R
 |[],S,K=>K S
 |o::r,S,K=>
  match o.guard with
  |none=>opK c call icall ops o S fun v S' =>S'.putK o.dst v fun S' =>dR call icall ops r S' K
  |some (j,want)=>
   match(ops[j]?).bind (·.dst)with
   |none=>none
   |some t=>match S.get t with
    | .bool b=>if b=want then S.putK (some t) (.bool want) fun S=>opK c call icall ops o S fun v S' =>S'.putK o.dst v fun S' =>dR call icall ops r S' K
     else S.putK (some t) (.bool !want) fun S=>S.putK o.dst iJ fun S=>dR call icall ops r S K
    | .raw (.tuple ⟨[]⟩)=>S.putK o.dst iJ fun S=>dR call icall ops r S K
    |_=>none
end
end Go.Ev
end
section
namespace Go.Ev
inductive It where
 |code (x:Code)
 |inBlock (id:Nat)
 |inLoop (x:Code)
 |inScope (x:Code)
 deriving Inhabited
structure Lv where
 n:List Nat
 ex:List (Nat×List Nat)
 r:List Nat
def join (a b:List Nat):List Nat:=a.foldl (fun b x=>if b.contains x then b else x::b) b
def bP (l:List Operand):List Nat:=l.filterMap fun| .tmp t=>some t|_=>none
def bY (o:Op):List Nat:=bP o.operands.toList
def OV (ops:List Oper) (o:Oper) (live:List Nat):List Nat:=
 let l:=match o.dst with|some d=>live.filter (· != d)|none=>live
 let g:=match o.guard with|some (j,_)=>((ops[j]?).bind (·.dst)).toList|none=>[]
 join (g++bY o.op) l
def MP (ops l:List Oper) (live:List Nat):List Nat:=l.foldr (OV ops) live
def Lv.at (lv:Lv) (id:Nat):List Nat:=match lv.ex.find? fun p=>p.1==id with|some p=>p.2|none=>[]
def pT:Code→Lv→List Nat
 | .region _ ops _,lv=>MP ops.toList ops.toList lv.n
 | .seq a b,lv=>pT a { lv with n:=pT b lv }
 | .cond x a b,lv=>join (bP [x]) (join (pT a lv) (pT b lv))
 | .block id a,lv=>pT a { lv with ex:=(id,lv.n)::lv.ex }
 | .scope a,lv=>pT a lv
 | .loop a,lv=>
  let x0:=pT a { lv with n:=[] }
  let x1:=join (pT a { lv with n:=x0 }) x0
  join (pT a { lv with n:=x1 }) x1
 | .exit id,lv=>lv.at id
 | .ret,lv=>lv.r
 |_,lv=>lv.n
def uB (r:List Nat):List It→Lv
 |[]=>⟨r,[],r⟩
 | .code x::k=>let lv:=uB r k;{ lv with n:=pT x lv }
 | .inBlock id::k=>let lv:=uB r k;{ lv with ex:=(id,lv.n)::lv.ex }
 | .inLoop x::k=>let lv:=uB r k;{ lv with n:=pT (.loop x) lv }
 | .inScope _::k=>uB r k
def iW (id:Nat):List It→Option (List It)
 | .inBlock i::k=>if i==id then some k else iW id k
 |_::k=>iW id k
 |[]=>none
def mB:Code→List It→List (List It)
 | .seq a b,k=>mB a (.code b::k)++mB b k
 | .cond _ a b,k=>mB a k++mB b k
 | .block id a,k=>mB a (.inBlock id::k)
 | .scope a,k=>mB a (.inScope a::k)
 | .loop a,k=>(.code a:: .inLoop a::k)::mB a (.inLoop a::k)
 |_,_=>[]
def codeOf (fn:Func):Code:=match fn.body with|some c=>c|none=> .skip
def aJ (fn:Func) (j:Nat):List It:=(mB (codeOf fn) []).getD j []
section
variable (c : Cfg)
def rE:Op→Nat
 | .move _| .assign _| .pick .. | .binOp .. | .unOp .. | .convert .. | .build .. | .buildSlice .. | .makeSlice .. | .nilCheck _| .fieldAddr .. | .field ..
 | .indexAddr .. | .index .. | .slice .. | .extract .. | .makeFunc .. | .makeInterface .. | .typeAssert .. =>0
 | .load .. | .lookup .. =>1
 | .call { callee:= .builtin .len, .. } | .call { callee:= .builtin .append, .. } | .call { callee:= .builtin .max, .. } | .call { callee:= .builtin .min, .. }=>0
 | .call { callee:= .value (.func f),args, .. }=>2
 |_=>2
def rX (ops:List Oper) (o:Oper):Bool:=
 match o.op with
 | .store .. | .next .. | .mapUpdate .. | .insert .. =>false
 | .load .. => !owned c ops o.dst
 | .call { callee:= .value (.func f), .. }=>c.still f
 | .call { callee:= .value _, .. }=>false
 |_=>true
def kE:Code→Bool
 | .region _ ops _=>ops.toList.all fun o=>rX c ops.toList o
 | .seq a b| .cond _ a b=>kE a&&kE b
 | .block _ a| .loop a| .scope a=>kE a
 |_=>true
def sV:It→Bool
 | .code x| .inLoop x=>kE c x
 | .inBlock _| .inScope _=>true
def eW (ops:List Oper) (o:Oper):List Nat:=
 match o.op with
 | .move x=>if sU c ops o.dst then bP [x]else[]
 | .convert s d x=>if s==d&&sU c ops o.dst then bP [x]else[]
 | .assign x=>bP [x]
 | .box _ x=>bP [x]
 | .store _ _ x=>bP [x]
 | .call { callee:= .builtin .append,args, .. }=>bP (args.toList.take 1)
 | .call { callee:= .value _,args, .. }=>bP args.toList
 |_=>[]
def aO (ops:List Oper) (o:Oper):List Nat:=o.dst.toList++eW c ops o
def bN (ops:List Oper) (o:Oper):List Nat:=
 (match o.guard with|some (j,_)=>((ops[j]?).bind (·.dst)).toList|none=>[])++bY o.op
def aQ (ops:List Oper) (o:Oper):Nat:=
 match o.op with
 | .load .. =>if owned c ops o.dst then 2 else 1
 | .call { callee:= .value (.func f), .. }=>if c.pur f then 0 else if c.still f then 1 else 2
 |op=>rE op
def vU (a b:List Nat):Bool:=a.all fun x=> !b.contains x
def yU (o:Oper):Bool:=match o.op with| .load .. =>true|_=>false
def eP (ops:List Oper) (x y:Oper):Bool:=
 vU (aO c ops x) (aO c ops y++bN ops y)&&vU (aO c ops y) (bN ops x)
 &&(aQ c ops x+aQ c ops y≤2||(yU x&&yU y&&(aQ c ops x==1||aQ c ops y==1)))
def ahead:List Oper→List Nat→List Nat
 |[],acc=>acc
 |o::r,acc=>ahead r (acc++[o.after.toList.foldl (fun s e=>if Region.binds .any e then s ||| (1 <<< e.on) ||| acc.getD e.on 0 else s) 0])
def lB (ops:List Oper) (b:List Nat) (j:Nat) (y:Oper):(i:Nat)→List Oper→Bool
 |_,[]=>true
 |i,x::r=>(if i<j then(b.getD j 0).testBit i||eP c ops x y else true)&&lB ops b j y (i+1) r
def eD (ops:List Oper):Bool:=
 let b:=ahead ops []
 let rec go:Nat→List Oper→Bool
  |_,[]=>true
  |j,y::r=>y.after.toList.all (fun e=> !Region.binds .any e||e.on<j)&&lB c ops b j y 0 ops&&go (j+1) r
 go 0 ops
def oD (n:Nat) (ops:List Oper):Bool:=eD.go c ops (ahead ops []) 0 (ops.take n)
def nI (o:Oper):Bool:=match o.op with| .load _ (.tmp _)=>true| .store _ (.tmp _) _=>o.dst.isNone|_=>false
def fF (o:Oper):Nat:=match o.op with| .load _ (.tmp a)=>a| .store _ (.tmp a) _=>a|_=>0
def jL (o:Oper):TypeId:=match o.op with| .load t _=>t| .store t _ _=>t|_=>0
def vV (ops:List Oper) (x y:Oper):Bool:=
 nI x&&nI y&&x.guard.isNone&&y.guard.isNone&&vU (aO c ops x) (aO c ops y++bN ops y)&&vU (aO c ops y) (bN ops x)
def nJ (ops:List Oper) (b:List Nat) (j:Nat) (y:Oper):(i:Nat)→List Oper→Bool
 |_,[]=>true
 |i,x::r=>(if i<j then(b.getD j 0).testBit i||eP c ops x y||vV c ops x y else true)&&nJ ops b j y (i+1) r
def iY (ops:List Oper):Bool:=
 let b:=ahead ops []
 let rec go:Nat→List Oper→Bool
  |_,[]=>true
  |j,y::r=>y.after.toList.all (fun e=> !Region.binds .any e||e.on<j)&&nJ c ops b j y 0 ops&&go (j+1) r
 go 0 ops
def bT (ops:List Oper):List Oper→Bool
 |[]=>true
 |o::r=>(!nI o||(o::r).all fun z=> !(aO c ops z).contains (fF o))&&bT ops r
def placeOf (o:Oper) (S:St):Option (Nat×Nat×Nat):=match S.get (fF o)with| .ref i off=>some (i,off,aE c (jL o))|_=>none
def apart (p q:Option (Nat×Nat×Nat)):Bool:=match p,q with|some (i,a,n),some (j,b,m)=> !(i==j)||decide (a+n≤b)||decide (b+m≤a)|_,_=>false
def jS (ops:List Oper) (b:List Nat) (S:St) (j:Nat) (y:Oper):(i:Nat)→List Oper→Bool
 |_,[]=>true
 |i,x::r=>(if i<j then(b.getD j 0).testBit i||eP c ops x y||apart (placeOf c x S) (placeOf c y S)else true)&&jS ops b S j y (i+1) r
def iZ (ops:List Oper) (S:St):Bool:=
 let b:=ahead ops []
 let rec go:Nat→List Oper→Bool
  |_,[]=>true
  |j,y::r=>jS c ops b S j y 0 ops&&go (j+1) r
 go 0 ops
def jA (o:Oper):Option (FuncId×List Operand×List TypeId):=
 match o.guard with
 |none=>(match o.op with| .call { callee:= .value (.func f),args,argTypes }=>some (f,args.toList,argTypes.toList)|_=>none)
 |some _=>none
def iK (ops:List Oper) (o:Oper):Bool:=aQ c ops o != 2||yU o
def uC (ops:List Oper) (x y:Oper):Bool:=
 match jA y with
 |some (f,args,_)=>nI x&&yU x&&x.guard.isNone&& !iK c ops y&&(Vr args.length).all (fun i=> !c.wants f i)&&vU (aO c ops x) (aO c ops y++bN ops y)&&vU (aO c ops y) (bN ops x)
   &&(bP args).all (fun t=> !(y.dst==some t))
 |none=>false
def nK (ops:List Oper) (b:List Nat) (j:Nat) (y:Oper):(i:Nat)→List Oper→Bool
 |_,[]=>true
 |i,x::r=>(if i<j then(b.getD j 0).testBit i||eP c ops x y||uC c ops x y else true)&&nK ops b j y (i+1) r
def fL (n:Nat) (ops:List Oper):Bool:=
 let b:=ahead ops []
 let rec go:Nat→List Oper→Bool
  |_,[]=>true
  |j,y::r=>y.after.toList.all (fun e=> !Region.binds .any e||e.on<j)&&nK c ops b j y 0 ops&&go (j+1) r
 go 0 (ops.take n)
def mC (ops:List Oper):List Oper→Bool
 |[]=>true
 |o::r=>if iK c ops o then mC ops r else r.all fun z=>iK c ops z
def jT (ops:List Oper):List Oper→Bool
 |[]=>true
 |o::r=>(match jA o with|some (_,args,_)=>r.all (fun z=>vU (bP args) (aO c ops z))|none=>true)&&jT ops r
def nL (S:St) (args:List Operand) (ts:List TypeId):List V:=(eO c S args ts).map V.cut
def Ku (S0 S:St) (x y:Oper):Bool:=
 match jA y,placeOf c x S with
 |some (_,args,ts),some (i,_,_)=>(V.refsL (nL c S args ts)).all fun r=>r != i&&((S0.objs.getD r .dead).refs).isEmpty
 |_,_=>false
def pU (ops:List Oper) (b:List Nat) (S0 S:St) (j:Nat) (y:Oper):(i:Nat)→List Oper→Bool
 |_,[]=>true
 |i,x::r=>(if i<j then(b.getD j 0).testBit i||eP c ops x y||Ku c S0 S x y else true)&&pU ops b S0 S j y (i+1) r
def jM (ops:List Oper) (n:Nat) (S0 S:St):Bool:=
 let b:=ahead ops []
 let rec go:Nat→List Oper→Bool
  |_,[]=>true
  |j,y::r=>pU c ops b S0 S j y 0 ops&&go (j+1) r
 go 0 (ops.take n)
structure Tl where
 s:Nat
 z:Nat
 n:Nat
 x:Nat
 r:Nat
 v:Nat
 q:Nat
 p1:Nat
 p2:Nat
 f:Nat
 st:TypeId
 xt:TypeId
 it:TypeId
 e:TypeId
 T:TypeId
 t2:TypeId
def bare (o:Oper):Bool:=o.guard.isNone
def G4 (l:List Oper):Option Tl:=
 match l with
 |[o0,o1,o2,o3,o4,o5]=>
  match o2.op,o5.op with
  | .store e (.tmp x1) (.tmp v), .store t2 (.tmp p2') (.tmp r2)=>
   match o0.op,o1.op,o3.op,o4.op with
   | .call { callee:= .builtin .append,args,argTypes }, .indexAddr it (.tmp r1) (.tmp n), .nilCheck (.tmp q), .fieldAddr T (.tmp p1') f=>
    match args.toList,argTypes.toList,o0.dst,o1.dst,o2.dst,o3.dst,o4.dst,o5.dst with
    |[.tmp s, .tmp z],[st,xt],some r,some x,none,some p1,some p2,none=>
     if bare o0&&bare o1&&bare o2&&bare o3&&bare o4&&bare o5&&r1==r&&r2==r&&x1==x&&p1' ==p1&&p2' ==p2&&nodupB [r,x,p1,p2,s,n,v,q]then
      some ⟨s,z,n,x,r,v,q,p1,p2,f,st,xt,it,e,T,t2⟩else none
    |_,_,_,_,_,_,_,_=>none
   |_,_,_,_=>none
  |_,_=>none
 |_=>none
def sW (l:List Oper):Option (Nat×Tl):=match G4 (l.drop (l.length - 6))with|some t=>some (l.length - 6,t)|none=>none
def dC (o:Oper) (k:Nat):Bool:=o.after.toList.any fun e=>Region.binds .any e&&e.on==k
def fG (o:Oper) (p:Nat→Bool):Bool:=o.after.toList.all fun e=> !Region.binds .any e||p e.on
def jB (l:List Oper) (m:Nat):Bool:=
 match l.drop m with
 |[o0,o1,o2,o3,o4,o5]=>
  (Vr m).all (fun k=>dC o0 k)&&(Vr (m+1)).all (fun k=>dC o1 k&&dC o2 k&&dC o3 k&&dC o4 k&&dC o5 k)&&
  dC o2 (m+1)&&dC o4 (m+3)&&dC o5 (m+4)&&
  fG o0 (fun k=>decide (k<m))&&fG o1 (fun k=>decide (k≤m))&&fG o2 (fun k=>decide (k≤m+1))&&fG o3 (fun k=>decide (k≤m))&&
  fG o4 (fun k=>decide (k≤m)||k==m+3)&&fG o5 (fun k=>decide (k≤m)||k==m+3||k==m+4)
 |_=>false
def vW (l:List Oper):Bool:=decide (0<l.length)&&(match l.getLast? with|some o=>((Vr (l.length - 1)).all fun k=>dC o k)&&fG o (fun k=>decide (k<l.length - 1))|none=>false)
def uD {R:Type} (t:Tl) (S:St) (K:St→Option R):Option R:=
 match S.get t.s with
 | .lst e' true xs=>match S.get t.z with
  | .lst e'' _ zs=>match S.get t.n with
   | .int _ m=>match S.get t.q with
    | .ref i off=>match c.ty t.e,fieldsOf c t.T with
     |some y,some fs=>match fs[t.f]? with
      |some fd=>
       match S.ob i with
       | .cells cs=>
        if e' ==t.e&&e'' ==t.e&&elemOf c t.st==some t.e&&elemOf c t.xt==some t.e&&elemOf c t.it==some t.e&&0<y.size&&zs.length==1&&cI c t.e (S.get t.v).cut&&(V.refs (S.get t.v).cut).isEmpty&&(S.get t.v).cut.cells.length==y.size&&aE c fd.type != 0&&aE c t.t2==1&&[t.r,t.x,t.p1,t.p2,t.v].all (fun s=>decide (s<S.env.length))&&decide (off+fd.offset+1≤cs.length)then
         chk (m==(xs.length:Int)) (chk (cE xs [(S.get t.v).cut] (y.bytes+1))
          (S.setObK i (.cells (over (off+fd.offset) [.lst t.e true (xs++[(S.get t.v).cut])] cs)) fun S=>S.putK (some t.s) .bot fun S=>S.putK (some t.r) .bot fun S=>S.putK (some t.x) .bot fun S=>S.putK (some t.p1) .bot fun S=>S.putK (some t.p2) .bot K))
        else none
       |_=>none
      |none=>none
     |_,_=>none
    |_=>none
   |_=>none
  |_=>none
 |_=>none
def guarded (ops:List Oper):Bool:=ops.any fun o=>o.guard.isSome
def uE:Op→Bool
 | .move _| .pick .. | .binOp .. | .unOp .. | .nilCheck _| .fieldAddr .. | .field .. | .indexAddr .. | .index .. | .extract .. =>true
 | .assign _=>true
 | .load .. | .lookup .. =>true
 | .slice .. =>true
 | .call { callee:= .builtin .len, .. }=>true
 |_=>false
def quiet (ops:List Oper):Bool:=ops.all fun o=>uE o.op&& !(match o.op with| .load .. =>owned c ops o.dst|_=>false)
def rF {R:Type} (S:St) (l:List Nat) (K:St→Option R):Option R:=
 match l with
 |[]=>K S
 |t::r=>S.putK (some t) .bot fun S=>rF S r K
def Io:List Oper→Option Nat
 |[]=>none
 |[o]=>o.dst
 |_::r=>Io r
def DC {R:Type} (live:List Nat):Nat→List V→(List V→Option R)→Option R
 |_,[],K=>K []
 |t,v::r,K=>DC live (t+1) r fun r' =>K ((if live.contains t then v else .bot)::r')
def B1 {R:Type}:Nat→List Ob→(List Ob→Option R)→Option R
 |0,_,K=>K []
 |_+1,[],K=>K []
 |n+1,o::r,K=>B1 n r fun r' =>K (o::r')
def G5 (l:List Nat) (n:Nat):Nat:=l.foldl (fun m i=>max m (i+1)) n
def St.normK {R:Type} (S:St) (live:List Nat) (base:Nat) (K:St→Option R):Option R:=
 match S with
 |⟨env,objs⟩=>DC live 0 env fun env=>
  B1 (G5 (gG objs 100 (V.refsL env++Vr base) []) base) objs fun objs' =>
   if(V.refsL env).all (· <objs'.length)&&(lA objs').all (· <objs'.length)then K ⟨env,objs'⟩else K ⟨env,objs⟩
variable {R : Type}
def mD (S:St) (x:Operand) (b:Bool) (K:St→Option R):Option R:=match x with| .tmp s=>S.putK (some s) (.bool b) K|_=>K S
def Ip:aN Bool:=fun _ _ _ _=>none
def oG (ops:List Oper) (o:Oper):List Nat:=
 match o.op with
 | .move x=>if sU c ops o.dst then[]else bP [x]
 | .assign _=>[]
 | .call { callee:= .builtin .append,args, .. }=>bP (args.toList.drop 1)
 |op=>bY op
def mF {R:Type} (S:St) (l:List Nat) (K:St→Option R):Option R:=
 match l with
 |[]=>K S
 |t::r=>match S.get t with
  | .own e xs=>S.putK (some t) (.lst e true xs) fun S=>mF S r K
  |_=>mF S r K
def N7:V→Bool| .own _ _=>true|_=>false
def Kv (l:List Oper) (S:St):Option Nat:=
 (l.filterMap fun o=>match o.op with
  | .indexAddr _ (.tmp d) _=>(l.filterMap fun o' =>match o'.op,o'.dst with| .move (.tmp s),some d' =>if d' ==d then some s else none|_,_=>none).head?
  |_=>none).find? fun s=>N7 (S.get s)
abbrev AL:=List (Nat×Option (Int×Nat))
def kK (A:AL) (t:Nat):Option (Option (Int×Nat)):=match A with|[]=>none|(d,x)::r=>if d==t then some x else kK r t
def elemV (e:TypeId) (v:V) (off:Nat) (cells:List V):Option V:=dZ c e (over off v.cells cells)
def uF (ops:List Oper) (s:Nat) (A:AL) (o:Oper):Bool:=(bY o.op).contains s||o.dst==some s||(match o.dst with|some d=>(kK A d).isSome|none=>false)||(eW c ops o).contains s
def free (s:Nat) (A:AL) (S:St) (d:Nat):Bool:= !(d==s)&&(kK A d).isNone&&decide (d<S.env.length)
def fM {R:Type} (call:FuncId→Fun) (icall:aN R) (ops:List Oper) (s:Nat) (l:List Oper) (A:AL) (S:St) (K:St→Option R):Option R:=
 match l with
 |[]=>K S
 |o::r=>
  let plain:Option R:=if uF c ops s A o then none
   else opK c call icall ops o S fun v S' =>S'.putK o.dst v fun S' =>fM call icall ops s r A S' K
  if o.guard.isSome then none else
  match S.get s with
  | .own e xs=>
   match o.op,o.dst with
   | .move (.tmp t),some d=>if t==s then(if free s A S d then S.putK (some d) .bot fun S=>fM call icall ops s r ((d,none)::A) S K else none)else plain
   | .call { callee:= .builtin .len,args,argTypes },some d=>match args.toList,argTypes.toList with
    |[.tmp t],[ty]=>match kK A t with
     |some none=>if elemOf c ty==some e&&free s A S d then S.putK (some d) (.int .i64 xs.length) fun S=>fM call icall ops s r A S K else none
     |_=>plain
    |_,_=>plain
   | .indexAddr ty (.tmp t) i,some d=>match kK A t with
    |some none=>match opd c S 0 i with
     | .int _ n=>if elemOf c ty==some e&&free s A S d then chk (decide (0≤n)) (chk (decide (n<xs.length)) (S.putK (some d) .bot fun S=>fM call icall ops s r ((d,some (n,0))::A) S K))else none
     |_=>none
    |_=>plain
   | .fieldAddr ty (.tmp t) f,some d=>match kK A t with
    |some (some (n,off))=>match fieldsOf c ty with
     |some fs=>match fs[f]? with
      |some fd=>if aE c fd.type != 0&&free s A S d then S.putK (some d) .bot fun S=>fM call icall ops s r ((d,some (n,off+fd.offset))::A) S K else none
      |none=>none
     |none=>none
    |_=>plain
   | .load ty (.tmp t),some d=>match kK A t with
    |some (some (n,off))=>match partV c ty off (vT c e (xs.getD n.toNat .bot)).cells with
     |some v=>if free s A S d then S.putK (some d) v.cut fun S=>fM call icall ops s r A S K else none
     |none=>none
    |_=>plain
   | .store ty (.tmp t) y,none=>match kK A t with
    |some (some (n,off))=>
     if(opd c S ty y).cut.cells.length==aE c ty&&(opd c S ty y).cut.cells.all V.solid&&off+aE c ty≤(vT c e (xs.getD n.toNat .bot)).cells.length&&(c.ty ty).isSome&&(V.refs (opd c S ty y).cut).isEmpty then
      match elemV c e (opd c S ty y).cut off (vT c e (xs.getD n.toNat .bot)).cells with
      |some v=>if cI c e v then S.putK (some s) (.own e (xs.set n.toNat v)) fun S=>fM call icall ops s r A S K else none
      |none=>none
     else none
    |_=>plain
   |_,_=>plain
  |_=>none
def iL {R:Type} (call:FuncId→Fun) (icall:aN R) (l:List Oper) (draw:Bool) (S:St) (go:St→Option R):Option R:=
 match(if draw then sW l else none)with
 |some (n,t)=>if oD c n l&&jB l n then dR c call icall l (l.take n) S fun S=>uD c t S fun S=>go S else
  if fL c n l&&jB l n&&mC c l (l.take n)&&bT c l (l.take n)&&jT c l (l.take n)then dR c call icall l (l.take n) S fun S' =>if jM c l n S S' then uD c t S' fun S=>go S else none else none
 |none=>
 if draw&& !eD c l then
  (if iY c l&&bT c l l then dR c call icall l l S fun S=>if iZ c l S then go S else none
   else if vW l&&fL c (l.length - 1) l&&mC c l (l.take (l.length - 1))&&bT c l (l.take (l.length - 1))&&jT c l (l.take (l.length - 1))then
    dR c call icall l (l.take (l.length - 1)) S fun S' =>if jM c l (l.length - 1) S S' then dR c call icall l (l.drop (l.length - 1)) S' go else none
   else none)
 else if guarded l&&quiet c l then
  match Io l with
  |none=>none
  |some t=>(dR c call Ip l l S fun S' =>match S'.get t with| .bool b=>some b|_=>none).bind fun b=>
    rF S (l.flatMap (aO c l)) fun S=>S.putK (some t) (.bool b) fun S=>go S
 else dR c call icall l l S fun S=>go S
def oH {R:Type} (call:FuncId→Fun) (icall:aN R) (l:List Oper) (draw:Bool) (S:St) (go:St→Option R):Option R:=
 match(if draw then none else Kv l S)with
 |some s=>if N7 (S.get s)then mF S ((l.flatMap (oG c l)).filter fun t=>t != s) fun S=>fM c call icall l s l [] S go
  else mF S (l.flatMap (oG c l)) fun S=>iL c call icall l draw S go
 |none=>mF S (l.flatMap (oG c l)) fun S=>iL c call icall l draw S go
def zI (o:Oper):Option (FuncId×List Operand×List TypeId):=match jA o with|some p=>if c.inn p.1&& !c.still p.1 then some p else none|none=>none
def OW (ops:List Oper):Bool:=ops.any fun o=>(zI c o).isSome
def BJ {R:Type} (call:FuncId→Fun) (icall:aN R) (ops:List Oper):List Oper→St→(St→Option R)→Option R
 |[],S,K=>K S
 |o::r,S,K=>match zI c o with
  |some (f,args,ts)=>(match S with|⟨env,objs⟩=>icall f (nL c ⟨env,objs⟩ args ts) objs fun v objs=>St.putK ⟨env,objs⟩ o.dst v fun S=>BJ call icall ops r S K)
  |none=>dR c call icall ops [o] S fun S=>BJ call icall ops r S K
def oI {R:Type} (call:FuncId→Fun) (icall:aN R) (l:List Oper) (draw:Bool) (S:St) (go:St→Option R):Option R:=
 if OW c l then(if draw then none else mF S (l.flatMap (oG c l)) fun S=>BJ c call icall l l S go)else oH c call icall l draw S go
def bZ (call:FuncId→Fun) (icall:aN R) (rs:List Nat) (base:Nat) (again:List It→St→Option R) (fin:St→Option R):Nat→List It→St→Option R
 |0,_,_=>none
 |_+1,[],S=>fin S
 |_+1, .code .ret::_,S=>fin S
 |m+1, .code .skip::k,S=>bZ call icall rs base again fin m k S
 |m+1, .code (.label _)::k,S=>bZ call icall rs base again fin m k S
 |m+1, .inBlock _::k,S=>bZ call icall rs base again fin m k S
 |m+1, .inScope _::k,S=>bZ call icall rs base again fin m k S
 |m+1, .code (.scope a)::k,S=>bZ call icall rs base again fin m (.code a:: .inScope a::k) S
 |m+1, .code (.seq a b)::k,S=>bZ call icall rs base again fin m (.code a:: .code b::k) S
 |m+1, .code (.block id a)::k,S=>bZ call icall rs base again fin m (.code a:: .inBlock id::k) S
 |m+1, .code (.exit id)::k,S=>match iW id k with|some k' =>bZ call icall rs base again fin m k' S|none=>none
 |m+1, .code (.cond x a b)::k,S=>match opd c S 0 x with
  | .bool t=>if t then mD S x true fun S=>bZ call icall rs base again fin m (.code a::k) S
   else mD S x false fun S=>bZ call icall rs base again fin m (.code b::k) S
  |_=>none
 |m+1, .code (.region _ ops draw)::k,S=>oI c call icall ops.toList draw S fun S=>bZ call icall rs base again fin m k S
 |_+1, .code (.loop a)::k,S=>S.normK (uB rs (.inLoop a::k)).n base fun S=>again (.code a:: .inLoop a::k) S
 |_+1, .inLoop a::k,S=>S.normK (uB rs (.inLoop a::k)).n base fun S=>again (.code a:: .inLoop a::k) S
 |_+1, .code _::_,_=>none
def depth:Nat:=100000
def runN (call:FuncId→Fun) (icall:aN R) (rs:List Nat) (base:Nat) (fin:St→Option R):Nat→List It→St→Option R
 |0,_,_=>none
 |n+1,td,S=>bZ c call icall rs base (runN call icall rs base fin n) fin depth td S
def lC (S:St):List ResultVar→Option (List V)
 |[]=>some []
 | .tmp t::r=>(lC S r).map (S.get t:: ·)
 | .cell q t::r=>match S.get q,jR c S t (S.get q)with
  | .ref ..,some v=>(lC S r).map (v.cut:: ·)
  |_,_=>none
def slotsOf (l:List ResultVar):List Nat:=l.map fun| .tmp t=>t| .cell a _=>a
def MQ:Nat→(List V→Option R)→Option R
 |0,K=>K []
 |n+1,K=>MQ n fun l=>K (.bot::l)
def G6:List V→Nat→(List V→Option R)→Option R
 |[],n,K=>MQ n K
 |v::r,n,K=>G6 r (n - 1) fun l=>K (v::l)
def DD (fn:Func) (K:V→List Ob→Option R) (S:St):Option R:=
 if nodupB (slotsOf fn.results.toList)then mF S (slotsOf fn.results.toList) fun S=>
  match lC c S fn.results.toList with
  |none=>none
  |some [v]=>K v S.objs
  |some l=>K (.tup l) S.objs
 else none
def aF (call:FuncId→Fun):Nat→aN R
 |0=>fun _ _ _ _=>none
 |d+1=>fun f args objs K=>
  match c.fn f with
  |none=>none
  |some fn=>match fn.body with
   |none=>none
   |some code=>G6 args fn.ntmps fun env=>
    bZ c call (aF call d) (slotsOf fn.results.toList) objs.length (fun _ _=>none) (DD c fn K) depth [.code code] ⟨env,objs⟩
def lD (objs:List Ob) (n:Nat):CSh→V→V
 | .ifo, .ifc t (.ref k o)=>if o==0&&decide (n≤k)then(match objs.getD k .dead with
   | .cells cs=>if cs.all V.solid&&(V.refsL cs).isEmpty then .ifo false t (.cpt (cs.map V.cut1))else .bot
   |_=> .bot)else .bot
 |_,v=>v
def bL (objs:List Ob) (n:Nat):List CSh→List V→List V
 |s::r,v::vs=>lD objs n s v::bL objs n r vs
 |_,vs=>vs
def Iq (objs:List Ob) (n:Nat):OSh→Ob→Ob
 | .cells sh, .cells cs=> .cells (bL objs n sh cs)
 |_,o=>o
def bO (objs:List Ob) (n:Nat):List OSh→List Ob→List Ob
 |s::r,o::os=>Iq objs n s o::bO objs n r os
 |_,os=>os
def finish (fn:Func) (f:FuncId) (osh:List OSh) (v:V) (objs:List Ob):Option (V×List Ob):=
 match fZ c f fn with
 |none=>none
 |some rsh=>
  let v:=if c.rtip f then v else v.cut
  let out:=bO objs osh.length osh (objs.take osh.length)
  if jK rsh v&&iH osh out&&v.refs.all (· <osh.length)&&(lA out).all (· <osh.length)then some (v,out)else none
def aA:Nat→FuncId→Fun
 |0=>fun _ _ _=>none
 |k+1=>fun f args objs=>
  match c.hand f with
  |some h=>h (aA k) args objs
  |none=>match c.fn f with
   |none=>none
   |some fn=>match fn.body with
    |none=>none
    |some code=>G6 args fn.ntmps fun env=>
     runN c (aA k) (aF c (aA k) 20) (slotsOf fn.results.toList) objs.length (DD c fn (finish c fn f (c.osh f (objs.map OSh.of)))) (k+1) [.code code] ⟨env,objs⟩
end
end Go.Ev
end
section
namespace Go.Ev
abbrev Gh:=Nat→Nat
def pO (w:World) (G:Gh) (b off:Nat) (l:List Value):Prop:=
 ∀j x,l[j]? =some x→w.cell? ⟨b,off+j,none⟩=some x∧off+j<G b
def single:Value→Bool
 | .agg _| .tuple _=>false
 |_=>true
def flat (l:List Value):List Value:=l.flatMap fun x=>x.cells.toList
section
variable (c : Cfg)
inductive Rep (w:World) (G:Gh):List Nat→V→Value→Prop
 |bool {μ} (b):Rep w G μ (.bool b) (.bool b)
 |int {μ} (k n):Rep w G μ (.int k n) (.int k n)
 |str {μ} (s):Rep w G μ (.str s) (.string ⟨s.toArray⟩)
 |lst {μ} (e t) (xs:List V) (a:Option Addr) (cap:Nat) (l:List Value) (hl:l.length=xs.length)
   (hr:∀(i:Nat) v x,xs[i]? =some v→l[i]? =some x→Rep w G [] v x)
   (hf:∀v∈xs,cI c e v=true) (hs:∀x∈l,x.cells.size=aE c e) (hz:0<aE c e) (hc:xs.length≤cap) (ha:(a=none→cap=0)∧∀p,a=some p→p.block<w.heap.size)
   (hrow:∀p,a=some p→xs≠[]→p.spot=none∧pO w G p.block p.off (flat l)):Rep w G μ (.lst e t xs) (.slice a xs.length cap)
 |agg {μ} (cs:List V) (l:List Value) (hl:l.length=cs.length) (hs:∀x∈l,single x=true)
   (hr:∀(i:Nat) v x,cs[i]? =some v→l[i]? =some x→Rep w G μ v x):Rep w G μ (.agg cs) (.agg l.toArray)
 |tup {μ} (cs:List V) (l:List Value) (hl:l.length=cs.length)
   (hr:∀(i:Nat) v x,cs[i]? =some v→l[i]? =some x→Rep w G μ v x):Rep w G μ (.tup cs) (.tuple l.toArray)
 |ref {μ} (i off b) (h:μ[i]? =some b):Rep w G μ (.ref i off) (.pointer (some ⟨b,off,none⟩))
 |mref {μ} (i b) (h:μ[i]? =some b):Rep w G μ (.mref i) (.map (some b))
 |opt {μ} (i off b x) (h:μ[i]? =some b) (hx:x= .pointer none∨x= .pointer (some ⟨b,off,none⟩)):Rep w G μ (.opt i off) x
 |cpt {μ} (cs:List V) (b off:Nat) (l:List Value) (hl:l.length=cs.length) (hs:∀x∈l,single x=true)
   (hr:∀(i:Nat) v x,cs[i]? =some v→l[i]? =some x→Rep w G [] v x) (hrow:pO w G b off l):Rep w G μ (.cpt cs) (.pointer (some ⟨b,off,none⟩))
 |clo {μ} (fn) (first caps:List V) (lf lc:List Value) (hl:lf.length=first.length) (hl' :lc.length=caps.length)
   (hr:∀(i:Nat) v x,first[i]? =some v→lf[i]? =some x→Rep w G μ v x)
   (hr' :∀(i:Nat) v x,caps[i]? =some v→lc[i]? =some x→Rep w G μ v x):Rep w G μ (.clo fn first caps) (.func fn lf.toArray lc.toArray)
 |ifc {μ} (t v x) (h:Rep w G μ v x):Rep w G μ (.ifc t v) (.iface t x)
 |ifoN {μ} (t v):Rep w G μ (.ifo true t v) .nilIface
 |ifoS {μ} (t v x) (h:Rep w G [] v x):Rep w G μ (.ifo false t v) (.iface t x)
 |raw {μ} (v):Rep w G μ (.raw v) v
 |own {μ} (e) (xs:List V) (a:Option Addr) (cap:Nat) (hz:0<aE c e) (hc:xs.length≤cap) (ha:(a=none→cap=0)∧∀p,a=some p→p.block<w.heap.size):Rep w G μ (.own e xs) (.slice a xs.length cap)
 |bot {μ} (x):Rep w G μ .bot x
end
structure iT (w:World) (G:Gh) (w' :World) (G' :Gh):Prop where
 cell:∀b o,o<G b→w'.cell? ⟨b,o,none⟩=w.cell? ⟨b,o,none⟩
 le:∀b,G b≤G' b
 size:w.heap.size≤w'.heap.size
theorem iT.refl (w:World) (G:Gh):iT w G w G:=⟨fun _ _ _=>rfl,fun _=>TY _,TY _⟩
theorem iT.trans {w w' w'' :World} {G G' G'' :Gh} (h:iT w G w' G') (k:iT w' G' w'' G''):iT w G w'' G'' :=
 ⟨fun b o ho=>(k.cell b o (Up ho (h.le b))).trans (h.cell b o ho),fun b=>Uy (h.le b) (k.le b),Uy h.size k.size⟩
theorem pO.mono {w w' :World} {G G' :Gh} {b off:Nat} {l:List Value} (h:pO w G b off l) (s:iT w G w' G'):pO w' G' b off l:=
 fun j x hx=>⟨(s.cell b _ (h j x hx).2).trans (h j x hx).1,Up (h j x hx).2 (s.le b)⟩
section
variable {c : Cfg}
theorem Rep.mono {w w' :World} {G G' :Gh} {μ:List Nat} {v:V} {x:Value} (h:Rep c w G μ v x) (s:iT w G w' G'):Rep c w' G' μ v x:=by
 induction h with
 |bool b=>exact .bool b
 |int k n=>exact .int k n
 |str t=>exact .str t
 |lst e t xs a cap l hl hr hf hs hz hc ha hrow ih=>exact .lst e t xs a cap l hl ih hf hs hz hc ⟨ha.1,fun p hp=>Up (ha.2 p hp) s.size⟩ fun p hp hne=>⟨(hrow p hp hne).1,(hrow p hp hne).2.mono s⟩
 |agg cs l hl hs hr ih=>exact .agg cs l hl hs ih
 |tup cs l hl hr ih=>exact .tup cs l hl ih
 |ref i off b h=>exact .ref i off b h
 |mref i b h=>exact .mref i b h
 |opt i off b x h hx=>exact .opt i off b x h hx
 |cpt cs b off l hl hs hr hrow ih=>exact .cpt cs b off l hl hs ih (hrow.mono s)
 |clo fn f cp lf lc hl hl' hr hr' ih ih' =>exact .clo fn f cp lf lc hl hl' ih ih'
 |ifc t v x h ih=>exact .ifc t v x ih
 |ifoN t v=>exact .ifoN t v
 |ifoS t v x h ih=>exact .ifoS t v x ih
 |raw v=>exact .raw v
 |own e xs a cap hz hc ha=>exact .own e xs a cap hz hc ⟨ha.1,fun p hp=>Up (ha.2 p hp) s.size⟩
 |bot x=>exact .bot x
theorem Rep.mapped {w:World} {G:Gh} {μ:List Nat} {v:V} {x:Value} (h:Rep c w G μ v x):∀{μ' :List Nat} (ρ:Nat→Nat),
  (∀i b,i∈v.refs→μ[i]? =some b→μ'[ρ i]? =some b)→Rep c w G μ' (v.ren ρ) x:=by
 have getL:∀(ρ:Nat→Nat) (cs:List V) (i:Nat) u,(V.renL ρ cs)[i]? =some u→∃v,cs[i]? =some v∧u=v.ren ρ:=by
  intro ρ cs
  induction cs with
  |nil=>intro i u h;simp[V.renL]at h
  |cons a r ih=>
   intro i u h
   cases i with
   |zero=>simp[V.renL]at h;exact⟨a,by simp,h.symm⟩
   |succ i=>simp[V.renL]at h;obtain⟨v,hv,hu⟩:=ih i u h;exact⟨v,by simpa using hv,hu⟩
 have lenL:∀(ρ:Nat→Nat) (cs:List V),(V.renL ρ cs).length=cs.length:=by
  intro ρ cs;induction cs with
  |nil=>rfl
  |cons a r ih=>simp[V.renL,ih]
 have memL:∀(cs:List V) (i:Nat) (v:V) (k:Nat),cs[i]? =some v→k∈v.refs→k∈V.refsL cs:=by
  intro cs;induction cs with
  |nil=>intro i v k h;simp at h
  |cons a r ih=>
   intro i v k h hk
   cases i with
   |zero=>simp at h;subst h;simp[V.refsL,hk]
   |succ i=>simp at h;simp only[V.refsL,TV];exact .inr (ih i v k h hk)
 induction h with
 |bool b=>intro μ' ρ _;exact .bool b
 |int k n=>intro μ' ρ _;exact .int k n
 |str t=>intro μ' ρ _;exact .str t
 |lst e t xs a cap l hl hr hf hs hz hc ha hrow ih=>intro μ' ρ _;exact .lst e t xs a cap l hl hr hf hs hz hc ha hrow
 |agg cs l hl hs hr ih=>
  intro μ' ρ hm
  refine .agg _ l (by rw[lenL,hl]) hs fun i u x hu hx=>?_
  obtain⟨v,hv,rfl⟩:=getL ρ cs i u hu
  exact ih i v x hv hx ρ fun k b hk hb=>hm k b (by simp only[V.refs];exact memL cs i v k hv hk) hb
 |tup cs l hl hr ih=>
  intro μ' ρ hm
  refine .tup _ l (by rw[lenL,hl]) fun i u x hu hx=>?_
  obtain⟨v,hv,rfl⟩:=getL ρ cs i u hu
  exact ih i v x hv hx ρ fun k b hk hb=>hm k b (by simp only[V.refs];exact memL cs i v k hv hk) hb
 |ref i off b h=>intro μ' ρ hm;exact .ref _ off b (hm i b (by simp[V.refs]) h)
 |mref i b h=>intro μ' ρ hm;exact .mref _ b (hm i b (by simp[V.refs]) h)
 |opt i off b x h hx=>intro μ' ρ hm;exact .opt _ off b x (hm i b (by simp[V.refs]) h) hx
 |cpt cs b off l hl hs hr hrow ih=>
  intro μ' ρ hm
  refine .cpt _ b off l (by rw[lenL,hl]) hs (fun i u x hu hx=>?_) hrow
  obtain⟨v,hv,rfl⟩:=getL ρ cs i u hu
  exact ih i v x hv hx ρ fun k b hk hb=>by simp at hb
 |clo fn f cp lf lc hl hl' hr hr' ih ih' =>
  intro μ' ρ hm
  refine .clo fn _ _ lf lc (by rw[lenL,hl]) (by rw[lenL,hl']) (fun i u x hu hx=>?_) (fun i u x hu hx=>?_)
  ·obtain⟨v,hv,rfl⟩:=getL ρ f i u hu
   exact ih i v x hv hx ρ fun k b hk hb=>hm k b (by simp only[V.refs,TV];exact .inl (memL f i v k hv hk)) hb
  ·obtain⟨v,hv,rfl⟩:=getL ρ cp i u hu
   exact ih' i v x hv hx ρ fun k b hk hb=>hm k b (by simp only[V.refs,TV];exact .inr (memL cp i v k hv hk)) hb
 |ifoN t v=>intro μ' ρ _;exact .ifoN t v
 |ifoS t v x h ih=>intro μ' ρ _;exact .ifoS t v x h
 |ifc t v x h ih=>intro μ' ρ hm;exact .ifc t _ x (ih ρ fun k b hk hb=>hm k b (by simpa[V.refs]using hk) hb)
 |raw v=>intro μ' ρ _;exact .raw v
 |own e xs a cap hz hc ha=>intro μ' ρ _;exact .own e xs a cap hz hc ha
 |bot x=>intro μ' ρ _;exact .bot x
theorem G7 (ρ:Nat→Nat) (v:V) (h:∀i∈v.refs,ρ i=i):v.ren ρ=v:=by
 have key:∀n:Nat,∀v:V,SizeOf.sizeOf v≤n→(∀i∈v.refs,ρ i=i)→v.ren ρ=v:=by
  intro n
  induction n with
  |zero=>intro v hv;cases v<;>simp at hv
  |succ n ih=>
   have ihL:∀cs:List V,SizeOf.sizeOf cs≤n→(∀i∈V.refsL cs,ρ i=i)→V.renL ρ cs=cs:=by
    intro cs
    induction cs with
    |nil=>intros;rfl
    |cons a r ih2=>
     intro hs hr
     simp only[List.cons.sizeOf_spec]at hs
     simp only[V.refsL,TV]at hr
     simp only[V.renL,ih a (by omega) (fun i hi=>hr i (.inl hi)),ih2 (by omega) (fun i hi=>hr i (.inr hi))]
   intro v hv hr
   cases v with
   |agg cs=>simp at hv;simp only[V.ren];rw[ihL cs (by omega) (by simpa[V.refs]using hr)]
   |tup cs=>simp at hv;simp only[V.ren];rw[ihL cs (by omega) (by simpa[V.refs]using hr)]
   |cpt cs=>simp at hv;simp only[V.ren];rw[ihL cs (by omega) (by simpa[V.refs]using hr)]
   |clo f a b=>
    simp at hv
    simp only[V.refs,TV]at hr
    simp only[V.ren]
    rw[ihL a (by omega) (fun i hi=>hr i (.inl hi)),ihL b (by omega) (fun i hi=>hr i (.inr hi))]
   |ifc t u=>simp at hv;simp only[V.ren];rw[ih u (by omega) (by simpa[V.refs]using hr)]
   |ref i o=>simp only[V.ren];rw[hr i (by simp[V.refs])]
   |mref i=>simp only[V.ren];rw[hr i (by simp[V.refs])]
   |opt i o=>simp only[V.ren];rw[hr i (by simp[V.refs])]
   |_=>rfl
 exact key _ v (TY _) h
theorem Rep.more {w:World} {G:Gh} {μ μ' :List Nat} {v:V} {x:Value} (h:Rep c w G μ v x) (hm:∀i b,i∈v.refs→μ[i]? =some b→μ'[i]? =some b):Rep c w G μ' v x:=by
 have:=h.mapped (μ' :=μ') id hm
 rwa [G7 id v (fun _ _=>rfl)]at this
end
end Go.Ev
end
section
namespace Go.Ev
structure eC where
 e:TypeId
 a:Addr
 n:Nat
 m:Nat
 own:Option (List V)
def aS:V→Value→List eC
 | .lst e true _, .slice (some a) n m=>if 0<m then[⟨e,a,n,m,none⟩]else[]
 | .own e xs, .slice (some a) n m=>if 0<m then[⟨e,a,n,m,some xs⟩]else[]
 |_,_=>[]
def aH (f:V→Value→List eC):List V→List Value→List eC
 |v::vs,x::xs=>f v x++aH f vs xs
 |_,_=>[]
def bK:V→Value→List eC
 | .agg cs, .agg l=>aH aS cs l.toList
 |v,x=>aS v x
def aG:V→Value→List eC
 | .tup cs, .tuple l=>aH bK cs l.toList
 |v,x=>bK v x
def cC (w:World) (b:Nat):List Value:=match w.heap[b]? with|some (.cells l _ _)=>l.toList|_=>[]
def aM (w:World):List Ob→List Nat→List eC
 |o::os,b::bs=>(match o with| .cells cs=>aH aS cs (cC w b)|_=>[])++aM w os bs
 |_,_=>[]
def cnt (b:Nat) (l:List eC):Nat:=l.countP fun x=>x.a.block==b
theorem aK (b:Nat) (l k:List eC):cnt b (l++k)=cnt b l+cnt b k:=by simp[cnt]
theorem uG (b:Nat):cnt b []=0:=rfl
theorem cP {b:Nat} {l:List eC}:0<cnt b l↔∃x∈l,x.a.block=b:=by simp[cnt,List.countP_pos_iff]
theorem zJ (f:V→Value→List eC) (b:Nat) (v:V) (x:Value):∀(vs:List V) (xs:List Value) (i:Nat) (v0:V) (x0:Value),
  vs[i]? =some v0→xs[i]? =some x0→cnt b (aH f (vs.set i v) (xs.set i x))+cnt b (f v0 x0)=cnt b (aH f vs xs)+cnt b (f v x)
 |[],_,i,_,_,h,_=>by simp at h
 |a::vs,[],i,_,_,_,h=>by simp at h
 |a::vs,y::xs,0,v0,x0,h,h' =>by
  simp at h h';subst h;subst h'
  simp only[V5,aH,aK];omega
 |a::vs,y::xs,i+1,v0,x0,h,h' =>by
  simp at h h'
  have:=zJ f b v x vs xs i v0 x0 h h'
  simp only[VG,aH,aK];omega
theorem oJ (f:V→Value→List eC) {v:V} {x:Value} {l:eC}:∀(vs:List V) (xs:List Value) (i:Nat),
  l∈aH f (vs.set i v) (xs.set i x)→l∈f v x∨l∈aH f vs xs
 |[],_,i,h=>by simp[aH]at h
 |a::vs,[],i,h=>by cases i<;>simp[aH]at h
 |a::vs,y::xs,0,h=>by
  simp only[V5,aH,TV]at h ⊢
  rcases h with h|h
  ·exact .inl h
  ·exact .inr (.inr h)
 |a::vs,y::xs,i+1,h=>by
  simp only[VG,aH,TV]at h ⊢
  rcases h with h|h
  ·exact .inr (.inl h)
  ·rcases oJ f vs xs i h with h|h
   ·exact .inl h
   ·exact .inr (.inr h)
theorem xT (f:V→Value→List eC) (x:Value):∀(vs:List V) (xs:List Value) (i:Nat),vs.length≤i→aH f vs (xs.set i x)=aH f vs xs
 |[],xs,i,_=>by simp[aH]
 |a::vs,[],i,_=>by simp
 |a::vs,y::xs,0,h=>by simp at h
 |a::vs,y::xs,i+1,h=>by
  simp at h
  simp only[VG,aH,xT f x vs xs i h]
section
variable (c : Cfg)
def eA (w:World) (G:Gh) (l:eC):Prop:=
 match l.own with
 |none=>G l.a.block=l.a.off+l.n*aE c l.e
 |some xs=>G l.a.block=l.a.off∧l.n=xs.length∧l.n≤l.m∧∃lo:List Value,lo.length=xs.length∧(∀(i:Nat) v x,xs[i]? =some v→lo[i]? =some x→Rep c w G [] v x)∧(∀v∈xs,cI c l.e v=true)∧
   (∀x∈lo,x.cells.size=aE c l.e)∧∀(j:Nat) x,(flat lo)[j]? =some x→w.cell? ⟨l.a.block,l.a.off+j,none⟩=some x
def oK (w:World) (G:Gh) (l:eC):Prop:=
 l.a.spot=none∧∃cs elem fr,w.heap[l.a.block]? =some (.cells cs elem fr)∧eA c w G l∧
  l.a.off+l.m*aE c l.e≤cs.size∧(fr.1=fr.2∨cs.size≤fr.1)∧elem=l.e∧l.a.off=0
def EE (cs:List V) (elem:TypeId):Prop:=∀i o,cs.head? =some (.opt i o)→c.bld elem=true
def uH (w:World) (G:Gh) (μ:List Nat):Ob→Nat→Prop
 | .cells cs,b=>∃(l:List Value) (elem:TypeId) (fr:Nat×Nat),w.heap[b]? =some (.cells l.toArray elem fr)∧(∀o,o<l.length→¬(fr.1≤o∧o<fr.2))∧
   l.length=cs.length∧(∀x∈l,single x=true)∧(∀(i:Nat) v x,cs[i]? =some v→l[i]? =some x→Rep c w G μ v x)∧EE c cs elem
 | .mp kd vd es,b=>(∃(l:Array MapEntry) (n:Nat),w.heap[b]? =some (.map l n)∧l.toList.map (fun e=>(e.key,e.val))=es.map fun p=>(p.1.val,p.2.val))∧∀p∈es,p.1.kind=kd∧p.2.kind=vd
 | .sit s p,b=>∃n:Nat,p=n∧w.heap[b]? =some (.stringIter ⟨s.toArray⟩ n)
 | .dead,_=>True
structure Inv (w:World) (G:Gh) (μ:List Nat) (env:List V) (tmps:List Value) (objs:List Ob):Prop where
 len:env.length≤tmps.length
 rep:∀(i:Nat) v x,env[i]? =some v→tmps[i]? =some x→Rep c w G μ v x
 olen:objs.length=μ.length
 obs:∀(i:Nat) o b,objs[i]? =some o→μ[i]? =some b→uH c w G μ o b
 one:∀b,cnt b (aH aG env tmps)+cnt b (aM w objs μ)+μ.count b≤1
 ok:∀l∈aH aG env tmps++aM w objs μ,oK c w G l
 mine:∀b∈μ,b<w.heap.size∧G b=0
 none:∀b,w.heap.size≤b→G b=0
 glob:∀g t,c.glob g=some t→pO w G g 0 t.vals
structure Ent where
 w:World
 G:Gh
 U:Nat→Prop
 μ:List Nat
structure Stp (E:Ent) (w:World) (G:Gh):Prop where
 size:E.w.heap.size≤w.heap.size
 sealed:iT E.w E.G w G
 keep:∀b,b<E.w.heap.size→¬E.U b→w.heap[b]? =E.w.heap[b]?∧G b=E.G b
 os:w.os=E.w.os
 out:w.output=E.w.output
 tape:w.tape=E.w.tape
structure Sim (E:Ent) (w:World) (G:Gh) (μ:List Nat) (env:List V) (tmps:List Value) (objs:List Ob):Prop where
 inv:Inv c w G μ env tmps objs
 stp:Stp E w G
 own:∀b,b<E.w.heap.size→0<cnt b (aH aG env tmps)+cnt b (aM w objs μ)+μ.count b→E.U b
 pre:∃ν,μ=E.μ++ν
end
section
variable {c : Cfg} {E : Ent} {w w' : World} {G G' : Gh} {μ : List Nat} {env : List V} {tmps : List Value} {objs : List Ob}
structure eH (w:World) (G:Gh) (w' :World) (G' :Gh):Prop where
 size:w.heap.size≤w'.heap.size
 keep:∀b,b<w.heap.size→w'.heap[b]? =w.heap[b]?∧G' b=G b
 none:∀b,w'.heap.size≤b→G' b=0
 os:w'.os=w.os
 out:w'.output=w.output
 tape:w'.tape=w.tape
theorem bU {w w' :World} {b o:Nat} (h:w'.heap[b]? =w.heap[b]?):w'.cell? ⟨b,o,none⟩=w.cell? ⟨b,o,none⟩:=by
 simp only[World.cell?,h]
theorem eI {w:World} {b:Nat} {o:Obj} (h:w.heap[b]? =some o):b<w.heap.size:=(TX.1 h).1
theorem Kw {w:World} {a:Addr} {x:Value} (h:w.cell? a=some x):a.block<w.heap.size:=by
 unfold World.cell? at h
 split at h
 ·rename_i h';exact eI h'
 ·cases h
theorem eH.sealed (h:eH w G w' G') (hn:∀b,w.heap.size≤b→G b=0):iT w G w' G' :=by
 refine⟨fun b o ho=>?_,fun b=>?_,h.size⟩
 ·by_cases hb:b<w.heap.size
  ·exact bU (h.keep b hb).1
  ·rw[hn b (UZ hb)]at ho;omega
 ·by_cases hb:b<w.heap.size
  ·exact Nat.le_of_eq (h.keep b hb).2.symm
  ·rw[hn b (UZ hb)];omega
theorem oK.lt {l:eC} (h:oK c w G l):l.a.block<w.heap.size:=by
 obtain⟨_,cs,elem,fr,h,_⟩:=h
 exact eI h
theorem oK.same {l:eC} (h:oK c w G l) (hh:w'.heap[l.a.block]? =w.heap[l.a.block]?) (hg:G' l.a.block=G l.a.block) (s:iT w G w' G'):oK c w' G' l:=by
 obtain⟨h1,cs,elem,fr,h2,h3,h4⟩:=h
 refine⟨h1,cs,elem,fr,hh.trans h2,?_,h4⟩
 unfold eA at*
 cases ho:l.own with
 |none=>simp only[ho]at h3 ⊢;rw[hg];exact h3
 |some xs=>
  simp only[ho]at h3 ⊢
  obtain⟨g1,g2,g3,lo,g4,g5,g6,g7,g8⟩:=h3
  exact⟨hg.trans g1,g2,g3,lo,g4,fun i v x hv hx=>(g5 i v x hv hx).mono s,g6,g7,fun j x hj=>(bU hh).trans (g8 j x hj)⟩
theorem eA.same {l:eC} (h3:eA c w G l) (hh:∀o,w'.cell? ⟨l.a.block,o,none⟩=w.cell? ⟨l.a.block,o,none⟩) (hg:G' l.a.block=G l.a.block) (s:iT w G w' G'):eA c w' G' l:=by
 unfold eA at*
 cases ho:l.own with
 |none=>simp only[ho]at h3 ⊢;rw[hg];exact h3
 |some xs=>
  simp only[ho]at h3 ⊢
  obtain⟨g1,g2,g3,lo,g4,g5,g6,g7,g8⟩:=h3
  exact⟨hg.trans g1,g2,g3,lo,g4,fun i v x hv hx=>(g5 i v x hv hx).mono s,g6,g7,fun j x hj=>(hh _).trans (g8 j x hj)⟩
theorem cG:∀(os:List Ob) (bs:List Nat),(∀b∈bs,w'.heap[b]? =w.heap[b]?)→aM w' os bs=aM w os bs
 |[],_,_=>by simp[aM]
 |_::_,[],_=>by simp[aM]
 |o::os,b::bs,h=>by
  have h1:=h b (by simp)
  simp only[aM,cC,h1,cG os bs (fun b hb=>h b (by simp[hb]))]
theorem uH.mono {μ:List Nat} {o:Ob} {b:Nat} (h:uH c w G μ o b) (s:iT w G w' G') (hh:w'.heap[b]? =w.heap[b]?):uH c w' G' μ o b:=by
 cases o with
 |cells cs=>
  obtain⟨l,e,fr,h1,h2,h3,h4,h5,h6⟩:=h
  exact⟨l,e,fr,hh.trans h1,h2,h3,h4,fun i v x hv hx=>(h5 i v x hv hx).mono s,h6⟩
 |sit s p=>obtain⟨n,h1,h2⟩:=h;exact⟨n,h1,hh.trans h2⟩
 |mp kd vd es=>obtain⟨⟨l,n,h1,h2⟩,h3⟩:=h;exact⟨⟨l,n,hh.trans h1,h2⟩,h3⟩
 |dead=>trivial
theorem Inv.ext (h:Inv c w G μ env tmps objs) (x:eH w G w' G'):Inv c w' G' μ env tmps objs:=by
 have s:=x.sealed h.none
 have hO:aM w' objs μ=aM w objs μ:=cG objs μ fun b hb=>(x.keep b (h.mine b hb).1).1
 refine⟨h.len,fun i v y hv hy=>(h.rep i v y hv hy).mono s,h.olen,fun i o b ho hb=>?_,fun b=>?_,fun l hl=>?_,fun b hb=>?_,x.none,fun g k hg=>(h.glob g k hg).mono s⟩
 ·exact(h.obs i o b ho hb).mono s (x.keep b (h.mine b (Uu hb)).1).1
 ·rw[hO];exact h.one b
 ·rw[hO]at hl
  have hk:=h.ok l hl
  exact hk.same (x.keep _ hk.lt).1 (x.keep _ hk.lt).2 s
 ·have:=h.mine b hb
  exact⟨Up this.1 x.size,by rw[(x.keep b this.1).2];exact this.2⟩
theorem Sim.ext (h:Sim c E w G μ env tmps objs) (x:eH w G w' G'):Sim c E w' G' μ env tmps objs:=by
 have hO:aM w' objs μ=aM w objs μ:=cG objs μ fun b hb=>(x.keep b (h.inv.mine b hb).1).1
 refine⟨h.inv.ext x,⟨Uy h.stp.size x.size,h.stp.sealed.trans (x.sealed h.inv.none),fun b hb hu=>?_,x.os.trans h.stp.os,x.out.trans h.stp.out,x.tape.trans h.stp.tape⟩,fun b hb hc=>?_,h.pre⟩
 ·have h1:=h.stp.keep b hb hu
  have h2:=x.keep b (Up hb h.stp.size)
  exact⟨h2.1.trans h1.1,h2.2.trans h1.2⟩
 ·rw[hO]at hc;exact h.own b hb hc
theorem Sim.put {v:V} {x:Value} (h:Sim c E w G μ (v::env) (x::tmps) objs) (d:Nat):Sim c E w G μ (env.set d v) (tmps.set d x) objs:=by
 have hz:aH aG (v::env) (x::tmps)=aG v x++aH aG env tmps:=rfl
 have hlen:env.length≤tmps.length:=by have:=h.inv.len;simpa using this
 have hcnt:∀b,cnt b (aH aG (env.set d v) (tmps.set d x))≤cnt b (aH aG (v::env) (x::tmps)):=by
  intro b
  rw[hz,aK]
  by_cases hd:d<env.length
  ·have:=zJ aG b v x env tmps d _ _ (TP hd) (TP (Up hd hlen))
   omega
  ·rw[We (UZ hd),xT aG x env tmps d (UZ hd)];omega
 refine⟨⟨by simpa using hlen,fun i u y hu hy=>?_,h.inv.olen,h.inv.obs,fun b=>?_,fun l hl=>?_,h.inv.mine,h.inv.none,h.inv.glob⟩,h.stp,fun b hb hc=>?_,h.pre⟩
 ·by_cases hi:d=i
  ·subst hi
   have hd:d<env.length:=by have:=(TQ.1 hu).1;simpa using this
   simp[Us hd]at hu
   simp[Us (Up hd hlen)]at hy
   subst hu;subst hy
   exact h.inv.rep 0 _ _ rfl rfl
  ·rw[Uq hi]at hu hy
   exact h.inv.rep (i+1) u y (by simpa using hu) (by simpa using hy)
 ·have:=h.inv.one b;have:=hcnt b;omega
 ·refine h.inv.ok l ?_
  rw[TV]at hl ⊢
  rcases hl with hl|hl
  ·refine .inl ?_
   rw[hz,TV]
   exact oJ aG env tmps d hl
  ·exact .inr hl
 ·refine h.own b hb ?_
  have:=hcnt b
  omega
theorem Sim.push {v:V} {x:Value} (h:Sim c E w G μ env tmps objs) (hr:Rep c w G μ v x) (hl:aG v x=[]):Sim c E w G μ (v::env) (x::tmps) objs:=by
 have hz:aH aG (v::env) (x::tmps)=aH aG env tmps:=by simp[aH,hl]
 refine⟨⟨by simpa using h.inv.len,fun i u y hu hy=>?_,h.inv.olen,h.inv.obs,fun b=>by rw[hz];exact h.inv.one b,fun l hl=>h.inv.ok l (by rwa [hz]at hl),h.inv.mine,h.inv.none,h.inv.glob⟩,
  h.stp,fun b hb hc=>h.own b hb (by rwa [hz]at hc),h.pre⟩
 cases i with
 |zero=>simp at hu hy;subst hu;subst hy;exact hr
 |succ i=>exact h.inv.rep i u y (by simpa using hu) (by simpa using hy)
theorem Sim.pop {v:V} {x:Value} (h:Sim c E w G μ (v::env) (x::tmps) objs):Sim c E w G μ env tmps objs:=by
 have hz:aH aG (v::env) (x::tmps)=aG v x++aH aG env tmps:=rfl
 refine⟨⟨by have:=h.inv.len;simpa using this,fun i u y hu hy=>h.inv.rep (i+1) u y (by simpa using hu) (by simpa using hy),h.inv.olen,h.inv.obs,fun b=>?_,fun l hl=>?_,h.inv.mine,h.inv.none,h.inv.glob⟩,
  h.stp,fun b hb hc=>?_,h.pre⟩
 ·have:=h.inv.one b;rw[hz,aK]at this;omega
 ·refine h.inv.ok l ?_
  rw[hz]
  simp only[TV]at hl ⊢
  rcases hl with hl|hl
  ·exact .inl (.inr hl)
  ·exact .inr hl
 ·refine h.own b hb ?_
  rw[hz,aK];omega
theorem Sim.refront {v v' :V} {x:Value} (h:Sim c E w G μ (v::env) (x::tmps) objs) (hr:Rep c w G μ v' x) (hc:∀b,cnt b (aG v' x)≤cnt b (aG v x)) (hk:∀l∈aG v' x,oK c w G l):
  Sim c E w G μ (v' ::env) (x::tmps) objs:=by
 have hz:∀u:V,aH aG (u::env) (x::tmps)=aG u x++aH aG env tmps:=fun _=>rfl
 refine⟨⟨by simpa using h.inv.len,fun i u y hu hy=>?_,h.inv.olen,h.inv.obs,fun b=>?_,fun l hl=>?_,h.inv.mine,h.inv.none,h.inv.glob⟩,h.stp,fun b hb hcc=>?_,h.pre⟩
 ·cases i with
  |zero=>simp at hu hy;subst hu;subst hy;exact hr
  |succ i=>exact h.inv.rep (i+1) u y (by simpa using hu) (by simpa using hy)
 ·have:=h.inv.one b
  rw[hz,aK]at this ⊢
  have:=hc b;omega
 ·rw[hz,Ud,TV]at hl
  rcases hl with hl|hl
  ·exact hk l hl
  ·exact h.inv.ok l (by rw[hz,Ud,TV];exact .inr hl)
 ·refine h.own b hb ?_
  rw[hz,aK]at hcc ⊢
  have:=hc b;omega
theorem Sim.ownNil {e:TypeId} {x:Value} (h:Sim c E w G μ (.lst e true []::env) (x::tmps) objs):Sim c E w G μ (.own e []::env) (x::tmps) objs:=by
 have hr:=h.inv.rep 0 _ _ rfl rfl
 cases hr with
 |lst _ _ _ a cap l hl hr hf hs hz hc ha hrow=>
  refine h.refront (.own e [] a cap hz hc ha) (fun b=>?_) fun l hl=>?_
  ·cases a with
   |none=>exact TY _
   |some p=>
    simp only[aG,bK,aS]
    split
    ·exact TY _
    ·exact TY _
  ·cases a with
   |none=>simp[aG,bK,aS]at hl
   |some p=>
    simp only[aG,bK,aS]at hl
    split at hl
    ·rename_i hcap
     simp at hl;subst hl
     obtain⟨g1,cs,elem,fr,g2,g3,g4⟩:=h.inv.ok ⟨e,p,0,cap,none⟩ (by
      show _∈(aG _ _++aH aG env tmps)++_
      simp[aG,bK,aS,hcap])
     refine⟨g1,cs,elem,fr,g2,?_,g4⟩
     simp only[eA]at g3 ⊢
     exact⟨by simpa using g3,rfl,hc,[],rfl,fun i v x hv=>by simp at hv,fun v hv=>(by cases hv),fun x hx=>(by cases hx),fun j x hj=>by simp[flat]at hj⟩
    ·cases hl
theorem lE (v:V) (x:Value):aS v.cut1 x=[]:=by cases v<;>cases x<;>simp[V.cut1,aS]
theorem pW (f:V→Value→List eC) (g:V→V) (h:∀v x,f (g v) x=[]):∀(vs:List V) (xs:List Value),aH f (vs.map g) xs=[]
 |[],_=>by simp[aH]
 |_::_,[]=>by simp[aH]
 |v::vs,x::xs=>by simp[aH,h,pW f g h vs xs]
theorem G8 (v:V) (x:Value):bK v.cut2 x=[]:=by
 cases v<;>cases x<;>simp only[V.cut2,V.cut1,bK,aS]
 exact pW aS V.cut1 lE _ _
theorem bH (v:V) (x:Value):aG v.cut x=[]:=by
 cases v with
 |tup cs=>
  cases x<;>simp only[V.cut,aG,bK,aS]
  exact pW bK V.cut2 G8 _ _
 |agg cs=>cases x<;>simp only[V.cut,V.cut2,aG,bK,aS];exact pW aS V.cut1 lE _ _
 |_=>cases x<;>simp only[V.cut,V.cut2,V.cut1,aG,bK,aS]
theorem Rep.cut1 {v:V} {x:Value} (h:Rep c w G μ v x):Rep c w G μ v.cut1 x:=by
 cases h with
 |lst e t xs a cap l hl hr hf hs hz hc ha hrow=>exact .lst e false xs a cap l hl hr hf hs hz hc ha hrow
 |bool b=>exact .bool b
 |int k n=>exact .int k n
 |str t=>exact .str t
 |agg cs l hl hs hr=>exact .agg cs l hl hs hr
 |tup cs l hl hr=>exact .tup cs l hl hr
 |ref i off b h=>exact .ref i off b h
 |mref i b h=>exact .mref i b h
 |opt i off b x h hx=>exact .opt i off b x h hx
 |cpt cs b off l hl hs hr hrow=>exact .cpt cs b off l hl hs hr hrow
 |clo fn f cp lf lc hl hl' hr hr' =>exact .clo fn f cp lf lc hl hl' hr hr'
 |ifc t v x h=>exact .ifc t v x h
 |ifoN t v=>exact .ifoN t v
 |ifoS t v x h=>exact .ifoS t v x h
 |raw=>exact .raw _
 |own e xs a cap hz hc ha=>exact .bot _
 |bot=>exact .bot _
theorem bQ {α β:Type} {f:α→β} {l:List α} {i:Nat} {u:β} (h:(l.map f)[i]? =some u):∃v,l[i]? =some v∧u=f v:=by
 rw[UC]at h
 cases hv:l[i]? with
 |none=>simp[hv]at h
 |some v=>simp[hv]at h;exact⟨v,rfl,h.symm⟩
theorem Rep.cut2 {v:V} {x:Value} (h:Rep c w G μ v x):Rep c w G μ v.cut2 x:=by
 cases h with
 |agg cs l hl hs hr=>
  refine .agg _ l (by simpa using hl) hs fun i u x hu hx=>?_
  obtain⟨v,hv,rfl⟩:=bQ hu
  exact(hr i v x hv hx).cut1
 |lst e t xs a cap l hl hr hf hs hz hc ha hrow=>exact .lst e false xs a cap l hl hr hf hs hz hc ha hrow
 |bool b=>exact .bool b
 |int k n=>exact .int k n
 |str t=>exact .str t
 |tup cs l hl hr=>exact .tup cs l hl hr
 |ref i off b h=>exact .ref i off b h
 |mref i b h=>exact .mref i b h
 |opt i off b x h hx=>exact .opt i off b x h hx
 |cpt cs b off l hl hs hr hrow=>exact .cpt cs b off l hl hs hr hrow
 |clo fn f cp lf lc hl hl' hr hr' =>exact .clo fn f cp lf lc hl hl' hr hr'
 |ifc t v x h=>exact .ifc t v x h
 |ifoN t v=>exact .ifoN t v
 |ifoS t v x h=>exact .ifoS t v x h
 |raw=>exact .raw _
 |own e xs a cap hz hc ha=>exact .bot _
 |bot=>exact .bot _
theorem Rep.cut {v:V} {x:Value} (h:Rep c w G μ v x):Rep c w G μ v.cut x:=by
 by_cases ht:∃cs,v= .tup cs
 ·obtain⟨cs,rfl⟩:=ht
  cases h with
  |tup cs l hl hr=>
   refine .tup _ l (by simpa using hl) fun i u x hu hx=>?_
   obtain⟨v,hv,rfl⟩:=bQ hu
   exact(hr i v x hv hx).cut2
 ·have:v.cut=v.cut2:=by cases v<;>first|rfl|exact absurd ⟨_,rfl⟩ ht
  rw[this];exact h.cut2
theorem Sim.take {v:V} {x:Value} (h:Sim c E w G μ env tmps objs) {s:Nat} (hv:env[s]? =some v) (hx:tmps[s]? =some x):
  Sim c E w G μ (v::env.set s v.cut) (x::tmps) objs:=by
 have hcnt:∀b,cnt b (aH aG (v::env.set s v.cut) (x::tmps))=cnt b (aH aG env tmps):=by
  intro b
  have:=zJ aG b v.cut x env tmps s v x hv hx
  rw[bH,uG]at this
  have hs:tmps.set s x=tmps:=by
   apply UK
   intro j
   by_cases hj:s=j
   ·subst hj;rw[Us (TQ.1 hx).1,hx]
   ·rw[Uq hj]
  rw[hs]at this
  show cnt b (aG v x++aH aG (env.set s v.cut) tmps)=_
  rw[aK];omega
 have hmem:∀l,l∈aH aG (v::env.set s v.cut) (x::tmps)→l∈aH aG env tmps:=by
  have key:∀l,l∈aG v x→l∈aH aG env tmps:=by
   have:∀(vs:List V) (xs:List Value) (i:Nat),vs[i]? =some v→xs[i]? =some x→∀l,l∈aG v x→l∈aH aG vs xs:=by
    intro vs
    induction vs with
    |nil=>intro xs i h;simp at h
    |cons a vs ih=>
     intro xs i h1 h2 l hl
     cases xs with
     |nil=>simp at h2
     |cons y xs=>
      simp only[aH,TV]
      cases i with
      |zero=>simp at h1 h2;subst h1;subst h2;exact .inl hl
      |succ i=>exact .inr (ih xs i (by simpa using h1) (by simpa using h2) l hl)
   exact this env tmps s hv hx
  intro l hl
  have hl' :l∈aG v x++aH aG (env.set s v.cut) tmps:=hl
  rw[TV]at hl'
  rcases hl' with hl' |hl'
  ·exact key l hl'
  ·have hs:tmps.set s x=tmps:=by
    apply UK
    intro j
    by_cases hj:s=j
    ·subst hj;rw[Us (TQ.1 hx).1,hx]
    ·rw[Uq hj]
   rw[←hs]at hl'
   rcases oJ aG env tmps s hl' with h|h
   ·rw[bH]at h;cases h
   ·exact h
 have hrep:=h.inv.rep s v x hv hx
 refine⟨⟨by simpa using h.inv.len,fun i u y hu hy=>?_,h.inv.olen,h.inv.obs,fun b=>by rw[hcnt];exact h.inv.one b,fun l hl=>?_,h.inv.mine,h.inv.none,h.inv.glob⟩,
  h.stp,fun b hb hc=>h.own b hb (by rwa [hcnt]at hc),h.pre⟩
 ·cases i with
  |zero=>simp at hu hy;subst hu;subst hy;exact hrep
  |succ i=>
   simp only[Ve]at hu hy
   by_cases hi:s=i
   ·subst hi
    rw[Us (TQ.1 hv).1]at hu
    cases hu
    rw[hx]at hy;cases hy
    exact hrep.cut
   ·rw[Uq hi]at hu
    exact h.inv.rep i u y hu hy
 ·refine h.inv.ok l ?_
  rw[TV]at hl ⊢
  exact hl.imp (hmem l) id
theorem Sim.shed {v:V} (h:Sim c E w G μ env tmps objs) {s:Nat} (hv:env[s]? =some v):Sim c E w G μ (env.set s v.cut) tmps objs:=by
 have hlt:s<tmps.length:=Up (TQ.1 hv).1 h.inv.len
 exact(h.take hv (TP hlt)).pop
end
end Go.Ev
end
section
namespace Go.Ev
def pX:TypeDesc→Bool
 | .struct _| .array _ _=>true
 |_=>false
structure iM (c:Cfg) (t:TypeId) (y:Ty):Prop where
 und:c.P.underlying t=some y.d
 info:∃i,c.P.info? t=some i∧i.size=y.size∧i.bytes=y.bytes∧∃z,i.zero=some z∧fB c y.zero z.cells.toList=true∧(y.agg=true↔∃l,z= .agg l)
 size:y.zero.length=y.size
 agg:y.agg=pX y.d
 fields:∀fs,y.d= .struct fs→∀f∈fs,∃y',c.ty f.type=some y'
 elem:∀n e,y.d= .array n e→∃y',c.ty e=some y'
 eq:y.eq=true→pX y.d=true→c.P.stoodInHeld t=false∧c.P.eqGuardType c.P.depth t=false
 cmp:y.eq=true→∃i,c.P.info? t=some i∧i.comparable=true
structure bA (c:Cfg):Prop where
 ty:∀t y,c.ty t=some y→iM c t y
 fn : ∀ f x, c.fn f = some x → c.P.funcs[f]? = some x ∧ x.name ≠ "runtime.NumGoroutine" ∧ x.body.isSome = true
 mixed:c.P.follows .mixedOrders=true
 inl:∀f,c.inl f=false
 ro:∀f x,c.ro f=true→c.fn f=some x→∀b,x.body=some b→kE c b=true
section
variable {c : Cfg} {w : World} {G : Gh} {μ : List Nat}
theorem iM.sizeOf {t:TypeId} {y:Ty} (h:iM c t y) (w:World):(Go.sizeOf t).run c.P w= .ok y.size w:=by
 obtain⟨i,hi,hs,_⟩:=h.info
 rw[run_sizeOf w hi];simp[Program.cellsOf,hi,hs]
theorem iM.cellsOf {t:TypeId} {y:Ty} (h:iM c t y):c.P.cellsOf t=y.size:=by
 obtain⟨i,hi,hs,_⟩:=h.info
 simp[Program.cellsOf,hi,hs]
theorem iM.isAgg {t:TypeId} {y:Ty} (h:iM c t y) (w:World):(Go.isAgg t).run c.P w= .ok y.agg w:=by
 simp only[Go.isAgg,Sem.run_bind,run_underlying h.und,Result.andThen_ok]
 rw[h.agg]
 cases y.d<;>simp[pX]
theorem rG {v:V} {x:Value} (h:Rep c w G μ v x) (hv:v.single=true):single x=true:=by
 cases h with
 |raw=>cases x<;>simp_all [V.single,Go.Ev.single]
 |opt i off b x h hx=>rcases hx with rfl|rfl<;>rfl
 |_=>simp_all [V.single,Go.Ev.single]
theorem eQ {v:V} {x:Value} (h:Rep c w G μ v x) (hs:v.cells.all V.single=true):
  x.cells.size=v.cells.length∧(∀y∈x.cells.toList,single y=true)∧∀(i:Nat) u y,v.cells[i]? =some u→x.cells.toList[i]? =some y→Rep c w G μ u y:=by
 by_cases ha:∃cs,v= .agg cs
 ·obtain⟨cs,rfl⟩:=ha
  cases h with
  |agg cs l hl hs' hr=>exact⟨by simp[Value.cells,V.cells,hl],by simpa[Value.cells]using hs',by simpa[Value.cells,V.cells]using hr⟩
 ·have hvc:v.cells=[v]:=by cases v<;>first|rfl|exact absurd ⟨_,rfl⟩ ha
  have hsv:v.single=true:=by simpa[hvc]using hs
  have hx:=rG h hsv
  have hxc:x.cells= #[x]:=by cases x<;>simp_all [Value.cells,Go.Ev.single]
  rw[hvc,hxc]
  refine⟨rfl,by simpa using hx,fun i u y hu hy=>?_⟩
  cases i with
  |zero=>simp at hu hy;subst hu;subst hy;exact h
  |succ i=>simp at hu
theorem bE {v:V} (x:Value) (h:v.tips=false):aG v x=[]:=by
 have h1:∀(v:V) (x:Value),v.tip1=false→aS v x=[]:=by
  intro v x h;cases v<;>cases x<;>simp_all [V.tip1,aS]
 have hz:∀(f:V→Value→List eC) (p:V→Bool),(∀v x,p v=false→f v x=[])→∀(vs:List V) (xs:List Value),vs.any p=false→aH f vs xs=[]:=by
  intro f p hp vs
  induction vs with
  |nil=>intro xs _;simp[aH]
  |cons v vs ih=>
   intro xs h
   simp only[List.any_cons,Bool.or_eq_false_iff]at h
   cases xs with
   |nil=>simp[aH]
   |cons x xs=>simp[aH,hp v x h.1,ih xs h.2]
 have h2:∀(v:V) (x:Value),v.tip2=false→bK v x=[]:=by
  intro v x h
  cases v with
  |agg cs=>cases x with
   |agg l=>exact hz aS V.tip1 h1 cs l.toList h
   |_=>rfl
  |lst e t xs=>cases x<;>(simp only[bK];exact h1 _ _ h)
  |own e xs=>simp[V.tip2,V.tip1]at h
  |_=>cases x<;>rfl
 cases v with
 |tup cs=>cases x with
  |tuple l=>exact hz bK V.tip2 h2 cs l.toList h
  |_=>rfl
 |agg cs=>cases x<;>(simp only[aG];exact h2 (.agg cs) _ h)
 |lst e t xs=>cases x<;>(simp only[aG];exact h2 (.lst e t xs) _ h)
 |own e xs=>simp[V.tips,V.tip2,V.tip1]at h
 |_=>cases x<;>rfl
theorem toList_mk (s:List UInt8):(⟨s.toArray⟩:ByteArray).toList=s:=by rw[ByteArray.toList_eq]
theorem aP {R:Type} {b:Bool} {x:Option R} {r:R} (h:chk b x=some r):b=true∧x=some r:=by
 unfold chk at h;split at h<;>simp_all
theorem Jo {R:Type} {op:BinOp} {k:IntKind} {a b:Int} {K:V→Option R} {r:R} (t:TypeId) (h:BY op k a b K=some r):
  ∃v u,K v=some r∧(∀w',(binOp op t (.int k a) (.int k b)).run c.P w' = .ok u w')∧(∀w G μ,Rep c w G μ v u)∧v.tips=false:=by
 unfold BY at h
 cases op<;>simp only at h
 case add=>exact⟨_,_,h,fun w' =>by rw[binOp_add];rfl,fun _ _ _=> .int _ _,rfl⟩
 case sub=>exact⟨_,_,h,fun w' =>by rw[binOp_sub];rfl,fun _ _ _=> .int _ _,rfl⟩
 case mul=>exact⟨_,_,h,fun w' =>by rw[binOp_mul];rfl,fun _ _ _=> .int _ _,rfl⟩
 case quo=>
  obtain⟨h1,h2⟩:=aP h
  have h1:b≠0:=by simpa using h1
  exact⟨_,_,h2,fun w' =>by rw[binOp_quo];simp only[Op.intDiv,if_neg h1];rfl,fun _ _ _=> .int _ _,rfl⟩
 case rem=>
  obtain⟨h1,h2⟩:=aP h
  have h1:b≠0:=by simpa using h1
  exact⟨_,_,h2,fun w' =>by rw[binOp_rem];simp only[Op.intDiv,if_neg h1];rfl,fun _ _ _=> .int _ _,rfl⟩
 case and=>exact⟨_,_,h,fun w' =>by rw[binOp_and];rfl,fun _ _ _=> .int _ _,rfl⟩
 case or=>exact⟨_,_,h,fun w' =>by rw[binOp_or];rfl,fun _ _ _=> .int _ _,rfl⟩
 case xor=>exact⟨_,_,h,fun w' =>by rw[binOp_xor];rfl,fun _ _ _=> .int _ _,rfl⟩
 case andNot=>exact⟨_,_,h,fun w' =>by rw[binOp_andNot];rfl,fun _ _ _=> .int _ _,rfl⟩
 case eql=>exact⟨_,_,h,fun w' =>by rw[binOp_eql];rfl,fun _ _ _=> .bool _,rfl⟩
 case neq=>exact⟨_,_,h,fun w' =>by rw[binOp_neq];rfl,fun _ _ _=> .bool _,rfl⟩
 case lss=>exact⟨_,_,h,fun w' =>by rw[binOp_lss];rfl,fun _ _ _=> .bool _,rfl⟩
 case leq=>exact⟨_,_,h,fun w' =>by rw[binOp_leq];rfl,fun _ _ _=> .bool _,rfl⟩
 case gtr=>exact⟨_,_,h,fun w' =>by rw[binOp_gtr];rfl,fun _ _ _=> .bool _,rfl⟩
 case geq=>exact⟨_,_,h,fun w' =>by rw[binOp_geq];rfl,fun _ _ _=> .bool _,rfl⟩
 all_goals cases h
theorem xU {R:Type} {op:BinOp} {k k' :IntKind} {a b:Int} {K:V→Option R} {r:R} (t:TypeId) (h:rB op k a b K=some r):
  ∃v u,K v=some r∧(∀w',(binOp op t (.int k a) (.int k' b)).run c.P w' = .ok u w')∧(∀w G μ,Rep c w G μ v u)∧v.tips=false:=by
 unfold rB at h
 cases op<;>simp only at h
 case shl=>
  obtain⟨h1,h2⟩:=aP h
  have h1:¬b<0:=by simpa using h1
  exact⟨_,_,h2,fun w' =>by rw[binOp_shl];simp only[Op.shift,if_neg h1];rfl,fun _ _ _=> .int _ _,rfl⟩
 case shr=>
  obtain⟨h1,h2⟩:=aP h
  have h1:¬b<0:=by simpa using h1
  exact⟨_,_,h2,fun w' =>by rw[binOp_shr];simp only[Op.shift,if_neg h1];rfl,fun _ _ _=> .int _ _,rfl⟩
 all_goals cases h
theorem Jp {R:Type} {op:BinOp} {x y:List UInt8} {K:V→Option R} {r:R} (t:TypeId) (h:BZ op x y K=some r):
  ∃v u,K v=some r∧(∀w',(binOp op t (.string ⟨x.toArray⟩) (.string ⟨y.toArray⟩)).run c.P w' = .ok u w')∧(∀w G μ,Rep c w G μ v u)∧v.tips=false:=by
 unfold BZ at h
 have hb:∀op:BinOp,op≠ .shl→op≠ .shr→binOp op t (.string ⟨x.toArray⟩) (.string ⟨y.toArray⟩)=Op.stringOp op ⟨x.toArray⟩ ⟨y.toArray⟩:=by
  intro op h1 h2;cases op<;>first|rfl|exact absurd rfl h1|exact absurd rfl h2
 cases op<;>simp only at h
 case add=>
  obtain⟨h1,h2⟩:=aP h
  have h1:x.length+y.length≤9223372036854775807:=by simpa[fK]using h1
  refine⟨_, .string (⟨x.toArray⟩++⟨y.toArray⟩),h2,fun w' =>?_,fun w G μ=>?_,rfl⟩
  ·rw[hb _ (by simp) (by simp)]
   have hs:¬(((⟨x.toArray⟩:ByteArray).size+(⟨y.toArray⟩:ByteArray).size:Nat):Int)>IntKind.i64.max:=by
    have e1:(⟨x.toArray⟩:ByteArray).size=x.length:=by simp[ByteArray.size]
    have e2:(⟨y.toArray⟩:ByteArray).size=y.length:=by simp[ByteArray.size]
    rw[e1,e2,IntKind.max_i64];omega
   simp only[Op.stringOp,if_neg hs];rfl
  ·have:(⟨x.toArray⟩++⟨y.toArray⟩:ByteArray)=⟨(x++y).toArray⟩:=by
    apply ByteArray.ext;simp
   rw[this];exact .str _
 case eql=>exact⟨_, .bool (sEq x y),h,fun w' =>by rw[hb _ (by simp) (by simp)];simp only[Op.stringOp,toList_mk];rfl,fun _ _ _=> .bool _,rfl⟩
 case neq=>exact⟨_, .bool (!sEq x y),h,fun w' =>by rw[hb _ (by simp) (by simp)];simp only[Op.stringOp,toList_mk];rfl,fun _ _ _=> .bool _,rfl⟩
 case lss=>exact⟨_, .bool (sLt x y),h,fun w' =>by rw[hb _ (by simp) (by simp)];simp only[Op.stringOp,toList_mk];rfl,fun _ _ _=> .bool _,rfl⟩
 case leq=>exact⟨_, .bool (sLt x y||sEq x y),h,fun w' =>by rw[hb _ (by simp) (by simp)];simp only[Op.stringOp,toList_mk];rfl,fun _ _ _=> .bool _,rfl⟩
 case gtr=>exact⟨_, .bool (!(sLt x y||sEq x y)),h,fun w' =>by rw[hb _ (by simp) (by simp)];simp only[Op.stringOp,toList_mk];rfl,fun _ _ _=> .bool _,rfl⟩
 case geq=>exact⟨_, .bool (!sLt x y),h,fun w' =>by rw[hb _ (by simp) (by simp)];simp only[Op.stringOp,toList_mk];rfl,fun _ _ _=> .bool _,rfl⟩
 all_goals cases h
theorem gW (hc:bA c) {t:TypeId} {off:Nat} {cs:List V} {l:List Value} {v:V} (h:partV c t off cs=some v) (hl:l.length=cs.length) (hs:∀x∈l,single x=true)
  (hr:∀(i:Nat) v x,cs[i]? =some v→l[i]? =some x→Rep c w G μ v x) {y:Ty} (hy:c.ty t=some y):
  ∃u,(∀w',(part t l.toArray off).run c.P w' = .ok u w')∧Rep c w G μ v u∧u.cells.toList=(l.drop off).take y.size∧off+y.size≤l.length∧(y.agg=true→∃q,u= .agg q)∧(y.agg=false→single u=true):=by
 have hok:=hc.ty t y hy
 have hsz:aE c t=y.size:=by simp[aE,hy]
 unfold partV at h
 split at h
 ·rename_i hle
  rw[hsz]at h hle
  unfold dZ at h
  have hag:kD c t=y.agg:=by simp[kD,hy]
  rw[hag]at h
  have hget:∀(i:Nat) v x,((cs.drop off).take y.size)[i]? =some v→((l.drop off).take y.size)[i]? =some x→Rep c w G μ v x:=by
   intro i v x hv hx
   rw[Uw]at hv hx
   split at hv
   ·rename_i hi
    rw[if_pos hi]at hx
    rw[UN]at hv hx
    exact hr _ v x hv hx
   ·cases hv
  have hlen:((l.drop off).take y.size).length=((cs.drop off).take y.size).length:=by simp[hl]
  cases hagg:y.agg with
  |true=>
   rw[hagg]at h
   simp only[if_true,Option.some.injEq]at h
   subst h
   have ext:l.toArray.extract off (off+y.size)=((l.drop off).take y.size).toArray:=by
    apply Vl
    simp[List.extract_eq_take_drop]
   refine⟨.agg ((l.drop off).take y.size).toArray,fun w' =>?_, .agg _ _ hlen (fun x hx=>hs x (U1 (U0 hx))) hget,by simp[Value.cells],by omega,fun _=>⟨_,rfl⟩,fun h=>by simp at h⟩
   simp only[part,Sem.run_bind,hok.isAgg,Result.andThen_ok,hagg,if_true,hok.sizeOf,Sem.run_pure,ext]
  |false=>
   rw[hagg]at h
   simp only[TL,if_false]at h
   split at h
   ·rename_i x0 hx0
    cases h
    have h1:y.size=1:=by
     have:=congrArg US hx0
     simp at this;omega
    have hlt:off<l.length:=by omega
    have hlx:l[off]? =some l[off]:=TP hlt
    have ht:(l.drop off).take y.size=[l[off]]:=by
     rw[h1,List.take_one,List.head?_drop,hlx];rfl
    have hsx:single l[off]=true:=hs _ (U3 hlt)
    refine⟨l[off],fun w' =>?_,hget 0 v l[off] (by rw[hx0];rfl) (by rw[ht];rfl),?_,by omega,fun h=>by simp at h,fun _=>hsx⟩
    ·have hlt' :off<l.toArray.size:=by simpa using hlt
     simp[part,hok.isAgg,hagg,hlt]
    ·rw[ht]
     cases hx:l[off]<;>simp_all [Value.cells,Go.Ev.single]
   ·cases h
 ·cases h
theorem Ir (hc:bA c):∀(d:Nat) (t:TypeId) (x y:V) (X Y:Value) (b:Bool),eqT c d t x y=some b→Rep c w G μ x X→Rep c w G μ y Y→
  ∀w',(Op.equalIn d t X Y).run c.P w' = .ok b w' :=by
 intro d
 induction d with
 |zero=>intro t x y X Y b h;simp[eqT]at h
 |succ d ih=>
  intro t x y X Y b h hx hy w'
  simp only[eqT]at h
  split at h
  ·cases h
  ·rename_i ty hty
   have hok:=hc.ty t ty hty
   generalize hd:ty.d=dd at h
   split at h
   ·cases h;cases hx;cases hy
    exact run_equalIn_bool' w' d t _ _ (hd▸hok.und)
   ·split at h
    ·rename_i hk
     cases h;cases hx;cases hy
     have:=eq_of_beq hk;subst this
     exact run_equalIn_int w' d t _ _ _ _ (hd▸hok.und)
    ·cases h
   ·cases h;cases hx;cases hy
    rw[run_equalIn_string w' d t _ _ (hd▸hok.und),toList_mk,toList_mk];rfl
   ·cases h;cases hx;cases hy
    have:=hok.und;rw[hd]at this
    simp[Op.equalIn,run_underlying this]
   ·cases h;cases hx;cases hy
    have:=hok.und;rw[hd]at this
    simp[Op.equalIn,run_underlying this]
   ·cases h;cases hx;cases hy
    have:=hok.und;rw[hd]at this
    simp[Op.equalIn,run_underlying this]
   ·rename_i fs xs ys
    split at h
    ·rename_i he
     simp only[TR]at he
     cases hx with
     |agg _ lx hlx hsx hrx=>
     cases hy with
     |agg _ ly hly hsy hry=>
     have hag:pX ty.d=true:=by rw[hd];rfl
     have hp:=hok.eq he.1 hag
     have hf:c.P.fieldsOf t=fs:=by simp[Program.fieldsOf,hok.und,hd]
     rw[run_equalIn_struct w' d t _ _ (by rw[hf,hok.und,hd]) hp.1,hf]
     have hfs:=hok.fields fs hd
     have key : ∀ (l : List Field), (∀ f ∈ l, ∃ y', c.ty f.type = some y') → (l.all fun f => f.name != "_") = true → ∀ b, Dw c (eqT c d) xs ys l = some b →
       (Op.eqFields d lx.toArray ly.toArray l).run c.P w' = .ok b w' :=by
      intro l
      induction l with
      |nil=>intro _ _ b hb;simp[Dw]at hb;subst hb;simp[Op.eqFields]
      |cons f l ihl=>
       intro hfl hn b hb
       simp only[Dw]at hb
       split at hb
       ·rename_i x1 y1 hx1 hy1
        split at hb
        ·rename_i b1 b2 hb1 hb2
         cases hb
         obtain⟨yf,hyf⟩:=hfl f (by simp)
         obtain⟨u1,hu1,hr1,_⟩:=gW hc hx1 hlx hsx hrx hyf
         obtain⟨u2,hu2,hr2,_⟩:=gW hc hy1 hly hsy hry hyf
         simp only[List.all_cons,TR]at hn
         have hnn : f.name ≠ "_" := by simpa using hn.1
         have e1:=ih f.type x1 y1 u1 u2 b1 hb1 hr1 hr2 w'
         have e2:=ihl (fun f hf=>hfl f (by simp[hf])) hn.2 b2 hb2
         simp only[Op.eqFields,if_pos hnn,Sem.run_bind,hu1,hu2,Result.andThen_ok,e1,Sem.run_ite,e2,Sem.run_pure]
         cases b1<;>simp
        ·cases hb
       ·cases hb
     exact key fs.toList (fun f hf=>hfs f (by simpa using hf)) he.2 b h
    ·cases h
   ·cases h
theorem B2 (hc:bA c) {d:Nat} {t:TypeId} {x y:V} {b:Bool} (h:eqT c d t x y=some b):
  ((∃p q,x= .bool p∧y= .bool q)∨(∃k p k' q,x= .int k p∧y= .int k' q)∨(∃p q,x= .str p∧y= .str q)∨(∃i o,x= .ref i o∧y= .raw (.pointer none))∨
   (∃i o,x= .raw (.pointer none)∧y= .ref i o)∨(x= .raw (.pointer none)∧y= .raw (.pointer none))∨
   (∃p q,x= .agg p∧y= .agg q∧c.P.eqGuardType c.P.depth t=false)):=by
 cases d with
 |zero=>simp[eqT]at h
 |succ d=>
  simp only[eqT]at h
  split at h
  ·cases h
  ·rename_i ty hty
   have hok:=hc.ty t ty hty
   generalize hd:ty.d=dd at h
   split at h
   ·exact .inl ⟨_,_,rfl,rfl⟩
   ·exact .inr (.inl ⟨_,_,_,_,rfl,rfl⟩)
   ·exact .inr (.inr (.inl ⟨_,_,rfl,rfl⟩))
   ·exact .inr (.inr (.inr (.inl ⟨_,_,rfl,rfl⟩)))
   ·exact .inr (.inr (.inr (.inr (.inl ⟨_,_,rfl,rfl⟩))))
   ·exact .inr (.inr (.inr (.inr (.inr (.inl ⟨rfl,rfl⟩)))))
   ·split at h
    ·rename_i he
     simp only[TR]at he
     exact .inr (.inr (.inr (.inr (.inr (.inr ⟨_,_,rfl,rfl,(hok.eq he.1 (by rw[hd];rfl)).2⟩)))))
    ·cases h
   ·cases h
theorem Kx (hc:bA c) {R:Type} {op:BinOp} {t:TypeId} {x y:V} {X Y:Value} {K:V→Option R} {r:R} (h:Jl c op t x y K=some r) (hx:Rep c w G μ x X) (hy:Rep c w G μ y Y) (ox oy:Operand):
  ∃v u,K v=some r∧(∀w',(do eqGuard op t ox oy X Y;binOp op t X Y:Sem Value).run c.P w' = .ok u w')∧(∀w G μ,Rep c w G μ v u)∧v.tips=false:=by
 unfold Jl at h
 split at h
 ·rename_i k a k' b
  cases hx;cases hy
  split at h
  ·obtain⟨v,u,h1,h2,h3⟩:=xU (c:=c) (k' :=k') t h
   exact⟨v,u,h1,fun w' =>by rw[eqGuard_at_int];simpa using h2 w',h3⟩
  ·obtain⟨v,u,h1,h2,h3⟩:=xU (c:=c) (k' :=k') t h
   exact⟨v,u,h1,fun w' =>by rw[eqGuard_at_int];simpa using h2 w',h3⟩
  ·split at h
   ·rename_i hk
    have:=eq_of_beq hk;subst this
    obtain⟨v,u,h1,h2,h3⟩:=Jo (c:=c) t h
    exact⟨v,u,h1,fun w' =>by rw[eqGuard_at_int];simpa using h2 w',h3⟩
   ·cases h
 ·cases hx;cases hy
  obtain⟨v,u,h1,h2,h3⟩:=Jp (c:=c) t h
  exact⟨v,u,h1,fun w' =>by rw[eqGuard_at_string];simpa using h2 w',h3⟩
 ·rename_i hni hns
  have guard:∀b,eqT c 20 t x y=some b→∀w',(eqGuard op t ox oy X Y).run c.P w' = .ok () w' :=by
   intro b hb w'
   rcases B2 hc hb with⟨p,q,rfl,rfl⟩|⟨k,p,k',q,rfl,rfl⟩|⟨p,q,rfl,rfl⟩|⟨i,o,rfl,rfl⟩|⟨i,o,rfl,rfl⟩|⟨rfl,rfl⟩|⟨p,q,rfl,rfl,hg⟩
   ·cases hx;rw[eqGuard_at_bool];rfl
   ·cases hx;rw[eqGuard_at_int];rfl
   ·cases hx;rw[eqGuard_at_string];rfl
   ·cases hx;rw[eqGuard_at_pointer];rfl
   ·cases hx;rw[eqGuard_at_pointer];rfl
   ·cases hx;rw[eqGuard_at_pointer];rfl
   ·cases hx;cases hy;exact run_eqGuard_agg w' op t ox oy _ _ hg
  have big:∀b,eqT c 20 t x y=some b→∀w',(Op.equal t X Y).run c.P w' = .ok b w' :=by
   intro b hb w'
   have mono:∀(d:Nat) (t:TypeId) (x y:V) (b:Bool),eqT c d t x y=some b→∀k,eqT c (d+k) t x y=some b:=by
    intro d
    induction d with
    |zero=>intro t x y b h;simp[eqT]at h
    |succ d ihd=>
     intro t x y b h k
     rw[Nat.add_right_comm]
     simp only[eqT]at h ⊢
     split at h
     ·cases h
     ·split at h<;>first|exact h|skip
      rename_i ty fs xs ys hd
      split at h
      ·rename_i hcnd
       rw[if_pos hcnd]
       have fsM:∀(l:List Field) b,Dw c (eqT c d) xs ys l=some b→Dw c (eqT c (d+k)) xs ys l=some b:=by
        intro l
        induction l with
        |nil=>intro b h;exact h
        |cons f l ihl=>
         intro b h
         simp only[Dw]at h ⊢
         split at h
         ·split at h
          ·rename_i b1 b2 h1 h2
           rw[ihd _ _ _ _ h1 k,ihl _ h2];exact h
          ·cases h
         ·cases h
       exact fsM _ _ h
      ·cases h
   have:=Ir (w:=w) (G:=G) (μ:=μ) hc 10000 t x y X Y b (mono 20 t x y b hb 9980) hx hy w'
   exact this
  have be:binOp .eql t X Y=(do pure (.bool (←Op.equal t X Y)):Sem Value)∧binOp .neq t X Y=(do pure (.bool (!(←Op.equal t X Y))):Sem Value)∨(eqT c 20 t x y).isNone:=by
   cases hq:eqT c 20 t x y with
   |none=>exact .inr rfl
   |some b=>
    refine .inl ?_
    rcases B2 hc hq with⟨p,q,rfl,rfl⟩|⟨k,p,k',q,rfl,rfl⟩|⟨p,q,rfl,rfl⟩|⟨i,o,rfl,rfl⟩|⟨i,o,rfl,rfl⟩|⟨rfl,rfl⟩|⟨p,q,rfl,rfl,hg⟩
    ·cases hx;cases hy;exact⟨rfl,rfl⟩
    ·exact absurd rfl (hni _ _ _ _ rfl)
    ·exact absurd rfl (hns _ _ rfl)
    ·cases hx;cases hy;exact⟨rfl,rfl⟩
    ·cases hx;cases hy;exact⟨rfl,rfl⟩
    ·cases hx;cases hy;exact⟨rfl,rfl⟩
    ·cases hx;cases hy;exact⟨rfl,rfl⟩
  split at h
  ·split at h
   ·rename_i b hb
    refine⟨_, .bool b,h,fun w' =>?_,fun _ _ _=> .bool _,rfl⟩
    rcases be with be|be
    ·simp only[Sem.run_bind,guard b hb w',Result.andThen_ok,be.1,big b hb w',Sem.run_pure]
    ·rw[hb]at be;simp at be
   ·cases h
  ·split at h
   ·rename_i b hb
    refine⟨_, .bool (!b),h,fun w' =>?_,fun _ _ _=> .bool _,rfl⟩
    rcases be with be|be
    ·simp only[Sem.run_bind,guard b hb w',Result.andThen_ok,be.2,big b hb w',Sem.run_pure]
    ·rw[hb]at be;simp at be
   ·cases h
  ·cases h
theorem eqGuard_at_iface (op:BinOp) (t:TypeId) (x y:Operand) (u:TypeId) (a v:Value):eqGuard op t x y (.iface u a) v=pure ():=by cases op<;>rfl
theorem xW (hc:bA c) {t u:TypeId} {ms:Array (String×TypeId)} {y:Ty} (ht:c.P.underlying t=some (.interface ms)) (hy:c.ty u=some y) (he:y.eq=true) {X Y:Value} {b:Bool}
  (h:(Op.equalIn 9999 u X Y).run c.P w= .ok b w):(Op.equal t (.iface u X) (.iface u Y)).run c.P w= .ok b w:=by
 obtain⟨i,hi,hcm⟩:=(hc.ty u y hy).cmp he
 unfold Op.equal Op.maxDepth
 show(Op.equalIn (9999+1) t (.iface u X) (.iface u Y)).run c.P w= .ok b w
 unfold Op.equalIn
 simp[run_underlying ht,typeInfo,hi,hcm,h]
theorem sE {t u u' :TypeId} {ms:Array (String×TypeId)} (ht:c.P.underlying t=some (.interface ms)) (hu:¬u=u') (X Y:Value):(Op.equal t (.iface u X) (.iface u' Y)).run c.P w= .ok false w:=by
 unfold Op.equal Op.maxDepth
 show(Op.equalIn (9999+1) t (.iface u X) (.iface u' Y)).run c.P w= .ok false w
 unfold Op.equalIn
 simp[run_underlying ht,hu]
theorem EF (hc:bA c) {R:Type} {t t1 t2:TypeId} {v1 v2:V} {X Y:Value} {K:Bool→Option R} {r:R} {ms:Array (String×TypeId)} (ht:c.P.underlying t=some (.interface ms)) (h:Dx c t1 v1 t2 v2 K=some r)
  (hx:Rep c w G μ v1 X) (hy:Rep c w G μ v2 Y):∃b,K b=some r∧∀w',(Op.equal t (.iface t1 X) (.iface t2 Y)).run c.P w' = .ok b w' :=by
 unfold Dx at h
 split at h
 ·rename_i k n hty
  have hok:=hc.ty _ _ hty
  split at h
  ·rename_i he
   have he:=eq_of_beq he
   subst he
   obtain⟨hf,h⟩:=aP h
   cases v1<;>simp[CSh.fits]at hf
   subst hf
   cases hx;cases hy
   refine⟨_,h,fun w' =>?_⟩
   exact xW (w:=w') hc ht hty rfl (run_equalIn_int w' 9998 t1 _ _ _ _ hok.und)
  ·rename_i he
   exact⟨_,h,fun w' =>sE (w:=w') ht (by simpa using he) _ _⟩
 ·rename_i s hty
  have hok:=hc.ty _ _ hty
  split at h
  ·rename_i he
   have he:=eq_of_beq he
   subst he
   obtain⟨hf,h⟩:=aP h
   cases v1<;>simp[CSh.fits]at hf
   cases hx;cases hy
   refine⟨_,h,fun w' =>?_⟩
   refine xW (w:=w') hc ht hty rfl ?_
   rw[run_equalIn_string w' 9998 t1 _ _ hok.und,toList_mk,toList_mk];rfl
  ·rename_i he
   exact⟨_,h,fun w' =>sE (w:=w') ht (by simpa using he) _ _⟩
 ·cases h
theorem Ky (hc:bA c) {R:Type} {op:BinOp} {t:TypeId} {x y:V} {X Y:Value} {K:V→Option R} {r:R} (ox oy:Operand) (h:GY c op t (isConst oy) x y K=some r) (hx:Rep c w G μ x X) (hy:Rep c w G μ y Y):
  ∃v u,K v=some r∧(∀w',(do eqGuard op t ox oy X Y;binOp op t X Y:Sem Value).run c.P w' = .ok u w')∧(∀w G μ,Rep c w G μ v u)∧v.tips=false:=by
 unfold GY at h
 split at h
 ·rename_i t1 v1 t2 v2
  cases hx with
  |ifc _ _ X hx=>
  cases hy with
  |ifc _ _ Y hy=>
  split at h
  ·rename_i ha
   have ht:∃ms,c.P.underlying t=some (.interface ms):=by
    unfold N5 at ha
    split at ha
    ·rename_i ms _ _ _ _ _ _ hty
     exact⟨ms,(hc.ty _ _ hty).und⟩
    ·cases ha
   obtain⟨ms,ht⟩:=ht
   split at h
   ·obtain⟨b,h1,h2⟩:=EF hc ht h hx hy
    refine⟨_, .bool b,h1,fun w' =>?_,fun _ _ _=> .bool _,rfl⟩
    rw[eqGuard_at_iface]
    show(do pure ();pure (.bool (←Op.equal t (.iface t1 X) (.iface t2 Y))):Sem Value).run c.P w' =_
    simp[h2 w']
   ·obtain⟨b,h1,h2⟩:=EF hc ht h hx hy
    refine⟨_, .bool (!b),h1,fun w' =>?_,fun _ _ _=> .bool _,rfl⟩
    rw[eqGuard_at_iface]
    show(do pure ();pure (.bool (!(←Op.equal t (.iface t1 X) (.iface t2 Y)))):Sem Value).run c.P w' =_
    simp[h2 w']
   ·cases h
  ·cases h
 ·rename_i b t1 v1
  split at h
  ·rename_i ha
   rw[TR]at ha
   obtain⟨hlit,ha⟩:=ha
   have ht:∃ms,c.P.underlying t=some (.interface ms):=by
    unfold P7 at ha
    split at ha
    ·rename_i y hy
     have hu:=(hc.ty _ _ hy).und
     cases hd:y.d<;>rw[hd]at ha hu<;>first
      |exact⟨_,hu⟩
      |cases ha
    ·cases ha
   obtain⟨ms,ht⟩:=ht
   cases hy
   have heq:∀w',(Op.equal t X .nilIface).run c.P w' = .ok b w' :=by
    intro w'
    cases hx<;>(unfold Op.equal Op.maxDepth;show(Op.equalIn (9999+1) t _ _).run c.P w' =_;unfold Op.equalIn;simp[run_underlying ht])
   have hg:∀w',(eqGuard op t ox oy X .nilIface).run c.P w' = .ok () w' :=by
    intro w'
    cases oy with
    |const q=>
     cases hx<;>cases op<;>simp[eqGuard]
    |_=>cases hlit
   split at h
   ·refine⟨_, .bool b,h,fun w' =>?_,fun _ _ _=> .bool _,rfl⟩
    simp only[Sem.run_bind,hg,Result.andThen_ok]
    have hb:binOp .eql t X .nilIface=(do pure (.bool (←Op.equal t X .nilIface)):Sem Value):=by cases hx<;>rfl
    rw[hb];simp[heq w']
   ·refine⟨_, .bool (!b),h,fun w' =>?_,fun _ _ _=> .bool _,rfl⟩
    simp only[Sem.run_bind,hg,Result.andThen_ok]
    have hb:binOp .neq t X .nilIface=(do pure (.bool (!(←Op.equal t X .nilIface))):Sem Value):=by cases hx<;>rfl
    rw[hb];simp[heq w']
   ·cases h
  ·cases h
 ·exact Kx hc h hx hy ox oy
end
theorem uI (c:Cfg) {R:Type} (S:St) (t:TypeId) (p:V) (K:V→Option R):Kt c S t p K=match jR c S t p with|some v=>K v|none=>none:=by
 unfold Kt
 split
 ·rename_i q hq
  unfold N6 at hq
  split at hq
  ·rename_i y hy
   split at hq
   ·rename_i k i off hd ha
    split at hq
    ·rename_i cs hob
     split at hq
     ·rename_i hc
      cases hq
      simp only[TR,beq_iff_eq]at hc
      obtain⟨h1,h2⟩:=hc
      have hsz:aE c t=1:=by unfold aE;rw[hy];exact h1
      have hag:kD c t=false:=by unfold kD;rw[hy];exact ha
      simp only[jR,hob,partV,hsz,dZ,hag,TL,if_false]
      by_cases hl:off<cs.length
      ·rw[if_pos (by omega)]
       have hd:(cs.drop off).take 1=[cs[off]]:=by rw[UM hl];rfl
       have hm:=Ux.1 h2 _ (U3 hl)
       have hv:cs[off]= .int k (cs[off]).getI:=by
        cases hcs:cs[off]<;>rw[hcs]at hm<;>simp[CSh.fits]at hm
        subst hm;rfl
       rw[hd]
       simp only[chk,decide_eq_true hl,if_true,Ul,TP hl,Vg]
       rw[←hv]
      ·rw[if_neg (by omega)]
       simp[chk,hl]
     ·cases hq
    ·cases hq
   ·cases hq
  ·cases hq
 ·rfl
end Go.Ev
end
section
namespace Go.Ev
def blk (w:World) (b:Nat) (o:Obj):World:={ w with heap:=w.heap.setIfInBounds b o }
theorem dJ {w:World} {b:Nat} {o:Obj} (h:b<w.heap.size):(blk w b o).heap[b]? =some o:=by simp[blk,h]
theorem bD {w:World} {b k:Nat} {o:Obj} (h:k≠b):(blk w b o).heap[k]? =w.heap[k]? :=by
 simp only[blk];rw[VU (Ne.symm h)]
theorem bV {w:World} {b:Nat} {o:Obj}:(blk w b o).heap.size=w.heap.size:=by simp[blk]
theorem G9 {x:Value} (h:single x=true):x.oneCell' =true:=by cases x<;>simp_all [single,Value.oneCell']
theorem eE {x:Value} (h:single x=true):x.cells= #[x]:=by cases x<;>simp_all [single,Value.cells]
theorem EG {w:World} {b o:Nat} {cs:Array Value} {e:TypeId} {fr:Nat×Nat} (h:w.heap[b]? =some (.cells cs e fr)) (v:Value):
  w.setCell ⟨b,o,none⟩ v=blk w b (.cells (cs.setIfInBounds o v) e fr):=by
 have hlt:=eI h
 simp only[World.setCell,blk]
 congr 1
 apply Array.ext
 ·simp
 ·intro i h1 h2
  simp at h1 h2
  by_cases hi:b=i
  ·subst hi
   have:w.heap[b]= .cells cs e fr:=by simpa[Uj hlt]using h
   simp[Array.getElem_modify,this]
  ·rw[Array.getElem_modify,if_neg hi];exact(Array.getElem_setIfInBounds_ne (by simpa using h2) hi).symm
theorem dS (P:Program) (b:Nat) (off:Nat) (e:TypeId) (fr:Nat×Nat):∀(vs:List Value) (i:Nat) (cs:Array Value) (w:World),w.heap[b]? =some (.cells cs e fr)→
  off+i+vs.length≤cs.size→(∀x∈vs,single x=true)→(∀o,off+i≤o→o<off+i+vs.length→¬(fr.1≤o∧o<fr.2))→
  ∃cs',(storeCells ⟨b,off,none⟩ vs i).run P w= .ok () (blk w b (.cells cs' e fr))∧cs'.toList=cs.toList.take (off+i)++vs++cs.toList.drop (off+i+vs.length)
 |[],i,cs,w,h,_,_,_=>by
  refine⟨cs,?_,by simp⟩
  have hlt:=eI h
  have:blk w b (.cells cs e fr)=w:=by
   simp only[blk]
   have hb:w.heap[b]= .cells cs e fr:=by simpa[Uj hlt]using h
   rw[←hb]
   have:w.heap.setIfInBounds b w.heap[b]=w.heap:=by
    apply Array.ext
    ·simp
    ·intro k h1 h2
     by_cases hk:b=k
     ·subst hk;simp
     ·exact Array.getElem_setIfInBounds_ne h2 hk
   rw[this]
  simp[storeCells,this]
 |v::vs,i,cs,w,h,hl,hs,hf=>by
  have hlt:=eI h
  simp only[Ua]at hl
  have hc:w.cell? ⟨b,off+i,none⟩=some cs[off+i]:=by
   simp only[World.cell?,h];simp[Uj (show off+i<cs.size by omega)]
  have hfz:w.frozen? ⟨b,off+i,none⟩=false:=by
   have:=hf (off+i) (TY _) (by simp only[Ua];omega)
   simp only[World.frozen?,h]
   simpa using this
  have hst:(store ((⟨b,off,none⟩:Addr).add i) v).run P w= .ok () (blk w b (.cells (cs.setIfInBounds (off+i) v) e fr)):=by
   rw[run_store P w _ v _ (G9 (hs v (by simp))),Addr.add_lit,hc]
   simp only[hfz,TL,if_false,EG h]
  obtain⟨cs',h1,h2⟩:=dS P b off e fr vs (i+1) (cs.setIfInBounds (off+i) v) (blk w b (.cells (cs.setIfInBounds (off+i) v) e fr)) (dJ hlt)
   (by simp;omega) (fun x hx=>hs x (by simp[hx])) (fun o ho ho' =>hf o (by omega) (by simp only[Ua];omega))
  refine⟨cs',?_,?_⟩
  ·simp only[storeCells,Sem.run_bind,hst,Result.andThen_ok,h1]
   congr 1
   simp[blk]
  ·rw[h2]
   simp only[Array.toList_setIfInBounds,Ua]
   have e1:(cs.toList.set (off+i) v).take (off+(i+1))=cs.toList.take (off+i)++[v]:=by
    rw[show off+(i+1)=off+i+1 by omega,VE]
    have hlt' :off+i<cs.toList.length:=by simp;omega
    rw[Us hlt',List.take_set_of_le (TY _)];rfl
   have e2:(cs.toList.set (off+i) v).drop (off+(i+1)+vs.length)=cs.toList.drop (off+i+(vs.length+1)):=by
    rw[List.drop_set_of_lt (by omega)];congr 1;omega
   rw[e1,e2];simp
section
variable {c : Cfg} {E : Ent} {w w' : World} {G G' : Gh} {μ : List Nat} {env : List V} {tmps : List Value} {objs : List Ob}
theorem Sim.leaf_lt (h:Sim c E w G μ env tmps objs) {b:Nat} (hb:0<cnt b (aH aG env tmps)+cnt b (aM w objs μ)+μ.count b):b<w.heap.size:=by
 by_cases h1:0<cnt b (aH aG env tmps)
 ·obtain⟨l,hl,rfl⟩:=cP.1 h1
  exact(h.inv.ok l (by simp[hl])).lt
 by_cases h2:0<cnt b (aM w objs μ)
 ·obtain⟨l,hl,rfl⟩:=cP.1 h2
  exact(h.inv.ok l (by simp[hl])).lt
 ·exact(h.inv.mine b (UQ.1 (by omega))).1
theorem Sim.newList (h:Sim c E w G μ env tmps objs) (hx:eH w G w' G') {e:TypeId} {t:Bool} {xs:List V} {l:List Value} {cap:Nat} {cs:Array Value} {fr:Nat×Nat}
  (hb:w'.heap[w.heap.size]? =some (.cells cs e fr)) (hG:G' w.heap.size=(flat l).length) (hcs:∀(j:Nat) x,(flat l)[j]? =some x→cs[j]? =some x)
  (hl:l.length=xs.length) (hr:∀(i:Nat) v x,xs[i]? =some v→l[i]? =some x→Rep c w' G' [] v x) (hf:∀v∈xs,cI c e v=true) (hs:∀x∈l,x.cells.size=aE c e)
  (hz:0<aE c e) (hc:xs.length≤cap) (hcap:cap*aE c e≤cs.size) (hfr:fr.1=fr.2∨cs.size≤fr.1)
  (hfl:(flat l).length=xs.length*aE c e):
  Sim c E w' G' μ (.lst e t xs::env) (.slice (some ⟨w.heap.size,0,none⟩) xs.length cap::tmps) objs:=by
 have h' :=h.ext hx
 have hrow:pO w' G' w.heap.size 0 (flat l):=by
  intro j x hj
  refine⟨?_,?_⟩
  ·simp only[World.cell?,hb,UD];simpa using hcs j x hj
  ·rw[hG,UD];exact(TQ.1 hj).1
 have hrep:Rep c w' G' μ (.lst e t xs) (.slice (some ⟨w.heap.size,0,none⟩) xs.length cap):=
  .lst e t xs _ cap l hl hr hf hs hz hc ⟨fun h=>(by cases h),fun p hp=>(by cases hp;exact eI hb)⟩ (fun p hp _=>by cases hp;exact⟨rfl,hrow⟩)
 have hO:aM w' objs μ=aM w objs μ:=cG objs μ fun b hb=>(hx.keep b (h.inv.mine b hb).1).1
 have hnew:∀b,cnt b (aG (.lst e t xs) (.slice (some ⟨w.heap.size,0,none⟩) xs.length cap))≤(if b=w.heap.size then 1 else 0):=by
  intro b
  cases t with
  |false=>simp[aG,bK,aS,cnt]
  |true=>
   simp only[aG,bK,aS]
   split
   ·by_cases hbb:b=w.heap.size
    ·simp[cnt,hbb]
    ·have:¬w.heap.size=b:=fun e=>hbb e.symm
     simp[cnt,hbb,this]
   ·simp[cnt]
 have hold:cnt w.heap.size (aH aG env tmps)+cnt w.heap.size (aM w objs μ)+μ.count w.heap.size=0:=by
  rcases VH (cnt w.heap.size (aH aG env tmps)+cnt w.heap.size (aM w objs μ)+μ.count w.heap.size)with h0|h0
  ·exact h0
  ·exact absurd (h.leaf_lt h0) (Wg _)
 have hzz:aH aG (.lst e t xs::env) (.slice (some ⟨w.heap.size,0,none⟩) xs.length cap::tmps)=
   aG (.lst e t xs) (.slice (some ⟨w.heap.size,0,none⟩) xs.length cap)++aH aG env tmps:=rfl
 refine⟨⟨by simpa using h'.inv.len,fun i u y hu hy=>?_,h'.inv.olen,h'.inv.obs,fun b=>?_,fun q hq=>?_,h'.inv.mine,h'.inv.none,h'.inv.glob⟩,h'.stp,fun b hb' hcc=>?_,h'.pre⟩
 ·cases i with
  |zero=>simp at hu hy;subst hu;subst hy;exact hrep
  |succ i=>exact h'.inv.rep i u y (by simpa using hu) (by simpa using hy)
 ·rw[hzz,aK]
  have h1:=hnew b
  have h2:=h.inv.one b
  rw[hO]
  by_cases hbb:b=w.heap.size
  ·subst hbb;simp at h1;omega
  ·simp[hbb]at h1;omega
 ·rw[hzz,Ud,TV]at hq
  rcases hq with hq|hq
  ·cases t with
   |false=>simp[aG,bK,aS]at hq
   |true=>
    simp only[aG,bK,aS]at hq
    split at hq
    ·simp at hq;subst hq
     exact⟨rfl,cs,e,fr,hb,by simp[eA,hG,hfl],by simpa using hcap,hfr,rfl,rfl⟩
    ·cases hq
  ·exact h'.inv.ok q hq
 ·refine h'.own b hb' ?_
  rw[hzz,aK]at hcc
  have h1:=hnew b
  have:b≠w.heap.size:=fun e=>by have:=h.stp.size;omega
  simp[this]at h1
  omega
theorem eH.of_alloc (hn:∀b,w.heap.size≤b→G b=0) (o:Obj) (n:Nat):eH w G (w.alloc o) (fun b=>if b=w.heap.size then n else G b):=by
 refine⟨by simp,fun b hb=>⟨?_,by simp[Nat.ne_of_lt hb]⟩,fun b hb=>?_,rfl,rfl,rfl⟩
 ·show(w.heap.push o)[b]? =_
  rw[Array.getElem?_push,if_neg (by omega)]
 ·simp at hb
  have:b≠w.heap.size:=by omega
  simp[this,hn b (by omega)]
theorem eH.of_drew (hn:∀b,w.heap.size≤b→G b=0):eH w G w.drew G:=⟨TY _,fun _ _=>⟨rfl,rfl⟩,hn,rfl,rfl,rfl⟩
theorem eH.trans {w'' :World} {G'' :Gh} (h:eH w G w' G') (k:eH w' G' w'' G''):eH w G w'' G'' :=
 ⟨Uy h.size k.size,fun b hb=>⟨(k.keep b (Up hb h.size)).1.trans (h.keep b hb).1,(k.keep b (Up hb h.size)).2.trans (h.keep b hb).2⟩,k.none,
  k.os.trans h.os,k.out.trans h.out,k.tape.trans h.tape⟩
theorem kN (w:World):∀(os:List Ob) (bs:List Nat) (o:Ob) (b:Nat),os.length=bs.length→aM w (os++[o]) (bs++[b])=aM w os bs++aM w [o] [b]
 |[],[],o,b,_=>by simp[aM]
 |[],_::_,_,_,h=>by simp at h
 |_::_,[],_,_,h=>by simp at h
 |p::os,q::bs,o,b,h=>by
  simp only[UA,aM,kN w os bs o b (by simpa using h),Ud]
theorem jC {l:List V} (h:l.all V.solid=true):l.all V.single=true:=by
 rw[Ux]at h ⊢
 intro v hv
 have:=h v hv
 cases v<;>first|exact this|cases this
theorem lF {l:List V} {i o:Nat} (h:l.all V.solid=true) (hm:V.opt i o∈l):False:=by
 have:=Ux.1 h _ hm
 cases this
theorem Sim.newObj {v:V} {x:Value} (h:Sim c E w G μ (v::env) (x::tmps) objs) (hv0:v.cells.all V.solid=true) (elem:TypeId):
  Sim c E (w.alloc (.cells x.cells elem)) (fun b=>if b=w.heap.size then 0 else G b) (μ++[w.heap.size]) (.ref objs.length 0::env) (.pointer (some ⟨w.heap.size,0,none⟩)::tmps) (objs++[.cells v.cells]):=by
 have hv:=jC hv0
 have hx:=eH.of_alloc (w:=w) (G:=G) h.inv.none (.cells x.cells elem) 0
 have h' :=h.ext hx
 have hrv:=h.inv.rep 0 v x rfl rfl
 obtain⟨hc1,hc2,hc3⟩:=eQ hrv hv
 have hnew:(w.alloc (.cells x.cells elem)).heap[w.heap.size]? =some (.cells x.cells elem):=by show(w.heap.push _)[w.heap.size]? =_;simp
 have hO:aM (w.alloc (.cells x.cells elem)) objs μ=aM w objs μ:=cG objs μ fun b hb=>(hx.keep b (h.inv.mine b hb).1).1
 have hcat:cC (w.alloc (.cells x.cells elem)) w.heap.size=x.cells.toList:=by unfold cC;rw[hnew]
 have hlen:=h.inv.olen
 have hmore:∀{u:V} {y:Value},Rep c (w.alloc (.cells x.cells elem)) (fun b=>if b=w.heap.size then 0 else G b) μ u y→
   Rep c (w.alloc (.cells x.cells elem)) (fun b=>if b=w.heap.size then 0 else G b) (μ++[w.heap.size]) u y:=fun hh=>
  hh.more fun i b _ hb=>by
   rw[TU (TQ.1 hb).1];exact hb
 have hleaf:aH aS v.cells x.cells.toList=aG v x:=by
  by_cases ha:∃cs,v= .agg cs
  ·obtain⟨cs,rfl⟩:=ha
   cases hrv with
   |agg cs l hl hs hr=>simp[aG,bK,V.cells,Value.cells]
  ·have hvc:v.cells=[v]:=by cases v<;>first|rfl|exact absurd ⟨_,rfl⟩ ha
   have hsv:v.single=true:=by simpa[hvc]using hv
   have hsx:=rG hrv hsv
   rw[hvc,eE hsx]
   simp only[aH,UI]
   cases v<;>simp_all [V.single]<;>cases x<;>simp_all [aG,bK,aS]
 have hLO:aM (w.alloc (.cells x.cells elem)) (objs++[.cells v.cells]) (μ++[w.heap.size])=aM w objs μ++aG v x:=by
  rw[kN _ _ _ _ _ hlen,hO]
  simp[aM,hcat,hleaf]
 have hzz:aH aG (v::env) (x::tmps)=aG v x++aH aG env tmps:=rfl
 have hzz' :aH aG (.ref objs.length 0::env) (.pointer (some ⟨w.heap.size,0,none⟩)::tmps)=aH aG env tmps:=by simp[aH,aG,bK,aS]
 have hold:cnt w.heap.size (aH aG (v::env) (x::tmps))+cnt w.heap.size (aM w objs μ)+μ.count w.heap.size=0:=by
  rcases VH (cnt w.heap.size (aH aG (v::env) (x::tmps))+cnt w.heap.size (aM w objs μ)+μ.count w.heap.size)with h0|h0
  ·exact h0
  ·exact absurd (h.leaf_lt h0) (Wg _)
 refine⟨⟨by simpa using h'.inv.len,fun i u y hu hy=>?_,by simp[hlen],fun i o b ho hb=>?_,fun b=>?_,fun q hq=>?_,fun b hb=>?_,h'.inv.none,h'.inv.glob⟩,h'.stp,fun b hb hcc=>?_,?_⟩
 ·cases i with
  |zero=>
   simp at hu hy;subst hu;subst hy
   exact .ref _ 0 _ (by simp[hlen])
  |succ i=>exact hmore (h'.inv.rep (i+1) u y (by simpa using hu) (by simpa using hy))
 ·by_cases hi:i<objs.length
  ·rw[TU hi]at ho
   rw[TU (by omega)]at hb
   have:=h'.inv.obs i o b ho hb
   cases o with
   |cells cs=>
    obtain⟨l,e,fr,h1,h2,h3,h4,h5,h6⟩:=this
    exact⟨l,e,fr,h1,h2,h3,h4,fun i v x hv hx=>hmore (h5 i v x hv hx),h6⟩
   |sit s p=>exact this
   |mp kd vd es=>exact this
   |dead=>trivial
  ·have hi' :i=objs.length:=by
    have:=(TQ.1 ho).1;simp at this;omega
   subst hi'
   rw[hlen]at hb
   simp at ho hb;subst ho;subst hb
   refine⟨x.cells.toList,elem,(0,0),by rw[Array.toArray_toList];exact hnew,fun o _=>by simp,by simpa using hc1,hc2,fun i u y hu hy=>hmore ((hc3 i u y hu hy).mono (hx.sealed h.inv.none)),fun i o ho=>?_⟩
   exact(lF hv0 (List.mem_of_head? ho)).elim
 ·rw[hzz',hLO,aK,VK]
  have h1:=h.inv.one b
  rw[hzz,aK]at h1
  by_cases hb:b=w.heap.size
  ·subst hb
   rw[hzz,aK]at hold
   simp;omega
  ·have:(w.heap.size==b)=false:=by simp;exact fun e=>hb e.symm
   simp[Vx,this];omega
 ·rw[hzz',hLO,TV,TV]at hq
  refine h'.inv.ok q ?_
  rw[hO,hzz]
  simp only[TV]
  rcases hq with hq|hq|hq
  ·exact .inl (.inr hq)
  ·exact .inr hq
  ·exact .inl (.inl hq)
 ·rw[TV]at hb
  rcases hb with hb|hb
  ·exact h'.inv.mine b hb
  ·simp at hb;subst hb;simp
 ·rw[hzz',hLO,aK,VK]at hcc
  refine h'.own b hb ?_
  rw[hO,hzz,aK]
  have:(w.heap.size==b)=false:=by
   have:=h.stp.size
   simp;omega
  simp[Vx,this]at hcc
  omega
 ·obtain⟨ν,hν⟩:=h.pre
  exact⟨ν++[w.heap.size],by rw[hν];simp⟩
theorem Sim.weakOpt {r:List V} {n:Nat} (h:Sim c E w G μ env tmps (objs++[.cells (.raw (.pointer none)::r)])) (hn:n=objs.length)
  (hel:∀b cs elem fr,μ[n]? =some b→w.heap[b]? =some (.cells cs elem fr)→c.bld elem=true):
  Sim c E w G μ env tmps (objs++[.cells (.opt n 0::r)]):=by
 subst hn
 have hO:∀(os:List Ob) (bs:List Nat),aM w (os++[.cells (.opt objs.length 0::r)]) bs=aM w (os++[.cells (.raw (.pointer none)::r)]) bs:=by
  intro os
  induction os with
  |nil=>
   intro bs
   cases bs with
   |nil=>rfl
   |cons b bs=>
    simp only[UV,aM]
    congr 1
    cases cC w b with
    |nil=>rfl
    |cons x xs=>simp[aH,aS]
  |cons o os ih=>
   intro bs
   cases bs with
   |nil=>rfl
   |cons b bs=>simp only[UA,aM,ih]
 have hlen:=h.inv.olen
 refine⟨⟨h.inv.len,h.inv.rep,by rw[←hlen];simp,fun i o b ho hb=>?_,fun b=>by rw[hO];exact h.inv.one b,fun l hl=>h.inv.ok l (by rwa [hO]at hl),h.inv.mine,h.inv.none,h.inv.glob⟩,h.stp,fun b hb hc=>h.own b hb (by rwa [hO]at hc),h.pre⟩
 by_cases hi:i<objs.length
 ·rw[TU hi]at ho
  exact h.inv.obs i o b (by rw[TU hi];exact ho) hb
 ·have hi' :i=objs.length:=by
   have:=(TQ.1 ho).1;simp at this;omega
  subst hi'
  have h1:=h.inv.obs objs.length (.cells (.raw (.pointer none)::r)) b (by simp) hb
  simp at ho;subst ho
  obtain⟨l,e,fr,g1,g2,g3,g4,g5,g6⟩:=h1
  refine⟨l,e,fr,g1,g2,by simpa using g3,g4,fun i v x hv hx=>?_,fun _ _ _=>hel b _ e fr hb g1⟩
  cases i with
  |zero=>
   simp at hv;subst hv
   have:=g5 0 _ x rfl hx
   cases this
   exact .opt _ 0 b _ hb (.inl rfl)
  |succ i=>exact g5 (i+1) v x (by simpa using hv) hx
end
end Go.Ev
end
section
namespace Go.Ev
def bF (w:World) (o:Ob) (b:Nat):List eC:=match o with| .cells cs=>aH aS cs (cC w b)|_=>[]
section
variable {c : Cfg} {E : Ent} {w w' : World} {G G' : Gh} {μ : List Nat} {env env' : List V} {tmps tmps' : List Value} {objs : List Ob}
theorem cH (w:World) (o:Ob) (os:List Ob) (b:Nat) (bs:List Nat):aM w (o::os) (b::bs)=bF w o b++aM w os bs:=by
 cases o<;>rfl
theorem B5 (q:Nat) (o' :Ob):∀(os:List Ob) (bs:List Nat) (i:Nat) (o:Ob) (b:Nat),os[i]? =some o→bs[i]? =some b→bs.count b≤1→
  (∀k,k≠b→w'.heap[k]? =w.heap[k]?)→cnt q (aM w' (os.set i o') bs)+cnt q (bF w o b)=cnt q (aM w os bs)+cnt q (bF w' o' b)
 |[],_,i,_,_,h,_,_,_=>by simp at h
 |p::os,[],i,_,_,_,h,_,_=>by simp at h
 |p::os,d::bs,0,o,b,h,h',h1,hk=>by
  simp at h h';subst h;subst h'
  have hn:∀k∈bs,w'.heap[k]? =w.heap[k]? :=fun k hkm=>hk k fun e=>by
   subst e
   have:=UQ.2 hkm
   simp at h1;omega
  simp only[V5,cH,aK,cG os bs hn];omega
 |p::os,d::bs,i+1,o,b,h,h',h1,hk=>by
  simp at h h'
  have hdb:d≠b:=fun e=>by
   subst e
   have:=UQ.2 (Uu h')
   simp at h1;omega
  have h1' :bs.count b≤1:=by simp[Vx]at h1;split at h1<;>omega
  have:=B5 q o' os bs i o b h h' h1' hk
  have hd:bF w' p d=bF w p d:=by simp only[bF,cC,hk d hdb]
  simp only[VG,cH,aK,hd];omega
theorem sF {l:eC} (o' :Ob):∀(os:List Ob) (bs:List Nat) (i:Nat) (b:Nat),bs[i]? =some b→bs.count b≤1→
  (∀k,k≠b→w'.heap[k]? =w.heap[k]?)→l∈aM w' (os.set i o') bs→l∈bF w' o' b∨l∈aM w os bs
 |[],_,i,_,_,_,_,h=>by simp[aM]at h
 |p::os,[],i,_,h,_,_,_=>by simp at h
 |p::os,d::bs,0,b,h',h1,hk,h=>by
  simp at h';subst h'
  have hn:∀k∈bs,w'.heap[k]? =w.heap[k]? :=fun k hkm=>hk k fun e=>by
   subst e
   have:=UQ.2 hkm
   simp at h1;omega
  simp only[V5,cH,TV,cG os bs hn]at h ⊢
  rcases h with h|h
  ·exact .inl h
  ·exact .inr (.inr h)
 |p::os,d::bs,i+1,b,h',h1,hk,h=>by
  simp at h'
  have hdb:d≠b:=fun e=>by
   subst e
   have:=UQ.2 (Uu h')
   simp at h1;omega
  have h1' :bs.count b≤1:=by simp[Vx]at h1;split at h1<;>omega
  have hd:bF w' p d=bF w p d:=by simp only[bF,cC,hk d hdb]
  simp only[VG,cH,TV,hd]at h ⊢
  rcases h with h|h
  ·exact .inr (.inl h)
  ·rcases sF o' os bs i b h' h1' hk h with h|h
   ·exact .inl h
   ·exact .inr (.inr h)
theorem gR (w:World) {l:eC}:∀(os:List Ob) (bs:List Nat) (i:Nat) (o:Ob) (b:Nat),os[i]? =some o→bs[i]? =some b→l∈bF w o b→l∈aM w os bs
 |[],_,i,_,_,h,_,_=>by simp at h
 |p::os,[],i,_,_,_,h,_=>by simp at h
 |p::os,d::bs,0,o,b,h,h',hl=>by
  simp at h h';subst h;subst h'
  rw[cH,TV];exact .inl hl
 |p::os,d::bs,i+1,o,b,h,h',hl=>by
  simp at h h'
  rw[cH,TV];exact .inr (gR w os bs i o b h h' hl)
theorem Sim.reob (h:Sim c E w G μ env tmps objs) {i b:Nat} {o o' :Ob} (ho:objs[i]? =some o) (hb:μ[i]? =some b)
  (hk:∀k,k≠b→w'.heap[k]? =w.heap[k]?) (hs:w'.heap.size=w.heap.size) (hos:w'.os=w.os) (hout:w'.output=w.output) (htape:w'.tape=w.tape)
  (hlen:env'.length≤tmps'.length) (hrep:∀(j:Nat) u y,env'[j]? =some u→tmps'[j]? =some y→Rep c w G μ u y) (hob:uH c w' G μ o' b)
  (hcnt:∀q,cnt q (aH aG env' tmps')+cnt q (bF w' o' b)≤cnt q (aH aG env tmps)+cnt q (bF w o b))
  (hmem:∀l,l∈aH aG env' tmps'∨l∈bF w' o' b→l∈aH aG env tmps∨l∈bF w o b):
  Sim c E w' G μ env' tmps' (objs.set i o'):=by
 have hbm:b∈μ:=Uu hb
 have hone:=h.inv.one b
 have hb1:μ.count b≤1:=by omega
 have hpos:=UQ.2 hbm
 have hG:=(h.inv.mine b hbm).2
 have hseal:iT w G w' G:=by
  refine⟨fun k o ho=>?_,fun _=>TY _,by omega⟩
  have:k≠b:=fun e=>by rw[e,hG]at ho;omega
  exact bU (hk k this)
 have hsum:∀q,cnt q (aH aG env' tmps')+cnt q (aM w' (objs.set i o') μ)+μ.count q≤cnt q (aH aG env tmps)+cnt q (aM w objs μ)+μ.count q:=by
  intro q
  have h1:=B5 (w:=w) (w' :=w') q o' objs μ i o b ho hb hb1 hk
  have h2:=hcnt q
  have h3:cnt q (bF w o b)≤cnt q (aM w objs μ):=by
   have:∀(os:List Ob) (bs:List Nat) (i:Nat),os[i]? =some o→bs[i]? =some b→cnt q (bF w o b)≤cnt q (aM w os bs):=by
    intro os
    induction os with
    |nil=>intro bs i h;simp at h
    |cons p os ih=>
     intro bs i h h'
     cases bs with
     |nil=>simp at h'
     |cons d bs=>
      rw[cH,aK]
      cases i with
      |zero=>simp at h h';subst h;subst h';omega
      |succ i=>have:=ih bs i (by simpa using h) (by simpa using h');omega
   exact this objs μ i ho hb
  omega
 refine⟨⟨hlen,fun j u y hu hy=>(hrep j u y hu hy).mono hseal,by simpa using h.inv.olen,fun j p d hp hd=>?_,fun q=>Uy (hsum q) (h.inv.one q),fun l hl=>?_,fun k hkm=>?_,fun k hks=>h.inv.none k (by omega),fun g k hg=>(h.inv.glob g k hg).mono hseal⟩,
  ⟨by rw[hs];exact h.stp.size,h.stp.sealed.trans hseal,fun k hks hu=>?_,hos.trans h.stp.os,hout.trans h.stp.out,htape.trans h.stp.tape⟩,fun k hks hc=>h.own k hks (Up hc (hsum k)),h.pre⟩
 ·by_cases hji:i=j
  ·subst hji
   rw[Us (TQ.1 ho).1]at hp
   cases hp
   rw[hb]at hd;cases hd
   exact hob
  ·rw[Uq hji]at hp
   have hdb:d≠b:=fun e=>by
    subst e
    have h2:2≤μ.count d:=by
     have:∀(l:List Nat) (i j:Nat),i≠j→l[i]? =some d→l[j]? =some d→2≤l.count d:=by
      intro l
      induction l with
      |nil=>intro i j _ h;simp at h
      |cons a l ih=>
       intro i j hne hi hj
       cases i with
       |zero=>
        cases j with
        |zero=>exact absurd rfl hne
        |succ j=>
         simp at hi hj;subst hi
         have:=UQ.2 (Uu hj)
         rw[List.count_cons_self];omega
       |succ i=>
        cases j with
        |zero=>
         simp at hi hj;subst hj
         have:=UQ.2 (Uu hi)
         rw[List.count_cons_self];omega
        |succ j=>
         have:=ih i j (by omega) (by simpa using hi) (by simpa using hj)
         rw[Vx];omega
     exact this μ i j hji hb hd
    omega
   exact(h.inv.obs j p d hp hd).mono hseal (hk d hdb)
 ·have key:l∈aH aG env tmps++aM w objs μ:=by
   rw[TV]at hl ⊢
   rcases hl with hl|hl
   ·rcases hmem l (.inl hl)with h1|h1
    ·exact .inl h1
    ·exact .inr (gR w objs μ i o b ho hb h1)
   ·rcases sF o' objs μ i b hb hb1 hk hl with h1|h1
    ·rcases hmem l (.inr h1)with h1|h1
     ·exact .inl h1
     ·exact .inr (gR w objs μ i o b ho hb h1)
    ·exact .inr h1
  have hne:l.a.block≠b:=fun e=>by
   have hq:=h.inv.one l.a.block
   rw[TV]at key
   have:0<cnt l.a.block (aH aG env tmps)+cnt l.a.block (aM w objs μ):=by
    rcases key with h1|h1
    ·have:=cP.2 ⟨l,h1,rfl⟩;omega
    ·have:=cP.2 ⟨l,h1,rfl⟩;omega
   rw[e]at hq this;omega
  exact(h.inv.ok l key).same (hk _ hne) rfl (by assumption)
 ·have:=h.inv.mine k hkm
  exact⟨by rw[hs];exact this.1,this.2⟩
 ·have hkb:k≠b:=fun e=>by
   subst e
   exact hu (h.own k hks (by omega))
  have:=h.stp.keep k hks hu
  exact⟨(hk k hkb).trans this.1,this.2⟩
theorem jU:∀(off:Nat) (n old:List V),off+n.length≤old.length→(over off n old).length=old.length
 |0,n,old,h=>by simp at h;simp[over];omega
 |o+1,n,[],h=>by simp at h
 |o+1,n,x::old,h=>by simp at h;simp[over,jU o n old (by omega)]
def dP:(off:Nat)→(new old:List Value)→List Value
 |0,n,old=>n++old.drop n.length
 |o+1,n,x::old=>x::dP o n old
 |_+1,_,[]=>[]
theorem fN:∀(off:Nat) (n old:List Value),off+n.length≤old.length→dP off n old=old.take off++n++old.drop (off+n.length)
 |0,n,old,_=>by simp[dP]
 |o+1,n,[],h=>by simp at h
 |o+1,n,x::old,h=>by
  simp at h
  have:o+1+n.length=o+n.length+1:=by omega
  simp[dP,fN o n old (by omega),this]
theorem uJ {p:V→Value→Prop}:∀(off:Nat) (n old:List V) (N Old:List Value),n.length=N.length→old.length=Old.length→
  (∀(i:Nat) v x,n[i]? =some v→N[i]? =some x→p v x)→(∀(i:Nat) v x,old[i]? =some v→Old[i]? =some x→p v x)→
  ∀(i:Nat) v x,(over off n old)[i]? =some v→(dP off N Old)[i]? =some x→p v x
 |0,n,old,N,Old,hl,hl',h1,h2,i,v,x,hv,hx=>by
  simp only[over,dP]at hv hx
  by_cases hi:i<n.length
  ·rw[TU hi]at hv
   rw[TU (by omega)]at hx
   exact h1 i v x hv hx
  ·rw[Ub (by omega),UN]at hv hx
   rw[←hl]at hx
   exact h2 _ v x hv hx
 |o+1,n,[],N,Old,hl,hl',h1,h2,i,v,x,hv,hx=>by simp[over]at hv
 |o+1,n,y::old,N,[],hl,hl',h1,h2,i,v,x,hv,hx=>by simp[dP]at hx
 |o+1,n,y::old,N,Y::Old,hl,hl',h1,h2,i,v,x,hv,hx=>by
  cases i with
  |zero=>simp[over,dP]at hv hx;subst hv;subst hx;exact h2 0 _ _ rfl rfl
  |succ i=>
   simp only[over,dP,Ve]at hv hx
   exact uJ o n old N Old hl (by simpa using hl') h1 (fun i v x hv hx=>h2 (i+1) v x (by simpa using hv) (by simpa using hx)) i v x hv hx
theorem eJ (f:V→Value→List eC):∀(a b:List V) (A B:List Value),a.length=A.length→aH f (a++b) (A++B)=aH f a A++aH f b B
 |[],b,[],B,_=>by simp[aH]
 |[],b,_::_,B,h=>by simp at h
 |_::_,b,[],B,h=>by simp at h
 |x::a,b,X::A,B,h=>by simp[aH,eJ f a b A B (by simpa using h)]
theorem B6 (f:V→Value→List eC) (q:Nat):∀(n:Nat) (a:List V) (A:List Value),cnt q (aH f (a.drop n) (A.drop n))≤cnt q (aH f a A)
 |0,a,A=>by simp
 |n+1,[],A=>by simp[aH]
 |n+1,x::a,[]=>by simp[aH]
 |n+1,x::a,X::A=>by simp[aH,aK];have:=B6 f q n a A;omega
theorem mV (f:V→Value→List eC) {l:eC}:∀(n:Nat) (a:List V) (A:List Value),l∈aH f (a.drop n) (A.drop n)→l∈aH f a A
 |0,a,A,h=>by simpa using h
 |n+1,[],A,h=>by simp[aH]at h
 |n+1,x::a,[],h=>by simp[aH]at h
 |n+1,x::a,X::A,h=>by simp[aH];exact .inr (mV f n a A (by simpa using h))
theorem B7 (f:V→Value→List eC) (q:Nat):∀(off:Nat) (n old:List V) (N Old:List Value),n.length=N.length→
  cnt q (aH f (over off n old) (dP off N Old))≤cnt q (aH f n N)+cnt q (aH f old Old)
 |0,n,old,N,Old,hl=>by
  simp only[over,dP]
  rw[eJ f _ _ _ _ hl,aK,hl]
  have:=B6 f q N.length old Old
  omega
 |o+1,n,[],N,Old,hl=>by simp[over,aH,cnt]
 |o+1,n,y::old,N,[],hl=>by simp[dP,aH,cnt]
 |o+1,n,y::old,N,Y::Old,hl=>by
  simp only[over,dP,aH,aK]
  have:=B7 f q o n old N Old hl
  omega
theorem mW (f:V→Value→List eC) {l:eC}:∀(off:Nat) (n old:List V) (N Old:List Value),n.length=N.length→
  l∈aH f (over off n old) (dP off N Old)→l∈aH f n N∨l∈aH f old Old
 |0,n,old,N,Old,hl,h=>by
  simp only[over,dP]at h
  rw[eJ f _ _ _ _ hl,TV,hl]at h
  exact h.imp id (mV f N.length old Old)
 |o+1,n,[],N,Old,hl,h=>by simp[over,aH]at h
 |o+1,n,y::old,N,[],hl,h=>by simp[dP,aH]at h
 |o+1,n,y::old,N,Y::Old,hl,h=>by
  simp only[over,dP,aH,TV]at h ⊢
  rcases h with h|h
  ·exact .inr (.inl h)
  ·rcases mW f o n old N Old hl h with h|h
   ·exact .inl h
   ·exact .inr (.inr h)
theorem pY {v:V} {x:Value} (hr:Rep c w G μ v x) (hv:v.cells.all V.single=true):aH aS v.cells x.cells.toList=aG v x:=by
 by_cases ha:∃cs,v= .agg cs
 ·obtain⟨cs,rfl⟩:=ha
  cases hr with
  |agg cs l hl hs hr=>simp[aG,bK,V.cells,Value.cells]
 ·have hvc:v.cells=[v]:=by cases v<;>first|rfl|exact absurd ⟨_,rfl⟩ ha
  have hsv:v.single=true:=by simpa[hvc]using hv
  have hsx:=rG hr hsv
  rw[hvc,eE hsx]
  simp only[aH,UI]
  cases v<;>simp_all [V.single]<;>cases x<;>simp_all [aG,bK,aS]
theorem Kz {n:List V} (hn:n.all V.solid=true):∀{off:Nat} {cs:List V} {elem:TypeId},EE c cs elem→EE c (over off n cs) elem:=by
 intro off cs elem h i o ho
 refine h i o ?_
 cases off with
 |succ off=>cases cs with
  |nil=>simp[over]at ho
  |cons a r=>simpa[over]using ho
 |zero=>cases n with
  |nil=>simpa[over]using ho
  |cons a r=>cases cs with
   |nil=>simp[over]at ho;exact(lF (i:=i) (o:=o) hn (by simp[ho])).elim
   |cons b s=>simp[over]at ho;exact(lF (i:=i) (o:=o) hn (by simp[ho])).elim
theorem Sim.store' {v:V} {x:Value} (h:Sim c E w G μ (v::env) (x::tmps) objs) {i b off:Nat} {cs:List V} (ho:objs[i]? =some (.cells cs)) (hb:μ[i]? =some b)
  (hv0:v.cells.all V.solid=true) (hle:off+v.cells.length≤cs.length):
  ∃w',(storeCells ⟨b,off,none⟩ x.cells.toList).run c.P w= .ok () w'∧(∃l elem fr cs',w.heap[b]? =some (.cells l elem fr)∧w' =blk w b (.cells cs' elem fr)∧cs'.toList=dP off x.cells.toList l.toList)∧
   Sim c E w' G μ env tmps (objs.set i (.cells (over off v.cells cs))):=by
 have hv:=jC hv0
 have hrv:=h.inv.rep 0 v x rfl rfl
 obtain⟨hc1,hc2,hc3⟩:=eQ hrv hv
 obtain⟨l,elem,fr,h1,h2,h3,h4,h5,h6⟩:=h.inv.obs i _ b ho hb
 have hxl:x.cells.toList.length=v.cells.length:=by simpa using hc1
 obtain⟨cs',hrun,hcs'⟩:=dS c.P b off elem fr x.cells.toList 0 l.toArray w h1 (by simp;omega) hc2
  (fun o ho ho' =>h2 o (by rw[hxl]at ho';omega))
 simp only[U2,List.toList_toArray]at hcs'
 have hnew:cs'.toList=dP off x.cells.toList l:=by rw[hcs',fN off _ _ (by omega)]
 have hlt:=eI h1
 have hcat:cC (blk w b (.cells cs' elem fr)) b=cs'.toList:=by unfold cC;rw[dJ hlt]
 have hcat0:cC w b=l:=by unfold cC;rw[h1]
 have hzz:aH aG (v::env) (x::tmps)=aG v x++aH aG env tmps:=rfl
 refine⟨_,hrun,⟨l.toArray,elem,fr,cs',h1,rfl,hnew⟩,?_⟩
 refine h.reob (o' := .cells (over off v.cells cs)) ho hb (fun k hk=>bD hk) bV rfl rfl rfl (by have:=h.inv.len;simpa using this) (fun j u y hu hy=>h.inv.rep (j+1) u y (by simpa using hu) (by simpa using hy)) ?_ (fun q=>?_) (fun q hq=>?_)
 ·have hG:=(h.inv.mine b (Uu hb)).2
  have hseal:iT w G (blk w b (.cells cs' elem fr)) G:=by
   refine⟨fun k o ho=>?_,fun _=>TY _,by rw[bV];exact TY _⟩
   have:k≠b:=fun e=>by rw[e,hG]at ho;omega
   exact bU (bD this)
  have hlen' :cs'.toList.length=l.length:=by
   rw[hcs'];simp;omega
  refine⟨cs'.toList,elem,fr,by rw[dJ hlt],fun o ho=>h2 o (by omega),by rw[hlen',h3,jU off _ _ hle],fun y hy=>?_,fun j u y hu hy=>?_,Kz hv0 h6⟩
  ·rw[hcs']at hy
   simp only[TV]at hy
   rcases hy with(hy|hy)|hy
   ·exact h4 y (U0 hy)
   ·exact hc2 y hy
   ·exact h4 y (U1 hy)
  ·rw[hnew]at hy
   exact uJ (p:=fun u y=>Rep c (blk w b (.cells cs' elem fr)) G μ u y) off v.cells cs x.cells.toList l hxl.symm h3.symm
    (fun i u y hu hy=>(hc3 i u y hu hy).mono hseal) (fun i u y hu hy=>(h5 i u y hu hy).mono hseal) j u y hu hy
 ·simp only[bF,hcat,hcat0,hnew,hzz,aK]
  have:=B7 aS q off v.cells cs x.cells.toList l hxl.symm
  rw[pY hrv hv]at this
  omega
 ·simp only[bF,hcat,hcat0,hnew,hzz,TV]at hq ⊢
  rcases hq with hq|hq
  ·exact .inl (.inr hq)
  ·rcases mW aS off v.cells cs x.cells.toList l hxl.symm hq with hq|hq
   ·rw[pY hrv hv]at hq;exact .inl (.inl hq)
   ·exact .inr hq
theorem Sim.store {v:V} {x:Value} (h:Sim c E w G μ (v::env) (x::tmps) objs) {i b off:Nat} {cs:List V} (ho:objs[i]? =some (.cells cs)) (hb:μ[i]? =some b)
  (hv:v.cells.all V.solid=true) (hle:off+v.cells.length≤cs.length):
  ∃w',(storeCells ⟨b,off,none⟩ x.cells.toList).run c.P w= .ok () w'∧Sim c E w' G μ env tmps (objs.set i (.cells (over off v.cells cs))):=by
 obtain⟨w',h1,_,h2⟩:=h.store' ho hb hv hle
 exact⟨w',h1,h2⟩
end
end Go.Ev
end
section
namespace Go.Ev
section
variable {c : Cfg} {E : Ent} {w w' : World} {G G' : Gh} {μ : List Nat} {env env' : List V} {tmps tmps' : List Value} {objs : List Ob}
theorem fO (a b:List Value):flat (a++b)=flat a++flat b:=by simp[flat]
theorem flat_length {size:Nat}:∀(l:List Value),(∀x∈l,x.cells.size=size)→(flat l).length=l.length*size
 |[],_=>by simp[flat]
 |x::l,h=>by
  have h1:=h x (by simp)
  have h2:=flat_length l (fun y hy=>h y (by simp[hy]))
  simp only[flat,U8,Ug,Ua]at h2 ⊢
  rw[h2,Vq,h1,Vh];omega
theorem Sim.appendIn {e:TypeId} {xs ys:List V} {a:Addr} {m:Nat} (h:Sim c E w G μ (.lst e true xs::env) (.slice (some a) xs.length m::tmps) objs)
  {news:List Value} (hl:news.length=ys.length) (hy0:ys≠[]) (hroom:xs.length+ys.length≤m)
  (hr:∀(i:Nat) v x,ys[i]? =some v→news[i]? =some x→Rep c w G [] v x) (hf:∀v∈ys,cI c e v=true) (hs:∀x∈news,x.cells.size=aE c e)
  (hsin:∀x∈flat news,single x=true):
  a.spot=none∧∃w' G',(storeCells (a.add (xs.length*aE c e)) (flat news)).run c.P w= .ok () w'∧
   Sim c E w' G' μ (.lst e true (xs++ys)::env) (.slice (some a) (xs.length+ys.length) m::tmps) objs:=by
 have hpos:0<ys.length:=by cases ys with|nil=>exact absurd rfl hy0|cons _ _=>simp
 have hlf:aG (.lst e true xs) (.slice (some a) xs.length m)=[⟨e,a,xs.length,m,none⟩]:=by
  simp only[aG,bK,aS,if_pos (show 0<m by omega)]
 have hzz:aH aG (.lst e true xs::env) (.slice (some a) xs.length m::tmps)=⟨e,a,xs.length,m,none⟩::aH aG env tmps:=by
  show aG _ _++aH aG env tmps=_
  rw[hlf];rfl
 obtain⟨hsp,cs,elem,fr,hb,hGa,hcap,hfr,hee⟩:=h.inv.ok ⟨e,a,xs.length,m,none⟩ (by rw[hzz];simp)
 simp only[eA]at hsp hb hGa hcap hfr
 have hfr0:=hfr
 replace hfr:∀o,G a.block≤o→o<cs.size→¬(fr.1≤o∧o<fr.2):=fun o _ ho' =>by omega
 have hrv:=h.inv.rep 0 _ _ rfl rfl
 have hsize0:0<aE c e:=by cases hrv;assumption
 have hnl:(flat news).length=ys.length*aE c e:=by rw[flat_length news hs,hl]
 have ha:a.add (xs.length*aE c e)=⟨a.block,G a.block,none⟩:=by
  obtain⟨ab,ao,asp⟩:=a
  simp only at hsp hGa;subst hsp
  rw[Addr.add_lit,hGa]
 have hmul:(xs.length+ys.length)*aE c e≤m*aE c e:=Vi _ hroom
 rw[Vh]at hmul
 have hlt:=eI hb
 obtain⟨cs',hrun,hcs'⟩:=dS c.P a.block (G a.block) elem fr (flat news) 0 cs w hb (by rw[hnl,hGa];omega) hsin
  (fun o ho ho' =>by
   simp only[U2]at ho ho'
   exact hfr o ho (by rw[hnl,hGa]at ho';omega))
 simp only[U2]at hcs'
 refine⟨hsp,blk w a.block (.cells cs' elem fr),fun k=>if k=a.block then G k+(flat news).length else G k,by rw[ha];exact hrun,?_⟩
 have hone:=h.inv.one a.block
 rw[hzz]at hone
 have hcons:∀q (l:eC) (k:List eC),cnt q (l::k)=(if l.a.block=q then 1 else 0)+cnt q k:=by
  intro q l k;simp only[cnt,List.countP_cons,beq_iff_eq];omega
 rw[hcons]at hone
 simp only[if_true]at hone
 have hE:cnt a.block (aH aG env tmps)=0:=by omega
 have hOO:cnt a.block (aM w objs μ)=0:=by omega
 have hMu:μ.count a.block=0:=by omega
 have hseal:iT w G (blk w a.block (.cells cs' elem fr)) (fun k=>if k=a.block then G k+(flat news).length else G k):=by
  refine⟨fun k o ho=>?_,fun k=>by show G k≤(if k=a.block then G k+(flat news).length else G k);split<;>omega,by rw[bV];exact TY _⟩
  by_cases hk:k=a.block
  ·subst hk
   simp only[World.cell?,dJ hlt,hb]
   have hlen' :o<cs.toList.length:=by
    have:G a.block≤cs.size:=by rw[hGa];omega
    simp;omega
   have e1:cs'.toList[o]? =cs.toList[o]? :=by
    rw[hcs',Ud,TU (by simp at hlen' ⊢;omega),Uw,if_pos ho]
   simpa using e1
  ·exact bU (bD hk)
 have hO:aM (blk w a.block (.cells cs' elem fr)) objs μ=aM w objs μ:=cG objs μ fun b hbm=>bD fun e=>by
  rw[e]at hbm;have:=UQ.2 hbm;omega
 have hrep' :Rep c (blk w a.block (.cells cs' elem fr)) (fun k=>if k=a.block then G k+(flat news).length else G k) μ (.lst e true (xs++ys)) (.slice (some a) (xs.length+ys.length) m):=by
  cases hrv with
  |lst _ _ _ _ _ l hl0 hr0 hf0 hs0 hz0 hc0 ha0 hrow0=>
   have hfl0:(flat l).length=xs.length*aE c e:=by rw[flat_length l hs0,hl0]
   have:=Rep.lst (c:=c) (w:=blk w a.block (.cells cs' elem fr)) (G:=fun k=>if k=a.block then G k+(flat news).length else G k) (μ:=μ) e true (xs++ys) (some a) m (l++news)
    (by simp[hl0,hl]) (fun i v x hv hx=>by
     by_cases hi:i<xs.length
     ·rw[TU hi]at hv
      rw[TU (by omega)]at hx
      exact(hr0 i v x hv hx).mono hseal
     ·rw[Ub (by omega)]at hv hx
      rw[hl0]at hx
      exact(hr _ v x hv hx).mono hseal)
    (fun v hv=>by rw[TV]at hv;exact hv.elim (hf0 v) (hf v))
    (fun x hx=>by rw[TV]at hx;exact hx.elim (hs0 x) (hs x))
    hsize0 (by simpa using hroom) ⟨fun h=>(by cases h),fun p hp=>(by cases hp;rw[bV];exact hlt)⟩
    (fun p hp _=>by
     cases hp
     refine⟨hsp,fun j x hj=>?_⟩
     rw[fO]at hj
     by_cases hjl:j<(flat l).length
     ·rw[TU hjl]at hj
      have hne:xs≠[]:=fun hxe=>by rw[hxe]at hfl0;simp only[Uh,Nat.zero_mul]at hfl0;rw[hfl0]at hjl;exact absurd hjl (Nat.not_lt_zero _)
      exact(hrow0 a rfl hne).2.mono hseal j x hj
     ·rw[Ub (by omega)]at hj
      have hjn:=(TQ.1 hj).1
      have hao:a.off+j=G a.block+(j - (flat l).length):=by rw[hGa];omega
      refine⟨?_,by simp only[if_true];omega⟩
      simp only[World.cell?,dJ hlt]
      have e1:cs'.toList[a.off+j]? =some x:=by
       rw[hcs',hao,Ud,Ub (by simp;omega)]
       rw[TU (by simp;omega)]
       rw[←hj];congr 1
       have:G a.block≤cs.size:=by rw[hGa];omega
       simp;omega
      simpa using e1)
   simpa using this
 have hleaf' :∀l,l∈aG (.lst e true (xs++ys)) (.slice (some a) (xs.length+ys.length) m)→l=⟨e,a,xs.length+ys.length,m,none⟩:=by
  intro l hl
  simp only[aG,bK,aS]at hl
  split at hl<;>simp at hl
  exact hl
 have hcnt' :∀q,cnt q (aG (.lst e true (xs++ys)) (.slice (some a) (xs.length+ys.length) m))≤(if a.block=q then 1 else 0):=by
  intro q
  simp only[aG,bK,aS]
  split
  ·rw[hcons];simp[cnt]
  ·simp[cnt]
 have hzz' :aH aG (.lst e true (xs++ys)::env) (.slice (some a) (xs.length+ys.length) m::tmps)=
   aG (.lst e true (xs++ys)) (.slice (some a) (xs.length+ys.length) m)++aH aG env tmps:=rfl
 have hothers:∀l,l∈aH aG env tmps++aM w objs μ→l.a.block≠a.block:=by
  intro l hl e
  rw[TV]at hl
  rcases hl with hl|hl
  ·have:=cP.2 ⟨l,hl,e⟩;omega
  ·have:=cP.2 ⟨l,hl,e⟩;omega
 refine⟨⟨by simpa using h.inv.len,fun i u y hu hy=>?_,h.inv.olen,fun i o b ho hb' =>?_,fun q=>?_,fun l hl=>?_,fun b hbm=>?_,fun b hbs=>?_,fun g k hg=>(h.inv.glob g k hg).mono hseal⟩,
  ⟨by rw[bV];exact h.stp.size,h.stp.sealed.trans hseal,fun b hbs hu=>?_,h.stp.os,h.stp.out,h.stp.tape⟩,fun b hbs hcc=>?_,h.pre⟩
 ·cases i with
  |zero=>simp at hu hy;subst hu;subst hy;exact hrep'
  |succ i=>exact(h.inv.rep (i+1) u y (by simpa using hu) (by simpa using hy)).mono hseal
 ·exact(h.inv.obs i o b ho hb').mono hseal (bD fun e=>by
   rw[e]at hb';have:=UQ.2 (Uu hb');omega)
 ·rw[hzz',aK,hO]
  have h1:=h.inv.one q
  rw[hzz,hcons]at h1
  have h2:=hcnt' q
  simp only at h1
  split at h1<;>rename_i hq
  ·rw[if_pos hq]at h2;omega
  ·rw[if_neg hq]at h2;omega
 ·rw[hzz',hO,Ud,TV]at hl
  rcases hl with hl|hl
  ·have:=hleaf' l hl;subst this
   refine⟨hsp,cs',elem,fr,dJ hlt,by simp only[eA,if_true];rw[hGa,hnl,Vh];omega,?_,?_,hee⟩
   ·have:cs'.size=cs.size:=by
     have:=congrArg US hcs'
     have h3:G a.block+(flat news).length≤cs.size:=by rw[hGa,hnl];omega
     simp at this;omega
    rw[this];exact hcap
   ·have:cs'.size=cs.size:=by
     have:=congrArg US hcs'
     have h3:G a.block+(flat news).length≤cs.size:=by rw[hGa,hnl];omega
     simp at this;omega
    rw[this];exact hfr0
  ·have hne:=hothers l hl
   have hk:oK c w G l:=h.inv.ok l (by rw[hzz];simp only[TV,UH]at hl ⊢;rcases hl with hl|hl;exact .inl (.inr hl);exact .inr hl)
   exact hk.same (bD hne) (by simp[hne]) (by assumption)
 ·have:=h.inv.mine b hbm
  have hne:b≠a.block:=fun e=>by rw[e]at hbm;have:=UQ.2 hbm;omega
  exact⟨by rw[bV];exact this.1,by simp[hne,this.2]⟩
 ·rw[bV]at hbs
  have hne:b≠a.block:=by omega
  simp[hne,h.inv.none b hbs]
 ·have hne:b≠a.block:=fun e=>by
   subst e
   refine hu (h.own _ hbs ?_)
   rw[hzz,hcons];simp only[if_true];omega
  have:=h.stp.keep b hbs hu
  exact⟨(bD hne).trans this.1,by simp[hne,this.2]⟩
 ·refine h.own b hbs ?_
  rw[hzz',aK,hO]at hcc
  rw[hzz,hcons]
  have h2:=hcnt' b
  simp only at h2 ⊢
  split at h2<;>rename_i hq
  ·rw[if_pos hq];omega
  ·rw[if_neg hq];omega
theorem pZ {e:TypeId} {ys:List V} {news:List Value} (hl:news.length=ys.length) (hr:∀(i:Nat) v x,ys[i]? =some v→news[i]? =some x→Rep c w G [] v x)
  (hf:∀v∈ys,cI c e v=true):∀x∈flat news,single x=true:=by
 intro x hx
 obtain⟨z,hz,hxz⟩:=List.mem_flatMap.1 hx
 obtain⟨i,hi⟩:=List.getElem?_of_mem hz
 have hlt:i<ys.length:=by have:=(TQ.1 hi).1;omega
 have hrv:=hr i _ z (TP hlt) hi
 have hfv:=hf _ (U3 hlt)
 generalize ys[i]=v at hrv hfv
 have hsing:∀(sh:List CSh) (cs:List V),dB sh cs=true→∀u∈cs,u.single=true:=by
  intro sh
  induction sh with
  |nil=>intro cs h u hu;cases cs<;>simp_all [dB]
  |cons s sh ih=>
   intro cs h u hu
   cases cs with
   |nil=>cases hu
   |cons d cs=>
    simp only[dB,TR]at h
    rcases UH.1 hu with rfl|hu
    ·cases s<;>cases u<;>first
      |rfl
      |(have h1:=h.1;simp[CSh.fits]at h1;done)
      |(rename_i x;cases x<;>first
       |rfl
       |(have h1:=h.1;simp[CSh.fits]at h1;done))
    ·exact ih cs h.2 u hu
 unfold cI at hfv
 split at hfv
 ·rename_i y hy
  unfold RSh.fits at hfv
  split at hfv
  ·split at hfv
   ·rename_i cs
    cases hrv with
    |agg _ l hl hs hr=>simp[Value.cells]at hxz;exact hs x hxz
   ·cases hfv
  ·have hsv:=hsing _ _ hfv v (by simp)
   have hsz:=rG hrv hsv
   rw[eE hsz]at hxz
   simp at hxz;subst hxz;exact hsz
 ·cases hfv
end
end Go.Ev
end
section
namespace Go.Ev
section
variable {c : Cfg} {E : Ent} {w w' : World} {G G' : Gh} {μ : List Nat} {env env' : List V} {tmps tmps' : List Value} {objs : List Ob}
structure Src (c:Cfg) (w:World) (e xt:TypeId) (X:Value) (n:Nat) (fl:List Value):Prop where
 ty:∃d,c.P.underlying xt=some d∧∀k,d≠ .int k
 len:Builtin.lenOf X=Pure.pure n
 run:∀w2:World,(∀b o,w.cell? ⟨b,o,none⟩≠none→w2.cell? ⟨b,o,none⟩=w.cell? ⟨b,o,none⟩)→(Builtin.firstCells (aE c e) n X).run c.P w2= .ok fl.toArray w2
theorem Src.of_lst (hc:bA c) {e xt:TypeId} {ys:List V} {t:Bool} {X:Value} (h:Rep c w G μ (.lst e t ys) X) (hxt:elemOf c xt=some e):
  ∃l:List Value,l.length=ys.length∧(∀(i:Nat) v x,ys[i]? =some v→l[i]? =some x→Rep c w G [] v x)∧(∀v∈ys,cI c e v=true)∧(∀x∈l,x.cells.size=aE c e)∧
   Src c w e xt X ys.length (flat l):=by
 cases h with
 |lst _ _ _ a cap l hl hr hf hs hz hcap ha hrow=>
  refine⟨l,hl,hr,hf,hs,?_,rfl,fun w2 hw2=>?_⟩
  ·unfold elemOf at hxt
   split at hxt
   ·rename_i hty
    exact⟨_,(hc.ty _ _ hty).und,fun k=>by simp⟩
   ·cases hxt
  ·have hfl:(flat l).length=ys.length*aE c e:=by rw[flat_length l hs,hl]
   cases a with
   |none=>
    have:=ha.1 rfl
    have h0:ys.length=0:=by omega
    have hl0:l=[]:=Ue (by omega)
    subst hl0
    simp[Builtin.firstCells,flat]
   |some p=>
    by_cases hne:ys=[]
    ·subst hne
     have hl0:l=[]:=Ue (by simpa using hl)
     subst hl0
     simp[Builtin.firstCells,flat,loadCells,loadCellsFrom]
    ·obtain⟨hsp,hr⟩:=hrow p rfl hne
     obtain⟨pb,po,ps⟩:=p
     simp only at hsp;subst hsp
     simp only[Builtin.firstCells,←hfl]
     exact run_loadCells_list w2 _ _ fun j v hj=>by
      rw[Addr.add_lit,hw2 _ _ (by rw[(hr j v hj).1];simp)]
      exact(hr j v hj).1
theorem qA (w:World) (G:Gh):∀(s:List UInt8) (i:Nat) v x,(ofBytes s)[i]? =some v→(s.map fun b=>Value.int .u8 b.toNat)[i]? =some x→Rep c w G [] v x:=by
 intro s i v x hv hx
 obtain⟨b,hb,rfl⟩:=bQ hv
 obtain⟨b',hb',rfl⟩:=bQ hx
 rw[hb]at hb';cases hb'
 exact .int _ _
theorem nM (s:List UInt8):flat (s.map fun b=>Value.int .u8 b.toNat)=s.map fun b=>Value.int .u8 b.toNat:=by
 induction s with
 |nil=>rfl
 |cons b s ih=>simp only[flat,UE,U8,Value.cells]at ih ⊢;rw[ih];rfl
theorem nN {e:TypeId} (h:isByte c e=true) (hc:bA c):∃y,c.ty e=some y∧c.P.underlying e=some (.int .u8)∧y.size=1∧∀n,cI c e (.int .u8 n)=true:=by
 unfold isByte at h
 split at h
 ·rename_i d size bytes agg zero eq hy
  have hok:=hc.ty _ _ hy
  have hag:agg=false:=by have:=hok.agg;simpa[pX]using this
  subst hag
  obtain⟨i,hi,his,hib,z,hz,hzf,hza⟩:=hok.info
  have hzc:z.cells.toList.length=1:=by
   cases z<;>simp_all [Value.cells]
  have hlen:∀(a:List V) (b:List Value),fB c a b=true→a.length=b.length:=by
   intro a
   induction a with
   |nil=>intro b h;cases b<;>simp_all [fB]
   |cons v a ih=>intro b h;cases b with
    |nil=>simp[fB]at h
    |cons x b=>simp only[fB,TR]at h;simp[ih b h.2]
  have h1:=hlen _ _ hzf
  have h2:=hok.size
  refine⟨_,hy,hok.und,by simp only at h1 h2 ⊢;omega,fun n=>?_⟩
  simp only[cI,hy,RSh.fits,TL,if_false,dB,CSh.fits]
  decide
 ·cases h
theorem fP {e:TypeId} (h:isByte c e=true) (hc:bA c):aE c e=1∧∀s,∀v∈ofBytes s,cI c e v=true:=by
 obtain⟨y,hy,_,h1,h2⟩:=nN h hc
 refine⟨by simp[aE,hy,h1],fun s v hv=>?_⟩
 obtain⟨b,_,rfl⟩:=Vy.1 hv
 exact h2 _
theorem Src.of_str (hc:bA c) {e xt:TypeId} {t:List UInt8} (he:isByte c e=true) (hxt:jQ c xt=true):
  Src c w e xt (.string ⟨t.toArray⟩) t.length (t.map fun b=>Value.int .u8 b.toNat):=by
 have hsz:(⟨t.toArray⟩:ByteArray).size=t.length:=by simp[ByteArray.size]
 refine⟨?_,by simp only[Builtin.lenOf,hsz],fun w2 _=>?_⟩
 ·unfold jQ at hxt
  split at hxt
  ·rename_i hty
   exact⟨_,(hc.ty _ _ hty).und,fun k=>by simp⟩
  ·cases hxt
 ·have:(⟨t.toArray⟩:ByteArray).extract 0 t.length=⟨t.toArray⟩:=by
   rw[←hsz];exact ByteArray.extract_zero_size
  simp[Builtin.firstCells,this]
theorem zK (hc:bA c) {st xt ty e:TypeId} {xs ys:List V} {S X:Value} {l:List Value} {y:Ty} (hy:c.ty e=some y) (hst:elemOf c st=some e)
  (h:Sim c E w G μ (.lst e true xs::env) (S::tmps) objs) (hsrc:Src c w e xt X ys.length (flat l)) (hl:l.length=ys.length)
  (hr:∀(i:Nat) v x,ys[i]? =some v→l[i]? =some x→Rep c w G [] v x) (hf:∀v∈ys,cI c e v=true) (hs:∀x∈l,x.cells.size=aE c e)
  (hb:(xs.length+ys.length)* (y.bytes+1)≤70368744177664):
  ∃u w' G',(Builtin.append_ #[st,xt] ty #[S,X]).run c.P w= .ok u w'∧Sim c E w' G' μ (.lst e true (xs++ys)::env) (u::tmps) objs:=by
 have hsin:=pZ (w:=w) (G:=G) hl hr hf
 have hfl:(flat l).length=ys.length*aE c e:=by rw[flat_length l hs,hl]
 have hok:=hc.ty e y hy
 have hsz:aE c e=y.size:=by simp[aE,hy]
 have hund:c.P.underlying st=some (.slice e):=by
  unfold elemOf at hst
  split at hst
  ·rename_i hty;cases hst;exact(hc.ty _ _ hty).und
  ·cases hst
 obtain⟨d,hd,hdi⟩:=hsrc.ty
 obtain⟨i,hi,his,hib,z,hz,hzf,hza⟩:=hok.info
 have hbytes:(xs.length+ys.length)*y.bytes≤70368744177664:=Uy (Nat.mul_le_mul_left _ (Nat.le_succ _)) hb
 have hlenle:xs.length+ys.length≤70368744177664:=Uy (Nat.le_mul_of_pos_right _ (Nat.succ_pos _)) hb
 have hzeros:(match d with| .int _=>true|_=>false)=false:=by
  cases d<;>first|rfl|exact absurd rfl (hdi _)
 have hrv:=h.inv.rep 0 _ _ rfl rfl
 cases hrv with
 |lst _ _ _ a m lo hlo hro hfo hso hzo hco hao hrowo=>
 have hflo:(flat lo).length=xs.length*aE c e:=by rw[flat_length lo hso,hlo]
 by_cases hroom:xs.length+ys.length≤m
 ·-- there is room
  by_cases hy0:ys=[]
  ·subst hy0
   have hl0:l=[]:=Ue (by simpa using hl)
   subst hl0
   refine⟨.slice a xs.length m,w,G,?_,by simpa using h⟩
   have hrun:=hsrc.run w (fun _ _ _=>rfl)
   simp only[Uh]at hrun hroom
   simp only[U2]at hroom
   cases a with
   |none=>simp[Builtin.append_,run_underlying hund,run_underlying hd,hok.sizeOf,hsrc.len,hroom,←hsz,hrun,flat,hzeros]
   |some p=>simp[Builtin.append_,run_underlying hund,run_underlying hd,hok.sizeOf,hsrc.len,hroom,←hsz,hrun,flat,hzeros,storeCells]
  ·cases a with
   |none=>
    have:=hao.1 rfl
    have hpos:0<ys.length:=by cases ys with|nil=>exact absurd rfl hy0|cons _ _=>simp
    omega
   |some p=>
    obtain⟨hsp,w1,G1,hst1,hsim⟩:=h.appendIn hl hy0 hroom hr hf hs hsin
    refine⟨_,w1,G1,?_,hsim⟩
    have hrun:=hsrc.run w (fun _ _ _=>rfl)
    simp[Builtin.append_,run_underlying hund,run_underlying hd,hok.sizeOf,hsrc.len,hroom,←hsz,hrun,hzeros,hst1]
 ·-- a new row
  have hw2:∀b o,w.cell? ⟨b,o,none⟩≠none→w.drew.cell? ⟨b,o,none⟩=w.cell? ⟨b,o,none⟩:=fun _ _ _=>rfl
  have hrun:=hsrc.run w.drew hw2
  have hold:(Builtin.firstCells (aE c e) xs.length (.slice a xs.length m)).run c.P w.drew= .ok (flat lo).toArray w.drew:=by
   cases a with
   |none=>
    have:=hao.1 rfl
    have h0:xs.length=0:=by omega
    have hl0:lo=[]:=Ue (by omega)
    subst hl0
    simp[Builtin.firstCells,flat]
   |some p=>
    by_cases hne:xs=[]
    ·subst hne
     have hl0:lo=[]:=Ue (by simpa using hlo)
     subst hl0
     simp[Builtin.firstCells,flat,loadCells,loadCellsFrom]
    ·obtain⟨hsp,hr⟩:=hrowo p rfl hne
     obtain⟨pb,po,ps⟩:=p
     simp only at hsp;subst hsp
     simp only[Builtin.firstCells,←hflo]
     exact run_loadCells_list w.drew _ _ fun j v hj=>by
      rw[Addr.add_lit];exact(hr j v hj).1
  have hg:=grownCap_ge w (xs.length+ys.length) m e
  have h63:¬(9223372036854775807<((xs.length:Int)+(ys.length:Int))):=by omega
  have hfit:=growslice_fits (bytes:=i.bytes) (need:=xs.length+ys.length) (old:=m) (by omega) (by rw[hib];omega)
  have h48:¬(281474976710656<Builtin.nextslicecap (xs.length+ys.length) m*i.bytes):=by omega
  have hzc:z.cells.size=y.size:=by
   have:∀(a:List V) (b:List Value),fB c a b=true→a.length=b.length:=by
    intro a
    induction a with
    |nil=>intro b h;cases b<;>simp_all [fB]
    |cons v a ih=>intro b h;cases b with
     |nil=>simp[fB]at h
     |cons x b=>simp only[fB,TR]at h;simp[ih b h.2]
   have:=this _ _ hzf
   rw[hok.size]at this;simpa using this.symm
  have hrunA:(Builtin.append_ #[st,xt] ty #[.slice a xs.length m,X]).run c.P w=
    .ok (.slice (some ⟨w.heap.size,0,none⟩) (xs.length+ys.length) (grownCap w (xs.length+ys.length) m e))
     (w.drew.alloc (.cells ((flat lo).toArray++(flat l).toArray++Builtin.zeroCells z.cells (grownCap w (xs.length+ys.length) m e - (xs.length+ys.length))) e)):=by
   rw[hsz]at hrun hold
   simp[Builtin.append_,run_underlying hund,run_underlying hd,hok.sizeOf,hsrc.len,hroom,hrun,hold,hzeros,typeInfo,zeroValue,hi,hz,h63,h48,Question.forced,newRow,grownCap]
   congr 2
   apply Vl
   simp[Ud]
  refine⟨_,_,fun k=>if k=w.heap.size then(flat (lo++l)).length else G k,hrunA,?_⟩
  have hx:eH w G (w.drew.alloc (.cells ((flat lo).toArray++(flat l).toArray++Builtin.zeroCells z.cells (grownCap w (xs.length+ys.length) m e - (xs.length+ys.length))) e))
    (fun k=>if k=w.heap.size then(flat (lo++l)).length else G k):=
   (eH.of_drew h.inv.none).trans (eH.of_alloc (w:=w.drew) h.inv.none _ _)
  have hseal:=hx.sealed h.inv.none
  have hflA:(flat (lo++l)).length=(xs++ys).length*aE c e:=by rw[fO,Ug,hflo,hfl,Ug,Vh]
  have:=h.pop.newList hx (e:=e) (t:=true) (xs:=xs++ys) (l:=lo++l) (cap:=grownCap w (xs.length+ys.length) m e)
   (cs:=(flat lo).toArray++(flat l).toArray++Builtin.zeroCells z.cells (grownCap w (xs.length+ys.length) m e - (xs.length+ys.length))) (fr:=(0,0))
   (by show((w.heap.push _)[w.heap.size]?)=_;simp) (by simp) (fun j x hj=>by
    rw[fO]at hj
    have hlt:=(TQ.1 hj).1
    rw[Array.getElem?_append_left (by simpa using hlt)]
    simpa using hj)
   (by simp[hlo,hl]) (fun i v x hv hx=>by
    by_cases hi:i<xs.length
    ·rw[TU hi]at hv
     rw[TU (by omega)]at hx
     exact(hro i v x hv hx).mono hseal
    ·rw[Ub (by omega)]at hv hx
     rw[hlo]at hx
     exact(hr _ v x hv hx).mono hseal)
   (fun v hv=>by rw[TV]at hv;exact hv.elim (hfo v) (hf v))
   (fun x hx=>by rw[TV]at hx;exact hx.elim (hso x) (hs x))
   hzo (by simpa using hg) (by
    simp only[Array.size_append,Vj,size_zeroCells,hzc,hflo,hfl,hsz,←Vh]
    exact Vi _ (by omega))
   (.inl rfl) hflA
  simpa using this
end
end Go.Ev
end
section
namespace Go.Ev
section
variable {c : Cfg} {E : Ent} {w w' : World} {G G' : Gh} {μ : List Nat} {env : List V} {tmps : List Value} {objs : List Ob}
theorem uK {e:TypeId} {xs:List V} {p:Addr} {m:Nat} (hm:0<m):aG (.own e xs) (.slice (some p) xs.length m)=[⟨e,p,xs.length,m,some xs⟩]:=by
 simp only[aG,bK,aS,if_pos hm]
theorem Sim.ownWrite {e:TypeId} {xs:List V} {p:Addr} {m:Nat} (h:Sim c E w G μ (.own e xs::env) (.slice (some p) xs.length m::tmps) objs) (hm:0<m) {fl:List Value} {q:Nat} (hq:q+fl.length≤m*aE c e)
  (hsin:∀x∈fl,single x=true):
  p.spot=none∧∃(cs:Array Value) (elem:TypeId) (fr:Nat×Nat) (cs' :Array Value),w.heap[p.block]? =some (.cells cs elem fr)∧p.off+m*aE c e≤cs.size∧
   (storeCells (p.add q) fl).run c.P w= .ok () (blk w p.block (.cells cs' elem fr))∧cs'.toList=cs.toList.take (p.off+q)++fl++cs.toList.drop (p.off+q+fl.length)∧
   (∃lo:List Value,lo.length=xs.length∧(∀(i:Nat) v x,xs[i]? =some v→lo[i]? =some x→Rep c w G [] v x)∧(∀v∈xs,cI c e v=true)∧(∀x∈lo,x.cells.size=aE c e)∧
    ∀(j:Nat) x,(flat lo)[j]? =some x→cs[p.off+j]? =some x)∧
   ∀(xs' :List V) (lo' :List Value),lo'.length=xs'.length→xs'.length≤m→(∀(i:Nat) v x,xs'[i]? =some v→lo'[i]? =some x→Rep c w G [] v x)→(∀v∈xs',cI c e v=true)→
    (∀x∈lo',x.cells.size=aE c e)→(∀(j:Nat) x,(flat lo')[j]? =some x→cs'[p.off+j]? =some x)→
    Sim c E (blk w p.block (.cells cs' elem fr)) G μ (.own e xs' ::env) (.slice (some p) xs'.length m::tmps) objs:=by
 have hlf:=uK (e:=e) (xs:=xs) (p:=p) hm
 have hz0:0<aE c e:=by
  have hr:=h.inv.rep 0 _ _ rfl rfl
  cases hr;assumption
 have hzz:aH aG (.own e xs::env) (.slice (some p) xs.length m::tmps)=⟨e,p,xs.length,m,some xs⟩::aH aG env tmps:=by
  show aG _ _++aH aG env tmps=_
  rw[hlf];rfl
 obtain⟨hsp,cs,elem,fr,hb,hrow,hcap,hfr,hee⟩:=h.inv.ok ⟨e,p,xs.length,m,some xs⟩ (by rw[hzz];simp)
 simp only[eA]at hsp hb hrow hcap hfr
 obtain⟨hGa,_,hnm,lo,g4,g5,g6,g7,g8⟩:=hrow
 have hlt:=eI hb
 have hpa:p.add q=⟨p.block,p.off+q,none⟩:=by
  obtain⟨pb,po,ps⟩:=p
  simp only at hsp;subst hsp
  rw[Addr.add_lit]
 obtain⟨cs',hrun,hcs'⟩:=dS c.P p.block (p.off+q) elem fr fl 0 cs w hb (by omega) hsin (fun o ho ho' =>by omega)
 simp only[U2]at hcs'
 have hsize:cs'.size=cs.size:=by
  have:=congrArg US hcs'
  simp at this;omega
 refine⟨hsp,cs,elem,fr,cs',hb,hcap,by rw[hpa];exact hrun,hcs',⟨lo,g4,g5,g6,g7,fun j x hj=>?_⟩,fun xs' lo' k1 k2 k3 k4 k5 k6=>?_⟩
 ·have:=g8 j x hj
  simp only[World.cell?,hb]at this;simpa using this
 have hone:=h.inv.one p.block
 rw[hzz]at hone
 have hcons:∀q (l:eC) (k:List eC),cnt q (l::k)=(if l.a.block=q then 1 else 0)+cnt q k:=by
  intro q l k;simp only[cnt,List.countP_cons,beq_iff_eq];omega
 rw[hcons]at hone
 simp only[if_true]at hone
 have hμ:∀b∈μ,b≠p.block:=fun b hbm e=>by rw[e]at hbm;have:=UQ.2 hbm;omega
 have hseal:iT w G (blk w p.block (.cells cs' elem fr)) G:=by
  refine⟨fun k o ho=>?_,fun k=>TY _,by rw[bV];exact TY _⟩
  by_cases hk:k=p.block
  ·subst hk
   simp only[World.cell?,dJ hlt,hb]
   have hlen' :o<cs.toList.length:=by simp;omega
   have e1:cs'.toList[o]? =cs.toList[o]? :=by
    rw[hcs',Ud,TU (by simp at hlen' ⊢;omega),Uw,if_pos (by omega)]
   simpa using e1
  ·exact bU (bD hk)
 have hO:aM (blk w p.block (.cells cs' elem fr)) objs μ=aM w objs μ:=cG objs μ fun b hbm=>bD (hμ b hbm)
 have hlf' :=uK (e:=e) (xs:=xs') (p:=p) hm
 have hzz' :aH aG (.own e xs' ::env) (.slice (some p) xs'.length m::tmps)=⟨e,p,xs'.length,m,some xs'⟩::aH aG env tmps:=by
  show aG _ _++aH aG env tmps=_
  rw[hlf'];rfl
 have hothers:∀l,l∈aH aG env tmps++aM w objs μ→l.a.block≠p.block:=by
  intro l hl e
  rw[TV]at hl
  rcases hl with hl|hl
  ·have:=cP.2 ⟨l,hl,e⟩;omega
  ·have:=cP.2 ⟨l,hl,e⟩;omega
 refine⟨⟨by simpa using h.inv.len,fun i u y hu hy=>?_,h.inv.olen,fun i o b ho hb' =>?_,fun q=>?_,fun l hl=>?_,fun b hbm=>?_,fun b hbs=>?_,fun g k hg=>(h.inv.glob g k hg).mono hseal⟩,
  ⟨by rw[bV];exact h.stp.size,h.stp.sealed.trans hseal,fun b hbs hu=>?_,h.stp.os,h.stp.out,h.stp.tape⟩,fun b hbs hcc=>?_,h.pre⟩
 ·cases i with
  |zero=>simp at hu hy;subst hu;subst hy;exact .own e xs' _ m hz0 k2 ⟨fun h=>(by cases h),fun p' hp=>(by cases hp;rw[bV];exact hlt)⟩
  |succ i=>exact(h.inv.rep (i+1) u y (by simpa using hu) (by simpa using hy)).mono hseal
 ·exact(h.inv.obs i o b ho hb').mono hseal (bD (hμ b (Uu hb')))
 ·have:=h.inv.one q
  rw[hzz,hcons]at this
  rw[hzz',hcons,hO];exact this
 ·rw[hO,hzz',UA,UH]at hl
  rcases hl with rfl|hl
  ·refine⟨hsp,cs',elem,fr,dJ hlt,?_,by rw[hsize];exact hcap,by rw[hsize];exact hfr,hee⟩
   simp only[eA]
   exact⟨hGa,trivial,k2,lo',k1,fun i v x hv hx=>(k3 i v x hv hx).mono hseal,k4,k5,fun j x hj=>by
    simp only[World.cell?,dJ hlt];simpa using k6 j x hj⟩
  ·exact(h.inv.ok l (by rw[hzz];simp only[TV,UH]at hl ⊢;rcases hl with hl|hl;exact .inl (.inr hl);exact .inr hl)).same (bD (hothers l hl)) rfl hseal
 ·have:=h.inv.mine b hbm
  exact⟨by rw[bV];exact this.1,this.2⟩
 ·rw[bV]at hbs;exact h.inv.none b hbs
 ·have hne:b≠p.block:=fun e=>by
   subst e
   refine hu (h.own _ hbs ?_)
   rw[hzz,hcons];simp only[if_true];omega
  have:=h.stp.keep b hbs hu
  exact⟨(bD hne).trans this.1,this.2⟩
 ·rw[hO]at hcc
  refine h.own b hbs ?_
  rw[hzz',hcons]at hcc
  rw[hzz,hcons];exact hcc
theorem Sim.newOwn (h:Sim c E w G μ env tmps objs) (hx:eH w G w' G') {e:TypeId} {xs:List V} {l:List Value} {cap:Nat} {cs:Array Value} {fr:Nat×Nat}
  (hb:w'.heap[w.heap.size]? =some (.cells cs e fr)) (hG:G' w.heap.size=0) (hcs:∀(j:Nat) x,(flat l)[j]? =some x→cs[j]? =some x)
  (hl:l.length=xs.length) (hr:∀(i:Nat) v x,xs[i]? =some v→l[i]? =some x→Rep c w' G' [] v x) (hf:∀v∈xs,cI c e v=true) (hs:∀x∈l,x.cells.size=aE c e)
  (hz:0<aE c e) (hc:xs.length≤cap) (hcap:cap*aE c e≤cs.size) (hfr:fr.1=fr.2∨cs.size≤fr.1):
  Sim c E w' G' μ (.own e xs::env) (.slice (some ⟨w.heap.size,0,none⟩) xs.length cap::tmps) objs:=by
 have h' :=h.ext hx
 have hO:aM w' objs μ=aM w objs μ:=cG objs μ fun b hb=>(hx.keep b (h.inv.mine b hb).1).1
 have hnew:∀b,cnt b (aG (.own e xs) (.slice (some ⟨w.heap.size,0,none⟩) xs.length cap))≤(if b=w.heap.size then 1 else 0):=by
  intro b
  simp only[aG,bK,aS]
  split
  ·by_cases hbb:b=w.heap.size
   ·simp[cnt,hbb]
   ·have:¬w.heap.size=b:=fun e=>hbb e.symm
    simp[cnt,hbb,this]
  ·simp[cnt]
 have hold:cnt w.heap.size (aH aG env tmps)+cnt w.heap.size (aM w objs μ)+μ.count w.heap.size=0:=by
  rcases VH (cnt w.heap.size (aH aG env tmps)+cnt w.heap.size (aM w objs μ)+μ.count w.heap.size)with h0|h0
  ·exact h0
  ·exact absurd (h.leaf_lt h0) (Wg _)
 have hzz:aH aG (.own e xs::env) (.slice (some ⟨w.heap.size,0,none⟩) xs.length cap::tmps)=
   aG (.own e xs) (.slice (some ⟨w.heap.size,0,none⟩) xs.length cap)++aH aG env tmps:=rfl
 refine⟨⟨by simpa using h'.inv.len,fun i u y hu hy=>?_,h'.inv.olen,h'.inv.obs,fun b=>?_,fun q hq=>?_,h'.inv.mine,h'.inv.none,h'.inv.glob⟩,h'.stp,fun b hb' hcc=>?_,h'.pre⟩
 ·cases i with
  |zero=>simp at hu hy;subst hu;subst hy;exact .own e xs _ cap hz hc ⟨fun h=>(by cases h),fun p' hp=>(by cases hp;exact eI hb)⟩
  |succ i=>exact h'.inv.rep i u y (by simpa using hu) (by simpa using hy)
 ·rw[hzz,aK]
  have h1:=hnew b
  have h2:=h.inv.one b
  rw[hO]
  by_cases hbb:b=w.heap.size
  ·subst hbb;simp at h1;omega
  ·simp[hbb]at h1;omega
 ·rw[hzz,Ud,TV]at hq
  rcases hq with hq|hq
  ·simp only[aG,bK,aS]at hq
   split at hq
   ·simp at hq;subst hq
    refine⟨rfl,cs,e,fr,hb,?_,by simpa using hcap,hfr,rfl,rfl⟩
    simp only[eA]
    exact⟨hG,trivial,hc,l,hl,hr,hf,hs,fun j x hj=>by simp only[World.cell?,hb,UD];simpa using hcs j x hj⟩
   ·cases hq
  ·exact h'.inv.ok q hq
 ·refine h'.own b hb' ?_
  rw[hzz,aK]at hcc
  have h1:=hnew b
  have:b≠w.heap.size:=fun e=>by have:=h.stp.size;omega
  simp[this]at h1
  omega
theorem DF {e:TypeId} {xs:List V} {S:Value} (h:Sim c E w G μ (.own e xs::env) (S::tmps) objs):∃(a:Option Addr) (m:Nat) (lo:List Value),S= .slice a xs.length m∧0<aE c e∧xs.length≤m∧((a=none→m=0)∧∀p,a=some p→p.block<w.heap.size)∧
  lo.length=xs.length∧(∀(i:Nat) v x,xs[i]? =some v→lo[i]? =some x→Rep c w G [] v x)∧(∀v∈xs,cI c e v=true)∧(∀x∈lo,x.cells.size=aE c e)∧
  ∀p,a=some p→xs≠[]→p.spot=none∧∀(j:Nat) x,(flat lo)[j]? =some x→w.cell? ⟨p.block,p.off+j,none⟩=some x:=by
 have hr:=h.inv.rep 0 _ _ rfl rfl
 cases hr with
 |own _ _ a m hz hc ha=>
  by_cases hx:xs=[]
  ·subst hx
   exact⟨a,m,[],rfl,hz,hc,ha,rfl,fun i v x hv=>by simp at hv,fun v hv=>(by cases hv),fun x hx=>(by cases hx),fun p _ hne=>absurd rfl hne⟩
  ·have hpos:0<xs.length:=U6.2 hx
   cases a with
   |none=>have:=ha.1 rfl;omega
   |some p=>
    obtain⟨hsp,cs,elem,fr,hb,hrow,hcap,hfr,hee⟩:=h.inv.ok ⟨e,p,xs.length,m,some xs⟩ (by
     show _∈(aG _ _++aH aG env tmps)++_
     rw[uK (by omega)];simp)
    simp only[eA]at hsp hb hrow hcap hfr
    obtain⟨hGa,_,hnm,lo,g4,g5,g6,g7,g8⟩:=hrow
    exact⟨some p,m,lo,rfl,hz,hc,ha,g4,g5,g6,g7,fun p' hp _=>by cases hp;exact⟨hsp,g8⟩⟩
theorem sG (hc:bA c) {st xt ty e:TypeId} {xs ys:List V} {S X:Value} {l:List Value} {y:Ty} (hy:c.ty e=some y) (hst:elemOf c st=some e)
  (h:Sim c E w G μ (.own e xs::env) (S::tmps) objs) (hsrc:Src c w e xt X ys.length (flat l)) (hl:l.length=ys.length)
  (hr:∀(i:Nat) v x,ys[i]? =some v→l[i]? =some x→Rep c w G [] v x) (hf:∀v∈ys,cI c e v=true) (hs:∀x∈l,x.cells.size=aE c e)
  (hb:(xs.length+ys.length)* (y.bytes+1)≤70368744177664):
  ∃u w' G',(Builtin.append_ #[st,xt] ty #[S,X]).run c.P w= .ok u w'∧Sim c E w' G' μ (.own e (xs++ys)::env) (u::tmps) objs:=by
 have hsin:=pZ (w:=w) (G:=G) hl hr hf
 have hfl:(flat l).length=ys.length*aE c e:=by rw[flat_length l hs,hl]
 have hok:=hc.ty e y hy
 have hsz:aE c e=y.size:=by simp[aE,hy]
 have hund:c.P.underlying st=some (.slice e):=by
  unfold elemOf at hst
  split at hst
  ·rename_i hty;cases hst;exact(hc.ty _ _ hty).und
  ·cases hst
 obtain⟨d,hd,hdi⟩:=hsrc.ty
 obtain⟨i,hi,his,hib,z,hz,hzf,hza⟩:=hok.info
 have hbytes:(xs.length+ys.length)*y.bytes≤70368744177664:=Uy (Nat.mul_le_mul_left _ (Nat.le_succ _)) hb
 have hlenle:xs.length+ys.length≤70368744177664:=Uy (Nat.le_mul_of_pos_right _ (Nat.succ_pos _)) hb
 have hzeros:(match d with| .int _=>true|_=>false)=false:=by
  cases d<;>first|rfl|exact absurd rfl (hdi _)
 obtain⟨a,m,lo,rfl,hzo,hco,hao,hlo,hro,hfo,hso,hrowo⟩:=DF h
 have hflo:(flat lo).length=xs.length*aE c e:=by rw[flat_length lo hso,hlo]
 by_cases hroom:xs.length+ys.length≤m
 ·by_cases hy0:ys=[]
  ·subst hy0
   have hl0:l=[]:=Ue (by simpa using hl)
   subst hl0
   refine⟨.slice a xs.length m,w,G,?_,by simpa using h⟩
   have hrun:=hsrc.run w (fun _ _ _=>rfl)
   simp only[Uh]at hrun hroom
   simp only[U2]at hroom
   cases a with
   |none=>simp[Builtin.append_,run_underlying hund,run_underlying hd,hok.sizeOf,hsrc.len,hroom,←hsz,hrun,flat,hzeros]
   |some p=>simp[Builtin.append_,run_underlying hund,run_underlying hd,hok.sizeOf,hsrc.len,hroom,←hsz,hrun,flat,hzeros,storeCells]
  ·have hpos:0<ys.length:=U6.2 hy0
   cases a with
   |none=>have:=hao.1 rfl;omega
   |some p=>
    have hmul:(xs.length+ys.length)*aE c e≤m*aE c e:=Vi _ hroom
    rw[Vh]at hmul
    obtain⟨hsp,cs,elem,fr,cs',hbk,hcap,hst1,hcs',⟨lo1,k1,k2,k3,k4,k5⟩,hsim⟩:=h.ownWrite (by omega) (fl:=flat l) (q:=xs.length*aE c e) (by rw[hfl];omega) hsin
    have hf1:(flat lo1).length=xs.length*aE c e:=by rw[flat_length lo1 k4,k1]
    refine⟨_,_,G,?_,by
     have:=hsim (xs++ys) (lo1++l) (by simp[k1,hl]) (by simpa using hroom) (fun i v x hv hx=>by
      by_cases hi:i<xs.length
      ·rw[TU hi]at hv
       rw[TU (by omega)]at hx
       exact k2 i v x hv hx
      ·rw[Ub (by omega)]at hv hx
       rw[k1]at hx
       exact hr _ v x hv hx)
      (fun v hv=>by rw[TV]at hv;exact hv.elim (k3 v) (hf v))
      (fun x hx=>by rw[TV]at hx;exact hx.elim (k4 x) (hs x))
      (fun j x hj=>by
       rw[fO]at hj
       have hcl:cs.toList.length=cs.size:=by simp
       have hgoal:cs'.toList[p.off+j]? =some x:=by
        rw[hcs']
        by_cases hjl:j<(flat lo1).length
        ·rw[TU hjl]at hj
         have:=k5 j x hj
         rw[Ud,TU (by simp;omega),Uw,if_pos (by omega)]
         simpa using this
        ·rw[Ub (by omega)]at hj
         have hj2:=(TQ.1 hj).1
         rw[Ud,Ub (by simp;omega),TU (by simp;omega),←hj]
         congr 1
         simp;omega
       simpa using hgoal)
     simpa using this⟩
    have hrun:=hsrc.run w (fun _ _ _=>rfl)
    simp[Builtin.append_,run_underlying hund,run_underlying hd,hok.sizeOf,hsrc.len,hroom,←hsz,hrun,hzeros,hst1]
 ·have hw2:∀b o,w.cell? ⟨b,o,none⟩≠none→w.drew.cell? ⟨b,o,none⟩=w.cell? ⟨b,o,none⟩:=fun _ _ _=>rfl
  have hrun:=hsrc.run w.drew hw2
  have hold:(Builtin.firstCells (aE c e) xs.length (.slice a xs.length m)).run c.P w.drew= .ok (flat lo).toArray w.drew:=by
   cases a with
   |none=>
    have:=hao.1 rfl
    have h0:xs.length=0:=by omega
    have hl0:lo=[]:=Ue (by omega)
    subst hl0
    simp[Builtin.firstCells,flat]
   |some p=>
    by_cases hne:xs=[]
    ·subst hne
     have hl0:lo=[]:=Ue (by simpa using hlo)
     subst hl0
     simp[Builtin.firstCells,flat,loadCells,loadCellsFrom]
    ·obtain⟨hsp,hr⟩:=hrowo p rfl hne
     obtain⟨pb,po,ps⟩:=p
     simp only at hsp;subst hsp
     simp only[Builtin.firstCells,←hflo]
     exact run_loadCells_list w.drew _ _ fun j v hj=>by
      rw[Addr.add_lit];exact hr j v hj
  have hg:=grownCap_ge w (xs.length+ys.length) m e
  have h63:¬(9223372036854775807<((xs.length:Int)+(ys.length:Int))):=by omega
  have hfit:=growslice_fits (bytes:=i.bytes) (need:=xs.length+ys.length) (old:=m) (by omega) (by rw[hib];omega)
  have h48:¬(281474976710656<Builtin.nextslicecap (xs.length+ys.length) m*i.bytes):=by omega
  have hzc:z.cells.size=y.size:=by
   have:∀(a:List V) (b:List Value),fB c a b=true→a.length=b.length:=by
    intro a
    induction a with
    |nil=>intro b h;cases b<;>simp_all [fB]
    |cons v a ih=>intro b h;cases b with
     |nil=>simp[fB]at h
     |cons x b=>simp only[fB,TR]at h;simp[ih b h.2]
   have:=this _ _ hzf
   rw[hok.size]at this;simpa using this.symm
  have hrunA:(Builtin.append_ #[st,xt] ty #[.slice a xs.length m,X]).run c.P w=
    .ok (.slice (some ⟨w.heap.size,0,none⟩) (xs.length+ys.length) (grownCap w (xs.length+ys.length) m e))
     (w.drew.alloc (.cells ((flat lo).toArray++(flat l).toArray++Builtin.zeroCells z.cells (grownCap w (xs.length+ys.length) m e - (xs.length+ys.length))) e)):=by
   rw[hsz]at hrun hold
   simp[Builtin.append_,run_underlying hund,run_underlying hd,hok.sizeOf,hsrc.len,hroom,hrun,hold,hzeros,typeInfo,zeroValue,hi,hz,h63,h48,Question.forced,newRow,grownCap]
   congr 2
   apply Vl
   simp[Ud]
  refine⟨_,_,fun k=>if k=w.heap.size then 0 else G k,hrunA,?_⟩
  have hx:eH w G (w.drew.alloc (.cells ((flat lo).toArray++(flat l).toArray++Builtin.zeroCells z.cells (grownCap w (xs.length+ys.length) m e - (xs.length+ys.length))) e))
    (fun k=>if k=w.heap.size then 0 else G k):=
   (eH.of_drew h.inv.none).trans (eH.of_alloc (w:=w.drew) h.inv.none _ _)
  have hseal:=hx.sealed h.inv.none
  have:=h.pop.newOwn hx (e:=e) (xs:=xs++ys) (l:=lo++l) (cap:=grownCap w (xs.length+ys.length) m e)
   (cs:=(flat lo).toArray++(flat l).toArray++Builtin.zeroCells z.cells (grownCap w (xs.length+ys.length) m e - (xs.length+ys.length))) (fr:=(0,0))
   (by show((w.heap.push _)[w.heap.size]?)=_;simp) (by simp) (fun j x hj=>by
    rw[fO]at hj
    have hlt:=(TQ.1 hj).1
    rw[Array.getElem?_append_left (by simpa using hlt)]
    simpa using hj)
   (by simp[hlo,hl]) (fun i v x hv hx=>by
    by_cases hi:i<xs.length
    ·rw[TU hi]at hv
     rw[TU (by omega)]at hx
     exact(hro i v x hv hx).mono hseal
    ·rw[Ub (by omega)]at hv hx
     rw[hlo]at hx
     exact(hr _ v x hv hx).mono hseal)
   (fun v hv=>by rw[TV]at hv;exact hv.elim (hfo v) (hf v))
   (fun x hx=>by rw[TV]at hx;exact hx.elim (hso x) (hs x))
   hzo (by simpa using hg) (by
    simp only[Array.size_append,Vj,size_zeroCells,hzc,hflo,hfl,hsz,←Vh]
    exact Vi _ (by omega))
   (.inl rfl)
  simpa using this
theorem Sim.sealFront {e:TypeId} {xs:List V} {x:Value} (h:Sim c E w G μ (.own e xs::env) (x::tmps) objs):∃G',Sim c E w G' μ (.lst e true xs::env) (x::tmps) objs:=by
 obtain⟨a,m,lo,rfl,hz,hc,ha,k1,k2,k3,k4,k5⟩:=DF h
 have hfl:(flat lo).length=xs.length*aE c e:=by rw[flat_length lo k4,k1]
 by_cases hm:0<m
 ·cases a with
  |none=>have:=ha.1 rfl;omega
  |some p=>
   have hlf:=uK (e:=e) (xs:=xs) (p:=p) hm
   have hzz:aH aG (.own e xs::env) (.slice (some p) xs.length m::tmps)=⟨e,p,xs.length,m,some xs⟩::aH aG env tmps:=by
    show aG _ _++aH aG env tmps=_
    rw[hlf];rfl
   obtain⟨hsp,cs,elem,fr,hb,hrow,hcap,hfr,hee⟩:=h.inv.ok ⟨e,p,xs.length,m,some xs⟩ (by rw[hzz];simp)
   simp only[eA]at hsp hb hrow hcap hfr
   obtain⟨hGa,_,hnm,lo',g4,g5,g6,g7,g8⟩:=hrow
   have hfl' :(flat lo').length=xs.length*aE c e:=by rw[flat_length lo' g7,g4]
   have hlt:=eI hb
   let G2:Gh:=fun b=>if b=p.block then p.off+xs.length*aE c e else G b
   have hseal:iT w G w G2:=⟨fun _ _ _=>rfl,fun b=>by
    show G b≤if b=p.block then _ else _
    split
    ·rename_i hb';rw[hb',hGa];omega
    ·exact TY _,TY _⟩
   have hcons:∀q (l:eC) (k:List eC),cnt q (l::k)=(if l.a.block=q then 1 else 0)+cnt q k:=by
    intro q l k;simp only[cnt,List.countP_cons,beq_iff_eq];omega
   have hone:=h.inv.one p.block
   rw[hzz,hcons]at hone
   simp only[if_true]at hone
   have hμ:∀b∈μ,b≠p.block:=fun b hbm e=>by rw[e]at hbm;have:=UQ.2 hbm;omega
   have hothers:∀l,l∈aH aG env tmps++aM w objs μ→l.a.block≠p.block:=by
    intro l hl e
    rw[TV]at hl
    rcases hl with hl|hl
    ·have:=cP.2 ⟨l,hl,e⟩;omega
    ·have:=cP.2 ⟨l,hl,e⟩;omega
   have hzz' :aH aG (.lst e true xs::env) (.slice (some p) xs.length m::tmps)=⟨e,p,xs.length,m,none⟩::aH aG env tmps:=by
    show aG _ _++aH aG env tmps=_
    simp only[aG,bK,aS,if_pos hm];rfl
   refine⟨G2,⟨⟨by simpa using h.inv.len,fun i u y hu hy=>?_,h.inv.olen,fun i o b ho hb' =>?_,fun q=>?_,fun l hl=>?_,fun b hbm=>?_,fun b hbs=>?_,fun g k hg=>(h.inv.glob g k hg).mono hseal⟩,
    ⟨h.stp.size,h.stp.sealed.trans hseal,fun b hbs hu=>?_,h.stp.os,h.stp.out,h.stp.tape⟩,fun b hbs hcc=>?_,h.pre⟩⟩
   ·cases i with
    |zero=>
     simp at hu hy;subst hu;subst hy
     refine .lst e true xs _ m lo' g4 (fun i v x hv hx=>(g5 i v x hv hx).mono hseal) g6 g7 hz hnm ⟨fun h=>(by cases h),fun p' hp=>(by cases hp;exact hlt)⟩ (fun p' hp _=>?_)
     cases hp
     refine⟨hsp,fun j x hj=>⟨g8 j x hj,?_⟩⟩
     have:=(TQ.1 hj).1
     simp only[G2,if_true];omega
    |succ i=>exact(h.inv.rep (i+1) u y (by simpa using hu) (by simpa using hy)).mono hseal
   ·exact(h.inv.obs i o b ho hb').mono hseal rfl
   ·have:=h.inv.one q
    rw[hzz,hcons]at this
    rw[hzz',hcons];exact this
   ·rw[hzz',UA,UH]at hl
    rcases hl with rfl|hl
    ·refine⟨hsp,cs,elem,fr,hb,?_,hcap,hfr,hee⟩
     simp only[eA,G2,if_true]
    ·exact(h.inv.ok l (by rw[hzz];simp only[TV,UH]at hl ⊢;rcases hl with hl|hl;exact .inl (.inr hl);exact .inr hl)).same rfl (by simp[G2,hothers l hl]) hseal
   ·have:=h.inv.mine b hbm
    exact⟨this.1,by simp[G2,hμ b hbm,this.2]⟩
   ·have:b≠p.block:=fun e=>by omega
    simp[G2,this,h.inv.none b hbs]
   ·have hne:b≠p.block:=fun e=>by
     subst e
     refine hu (h.own _ hbs ?_)
     rw[hzz,hcons];simp only[if_true];omega
    have:=h.stp.keep b hbs hu
    exact⟨this.1,by simp[G2,hne,this.2]⟩
   ·refine h.own b hbs ?_
    rw[hzz',hcons]at hcc
    rw[hzz,hcons];exact hcc
 ·have hm0:m=0:=by omega
  subst hm0
  have hx0:xs=[]:=Ue (by omega)
  subst hx0
  refine⟨G,h.refront (.lst e true [] a 0 [] rfl (fun i v x hv=>by simp at hv) (fun v hv=>by cases hv) (fun x hx=>by cases hx) hz (TY _) ⟨fun _=>rfl,ha.2⟩ (fun p _ hne=>absurd rfl hne)) (fun b=>?_) fun l hl=>?_⟩
  ·cases a<;>simp[aG,bK,aS,cnt]
  ·cases a<;>simp[aG,bK,aS]at hl
end
end Go.Ev
end
section
namespace Go.Ev
section
variable {c : Cfg} {E : Ent} {w w' : World} {G G' : Gh} {μ : List Nat} {R : Type}
def EH (c:Cfg) (E:Ent) {R:Type} (K:V→St→Option R) (r:R) (tmps:List Value) (u:Value) (w' :World):Prop:=
 ∃v S' G' μ',K v S' =some r∧Sim c E w' G' μ' (v::S'.env) (u::tmps) S'.objs
def Ha (c:Cfg) (E:Ent) {R:Type} (o:Oper) (a:Act) (w:World) (K:V→St→Option R) (r:R):Prop:=
 (∃u w',(execOp a.eval o).run c.P w= .ok (.value u) w'∧EH c E K r a.tmps.toList u w')∨
 (∃w',(execOp a.eval o).run c.P w= .ok .skip w'∧EH c E K r a.tmps.toList undef w')∨
 (∃f args,(execOp a.eval o).run c.P w= .ok (.enter f args) w∧Calls c.P f args w fun e w' =>∃u,e= .returned u∧EH c E K r a.tmps.toList u w')
abbrev cV (c:Cfg) (E:Ent) (w:World) (G:Gh) (μ:List Nat) (S:St) (a:Act):Prop:=Sim c E w G μ S.env a.tmps.toList S.objs
theorem getD_toList (l:Array Value) (t:Nat):l.getD t undef=l.toList.getD t undef:=by
 simp[Un,Ul]
theorem KA {v:V} {x:Value} (h:MO c v x=true) (w:World) (G:Gh) (μ:List Nat):Rep c w G μ v x∧single x=true∧aS v x=[]:=by
 unfold MO at h
 split at h
 ·rename_i b b'
  have:b=b' :=by simpa using h
  subst this;exact⟨.bool _,rfl,rfl⟩
 ·rename_i k n k' n'
  simp only[TR,beq_iff_eq]at h
  obtain⟨rfl,rfl⟩:=h;exact⟨.int _ _,rfl,rfl⟩
 ·rename_i s
  have:s=⟨([]:List UInt8).toArray⟩:=by
   apply ByteArray.ext
   have h0:s.data.size=0:=eq_of_beq h
   exact Array.eq_empty_of_size_eq_zero h0
  rw[this];exact⟨.str [],rfl,rfl⟩
 ·rename_i e
  have hz:0<aE c e:=by simpa using h
  have:=Rep.lst (c:=c) (w:=w) (G:=G) (μ:=μ) e true [] none 0 [] rfl (fun i v x h=>by simp at h) (fun v h=>by cases h) (fun x h=>by cases h) hz (TY _) ⟨fun _=>rfl,fun p h=>by cases h⟩ (fun p h=>by cases h)
  exact⟨by simpa using this,rfl,rfl⟩
 ·exact⟨.raw _,rfl,rfl⟩
 ·exact⟨.raw _,rfl,rfl⟩
 ·exact⟨.raw _,rfl,rfl⟩
 ·exact⟨.raw _,rfl,rfl⟩
 ·cases h
theorem eF:∀(a:List V) (b:List Value),fB c a b=true→∀(w:World) (G:Gh) (μ:List Nat),b.length=a.length∧(∀x∈b,single x=true)∧(∀(i:Nat) v x,a[i]? =some v→b[i]? =some x→Rep c w G μ v x)∧aH aS a b=[]
 |[],[],_,w,G,μ=>⟨rfl,by simp,by simp,rfl⟩
 |[],_::_,h,_,_,_=>by simp[fB]at h
 |_::_,[],h,_,_,_=>by simp[fB]at h
 |v::a,x::b,h,w,G,μ=>by
  simp only[fB,TR]at h
  obtain⟨h1,h2,h3⟩:=KA h.1 w G μ
  obtain⟨g1,g2,g3,g4⟩:=eF a b h.2 w G μ
  refine⟨by simp[g1],fun y hy=>by rcases UH.1 hy with rfl|hy;exact h2;exact g2 y hy,fun i u y hu hy=>?_,by simp[aH,h3,g4]⟩
  cases i with
  |zero=>simp at hu hy;subst hu;subst hy;exact h1
  |succ i=>exact g3 i u y (by simpa using hu) (by simpa using hy)
theorem Hb (v:Value) (t:TypeId) (w:World) (G:Gh) (μ:List Nat):Rep c w G μ (nZ c t v) v:=by
 unfold nZ
 split
 ·exact .bool _
 ·exact .int _ _
 ·rename_i s
  have:(⟨s.data.toList.toArray⟩:ByteArray)=s:=by simp
  have h:=Rep.str (c:=c) (w:=w) (G:=G) (μ:=μ) s.data.toList
  rwa [this]at h
 ·split
  ·split
   ·rename_i e he hz
    have:=Rep.lst (c:=c) (w:=w) (G:=G) (μ:=μ) e true [] none 0 [] rfl (fun i v x h=>by simp at h) (fun v h=>by cases h) (fun x h=>by cases h) hz (TY _) ⟨fun _=>rfl,fun p h=>by cases h⟩ (fun p h=>by cases h)
    simpa using this
   ·exact .bot _
  ·exact .bot _
 ·exact .raw _
 ·exact .raw _
 ·exact .raw _
 ·exact .raw _
 ·rename_i l
  split
  ·rename_i y hy
   split
   ·rename_i hz
    obtain⟨g1,g2,g3,_⟩:=eF y.zero l.toList hz w G μ
    have:=Rep.agg (c:=c) (w:=w) (G:=G) (μ:=μ) y.zero l.toList g1 g2 g3
    simpa using this
   ·exact .bot _
  ·exact .bot _
 ·exact .bot _
theorem EI (v:Value) (t:TypeId):aG (nZ c t v) v=[]:=by
 unfold nZ
 split<;>first|rfl|skip
 ·split
  ·split<;>rfl
  ·rfl
 ·rename_i l
  split
  ·rename_i y hy
   split
   ·rename_i hz
    obtain⟨_,_,_,g4⟩:=eF y.zero l.toList hz (default:World) (fun _=>0) []
    simpa[aG,bK]using g4
   ·rfl
  ·rfl
theorem aT {S:St} {a:Act} (h:cV c E w G μ S a) (t:TypeId) (x:Operand):Rep c w G μ (opd c S t x) (a.eval x):=by
 cases x with
 |tmp s=>
  simp only[opd,St.get,Act.eval,getD_toList]
  by_cases hs:s<S.env.length
  ·have hs' :s<a.tmps.toList.length:=Up hs h.inv.len
   have e1:S.env.getD s .bot=S.env[s]:=by simp[Ul,TP hs]
   have e2:a.tmps.toList.getD s undef=a.tmps.toList[s]:=by simp[Ul,TP hs']
   rw[e1,e2]
   exact h.inv.rep s _ _ (TP hs) (TP hs')
  ·have e1:S.env.getD s .bot= .bot:=by simp[Ul,Ut (UZ hs)]
   rw[e1];exact .bot _
 |const v=>exact Hb v t w G μ
 |func f=>
  have:=Rep.clo (c:=c) (w:=w) (G:=G) (μ:=μ) (.func f) [] [] [] [] rfl rfl (fun i v x h=>by simp at h) (fun i v x h=>by simp at h)
  simpa[opd,Act.eval]using this
 |global g=>
  simp only[opd,Act.eval]
  cases hg:c.glob g with
  |none=>exact .bot _
  |some q=>
   cases q with
   |one x=>exact .bot _
   |ints k zs=>
   refine .cpt _ g 0 (zs.map (Value.int k)) (by simp) (fun x hx=>?_) (fun i v x hv hx=>?_) (h.inv.glob g _ hg)
   ·obtain⟨n,_,rfl⟩:=Vy.1 hx;rfl
   ·rw[UC]at hv hx
    cases hz:zs[i]? with
    |none=>rw[hz]at hv;cases hv
    |some n=>
     rw[hz]at hv hx
     cases hv;cases hx
     exact .int _ _
theorem oL {α R:Type}:∀(l:List α) (d:Nat) (v:α) (K:List α→Option R),EB l d v K=K (l.set d v)
 |[],_,_,_=>by simp[EB]
 |_::_,0,_,_=>by simp[EB]
 |x::l,d+1,v,K=>by simp[EB,oL l d v]
theorem bC {R:Type} (S:St) (d:Nat) (v:V) (K:St→Option R):S.putK (some d) v K=K ⟨S.env.set d v,S.objs⟩:=by
 simp[St.putK,oL]
theorem eR {R:Type} (S:St) (i:Nat) (o:Ob) (K:St→Option R):S.setObK i o K=K ⟨S.env,S.objs.set i o⟩:=by
 simp[St.setObK,oL]
theorem EJ {R:Type}:∀(l:List Ob) (o:Ob) (K:List Ob→Option R),EC l o K=K (l++[o])
 |[],_,_=>by simp[EC]
 |x::l,o,K=>by simp[EC,EJ l o]
theorem gP {R:Type} (S:St) (o:Ob) (K:Nat→St→Option R):S.newK o K=K S.objs.length ⟨S.env,S.objs++[o]⟩:=by
 simp[St.newK,EJ]
theorem jD {S:St} {a:Act} {x:Operand} {t:TypeId} {K:St→Option R} {r:R} (h:lY S x K=some r) (hS:cV c E w G μ S a):
  ∃S',K S' =some r∧S'.objs=S.objs∧Sim c E w G μ (opd c S t x::S'.env) (a.eval x::a.tmps.toList) S.objs:=by
 have hrep:=aT hS t x
 have plain:(opd c S t x).tips=false→K S=some r→∃S',K S' =some r∧S'.objs=S.objs∧Sim c E w G μ (opd c S t x::S'.env) (a.eval x::a.tmps.toList) S.objs:=
  fun ht hk=>⟨S,hk,rfl,hS.push hrep (bE _ ht)⟩
 cases x with
 |tmp s=>
  have take:∀v',v' =(S.get s).cut→S.putK (some s) v' K=some r→∃S',K S' =some r∧S'.objs=S.objs∧Sim c E w G μ (opd c S t (.tmp s)::S'.env) (a.eval (.tmp s)::a.tmps.toList) S.objs:=by
   intro v' hv' hk
   rw[bC]at hk
   by_cases hs:s<S.env.length
   ·have hs' :s<a.tmps.toList.length:=Up hs hS.inv.len
    have e1:S.get s=S.env[s]:=by simp[St.get,Ul,TP hs]
    have e2:a.eval (.tmp s)=a.tmps.toList[s]:=by simp only[Act.eval,getD_toList];simp[Ul,TP hs']
    refine⟨_,hk,rfl,?_⟩
    have:=hS.take (TP hs) (TP hs')
    rw[hv',e2]
    simp only[opd,e1]
    exact this
   ·refine⟨_,hk,rfl,?_⟩
    have e1:S.get s= .bot:=by simp[St.get,Ul,Ut (UZ hs)]
    rw[We (UZ hs)]
    exact hS.push hrep (by simp only[opd,e1];cases a.eval (.tmp s)<;>rfl)
  simp only[lY]at h
  split at h
  ·rename_i hg;exact take _ (by rw[hg];rfl) h
  ·rename_i hg;exact take _ (by rw[hg];rfl) h
  ·rename_i hg
   split at h
   ·exact take _ (by rw[hg];rfl) h
   ·rename_i hn;exact plain (by simp only[opd,hg];simpa[V.tips,V.tip2]using hn) h
  ·rename_i hg
   split at h
   ·exact take _ (by rw[hg];rfl) h
   ·rename_i hn;exact plain (by simp only[opd,hg];simpa[V.tips]using hn) h
  ·rename_i h1 h4 h2 h3
   refine plain ?_ h
   simp only[opd]
   cases hg:S.get s<;>first|rfl|skip
   ·rename_i e tp xs
    cases tp
    ·rfl
    ·exact absurd hg (h1 _ _)
   ·exact absurd hg (h2 _)
   ·exact absurd hg (h3 _)
   ·exact absurd hg (h4 _ _)
 |const v=>exact⟨S,h,rfl,hS.push hrep (EI v t)⟩
 |func f=>exact⟨S,h,rfl,hS.push hrep rfl⟩
 |global g=>exact⟨S,h,rfl,hS.push hrep (bE _ (by simp only[opd];split<;>rfl))⟩
theorem Ha.pure {S:St} {a:Act} {o:Oper} {K:V→St→Option R} {r:R} (hS:cV c E w G μ S a) {v:V} {u:Value} (hk:K v S=some r)
  (hrun:(execOp a.eval o).run c.P w= .ok (.value u) w) (hr:Rep c w G μ v u) (hl:aG v u=[]):Ha c E o a w K r:=
 .inl ⟨u,w,hrun,v,S,G,μ,hk,hS.push hr hl⟩
theorem EK {α β:Type} {P:Program} {w:World} {f:α→Sem β} {g:α→β}:∀(l:List α),(∀x∈l,(f x).run P w= .ok (g x) w)→(l.mapM f).run P w= .ok (l.map g) w
 |[],_=>by simp
 |x::l,h=>by
  have h1:=h x (by simp)
  have h2:=EK l (fun y hy=>h y (by simp[hy]))
  simp only[List.mapM_cons,Sem.run_bind,h1,Result.andThen_ok,h2,Sem.run_pure,UE]
theorem Jq {α β:Type} {P:Program} {w:World} {f:α→Sem β} {g:α→β} (l:Array α) (h:∀x∈l,(f x).run P w= .ok (g x) w):(l.mapM f).run P w= .ok (l.map g) w:=by
 rw[Array.mapM_eq_mapM_toList,Sem.run_map,EK l.toList (fun x hx=>h x (by simpa using hx))]
 simp only[Result.andThen_ok]
 congr 1
 apply Vl
 simp
theorem zL:∀(l:List Value) (k off:Nat) (cs:Array Value),off+k+l.length≤cs.size→
  ((l.zipIdx k).foldl (fun cs (x:Value×Nat)=>cs.setIfInBounds (off+x.2) x.1) cs).toList=dP (off+k) l cs.toList
 |[],k,off,cs,h=>by
  rw[fN _ _ _ (by simpa using h)];simp
 |x::l,k,off,cs,h=>by
  simp only[Ua]at h
  simp only[List.zipIdx_cons,V9]
  rw[zL l (k+1) off _ (by simp;omega),fN _ _ _ (by simp;omega),fN _ _ _ (by simp;omega)]
  simp only[Array.toList_setIfInBounds,Ua]
  have hlt:off+k<cs.toList.length:=by simp;omega
  have e1:(cs.toList.set (off+k) x).take (off+(k+1))=cs.toList.take (off+k)++[x]:=by
   rw[show off+(k+1)=off+k+1 by omega,VE,Us hlt,List.take_set_of_le (TY _)];rfl
  have e2:(cs.toList.set (off+k) x).drop (off+(k+1)+l.length)=cs.toList.drop (off+k+(l.length+1)):=by
   rw[List.drop_set_of_lt (by omega)];congr 1;omega
  rw[e1,e2];simp
theorem zC (place:Nat→Option (Nat×Nat)):∀(ps:List (Nat×V)) (PS:List (Nat×Value)) (cs cs' :List V) (CS:Array Value),ps.length=PS.length→
  (∀(i:Nat) p q,ps[i]? =some p→PS[i]? =some q→p.1=q.1∧Rep c w G μ p.2 q.2)→CS.toList.length=cs.length→(∀x∈CS.toList,single x=true)→
  (∀(i:Nat) v x,cs[i]? =some v→CS.toList[i]? =some x→Rep c w G μ v x)→zH place ps cs=some cs'→
  ∃CS',Instr.fill place CS PS=some CS'∧CS'.toList.length=cs'.length∧(∀x∈CS'.toList,single x=true)∧(∀(i:Nat) v x,cs'[i]? =some v→CS'.toList[i]? =some x→Rep c w G μ v x)∧
   ((∀(i:Nat) p q,ps[i]? =some p→PS[i]? =some q→aG p.2 q.2=[])→aH aS cs CS.toList=[]→aH aS cs' CS'.toList=[])
 |[],PS,cs,cs',CS,hl,_,h1,h2,h3,h=>by
  have:PS=[]:=Ue (by simpa using hl.symm)
  subst this
  simp[zH]at h;subst h
  exact⟨CS,rfl,h1,h2,h3,fun _ h=>h⟩
 |(i,v)::ps,[],cs,cs',CS,hl,_,_,_,_,_=>by simp at hl
 |(i,v)::ps,(j,x)::PS,cs,cs',CS,hl,hp,h1,h2,h3,h=>by
  obtain⟨hij,hrv⟩:=hp 0 _ _ rfl rfl
  simp only at hij hrv;subst hij
  simp only[zH]at h
  split at h
  ·cases h
  ·rename_i off size hpl
   split at h
   ·rename_i hcnd
    simp only[TR,beq_iff_eq,decide_eq_true_eq]at hcnd
    obtain⟨⟨hs,hle⟩,hsg⟩:=hcnd
    obtain⟨hc1,hc2,hc3⟩:=eQ hrv (jC hsg)
    have hxl:x.cells.toList.length=v.cells.length:=by simpa using hc1
    have hov:=zL x.cells.toList 0 off CS (by rw[hxl];simp at h1 ⊢;omega)
    simp only[U2]at hov
    have hfold:(x.cells.zipIdx.foldl (fun cs (c,j)=>cs.setIfInBounds (off+j) c) CS).toList=dP off x.cells.toList CS.toList:=by
     rw[←hov,←Array.foldl_toList,Array.toList_zipIdx]
    have hlen2:(dP off x.cells.toList CS.toList).length=CS.toList.length:=by
     rw[fN _ _ _ (by rw[hxl];omega)];simp at h1 hxl ⊢;omega
    obtain⟨CS',g1,g2,g3,g4,g5⟩:=zC place ps PS (over off v.cells cs) cs' (x.cells.zipIdx.foldl (fun cs (c,j)=>cs.setIfInBounds (off+j) c) CS)
     (by simpa using hl) (fun i p q hp' hq' =>hp (i+1) p q (by simpa using hp') (by simpa using hq'))
     (by rw[hfold,hlen2,h1,jU off _ _ (by omega)])
     (fun y hy=>by
      rw[hfold,fN _ _ _ (by rw[hxl];omega)]at hy
      simp only[TV]at hy
      rcases hy with(hy|hy)|hy
      ·exact h2 y (U0 hy)
      ·exact hc2 y hy
      ·exact h2 y (U1 hy))
     (fun i u y hu hy=>by
      rw[hfold]at hy
      exact uJ (p:=fun u y=>Rep c w G μ u y) off v.cells cs x.cells.toList CS.toList hxl.symm h1.symm hc3 h3 i u y hu hy) h
    refine⟨CS',?_,g2,g3,g4,fun hq h0=>g5 (fun i p q hp' hq' =>hq (i+1) p q (by simpa using hp') (by simpa using hq')) ?_⟩
    rotate_left
    ·rw[hfold]
     refine List.eq_nil_iff_forall_not_mem.2 fun l hl=>?_
     rcases mW aS off v.cells cs x.cells.toList CS.toList hxl.symm hl with h1|h1
     ·rw[pY hrv (jC hsg),hq 0 _ _ rfl rfl]at h1;cases h1
     ·rw[h0]at h1;cases h1
    have hxs:x.cells.size=size:=by rw[hc1,hs]
    simp only[Instr.fill,hpl]
    rw[if_neg (by simp[hxs];simp at h1;omega)]
    exact g1
   ·cases h
theorem iM.zero {t:TypeId} {y:Ty} (h:iM c t y) (w:World):∃z,(zeroValue t).run c.P w= .ok z w∧fB c y.zero z.cells.toList=true∧(y.agg=true↔∃l,z= .agg l):=by
 obtain⟨i,hi,_,_,z,hz,h1,h2⟩:=h.info
 exact⟨z,by simp[zeroValue,typeInfo,hi,hz],h1,h2⟩
end
end Go.Ev
end
