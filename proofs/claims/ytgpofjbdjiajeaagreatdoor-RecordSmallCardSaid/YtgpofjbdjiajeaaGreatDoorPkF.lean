/- Lemmas for the claim, merged: the plain reading of the program's functions, its soundness, and what they compute. -/
import Derived.Test.YtgpofjbdjiajeaaGreatDoorPkE
import Derived.KernelRfl
set_option linter.all false
set_option linter.unusedVariables false
set_option linter.unusedSimpArgs false
section
namespace Go.Proofs.YtgpofjbdjiajeaaGreatDoor
open Go.Ev Go
open List (headD tail getD length drop take)
open V (getI getL getT getS getB)
set_option maxRecDepth 100000
variable (call : FuncId → Fun) (icall : aN (V × List Ob)) (again : List It → St → Option (V × List Ob))
def T35 (call:FuncId→Fun) (a0:List V) (a1:Int) (a2:List V) (a3:Bool):Option (V×List Ob):=
 Option.bind (call 61 [(V.lst 5 false a0),(V.lst 133 false a2),(V.str [99,111,110,116,101,110,116,45,116,121,112,101])] []) fun z0=>
 Option.bind (call 60 [(V.str (getS z0.1)),(V.bool true)] []) fun z1=>
 if(getB (headD (tail (getT z1.1)) V.bot))=true then
 some ((V.agg [(V.str (getS (headD (V.cells (headD (getT z1.1) V.bot)) V.bot))),(V.str (getS (headD (tail (V.cells (headD (getT z1.1) V.bot))) V.bot))),(V.lst 140 false (getL (headD (tail (tail (V.cells (headD (getT z1.1) V.bot)))) V.bot)))]),[(Ob.cells [(V.lst 5 false a0),(V.int .i64 a1)])])
 else
 if a3=true then
 some ((V.agg [(V.str [109,101,115,115,97,103,101]),(V.str [114,102,99,56,50,50]),(V.lst 140 false [])]),[(Ob.cells [(V.lst 5 false a0),(V.int .i64 a1)])])
 else
 some ((V.agg [(V.str [116,101,120,116]),(V.str [112,108,97,105,110]),(V.lst 140 false [])]),[(Ob.cells [(V.lst 5 false a0),(V.int .i64 a1)])])
def O35 (a0:List V) (a1:Int):List Ob:=[Ob.cells [V.lst 5 false a0,V.int IntKind.i64 a1]]
def A35 (a2:List V) (a3:Bool):List V:=[V.ref 0 0,V.lst 133 false a2,V.bool a3]
theorem E35 (a0:List V) (a1:Int) (a2:List V) (a3:Bool):GO 35 Tryz.f35 (A35 a2 a3) (O35 a0 a1) call icall again=T35 call a0 a1 a2 a3:=by kernel_rfl
theorem C35 (k:Nat) (a0:List V) (a1:Int) (a2:List V) (a3:Bool):aA cfg (k+1) 35 (A35 a2 a3) (O35 a0 a1)=T35 (aA cfg k) a0 a1 a2 a3:=
 (show aA cfg (k+1) 35 (A35 a2 a3) (O35 a0 a1)=GO 35 Tryz.f35 (A35 a2 a3) (O35 a0 a1) (aA cfg k) (aF cfg (aA cfg k) 20) (RN 35 Tryz.f35 (O35 a0 a1) (aA cfg k) (aF cfg (aA cfg k) 20) k)by kernel_rfl).trans (E35 _ _ _ a0 a1 a2 a3)
theorem M35 (a0:List V) (a1:Int) (a2:List V) (a3:Bool) {r:V×List Ob} (h:Evt (fun k n=>T35 (aA cfg k) a0 a1 a2 a3) r):Ret 35 [V.ref 0 0,V.lst 133 false a2,V.bool a3] [Ob.cells [V.lst 5 false a0,V.int IntKind.i64 a1]] r:=aR (g:=fun k n=>T35 (aA cfg k) a0 a1 a2 a3) (fun k=>C35 k a0 a1 a2 a3) h
def FN (call:FuncId→Fun) (ag0:List UInt8→List V→Int→List V→Int→Int→List V→Int→Int→Int→Int→Int→Int→Int→Option (V×List Ob)) (s0:List UInt8) (l1:List V) (i2:Int) (l3:List V) (i4:Int) (i5:Int) (l6:List V) (i7:Int) (i8:Int) (i9:Int) (i10:Int) (i11:Int) (i12:Int) (i13:Int):Option (V×List Ob):=
 if(decide (i5<i4))=true then
 chk (decide (0≤i5)) (chk (decide (i5<((length l3:Nat):Int))) (Option.bind (call 57 [(V.lst 5 false l6),(V.agg [(V.int .i64 (getI (headD (V.cells (getD l3 (Int.toNat i5) V.bot)) V.bot))),(V.int .i64 (getI (headD (tail (V.cells (getD l3 (Int.toNat i5) V.bot))) V.bot))),(V.int .i64 (getI (headD (tail (tail (V.cells (getD l3 (Int.toNat i5) V.bot)))) V.bot)))])] []) fun z0=>
 Option.bind (call 63 [(V.str (getS z0.1)),(V.str s0)] []) fun z1=>
 if(!(getB (headD (getT z1.1) V.bot)))=true then
 (ag0 (s0) (l1) ((getI (headD (tail (V.cells (getD l3 (Int.toNat i5) V.bot))) V.bot))) (l3) (i4) ((IntKind.wrap .i64 (i5+(1:Int)))) (l6) (i7) (i8) (i9) (i10) (i11) (i12) (i13))
 else
 if(getB (headD (tail (getT z1.1)) V.bot))=true then
 some ((V.tup [(V.lst 27 false l1),(V.agg [(V.int .i64 i2),(V.int .i64 (getI (headD (tail (tail (V.cells (getD l3 (Int.toNat i5) V.bot)))) V.bot)))]),(V.bool (decide (((length l1:Nat):Int)>(0:Int))))]),[(Ob.cells [(V.lst 5 false l6),(V.int .i64 i7)])])
 else
 chk (cK l1 [(V.agg [(V.int .i64 i2),(V.int .i64 (getI (headD (tail (tail (V.cells (getD l3 (Int.toNat i5) V.bot)))) V.bot)))])] 17) ((ag0 (s0) ((l1++[(V.agg [(V.int .i64 i2),(V.int .i64 (getI (headD (tail (tail (V.cells (getD l3 (Int.toNat i5) V.bot)))) V.bot)))])])) ((getI (headD (tail (tail (V.cells (getD l3 (Int.toNat i5) V.bot)))) V.bot))) (l3) (i4) ((IntKind.wrap .i64 (i5+(1:Int)))) (l6) (i7) (i8) (i9) (i10) (i11) (i12) (i13)))))
 else
 some ((V.tup [(V.lst 27 false l1),(V.agg [(V.int .i64 i12),(V.int .i64 i13)]),(V.bool (decide (((length l1:Nat):Int)>(0:Int))))]),[(Ob.cells [(V.lst 5 false l6),(V.int .i64 i7)])])
def T37 (call:FuncId→Fun) (ag0:List UInt8→List V→Int→List V→Int→Int→List V→Int→Int→Int→Int→Int→Int→Int→Option (V×List Ob)) (a0:List V) (a1:Int) (a2:Int) (a3:Int) (a4:List UInt8):Option (V×List Ob):=
 Option.bind (call 55 [(V.lst 5 false a0),(V.agg [(V.int .i64 a2),(V.int .i64 a3)])] []) fun z0=>
 (ag0 (a4) ([]) (a2) ((getL z0.1)) (((length (getL z0.1):Nat):Int)) ((0:Int)) (a0) (a1) (a2) (a3) ((0:Int)) ((0:Int)) (a3) (a3))
def O37 (a0:List V) (a1:Int):List Ob:=[Ob.cells [V.lst 5 false a0,V.int IntKind.i64 a1]]
def A37 (a2:Int) (a3:Int) (a4:List UInt8):List V:=[V.ref 0 0,V.agg [V.int IntKind.i64 a2,V.int IntKind.i64 a3],V.str a4]
def Cu (s0:List UInt8) (l1:List V) (i2:Int) (l3:List V) (i4:Int) (i5:Int) (l6:List V) (i7:Int) (i8:Int) (i9:Int) (i10:Int) (i11:Int) (i12:Int) (i13:Int):St:=⟨[(V.ref 0 0),V.bot,(V.str s0),V.bot,V.bot,V.bot,V.bot,(V.ref 2 0),V.bot,(V.lst 27 true l1),(V.ref 3 0),(V.int IntKind.i64 i2),V.bot,V.bot,V.bot,V.bot,V.bot,V.bot,V.bot,V.bot,V.bot,V.bot,V.bot,V.bot,V.bot,V.bot,V.bot,V.bot,V.bot,(V.lst 128 false l3),(V.int IntKind.i64 i4),(V.int IntKind.i64 i5)]++List.replicate 42 V.bot,[(Ob.cells [(V.lst 5 false l6),(V.int IntKind.i64 i7)]),(Ob.cells [(V.int IntKind.i64 i8),(V.int IntKind.i64 i9)]),(Ob.cells [(V.int IntKind.i64 i10),(V.int IntKind.i64 i11)]),(Ob.cells [(V.int IntKind.i64 i12),(V.int IntKind.i64 i13)])]⟩
theorem QS (a0:List V) (a1:Int) (s0:List UInt8) (l1:List V) (i2:Int) (l3:List V) (i4:Int) (i5:Int) (l6:List V) (i7:Int) (i8:Int) (i9:Int) (i10:Int) (i11:Int) (i12:Int) (i13:Int):
 RM 37 Tryz.f37 (O37 a0 a1) call icall again (aL Tryz.f37 0) (Cu s0 l1 i2 l3 i4 i5 l6 i7 i8 i9 i10 i11 i12 i13)=FN call (fun s0 l1 i2 l3 i4 i5 l6 i7 i8 i9 i10 i11 i12 i13=>again (aL Tryz.f37 0) (Cu s0 l1 i2 l3 i4 i5 l6 i7 i8 i9 i10 i11 i12 i13)) s0 l1 i2 l3 i4 i5 l6 i7 i8 i9 i10 i11 i12 i13:=by kernel_rfl
theorem E37 (a0:List V) (a1:Int) (a2:Int) (a3:Int) (a4:List UInt8):GO 37 Tryz.f37 (A37 a2 a3 a4) (O37 a0 a1) call icall again=T37 call (fun s0 l1 i2 l3 i4 i5 l6 i7 i8 i9 i10 i11 i12 i13=>again (aL Tryz.f37 0) (Cu s0 l1 i2 l3 i4 i5 l6 i7 i8 i9 i10 i11 i12 i13)) a0 a1 a2 a3 a4:=by kernel_rfl
def L37 (call:FuncId→Fun):Nat→(List UInt8→List V→Int→List V→Int→Int→List V→Int→Int→Int→Int→Int→Int→Int→Option (V×List Ob))
 |0=>fun _ _ _ _ _ _ _ _ _ _ _ _ _ _=>none
 |n+1=>FN call (L37 call n)
theorem R37 (call:FuncId→Fun) (icall:aN (V×List Ob)) (a0:List V) (a1:Int):∀n,(∀(s0:List UInt8) (l1:List V) (i2:Int) (l3:List V) (i4:Int) (i5:Int) (l6:List V) (i7:Int) (i8:Int) (i9:Int) (i10:Int) (i11:Int) (i12:Int) (i13:Int),RN 37 Tryz.f37 (O37 a0 a1) call icall n (aL Tryz.f37 0) (Cu s0 l1 i2 l3 i4 i5 l6 i7 i8 i9 i10 i11 i12 i13)=(L37 call n) s0 l1 i2 l3 i4 i5 l6 i7 i8 i9 i10 i11 i12 i13)
 |0=>fun s0 l1 i2 l3 i4 i5 l6 i7 i8 i9 i10 i11 i12 i13=>rfl
 |n+1=>by
  have ih:=R37 call icall a0 a1 n
  exact fun s0 l1 i2 l3 i4 i5 l6 i7 i8 i9 i10 i11 i12 i13=>(QS call icall (RN 37 Tryz.f37 (O37 a0 a1) call icall n) a0 a1 s0 l1 i2 l3 i4 i5 l6 i7 i8 i9 i10 i11 i12 i13).trans (by rw[show(fun s0 l1 i2 l3 i4 i5 l6 i7 i8 i9 i10 i11 i12 i13=>RN 37 Tryz.f37 (O37 a0 a1) call icall n (aL Tryz.f37 0) (Cu s0 l1 i2 l3 i4 i5 l6 i7 i8 i9 i10 i11 i12 i13))=(L37 call n)from(funext fun s0=>funext fun l1=>funext fun i2=>funext fun l3=>funext fun i4=>funext fun i5=>funext fun l6=>funext fun i7=>funext fun i8=>funext fun i9=>funext fun i10=>funext fun i11=>funext fun i12=>funext fun i13=>ih s0 l1 i2 l3 i4 i5 l6 i7 i8 i9 i10 i11 i12 i13)];rfl)
theorem C37 (k:Nat) (a0:List V) (a1:Int) (a2:Int) (a3:Int) (a4:List UInt8):aA cfg (k+1) 37 (A37 a2 a3 a4) (O37 a0 a1)=T37 (aA cfg k) (L37 (aA cfg k) k) a0 a1 a2 a3 a4:=by
 have ih:=R37 (aA cfg k) (aF cfg (aA cfg k) 20) a0 a1 k
 refine(show aA cfg (k+1) 37 (A37 a2 a3 a4) (O37 a0 a1)=GO 37 Tryz.f37 (A37 a2 a3 a4) (O37 a0 a1) (aA cfg k) (aF cfg (aA cfg k) 20) (RN 37 Tryz.f37 (O37 a0 a1) (aA cfg k) (aF cfg (aA cfg k) 20) k)by kernel_rfl).trans ((E37 _ _ _ a0 a1 a2 a3 a4).trans ?_)
 rw[show(fun s0 l1 i2 l3 i4 i5 l6 i7 i8 i9 i10 i11 i12 i13=>RN 37 Tryz.f37 (O37 a0 a1) (aA cfg k) (aF cfg (aA cfg k) 20) k (aL Tryz.f37 0) (Cu s0 l1 i2 l3 i4 i5 l6 i7 i8 i9 i10 i11 i12 i13))=(L37 (aA cfg k) k)from(funext fun s0=>funext fun l1=>funext fun i2=>funext fun l3=>funext fun i4=>funext fun i5=>funext fun l6=>funext fun i7=>funext fun i8=>funext fun i9=>funext fun i10=>funext fun i11=>funext fun i12=>funext fun i13=>ih s0 l1 i2 l3 i4 i5 l6 i7 i8 i9 i10 i11 i12 i13)]
theorem M37 (a0:List V) (a1:Int) (a2:Int) (a3:Int) (a4:List UInt8) {r:V×List Ob} (h:Evt (fun k n=>T37 (aA cfg k) (L37 (aA cfg k) n) a0 a1 a2 a3 a4) r):Ret 37 [V.ref 0 0,V.agg [V.int IntKind.i64 a2,V.int IntKind.i64 a3],V.str a4] [Ob.cells [V.lst 5 false a0,V.int IntKind.i64 a1]] r:=aR (g:=fun k n=>T37 (aA cfg k) (L37 (aA cfg k) n) a0 a1 a2 a3 a4) (fun k=>C37 k a0 a1 a2 a3 a4) h
theorem NV (s0:List UInt8) (l1:List V) (i2:Int) (l3:List V) (i4:Int) (i5:Int) (l6:List V) (i7:Int) (i8:Int) (i9:Int) (i10:Int) (i11:Int) (i12:Int) (i13:Int) {r:V×List Ob} (h:Evt (fun k n=>FN (aA cfg k) (L37 (aA cfg k) n) s0 l1 i2 l3 i4 i5 l6 i7 i8 i9 i10 i11 i12 i13) r):Evt (fun k n=>(L37 (aA cfg k) n) s0 l1 i2 l3 i4 i5 l6 i7 i8 i9 i10 i11 i12 i13) r:=aX (fun k n=>rfl) h
def Cv (call:FuncId→Fun) (ag0:Int→Bool→List V→Int→Int→List V→Int→Int→Int→Int→Int→Int→List V→List V→Int→Int→Option (V×List Ob)) (i0:Int) (b1:Bool) (l2:List V) (i3:Int) (i4:Int) (l5:List V) (i6:Int) (i7:Int) (i8:Int) (i9:Int) (i10:Int) (i11:Int) (l12:List V) (l13:List V) (i14:Int) (i15:Int):Option (V×List Ob):=
 if(decide (i4<i3))=true then
 chk (decide (0≤i4)) (chk (decide (i4<((length l2:Nat):Int))) (if(decide ((IntKind.wrap .i64 (i4+(1:Int)))<((length l13:Nat):Int)))=true then
 chk (decide (0≤(IntKind.wrap .i64 (i4+(1:Int))))) (chk (decide ((IntKind.wrap .i64 (i4+(1:Int)))<((length l13:Nat):Int))) (Option.bind (call 15 [(V.ref 0 0),(V.agg [(V.int .i64 (getI (headD (tail (V.cells (getD l2 (Int.toNat i4) V.bot))) V.bot))),(V.int .i64 (if(getI (headD (tail (V.cells (getD l2 (Int.toNat i4) V.bot))) V.bot))>(getI (headD (V.cells (getD l13 (Int.toNat (IntKind.wrap .i64 (i4+(1:Int)))) V.bot)) V.bot))then(getI (headD (tail (V.cells (getD l2 (Int.toNat i4) V.bot))) V.bot))else(getI (headD (V.cells (getD l13 (Int.toNat (IntKind.wrap .i64 (i4+(1:Int)))) V.bot)) V.bot))))]),(V.int .i64 i0),(V.bool b1)] [(Ob.cells [(V.lst 5 false l5),(V.int .i64 i6)])]) fun z0=>
 chk (((length l12:Nat):Int)==((length l12:Nat):Int)) (chk (cK l12 [(V.agg [(V.int .i64 (getI (headD (V.cells z0.1) V.bot))),(V.int .i64 (getI (headD (tail (V.cells z0.1)) V.bot))),(V.int .i64 (getI (headD (tail (tail (V.cells z0.1))) V.bot))),(V.int .i64 (getI (headD (tail (tail (tail (V.cells z0.1)))) V.bot))),(V.int .i64 (getI (headD (tail (tail (tail (tail (V.cells z0.1))))) V.bot))),(V.lst 31 false (getL (headD (tail (tail (tail (tail (tail (V.cells z0.1)))))) V.bot))),(V.lst 27 false (getL (headD (tail (tail (tail (tail (tail (tail (V.cells z0.1))))))) V.bot))),(V.int .i64 (getI (headD (tail (tail (tail (tail (tail (tail (tail (V.cells z0.1)))))))) V.bot))),(V.int .i64 (getI (headD (tail (tail (tail (tail (tail (tail (tail (tail (V.cells z0.1))))))))) V.bot)))])] 105) ((ag0 (i0) (b1) (l2) (i3) ((IntKind.wrap .i64 (i4+(1:Int)))) ((getL (headD (Ob.getC (headD z0.2 Ob.dead)) V.bot))) ((getI (headD (tail (Ob.getC (headD z0.2 Ob.dead))) V.bot))) (i7) (i8) (i9) (i10) (i11) ((l12++[(V.agg [(V.int .i64 (getI (headD (V.cells z0.1) V.bot))),(V.int .i64 (getI (headD (tail (V.cells z0.1)) V.bot))),(V.int .i64 (getI (headD (tail (tail (V.cells z0.1))) V.bot))),(V.int .i64 (getI (headD (tail (tail (tail (V.cells z0.1)))) V.bot))),(V.int .i64 (getI (headD (tail (tail (tail (tail (V.cells z0.1))))) V.bot))),(V.lst 31 false (getL (headD (tail (tail (tail (tail (tail (V.cells z0.1)))))) V.bot))),(V.lst 27 false (getL (headD (tail (tail (tail (tail (tail (tail (V.cells z0.1))))))) V.bot))),(V.int .i64 (getI (headD (tail (tail (tail (tail (tail (tail (tail (V.cells z0.1)))))))) V.bot))),(V.int .i64 (getI (headD (tail (tail (tail (tail (tail (tail (tail (tail (V.cells z0.1))))))))) V.bot)))])])) (l13) (i14) (i15))))))
 else
 Option.bind (call 15 [(V.ref 0 0),(V.agg [(V.int .i64 (getI (headD (tail (V.cells (getD l2 (Int.toNat i4) V.bot))) V.bot))),(V.int .i64 (if(getI (headD (tail (V.cells (getD l2 (Int.toNat i4) V.bot))) V.bot))>i14 then(getI (headD (tail (V.cells (getD l2 (Int.toNat i4) V.bot))) V.bot))else i14))]),(V.int .i64 i0),(V.bool b1)] [(Ob.cells [(V.lst 5 false l5),(V.int .i64 i6)])]) fun z0=>
 chk (((length l12:Nat):Int)==((length l12:Nat):Int)) (chk (cK l12 [(V.agg [(V.int .i64 (getI (headD (V.cells z0.1) V.bot))),(V.int .i64 (getI (headD (tail (V.cells z0.1)) V.bot))),(V.int .i64 (getI (headD (tail (tail (V.cells z0.1))) V.bot))),(V.int .i64 (getI (headD (tail (tail (tail (V.cells z0.1)))) V.bot))),(V.int .i64 (getI (headD (tail (tail (tail (tail (V.cells z0.1))))) V.bot))),(V.lst 31 false (getL (headD (tail (tail (tail (tail (tail (V.cells z0.1)))))) V.bot))),(V.lst 27 false (getL (headD (tail (tail (tail (tail (tail (tail (V.cells z0.1))))))) V.bot))),(V.int .i64 (getI (headD (tail (tail (tail (tail (tail (tail (tail (V.cells z0.1)))))))) V.bot))),(V.int .i64 (getI (headD (tail (tail (tail (tail (tail (tail (tail (tail (V.cells z0.1))))))))) V.bot)))])] 105) ((ag0 (i0) (b1) (l2) (i3) ((IntKind.wrap .i64 (i4+(1:Int)))) ((getL (headD (Ob.getC (headD z0.2 Ob.dead)) V.bot))) ((getI (headD (tail (Ob.getC (headD z0.2 Ob.dead))) V.bot))) (i7) (i8) (i9) (i10) (i11) ((l12++[(V.agg [(V.int .i64 (getI (headD (V.cells z0.1) V.bot))),(V.int .i64 (getI (headD (tail (V.cells z0.1)) V.bot))),(V.int .i64 (getI (headD (tail (tail (V.cells z0.1))) V.bot))),(V.int .i64 (getI (headD (tail (tail (tail (V.cells z0.1)))) V.bot))),(V.int .i64 (getI (headD (tail (tail (tail (tail (V.cells z0.1))))) V.bot))),(V.lst 31 false (getL (headD (tail (tail (tail (tail (tail (V.cells z0.1)))))) V.bot))),(V.lst 27 false (getL (headD (tail (tail (tail (tail (tail (tail (V.cells z0.1))))))) V.bot))),(V.int .i64 (getI (headD (tail (tail (tail (tail (tail (tail (tail (V.cells z0.1)))))))) V.bot))),(V.int .i64 (getI (headD (tail (tail (tail (tail (tail (tail (tail (tail (V.cells z0.1))))))))) V.bot)))])])) (l13) (i14) (i15))))))
 else
 some ((V.tup []),[(Ob.cells [(V.lst 5 false l5),(V.int .i64 i6)]),(Ob.cells [(V.int .i64 i7),(V.int .i64 i8),(V.int .i64 i9),(V.int .i64 i10),(V.int .i64 i11),(V.lst 31 true l12),(V.lst 27 false l13),(V.int .i64 i14),(V.int .i64 i15)])])
def T38 (call:FuncId→Fun) (ag0:Int→Bool→List V→Int→Int→List V→Int→Int→Int→Int→Int→Int→List V→List V→Int→Int→Option (V×List Ob)) (a0:List V) (a1:Int) (a2:Int) (a3:Int) (a4:Int) (a5:Int) (a6:Int) (a7:List V) (a8:List V) (a9:Int) (a10:Int) (a11:Int) (a12:Bool):Option (V×List Ob):=
 (ag0 (a11) (a12) (a8) (((length a8:Nat):Int)) ((0:Int)) (a0) (a1) (a2) (a3) (a4) (a5) (a6) (a7) (a8) (a9) (a10))
def O38 (a0:List V) (a1:Int) (a2:Int) (a3:Int) (a4:Int) (a5:Int) (a6:Int) (a7:List V) (a8:List V) (a9:Int) (a10:Int):List Ob:=[Ob.cells [V.lst 5 false a0,V.int IntKind.i64 a1],Ob.cells [V.int IntKind.i64 a2,V.int IntKind.i64 a3,V.int IntKind.i64 a4,V.int IntKind.i64 a5,V.int IntKind.i64 a6,V.lst 31 true a7,V.lst 27 false a8,V.int IntKind.i64 a9,V.int IntKind.i64 a10]]
def A38 (a11:Int) (a12:Bool):List V:=[V.ref 0 0,V.ref 1 0,V.int IntKind.i64 a11,V.bool a12]
def Cw (i0:Int) (b1:Bool) (l2:List V) (i3:Int) (i4:Int) (l5:List V) (i6:Int) (i7:Int) (i8:Int) (i9:Int) (i10:Int) (i11:Int) (l12:List V) (l13:List V) (i14:Int) (i15:Int):St:=⟨[(V.ref 0 0),(V.ref 1 0),(V.int IntKind.i64 i0),(V.bool b1),V.bot,V.bot,V.bot,V.bot,V.bot,V.bot,V.bot,V.bot,V.bot,V.bot,(V.lst 27 false l2),(V.int IntKind.i64 i3),(V.int IntKind.i64 i4)]++List.replicate 48 V.bot,[(Ob.cells [(V.lst 5 false l5),(V.int IntKind.i64 i6)]),(Ob.cells [(V.int IntKind.i64 i7),(V.int IntKind.i64 i8),(V.int IntKind.i64 i9),(V.int IntKind.i64 i10),(V.int IntKind.i64 i11),(V.lst 31 true l12),(V.lst 27 false l13),(V.int IntKind.i64 i14),(V.int IntKind.i64 i15)])]⟩
theorem QT (a0:List V) (a1:Int) (a2:Int) (a3:Int) (a4:Int) (a5:Int) (a6:Int) (a7:List V) (a8:List V) (a9:Int) (a10:Int) (i0:Int) (b1:Bool) (l2:List V) (i3:Int) (i4:Int) (l5:List V) (i6:Int) (i7:Int) (i8:Int) (i9:Int) (i10:Int) (i11:Int) (l12:List V) (l13:List V) (i14:Int) (i15:Int):
 RM 38 Tryz.f38 (O38 a0 a1 a2 a3 a4 a5 a6 a7 a8 a9 a10) call icall again (aL Tryz.f38 0) (Cw i0 b1 l2 i3 i4 l5 i6 i7 i8 i9 i10 i11 l12 l13 i14 i15)=Cv call (fun i0 b1 l2 i3 i4 l5 i6 i7 i8 i9 i10 i11 l12 l13 i14 i15=>again (aL Tryz.f38 0) (Cw i0 b1 l2 i3 i4 l5 i6 i7 i8 i9 i10 i11 l12 l13 i14 i15)) i0 b1 l2 i3 i4 l5 i6 i7 i8 i9 i10 i11 l12 l13 i14 i15:=by kernel_rfl
theorem E38 (a0:List V) (a1:Int) (a2:Int) (a3:Int) (a4:Int) (a5:Int) (a6:Int) (a7:List V) (a8:List V) (a9:Int) (a10:Int) (a11:Int) (a12:Bool):GO 38 Tryz.f38 (A38 a11 a12) (O38 a0 a1 a2 a3 a4 a5 a6 a7 a8 a9 a10) call icall again=T38 call (fun i0 b1 l2 i3 i4 l5 i6 i7 i8 i9 i10 i11 l12 l13 i14 i15=>again (aL Tryz.f38 0) (Cw i0 b1 l2 i3 i4 l5 i6 i7 i8 i9 i10 i11 l12 l13 i14 i15)) a0 a1 a2 a3 a4 a5 a6 a7 a8 a9 a10 a11 a12:=by kernel_rfl
def L38 (call:FuncId→Fun):Nat→(Int→Bool→List V→Int→Int→List V→Int→Int→Int→Int→Int→Int→List V→List V→Int→Int→Option (V×List Ob))
 |0=>fun _ _ _ _ _ _ _ _ _ _ _ _ _ _ _ _=>none
 |n+1=>Cv call (L38 call n)
theorem R38 (call:FuncId→Fun) (icall:aN (V×List Ob)) (a0:List V) (a1:Int) (a2:Int) (a3:Int) (a4:Int) (a5:Int) (a6:Int) (a7:List V) (a8:List V) (a9:Int) (a10:Int):∀n,(∀(i0:Int) (b1:Bool) (l2:List V) (i3:Int) (i4:Int) (l5:List V) (i6:Int) (i7:Int) (i8:Int) (i9:Int) (i10:Int) (i11:Int) (l12:List V) (l13:List V) (i14:Int) (i15:Int),RN 38 Tryz.f38 (O38 a0 a1 a2 a3 a4 a5 a6 a7 a8 a9 a10) call icall n (aL Tryz.f38 0) (Cw i0 b1 l2 i3 i4 l5 i6 i7 i8 i9 i10 i11 l12 l13 i14 i15)=(L38 call n) i0 b1 l2 i3 i4 l5 i6 i7 i8 i9 i10 i11 l12 l13 i14 i15)
 |0=>fun i0 b1 l2 i3 i4 l5 i6 i7 i8 i9 i10 i11 l12 l13 i14 i15=>rfl
 |n+1=>by
  have ih:=R38 call icall a0 a1 a2 a3 a4 a5 a6 a7 a8 a9 a10 n
  exact fun i0 b1 l2 i3 i4 l5 i6 i7 i8 i9 i10 i11 l12 l13 i14 i15=>(QT call icall (RN 38 Tryz.f38 (O38 a0 a1 a2 a3 a4 a5 a6 a7 a8 a9 a10) call icall n) a0 a1 a2 a3 a4 a5 a6 a7 a8 a9 a10 i0 b1 l2 i3 i4 l5 i6 i7 i8 i9 i10 i11 l12 l13 i14 i15).trans (by rw[show(fun i0 b1 l2 i3 i4 l5 i6 i7 i8 i9 i10 i11 l12 l13 i14 i15=>RN 38 Tryz.f38 (O38 a0 a1 a2 a3 a4 a5 a6 a7 a8 a9 a10) call icall n (aL Tryz.f38 0) (Cw i0 b1 l2 i3 i4 l5 i6 i7 i8 i9 i10 i11 l12 l13 i14 i15))=(L38 call n)from(funext fun i0=>funext fun b1=>funext fun l2=>funext fun i3=>funext fun i4=>funext fun l5=>funext fun i6=>funext fun i7=>funext fun i8=>funext fun i9=>funext fun i10=>funext fun i11=>funext fun l12=>funext fun l13=>funext fun i14=>funext fun i15=>ih i0 b1 l2 i3 i4 l5 i6 i7 i8 i9 i10 i11 l12 l13 i14 i15)];rfl)
theorem C38 (k:Nat) (a0:List V) (a1:Int) (a2:Int) (a3:Int) (a4:Int) (a5:Int) (a6:Int) (a7:List V) (a8:List V) (a9:Int) (a10:Int) (a11:Int) (a12:Bool):aA cfg (k+1) 38 (A38 a11 a12) (O38 a0 a1 a2 a3 a4 a5 a6 a7 a8 a9 a10)=T38 (aA cfg k) (L38 (aA cfg k) k) a0 a1 a2 a3 a4 a5 a6 a7 a8 a9 a10 a11 a12:=by
 have ih:=R38 (aA cfg k) (aF cfg (aA cfg k) 20) a0 a1 a2 a3 a4 a5 a6 a7 a8 a9 a10 k
 refine(show aA cfg (k+1) 38 (A38 a11 a12) (O38 a0 a1 a2 a3 a4 a5 a6 a7 a8 a9 a10)=GO 38 Tryz.f38 (A38 a11 a12) (O38 a0 a1 a2 a3 a4 a5 a6 a7 a8 a9 a10) (aA cfg k) (aF cfg (aA cfg k) 20) (RN 38 Tryz.f38 (O38 a0 a1 a2 a3 a4 a5 a6 a7 a8 a9 a10) (aA cfg k) (aF cfg (aA cfg k) 20) k)by kernel_rfl).trans ((E38 _ _ _ a0 a1 a2 a3 a4 a5 a6 a7 a8 a9 a10 a11 a12).trans ?_)
 rw[show(fun i0 b1 l2 i3 i4 l5 i6 i7 i8 i9 i10 i11 l12 l13 i14 i15=>RN 38 Tryz.f38 (O38 a0 a1 a2 a3 a4 a5 a6 a7 a8 a9 a10) (aA cfg k) (aF cfg (aA cfg k) 20) k (aL Tryz.f38 0) (Cw i0 b1 l2 i3 i4 l5 i6 i7 i8 i9 i10 i11 l12 l13 i14 i15))=(L38 (aA cfg k) k)from(funext fun i0=>funext fun b1=>funext fun l2=>funext fun i3=>funext fun i4=>funext fun l5=>funext fun i6=>funext fun i7=>funext fun i8=>funext fun i9=>funext fun i10=>funext fun i11=>funext fun l12=>funext fun l13=>funext fun i14=>funext fun i15=>ih i0 b1 l2 i3 i4 l5 i6 i7 i8 i9 i10 i11 l12 l13 i14 i15)]
theorem M38 (a0:List V) (a1:Int) (a2:Int) (a3:Int) (a4:Int) (a5:Int) (a6:Int) (a7:List V) (a8:List V) (a9:Int) (a10:Int) (a11:Int) (a12:Bool) {r:V×List Ob} (h:Evt (fun k n=>T38 (aA cfg k) (L38 (aA cfg k) n) a0 a1 a2 a3 a4 a5 a6 a7 a8 a9 a10 a11 a12) r):Ret 38 [V.ref 0 0,V.ref 1 0,V.int IntKind.i64 a11,V.bool a12] [Ob.cells [V.lst 5 false a0,V.int IntKind.i64 a1],Ob.cells [V.int IntKind.i64 a2,V.int IntKind.i64 a3,V.int IntKind.i64 a4,V.int IntKind.i64 a5,V.int IntKind.i64 a6,V.lst 31 true a7,V.lst 27 false a8,V.int IntKind.i64 a9,V.int IntKind.i64 a10]] r:=aR (g:=fun k n=>T38 (aA cfg k) (L38 (aA cfg k) n) a0 a1 a2 a3 a4 a5 a6 a7 a8 a9 a10 a11 a12) (fun k=>C38 k a0 a1 a2 a3 a4 a5 a6 a7 a8 a9 a10 a11 a12) h
theorem NW (i0:Int) (b1:Bool) (l2:List V) (i3:Int) (i4:Int) (l5:List V) (i6:Int) (i7:Int) (i8:Int) (i9:Int) (i10:Int) (i11:Int) (l12:List V) (l13:List V) (i14:Int) (i15:Int) {r:V×List Ob} (h:Evt (fun k n=>Cv (aA cfg k) (L38 (aA cfg k) n) i0 b1 l2 i3 i4 l5 i6 i7 i8 i9 i10 i11 l12 l13 i14 i15) r):Evt (fun k n=>(L38 (aA cfg k) n) i0 b1 l2 i3 i4 l5 i6 i7 i8 i9 i10 i11 l12 l13 i14 i15) r:=aX (fun k n=>rfl) h
def T39 (call:FuncId→Fun) (a0:List V) (a1:Int) (a2:List V):Option (V×List Ob):=
 Option.bind (call 64 [(V.lst 133 false a2),(V.str [99,111,110,116,101,110,116,45,116,114,97,110,115,102,101,114,45,101,110,99,111,100,105,110,103])] []) fun z0=>
 if(!(getB (headD (tail (getT z0.1)) V.bot)))=true then
 some ((V.bool true),[(Ob.cells [(V.lst 5 false a0),(V.int .i64 a1)])])
 else
 Option.bind (call 66 [(V.lst 5 false a0),(V.agg [(V.str (getS (headD (V.cells (headD (getT z0.1) V.bot)) V.bot))),(V.int .i64 (getI (headD (tail (V.cells (headD (getT z0.1) V.bot))) V.bot))),(V.int .i64 (getI (headD (tail (tail (V.cells (headD (getT z0.1) V.bot)))) V.bot))),(V.int .i64 (getI (headD (tail (tail (tail (V.cells (headD (getT z0.1) V.bot))))) V.bot)))])] []) fun z1=>
 Option.bind (call 65 [(V.str (getS z1.1))] []) fun z2=>
 if(sEq (getS z2.1) [55,98,105,116])=true then
 some ((V.bool true),[(Ob.cells [(V.lst 5 false a0),(V.int .i64 a1)])])
 else
 if(sEq (getS z2.1) [56,98,105,116])=true then
 some ((V.bool true),[(Ob.cells [(V.lst 5 false a0),(V.int .i64 a1)])])
 else
 if(sEq (getS z2.1) [98,105,110,97,114,121])=true then
 some ((V.bool true),[(Ob.cells [(V.lst 5 false a0),(V.int .i64 a1)])])
 else
 some ((V.bool false),[(Ob.cells [(V.lst 5 false a0),(V.int .i64 a1)])])
def O39 (a0:List V) (a1:Int):List Ob:=[Ob.cells [V.lst 5 false a0,V.int IntKind.i64 a1]]
def A39 (a2:List V):List V:=[V.ref 0 0,V.lst 133 false a2]
theorem E39 (a0:List V) (a1:Int) (a2:List V):GO 39 Tryz.f39 (A39 a2) (O39 a0 a1) call icall again=T39 call a0 a1 a2:=by kernel_rfl
theorem C39 (k:Nat) (a0:List V) (a1:Int) (a2:List V):aA cfg (k+1) 39 (A39 a2) (O39 a0 a1)=T39 (aA cfg k) a0 a1 a2:=
 (show aA cfg (k+1) 39 (A39 a2) (O39 a0 a1)=GO 39 Tryz.f39 (A39 a2) (O39 a0 a1) (aA cfg k) (aF cfg (aA cfg k) 20) (RN 39 Tryz.f39 (O39 a0 a1) (aA cfg k) (aF cfg (aA cfg k) 20) k)by kernel_rfl).trans (E39 _ _ _ a0 a1 a2)
theorem M39 (a0:List V) (a1:Int) (a2:List V) {r:V×List Ob} (h:Evt (fun k n=>T39 (aA cfg k) a0 a1 a2) r):Ret 39 [V.ref 0 0,V.lst 133 false a2] [Ob.cells [V.lst 5 false a0,V.int IntKind.i64 a1]] r:=aR (g:=fun k n=>T39 (aA cfg k) a0 a1 a2) (fun k=>C39 k a0 a1 a2) h
def T15 (call:FuncId→Fun) (a0:List V) (a1:Int) (a2:Int) (a3:Int) (a4:Int) (a5:Bool):Option (V×List Ob):=
 Option.bind (call 34 [(V.lst 5 false a0),(V.agg [(V.int .i64 a2),(V.int .i64 a3)])] []) fun z0=>
 if(a4==(32:Int))=true then
 some ((V.agg [(V.int .i64 0),(V.int .i64 a2),(V.int .i64 (getI (headD (tail (getT z0.1)) V.bot))),(V.int .i64 (getI (headD (tail (getT z0.1)) V.bot))),(V.int .i64 a3),(V.lst 31 false []),(V.lst 27 false []),(V.int .i64 0),(V.int .i64 0)]),[(Ob.cells [(V.lst 5 false a0),(V.int .i64 a1)])])
 else
 Option.bind (call 35 [(V.ref 0 0),(V.lst 133 false (getL (headD (getT z0.1) V.bot))),(V.bool a5)] [(Ob.cells [(V.lst 5 false a0),(V.int .i64 a1)])]) fun z1=>
 Option.bind (call 36 [(V.agg [(V.str (getS (headD (V.cells z1.1) V.bot))),(V.str (getS (headD (tail (V.cells z1.1)) V.bot))),(V.lst 140 false (getL (headD (tail (tail (V.cells z1.1))) V.bot)))]),(V.str [98,111,117,110,100,97,114,121])] []) fun z2=>
 Option.bind (if(sEq (getS (headD (V.cells z1.1) V.bot)) [109,117,108,116,105,112,97,114,116])=true then
 if(!(sEq (getS (headD (getT z2.1) V.bot)) []))=true then
 some (decide (((length (getS (headD (getT z2.1) V.bot)):Nat):Int)≤(70:Int)))
 else
 some false
 else
 some false) fun y3=>
 if y3=true then
 Option.bind (call 37 [(V.ref 0 0),(V.agg [(V.int .i64 (getI (headD (tail (getT z0.1)) V.bot))),(V.int .i64 a3)]),(V.str (getS (headD (getT z2.1) V.bot)))] [(Ob.cells [(V.lst 5 false (getL (headD (Ob.getC (headD z1.2 Ob.dead)) V.bot))),(V.int .i64 (getI (headD (tail (Ob.getC (headD z1.2 Ob.dead))) V.bot)))])]) fun z4=>
 Option.bind (if(getB (headD (tail (tail (getT z4.1))) V.bot))=true then
 some (decide ((IntKind.wrap .i64 ((getI (headD (tail (Ob.getC (headD z4.2 Ob.dead))) V.bot))+((length (getL (headD (getT z4.1) V.bot)):Nat):Int)))≤(1000:Int)))
 else
 some false) fun y5=>
 if y5=true then
 Option.bind (call 38 [(V.ref 0 0),(V.ref 1 0),(V.int .i64 (IntKind.wrap .i64 (a4+(1:Int)))),(V.bool (sEq (getS (headD (tail (V.cells z1.1)) V.bot)) [100,105,103,101,115,116]))] [(Ob.cells [(V.lst 5 false (getL (headD (Ob.getC (headD z4.2 Ob.dead)) V.bot))),(V.int .i64 (IntKind.wrap .i64 ((getI (headD (tail (Ob.getC (headD z4.2 Ob.dead))) V.bot))+((length (getL (headD (getT z4.1) V.bot)):Nat):Int))))]),(Ob.cells [(V.int .i64 1),(V.int .i64 a2),(V.int .i64 (getI (headD (tail (getT z0.1)) V.bot))),(V.int .i64 (getI (headD (tail (getT z0.1)) V.bot))),(V.int .i64 a3),(V.lst 31 true []),(V.lst 27 false (getL (headD (getT z4.1) V.bot))),(V.int .i64 (getI (headD (V.cells (headD (tail (getT z4.1)) V.bot)) V.bot))),(V.int .i64 (getI (headD (tail (V.cells (headD (tail (getT z4.1)) V.bot))) V.bot)))])]) fun z6=>
 some ((V.agg [(V.int .i64 (getI (headD (Ob.getC (headD (tail z6.2) Ob.dead)) V.bot))),(V.int .i64 (getI (headD (tail (Ob.getC (headD (tail z6.2) Ob.dead))) V.bot))),(V.int .i64 (getI (headD (tail (tail (Ob.getC (headD (tail z6.2) Ob.dead)))) V.bot))),(V.int .i64 (getI (headD (tail (tail (tail (Ob.getC (headD (tail z6.2) Ob.dead))))) V.bot))),(V.int .i64 (getI (headD (tail (tail (tail (tail (Ob.getC (headD (tail z6.2) Ob.dead)))))) V.bot))),(V.lst 31 false (getL (headD (tail (tail (tail (tail (tail (Ob.getC (headD (tail z6.2) Ob.dead))))))) V.bot))),(V.lst 27 false (getL (headD (tail (tail (tail (tail (tail (tail (Ob.getC (headD (tail z6.2) Ob.dead)))))))) V.bot))),(V.int .i64 (getI (headD (tail (tail (tail (tail (tail (tail (tail (Ob.getC (headD (tail z6.2) Ob.dead))))))))) V.bot))),(V.int .i64 (getI (headD (tail (tail (tail (tail (tail (tail (tail (tail (Ob.getC (headD (tail z6.2) Ob.dead)))))))))) V.bot)))]),[(Ob.cells [(V.lst 5 false (getL (headD (Ob.getC (headD z6.2 Ob.dead)) V.bot))),(V.int .i64 (getI (headD (tail (Ob.getC (headD z6.2 Ob.dead))) V.bot)))])])
 else
 some ((V.agg [(V.int .i64 0),(V.int .i64 a2),(V.int .i64 (getI (headD (tail (getT z0.1)) V.bot))),(V.int .i64 (getI (headD (tail (getT z0.1)) V.bot))),(V.int .i64 a3),(V.lst 31 false []),(V.lst 27 false []),(V.int .i64 0),(V.int .i64 0)]),[(Ob.cells [(V.lst 5 false (getL (headD (Ob.getC (headD z4.2 Ob.dead)) V.bot))),(V.int .i64 (getI (headD (tail (Ob.getC (headD z4.2 Ob.dead))) V.bot)))])])
 else
 if(sEq (getS (headD (V.cells z1.1) V.bot)) [109,101,115,115,97,103,101])=true then
 if(sEq (getS (headD (tail (V.cells z1.1)) V.bot)) [114,102,99,56,50,50])=true then
 Option.bind (call 39 [(V.ref 0 0),(V.lst 133 false (getL (headD (getT z0.1) V.bot)))] [(Ob.cells [(V.lst 5 false (getL (headD (Ob.getC (headD z1.2 Ob.dead)) V.bot))),(V.int .i64 (getI (headD (tail (Ob.getC (headD z1.2 Ob.dead))) V.bot)))])]) fun z4=>
 if(getB z4.1)=true then
 if(decide ((getI (headD (tail (Ob.getC (headD z4.2 Ob.dead))) V.bot))<(1000:Int)))=true then
 Option.bind (call 15 [(V.ref 0 0),(V.agg [(V.int .i64 (getI (headD (tail (getT z0.1)) V.bot))),(V.int .i64 a3)]),(V.int .i64 (IntKind.wrap .i64 (a4+(1:Int)))),(V.bool false)] [(Ob.cells [(V.lst 5 false (getL (headD (Ob.getC (headD z4.2 Ob.dead)) V.bot))),(V.int .i64 (IntKind.wrap .i64 ((getI (headD (tail (Ob.getC (headD z4.2 Ob.dead))) V.bot))+(1:Int))))])]) fun z5=>
 some ((V.agg [(V.int .i64 2),(V.int .i64 a2),(V.int .i64 (getI (headD (tail (getT z0.1)) V.bot))),(V.int .i64 (getI (headD (tail (getT z0.1)) V.bot))),(V.int .i64 a3),(V.lst 31 false [(V.agg [(V.int .i64 (getI (headD (V.cells z5.1) V.bot))),(V.int .i64 (getI (headD (tail (V.cells z5.1)) V.bot))),(V.int .i64 (getI (headD (tail (tail (V.cells z5.1))) V.bot))),(V.int .i64 (getI (headD (tail (tail (tail (V.cells z5.1)))) V.bot))),(V.int .i64 (getI (headD (tail (tail (tail (tail (V.cells z5.1))))) V.bot))),(V.lst 31 false (getL (headD (tail (tail (tail (tail (tail (V.cells z5.1)))))) V.bot))),(V.lst 27 false (getL (headD (tail (tail (tail (tail (tail (tail (V.cells z5.1))))))) V.bot))),(V.int .i64 (getI (headD (tail (tail (tail (tail (tail (tail (tail (V.cells z5.1)))))))) V.bot))),(V.int .i64 (getI (headD (tail (tail (tail (tail (tail (tail (tail (tail (V.cells z5.1))))))))) V.bot)))])]),(V.lst 27 false []),(V.int .i64 0),(V.int .i64 0)]),[(Ob.cells [(V.lst 5 false (getL (headD (Ob.getC (headD z5.2 Ob.dead)) V.bot))),(V.int .i64 (getI (headD (tail (Ob.getC (headD z5.2 Ob.dead))) V.bot)))])])
 else
 some ((V.agg [(V.int .i64 0),(V.int .i64 a2),(V.int .i64 (getI (headD (tail (getT z0.1)) V.bot))),(V.int .i64 (getI (headD (tail (getT z0.1)) V.bot))),(V.int .i64 a3),(V.lst 31 false []),(V.lst 27 false []),(V.int .i64 0),(V.int .i64 0)]),[(Ob.cells [(V.lst 5 false (getL (headD (Ob.getC (headD z4.2 Ob.dead)) V.bot))),(V.int .i64 (getI (headD (tail (Ob.getC (headD z4.2 Ob.dead))) V.bot)))])])
 else
 some ((V.agg [(V.int .i64 0),(V.int .i64 a2),(V.int .i64 (getI (headD (tail (getT z0.1)) V.bot))),(V.int .i64 (getI (headD (tail (getT z0.1)) V.bot))),(V.int .i64 a3),(V.lst 31 false []),(V.lst 27 false []),(V.int .i64 0),(V.int .i64 0)]),[(Ob.cells [(V.lst 5 false (getL (headD (Ob.getC (headD z4.2 Ob.dead)) V.bot))),(V.int .i64 (getI (headD (tail (Ob.getC (headD z4.2 Ob.dead))) V.bot)))])])
 else
 some ((V.agg [(V.int .i64 0),(V.int .i64 a2),(V.int .i64 (getI (headD (tail (getT z0.1)) V.bot))),(V.int .i64 (getI (headD (tail (getT z0.1)) V.bot))),(V.int .i64 a3),(V.lst 31 false []),(V.lst 27 false []),(V.int .i64 0),(V.int .i64 0)]),[(Ob.cells [(V.lst 5 false (getL (headD (Ob.getC (headD z1.2 Ob.dead)) V.bot))),(V.int .i64 (getI (headD (tail (Ob.getC (headD z1.2 Ob.dead))) V.bot)))])])
 else
 some ((V.agg [(V.int .i64 0),(V.int .i64 a2),(V.int .i64 (getI (headD (tail (getT z0.1)) V.bot))),(V.int .i64 (getI (headD (tail (getT z0.1)) V.bot))),(V.int .i64 a3),(V.lst 31 false []),(V.lst 27 false []),(V.int .i64 0),(V.int .i64 0)]),[(Ob.cells [(V.lst 5 false (getL (headD (Ob.getC (headD z1.2 Ob.dead)) V.bot))),(V.int .i64 (getI (headD (tail (Ob.getC (headD z1.2 Ob.dead))) V.bot)))])])
def O15 (a0:List V) (a1:Int):List Ob:=[Ob.cells [V.lst 5 false a0,V.int IntKind.i64 a1]]
def A15 (a2:Int) (a3:Int) (a4:Int) (a5:Bool):List V:=[V.ref 0 0,V.agg [V.int IntKind.i64 a2,V.int IntKind.i64 a3],V.int IntKind.i64 a4,V.bool a5]
theorem E15 (a0:List V) (a1:Int) (a2:Int) (a3:Int) (a4:Int) (a5:Bool):GO 15 Tryz.f15 (A15 a2 a3 a4 a5) (O15 a0 a1) call icall again=T15 call a0 a1 a2 a3 a4 a5:=by kernel_rfl
theorem C15 (k:Nat) (a0:List V) (a1:Int) (a2:Int) (a3:Int) (a4:Int) (a5:Bool):aA cfg (k+1) 15 (A15 a2 a3 a4 a5) (O15 a0 a1)=T15 (aA cfg k) a0 a1 a2 a3 a4 a5:=
 (show aA cfg (k+1) 15 (A15 a2 a3 a4 a5) (O15 a0 a1)=GO 15 Tryz.f15 (A15 a2 a3 a4 a5) (O15 a0 a1) (aA cfg k) (aF cfg (aA cfg k) 20) (RN 15 Tryz.f15 (O15 a0 a1) (aA cfg k) (aF cfg (aA cfg k) 20) k)by kernel_rfl).trans (E15 _ _ _ a0 a1 a2 a3 a4 a5)
theorem M15 (a0:List V) (a1:Int) (a2:Int) (a3:Int) (a4:Int) (a5:Bool) {r:V×List Ob} (h:Evt (fun k n=>T15 (aA cfg k) a0 a1 a2 a3 a4 a5) r):Ret 15 [V.ref 0 0,V.agg [V.int IntKind.i64 a2,V.int IntKind.i64 a3],V.int IntKind.i64 a4,V.bool a5] [Ob.cells [V.lst 5 false a0,V.int IntKind.i64 a1]] r:=aR (g:=fun k n=>T15 (aA cfg k) a0 a1 a2 a3 a4 a5) (fun k=>C15 k a0 a1 a2 a3 a4 a5) h
def T7 (call:FuncId→Fun) (a0:List V):Option (V×List Ob):=
 if(decide (((length a0:Nat):Int)>(67108864:Int)))=true then
 some ((V.tup [(V.agg [(V.int .i64 0),(V.int .i64 0),(V.int .i64 0),(V.int .i64 0),(V.int .i64 0),(V.lst 31 false []),(V.lst 27 false []),(V.int .i64 0),(V.int .i64 0)]),(V.int .i64 13)]),[])
 else
 Option.bind (call 15 [(V.ref 0 0),(V.agg [(V.int .i64 0),(V.int .i64 ((length a0:Nat):Int))]),(V.int .i64 0),(V.bool false)] [(Ob.cells [(V.lst 5 false a0),(V.int .i64 1)])]) fun z0=>
 some ((V.tup [(V.agg [(V.int .i64 (getI (headD (V.cells z0.1) V.bot))),(V.int .i64 (getI (headD (tail (V.cells z0.1)) V.bot))),(V.int .i64 (getI (headD (tail (tail (V.cells z0.1))) V.bot))),(V.int .i64 (getI (headD (tail (tail (tail (V.cells z0.1)))) V.bot))),(V.int .i64 (getI (headD (tail (tail (tail (tail (V.cells z0.1))))) V.bot))),(V.lst 31 false (getL (headD (tail (tail (tail (tail (tail (V.cells z0.1)))))) V.bot))),(V.lst 27 false (getL (headD (tail (tail (tail (tail (tail (tail (V.cells z0.1))))))) V.bot))),(V.int .i64 (getI (headD (tail (tail (tail (tail (tail (tail (tail (V.cells z0.1)))))))) V.bot))),(V.int .i64 (getI (headD (tail (tail (tail (tail (tail (tail (tail (tail (V.cells z0.1))))))))) V.bot)))]),(V.int .i64 0)]),[])
def A7 (a0:List V):List V:=[V.lst 5 false a0]
theorem E7 (a0:List V):GO 7 Tryz.f7 (A7 a0) [] call icall again=T7 call a0:=by kernel_rfl
theorem C7 (k:Nat) (a0:List V):aA cfg (k+1) 7 (A7 a0) []=T7 (aA cfg k) a0:=
 (show aA cfg (k+1) 7 (A7 a0) []=GO 7 Tryz.f7 (A7 a0) [] (aA cfg k) (aF cfg (aA cfg k) 20) (RN 7 Tryz.f7 [] (aA cfg k) (aF cfg (aA cfg k) 20) k)by kernel_rfl).trans (E7 _ _ _ a0)
theorem M7 (a0:List V) {r:V×List Ob} (h:Evt (fun k n=>T7 (aA cfg k) a0) r):Ret 7 [V.lst 5 false a0] [] r:=aR (g:=fun k n=>T7 (aA cfg k) a0) (fun k=>C7 k a0) h
def FO (call:FuncId→Fun) (ag0:Int→List V→Int→Int→Option (V×List Ob)) (i0:Int) (l1:List V) (i2:Int) (i3:Int):Option (V×List Ob):=
 if(decide (i3<i2))=true then
 chk (decide (0≤i3)) (chk (decide (i3<((length l1:Nat):Int))) (Option.bind (call 40 [(V.agg [(V.int .i64 (getI (headD (V.cells (getD l1 (Int.toNat i3) V.bot)) V.bot))),(V.int .i64 (getI (headD (tail (V.cells (getD l1 (Int.toNat i3) V.bot))) V.bot))),(V.int .i64 (getI (headD (tail (tail (V.cells (getD l1 (Int.toNat i3) V.bot)))) V.bot))),(V.int .i64 (getI (headD (tail (tail (tail (V.cells (getD l1 (Int.toNat i3) V.bot))))) V.bot))),(V.int .i64 (getI (headD (tail (tail (tail (tail (V.cells (getD l1 (Int.toNat i3) V.bot)))))) V.bot))),(V.lst 31 false (getL (headD (tail (tail (tail (tail (tail (V.cells (getD l1 (Int.toNat i3) V.bot))))))) V.bot))),(V.lst 27 false (getL (headD (tail (tail (tail (tail (tail (tail (V.cells (getD l1 (Int.toNat i3) V.bot)))))))) V.bot))),(V.int .i64 (getI (headD (tail (tail (tail (tail (tail (tail (tail (V.cells (getD l1 (Int.toNat i3) V.bot))))))))) V.bot))),(V.int .i64 (getI (headD (tail (tail (tail (tail (tail (tail (tail (tail (V.cells (getD l1 (Int.toNat i3) V.bot)))))))))) V.bot)))])] []) fun z0=>
 (ag0 ((IntKind.wrap .i64 (i0+(getI z0.1)))) (l1) (i2) ((IntKind.wrap .i64 (i3+(1:Int)))))))
 else
 some ((V.int .i64 i0),[])
def T40 (call:FuncId→Fun) (ag0:Int→List V→Int→Int→Option (V×List Ob)) (a0:Int) (a1:Int) (a2:Int) (a3:Int) (a4:Int) (a5:List V) (a6:List V) (a7:Int) (a8:Int):Option (V×List Ob):=
 (ag0 ((1:Int)) (a5) (((length a5:Nat):Int)) ((0:Int)))
def A40 (a0:Int) (a1:Int) (a2:Int) (a3:Int) (a4:Int) (a5:List V) (a6:List V) (a7:Int) (a8:Int):List V:=[V.agg [V.int IntKind.i64 a0,V.int IntKind.i64 a1,V.int IntKind.i64 a2,V.int IntKind.i64 a3,V.int IntKind.i64 a4,V.lst 31 false a5,V.lst 27 false a6,V.int IntKind.i64 a7,V.int IntKind.i64 a8]]
def Cx (i0:Int) (l1:List V) (i2:Int) (i3:Int):St:=⟨[V.bot,V.bot,V.bot,(V.int IntKind.i64 i0),V.bot,V.bot,V.bot,(V.lst 31 false l1),(V.int IntKind.i64 i2),(V.int IntKind.i64 i3)]++List.replicate 9 V.bot,[]⟩
theorem QU (i0:Int) (l1:List V) (i2:Int) (i3:Int):
 RM 40 Tryz.f40 [] call icall again (aL Tryz.f40 0) (Cx i0 l1 i2 i3)=FO call (fun i0 l1 i2 i3=>again (aL Tryz.f40 0) (Cx i0 l1 i2 i3)) i0 l1 i2 i3:=by kernel_rfl
theorem E40 (a0:Int) (a1:Int) (a2:Int) (a3:Int) (a4:Int) (a5:List V) (a6:List V) (a7:Int) (a8:Int):GO 40 Tryz.f40 (A40 a0 a1 a2 a3 a4 a5 a6 a7 a8) [] call icall again=T40 call (fun i0 l1 i2 i3=>again (aL Tryz.f40 0) (Cx i0 l1 i2 i3)) a0 a1 a2 a3 a4 a5 a6 a7 a8:=by kernel_rfl
def L40 (call:FuncId→Fun):Nat→(Int→List V→Int→Int→Option (V×List Ob))
 |0=>fun _ _ _ _=>none
 |n+1=>FO call (L40 call n)
theorem R40 (call:FuncId→Fun) (icall:aN (V×List Ob)):∀n,(∀(i0:Int) (l1:List V) (i2:Int) (i3:Int),RN 40 Tryz.f40 [] call icall n (aL Tryz.f40 0) (Cx i0 l1 i2 i3)=(L40 call n) i0 l1 i2 i3)
 |0=>fun i0 l1 i2 i3=>rfl
 |n+1=>by
  have ih:=R40 call icall n
  exact fun i0 l1 i2 i3=>(QU call icall (RN 40 Tryz.f40 [] call icall n) i0 l1 i2 i3).trans (by rw[show(fun i0 l1 i2 i3=>RN 40 Tryz.f40 [] call icall n (aL Tryz.f40 0) (Cx i0 l1 i2 i3))=(L40 call n)from(funext fun i0=>funext fun l1=>funext fun i2=>funext fun i3=>ih i0 l1 i2 i3)];rfl)
theorem C40 (k:Nat) (a0:Int) (a1:Int) (a2:Int) (a3:Int) (a4:Int) (a5:List V) (a6:List V) (a7:Int) (a8:Int):aA cfg (k+1) 40 (A40 a0 a1 a2 a3 a4 a5 a6 a7 a8) []=T40 (aA cfg k) (L40 (aA cfg k) k) a0 a1 a2 a3 a4 a5 a6 a7 a8:=by
 have ih:=R40 (aA cfg k) (aF cfg (aA cfg k) 20) k
 refine(show aA cfg (k+1) 40 (A40 a0 a1 a2 a3 a4 a5 a6 a7 a8) []=GO 40 Tryz.f40 (A40 a0 a1 a2 a3 a4 a5 a6 a7 a8) [] (aA cfg k) (aF cfg (aA cfg k) 20) (RN 40 Tryz.f40 [] (aA cfg k) (aF cfg (aA cfg k) 20) k)by kernel_rfl).trans ((E40 _ _ _ a0 a1 a2 a3 a4 a5 a6 a7 a8).trans ?_)
 rw[show(fun i0 l1 i2 i3=>RN 40 Tryz.f40 [] (aA cfg k) (aF cfg (aA cfg k) 20) k (aL Tryz.f40 0) (Cx i0 l1 i2 i3))=(L40 (aA cfg k) k)from(funext fun i0=>funext fun l1=>funext fun i2=>funext fun i3=>ih i0 l1 i2 i3)]
theorem M40 (a0:Int) (a1:Int) (a2:Int) (a3:Int) (a4:Int) (a5:List V) (a6:List V) (a7:Int) (a8:Int) {r:V×List Ob} (h:Evt (fun k n=>T40 (aA cfg k) (L40 (aA cfg k) n) a0 a1 a2 a3 a4 a5 a6 a7 a8) r):Ret 40 [V.agg [V.int IntKind.i64 a0,V.int IntKind.i64 a1,V.int IntKind.i64 a2,V.int IntKind.i64 a3,V.int IntKind.i64 a4,V.lst 31 false a5,V.lst 27 false a6,V.int IntKind.i64 a7,V.int IntKind.i64 a8]] [] r:=aR (g:=fun k n=>T40 (aA cfg k) (L40 (aA cfg k) n) a0 a1 a2 a3 a4 a5 a6 a7 a8) (fun k=>C40 k a0 a1 a2 a3 a4 a5 a6 a7 a8) h
theorem NX (i0:Int) (l1:List V) (i2:Int) (i3:Int) {r:V×List Ob} (h:Evt (fun k n=>FO (aA cfg k) (L40 (aA cfg k) n) i0 l1 i2 i3) r):Evt (fun k n=>(L40 (aA cfg k) n) i0 l1 i2 i3) r:=aX (fun k n=>rfl) h
def FP (call:FuncId→Fun) (ag0:Int→List V→Int→Int→Option (V×List Ob)) (i0:Int) (l1:List V) (i2:Int) (i3:Int):Option (V×List Ob):=
 if(decide (i3<i2))=true then
 chk (decide (0≤i3)) (chk (decide (i3<((length l1:Nat):Int))) (Option.bind (call 41 [(V.agg [(V.int .i64 (getI (headD (V.cells (getD l1 (Int.toNat i3) V.bot)) V.bot))),(V.int .i64 (getI (headD (tail (V.cells (getD l1 (Int.toNat i3) V.bot))) V.bot))),(V.int .i64 (getI (headD (tail (tail (V.cells (getD l1 (Int.toNat i3) V.bot)))) V.bot))),(V.int .i64 (getI (headD (tail (tail (tail (V.cells (getD l1 (Int.toNat i3) V.bot))))) V.bot))),(V.int .i64 (getI (headD (tail (tail (tail (tail (V.cells (getD l1 (Int.toNat i3) V.bot)))))) V.bot))),(V.lst 31 false (getL (headD (tail (tail (tail (tail (tail (V.cells (getD l1 (Int.toNat i3) V.bot))))))) V.bot))),(V.lst 27 false (getL (headD (tail (tail (tail (tail (tail (tail (V.cells (getD l1 (Int.toNat i3) V.bot)))))))) V.bot))),(V.int .i64 (getI (headD (tail (tail (tail (tail (tail (tail (tail (V.cells (getD l1 (Int.toNat i3) V.bot))))))))) V.bot))),(V.int .i64 (getI (headD (tail (tail (tail (tail (tail (tail (tail (tail (V.cells (getD l1 (Int.toNat i3) V.bot)))))))))) V.bot)))])] []) fun z0=>
 (ag0 ((if(IntKind.wrap .i64 ((getI z0.1)+(1:Int)))>i0 then(IntKind.wrap .i64 ((getI z0.1)+(1:Int)))else i0)) (l1) (i2) ((IntKind.wrap .i64 (i3+(1:Int)))))))
 else
 some ((V.int .i64 i0),[])
def T41 (call:FuncId→Fun) (ag0:Int→List V→Int→Int→Option (V×List Ob)) (a0:Int) (a1:Int) (a2:Int) (a3:Int) (a4:Int) (a5:List V) (a6:List V) (a7:Int) (a8:Int):Option (V×List Ob):=
 (ag0 ((0:Int)) (a5) (((length a5:Nat):Int)) ((0:Int)))
def A41 (a0:Int) (a1:Int) (a2:Int) (a3:Int) (a4:Int) (a5:List V) (a6:List V) (a7:Int) (a8:Int):List V:=[V.agg [V.int IntKind.i64 a0,V.int IntKind.i64 a1,V.int IntKind.i64 a2,V.int IntKind.i64 a3,V.int IntKind.i64 a4,V.lst 31 false a5,V.lst 27 false a6,V.int IntKind.i64 a7,V.int IntKind.i64 a8]]
def Cy (i0:Int) (l1:List V) (i2:Int) (i3:Int):St:=⟨[V.bot,V.bot,V.bot,(V.int IntKind.i64 i0),V.bot,V.bot,V.bot,(V.lst 31 false l1),(V.int IntKind.i64 i2),(V.int IntKind.i64 i3)]++List.replicate 10 V.bot,[]⟩
theorem QV (i0:Int) (l1:List V) (i2:Int) (i3:Int):
 RM 41 Tryz.f41 [] call icall again (aL Tryz.f41 0) (Cy i0 l1 i2 i3)=FP call (fun i0 l1 i2 i3=>again (aL Tryz.f41 0) (Cy i0 l1 i2 i3)) i0 l1 i2 i3:=by kernel_rfl
theorem E41 (a0:Int) (a1:Int) (a2:Int) (a3:Int) (a4:Int) (a5:List V) (a6:List V) (a7:Int) (a8:Int):GO 41 Tryz.f41 (A41 a0 a1 a2 a3 a4 a5 a6 a7 a8) [] call icall again=T41 call (fun i0 l1 i2 i3=>again (aL Tryz.f41 0) (Cy i0 l1 i2 i3)) a0 a1 a2 a3 a4 a5 a6 a7 a8:=by kernel_rfl
def L41 (call:FuncId→Fun):Nat→(Int→List V→Int→Int→Option (V×List Ob))
 |0=>fun _ _ _ _=>none
 |n+1=>FP call (L41 call n)
theorem R41 (call:FuncId→Fun) (icall:aN (V×List Ob)):∀n,(∀(i0:Int) (l1:List V) (i2:Int) (i3:Int),RN 41 Tryz.f41 [] call icall n (aL Tryz.f41 0) (Cy i0 l1 i2 i3)=(L41 call n) i0 l1 i2 i3)
 |0=>fun i0 l1 i2 i3=>rfl
 |n+1=>by
  have ih:=R41 call icall n
  exact fun i0 l1 i2 i3=>(QV call icall (RN 41 Tryz.f41 [] call icall n) i0 l1 i2 i3).trans (by rw[show(fun i0 l1 i2 i3=>RN 41 Tryz.f41 [] call icall n (aL Tryz.f41 0) (Cy i0 l1 i2 i3))=(L41 call n)from(funext fun i0=>funext fun l1=>funext fun i2=>funext fun i3=>ih i0 l1 i2 i3)];rfl)
theorem C41 (k:Nat) (a0:Int) (a1:Int) (a2:Int) (a3:Int) (a4:Int) (a5:List V) (a6:List V) (a7:Int) (a8:Int):aA cfg (k+1) 41 (A41 a0 a1 a2 a3 a4 a5 a6 a7 a8) []=T41 (aA cfg k) (L41 (aA cfg k) k) a0 a1 a2 a3 a4 a5 a6 a7 a8:=by
 have ih:=R41 (aA cfg k) (aF cfg (aA cfg k) 20) k
 refine(show aA cfg (k+1) 41 (A41 a0 a1 a2 a3 a4 a5 a6 a7 a8) []=GO 41 Tryz.f41 (A41 a0 a1 a2 a3 a4 a5 a6 a7 a8) [] (aA cfg k) (aF cfg (aA cfg k) 20) (RN 41 Tryz.f41 [] (aA cfg k) (aF cfg (aA cfg k) 20) k)by kernel_rfl).trans ((E41 _ _ _ a0 a1 a2 a3 a4 a5 a6 a7 a8).trans ?_)
 rw[show(fun i0 l1 i2 i3=>RN 41 Tryz.f41 [] (aA cfg k) (aF cfg (aA cfg k) 20) k (aL Tryz.f41 0) (Cy i0 l1 i2 i3))=(L41 (aA cfg k) k)from(funext fun i0=>funext fun l1=>funext fun i2=>funext fun i3=>ih i0 l1 i2 i3)]
theorem M41 (a0:Int) (a1:Int) (a2:Int) (a3:Int) (a4:Int) (a5:List V) (a6:List V) (a7:Int) (a8:Int) {r:V×List Ob} (h:Evt (fun k n=>T41 (aA cfg k) (L41 (aA cfg k) n) a0 a1 a2 a3 a4 a5 a6 a7 a8) r):Ret 41 [V.agg [V.int IntKind.i64 a0,V.int IntKind.i64 a1,V.int IntKind.i64 a2,V.int IntKind.i64 a3,V.int IntKind.i64 a4,V.lst 31 false a5,V.lst 27 false a6,V.int IntKind.i64 a7,V.int IntKind.i64 a8]] [] r:=aR (g:=fun k n=>T41 (aA cfg k) (L41 (aA cfg k) n) a0 a1 a2 a3 a4 a5 a6 a7 a8) (fun k=>C41 k a0 a1 a2 a3 a4 a5 a6 a7 a8) h
theorem NY (i0:Int) (l1:List V) (i2:Int) (i3:Int) {r:V×List Ob} (h:Evt (fun k n=>FP (aA cfg k) (L41 (aA cfg k) n) i0 l1 i2 i3) r):Evt (fun k n=>(L41 (aA cfg k) n) i0 l1 i2 i3) r:=aX (fun k n=>rfl) h
end Go.Proofs.YtgpofjbdjiajeaaGreatDoor
end
section
namespace Go.Proofs.YtgpofjbdjiajeaaGreatDoor
open Go.Ev Go
def tJ (s:Bs):Bool:=trimF s==[]
def tK (text bd:Bs):Bool×Bool:=
 if text.length<2+bd.length∨text.take (2+bd.length)≠[45,45]++bd then(false,false)else
 if tJ (text.drop (2+bd.length))then(true,false)else
 if 2≤(text.drop (2+bd.length)).length∧(text.drop (2+bd.length)).take 2=[45,45]∧tJ ((text.drop (2+bd.length)).drop 2)=true then(true,true)else(false,false)
theorem NZ (s:Bs) (hs:s.length≤1000000):Ret 89 [.str s] [] (.bool (tJ s),[]):=by
 refine M89 s ?_
 simp only[T89]
 refine aB (NT s (by omega)) ?_
 exact aD _
theorem QW (text bd:Bs) (ht:text.length≤1000000) (hb:bd.length≤1000000):Ret 63 [.str text, .str bd] [] (.tup [.bool (tK text bd).1, .bool (tK text bd).2],[]):=by
 refine M63 text bd ?_
 have hw:IntKind.wrap .i64 ((2:Int)+(bd.length:Int))=((2+bd.length:Nat):Int):=by rw[wrap64 (by omega) (by omega)];omega
 have h0:(0:Int)≤((2+bd.length:Nat):Int):=by omega
 have hc:fY [45,45] bd=true:=tD (by simp;omega)
 simp only[T63,hw]
 unfold tK
 by_cases h1:text.length<2+bd.length
 ·have h1' :(text.length:Int)<((2+bd.length:Nat):Int):=by omega
  simp only[h1',decide_true,Bool.true_eq_false,if_false,bA,if_true,h1,true_or]
  exact aD _
 ·have h1' :¬((text.length:Int)<((2+bd.length:Nat):Int)):=by omega
  have h2:((2+bd.length:Nat):Int)≤(text.length:Int):=by omega
  simp only[h1',decide_false,if_true,aI h0,aI h2,aI (show(0:Int)≤0 by omega),dG hc,Int.toNat_zero,Int.toNat_natCast,List.drop_zero,bA,h1,false_or]
  by_cases h3:text.take (2+bd.length)=[45,45]++bd
  ·have h3' :sEq (text.take (2+bd.length)) ([45,45]++bd)=true:=by simp[sEq,h3]
   simp only[h3',Bool.not_true,Bool.false_eq_true,if_false]
   simp only[h3,ne_eq,not_true_eq_false,if_false]
   have hr:(text.drop (2+bd.length)).length≤1000000:=by simp;omega
   obtain⟨rest,hrest⟩:∃rest,text.drop (2+bd.length)=rest:=⟨_,rfl⟩
   simp only[hrest]at hr ⊢
   refine aB (NZ rest hr) ?_
   simp only[V.getB]
   by_cases h4:tJ rest=true
   ·simp only[h4,if_true];exact aD _
   ·have h4' :tJ rest=false:=by simpa using h4
    simp only[h4',Bool.false_eq_true,if_false]
    by_cases h5:2≤rest.length
    ·have h5' :((rest.length:Int)≥(2:Int)):=by omega
     have h5'' :((2:Int)≤(rest.length:Int)):=by omega
     simp only[h5',decide_true,if_true,aI (show(0:Int)≤2 by omega),aI h5'',aI (show(0:Int)≤0 by omega),Int.toNat_zero,List.drop_zero,h5,true_and,show Int.toNat 2=2 from rfl,cY]
     by_cases h6:rest.take 2=[45,45]
     ·have h6' :sEq (rest.take 2) [45,45]=true:=by simp[sEq,h6]
      simp only[h6',if_true,h6,true_and]
      refine aB (NZ (rest.drop 2) (by simp;omega)) ?_
      simp only[V.getB]
      by_cases h7:tJ (rest.drop 2)=true
      ·simp only[h7,if_true];exact aD _
      ·have h7' :tJ (rest.drop 2)=false:=by simpa using h7
       simp only[h7',Bool.false_eq_true,if_false];exact aD _
     ·have h6' :sEq (rest.take 2) [45,45]=false:=by simp[sEq,h6]
      simp only[h6',Bool.false_eq_true,if_false,h6,false_and];exact aD _
    ·have h5' :¬((rest.length:Int)≥(2:Int)):=by omega
     simp only[h5',decide_false,Bool.false_eq_true,if_false,h5,false_and];exact aD _
  ·have h3' :sEq (text.take (2+bd.length)) ([45,45]++bd)=false:=beq_eq_false_iff_ne.2 h3
   simp only[h3',Bool.not_false,if_true]
   simp only[h3,ne_eq,not_false_eq_true,if_true]
   exact aD _
end Go.Proofs.YtgpofjbdjiajeaaGreatDoor
end
section
namespace Go.Proofs.YtgpofjbdjiajeaaGreatDoor
open Go.Ev Go
def fE (b bd:Bs):List Ln→List (Nat×Nat)→Nat→List (Nat×Nat)×Option (Nat×Nat)
 |[],out,_=>(out,none)
 |l::r,out,from_=>
  if(tK (bX b l) bd).1=false then fE b bd r out l.2.1
  else if(tK (bX b l) bd).2 then(out,some (from_,l.2.2))else fE b bd r (out++[(from_,l.2.2)]) l.2.2
def dR (b:Bs) (fr to:Nat) (bd:Bs):List (Nat×Nat)×(Nat×Nat):=((fE b bd (aW fr to b) [] fr).1,(fE b bd (aW fr to b) [] fr).2.getD (to,to))
def uX (b:Bs) (n:Int):List Ob:=[.cells [.lst 5 false (ofBytes b), .int .i64 n]]
theorem Hx (b bd:Bs) (hb:b.length≤1000000) (hbd:bd.length≤1000000) (nn:Int) (l:List Ln) (hl:l.length≤1000000) (c d e f:Int) (fr to:Nat):∀(n i:Nat) (out:List (Nat×Nat)) (from_:Nat),l.length - i=n→i≤l.length→out.length≤i→
  Evt (fun k j=>L37 (aA cfg k) j bd (out.map cutV) (from_:Nat) (l.map lnV) (l.length:Nat) (i:Nat) (ofBytes b) nn c d e f (to:Nat) (to:Nat))
   (.tup [.lst 27 false ((fE b bd (l.drop i) out from_).1.map cutV),cutV ((fE b bd (l.drop i) out from_).2.getD (to,to)), .bool (decide (0<(fE b bd (l.drop i) out from_).1.length))],uX b nn)
 |0,i,out,from_,h,hi,ho=>by
  refine NV bd (out.map cutV) (from_:Nat) (l.map lnV) (l.length:Nat) (i:Nat) (ofBytes b) nn c d e f (to:Nat) (to:Nat) ?_
  have h1:¬((i:Int)<(l.length:Int)):=by omega
  have h2:decide ((((out.map cutV).length:Nat):Int)>(0:Int))=decide (0<out.length):=by simp
  rw[List.drop_eq_nil_of_le (by omega)]
  simp only[FN,h1,decide_false,Bool.false_eq_true,if_false,fE,h2]
  exact aD _
 |n+1,i,out,from_,h,hi,ho=>by
  have hlt:i<l.length:=by omega
  refine NV bd (out.map cutV) (from_:Nat) (l.map lnV) (l.length:Nat) (i:Nat) (ofBytes b) nn c d e f (to:Nat) (to:Nat) ?_
  have h1:((i:Int)<(l.length:Int)):=by omega
  have h2:(0:Int)≤(i:Int):=by omega
  have hw:IntKind.wrap .i64 ((i:Int)+1)=((i+1:Nat):Int):=by rw[wrap64 (by omega) (by omega)];omega
  have hd:l.drop i=l[i]::l.drop (i+1):=List.drop_eq_getElem_cons hlt
  have htl:=AT b l[i]
  have h57:Ret 57 [.lst 5 false (ofBytes b), .agg [.int .i64 (l[i].1:Nat), .int .i64 (l[i].2.1:Nat), .int .i64 (l[i].2.2:Nat)]] [] (.str (bX b l[i]),[]):=Lp b l[i]
  rw[hd,fE]
  simp only[FN,h1,decide_true,if_true,aI h2,List.length_map,cY,Int.toNat_natCast,rL hlt,lnV,V.cells,List.headD_cons,List.tail_cons,V.getI,hw]
  refine aB h57 ?_
  simp only[V.getS]
  refine aB (QW (bX b l[i]) bd (by omega) hbd) ?_
  simp only[V.getT,List.headD_cons,List.tail_cons,V.getB]
  cases hd1:(tK (bX b l[i]) bd).1 with
  |false=>
   simp only[Bool.not_false,if_true]
   exact Hx b bd hb hbd nn l hl c d e f fr to n (i+1) out l[i].2.1 (by omega) (by omega) (by omega)
  |true=>
   simp only[Bool.not_true,Bool.false_eq_true,if_false,Bool.true_eq_false]
   cases hd2:(tK (bX b l[i]) bd).2 with
   |true=>
    have h3:decide (((out.length:Nat):Int)>(0:Int))=decide (0<out.length):=by simp
    simp only[if_true,h3]
    exact aD _
   |false=>
    have hap:cK (out.map cutV) [V.agg [.int .i64 (from_:Nat), .int .i64 (l[i].2.2:Nat)]] 17=true:=gQ (by simp;omega)
    simp only[Bool.false_eq_true,if_false,dG hap]
    have:=Hx b bd hb hbd nn l hl c d e f fr to n (i+1) (out++[(from_,l[i].2.2)]) l[i].2.2 (by omega) (by omega) (by simp;omega)
    simp only[List.map_append,List.map_cons,List.map_nil,cutV]at this
    exact this
theorem QX (b bd:Bs) (hb:b.length≤1000000) (hbd:bd.length≤1000000) (nn:Int) (fr to:Nat):
  Ret 37 [.ref 0 0, .agg [.int .i64 (fr:Nat), .int .i64 (to:Nat)], .str bd] (uX b nn)
   (.tup [.lst 27 false ((dR b fr to bd).1.map cutV),cutV (dR b fr to bd).2, .bool (decide (0<(dR b fr to bd).1.length))],uX b nn):=by
 refine M37 (ofBytes b) nn (fr:Nat) (to:Nat) bd ?_
 simp only[T37]
 refine aB (Lo b hb (fr:Nat) (to:Nat)) ?_
 have h1:=eS fr to b
 simp only[V.getL,List.length_map]
 exact Hx b bd hb hbd nn (aW fr to b) (by omega) (fr:Nat) (to:Nat) 0 0 fr to (aW fr to b).length 0 [] fr (by omega) (by omega) (by simp)
def ctB:Bs:=[99,111,110,116,101,110,116,45,116,121,112,101]
def MZ:Bs:=[99,111,110,116,101,110,116,45,116,114,97,110,115,102,101,114,45,101,110,99,111,100,105,110,103]
def mG (b:Bs) (l:List Fd) (digest:Bool):Bs×Bs×Ps:=
 match xA (tI b l ctB) true with
 |some p=>p
 |none=>if digest then([109,101,115,115,97,103,101],[114,102,99,56,50,50],[])else([116,101,120,116],[112,108,97,105,110],[])
theorem QY (b:Bs) (hb:b.length≤1000000) (l:List Fd) (hl:l.length≤1000000) (hv:∀f∈l,f.1.length≤1000000) (digest:Bool) (nn:Int):
  Ret 35 [.ref 0 0, .lst 133 false (l.map fdV), .bool digest] (uX b nn)
   (.agg [.str (mG b l digest).1, .str (mG b l digest).2.1, .lst 140 false ((mG b l digest).2.2.map pV)],uX b nn):=by
 refine M35 (ofBytes b) nn (l.map fdV) digest ?_
 simp only[T35]
 refine aB (QR b hb l hl hv ctB (by simp[ctB])) ?_
 have hle:=Ct b l ctB
 simp only[V.getS]
 refine aB (QC (tI b l ctB) (by omega) true) ?_
 unfold mG
 cases xA (tI b l ctB) true with
 |some p=>
  obtain⟨t,u,ps⟩:=p
  simp only[AO,V.getT,List.tail_cons,List.headD_cons,V.getB,if_true,V.cells,V.getS,V.getL]
  exact aD _
 |none=>
  simp only[AO,V.getT,List.tail_cons,List.headD_cons,V.getB,Bool.false_eq_true,if_false]
  cases digest with
  |true=>simp only[if_true];exact aD _
  |false=>simp only[Bool.false_eq_true,if_false];exact aD _
def Cz (b:Bs) (l:List Fd):Bool:=
 match mV l MZ with
 |none=>true
 |some f=>low (lM b f)==[55,98,105,116]||(low (lM b f)==[56,98,105,116]||low (lM b f)==[98,105,110,97,114,121])
theorem QZ (b:Bs) (hb:b.length≤1000000) (l:List Fd) (hl:l.length≤1000000) (hv:∀f∈l,f.1.length≤1000000) (nn:Int):
  Ret 39 [.ref 0 0, .lst 133 false (l.map fdV)] (uX b nn) (.bool (Cz b l),uX b nn):=by
 refine M39 (ofBytes b) nn (l.map fdV) ?_
 simp only[T39]
 refine aB (NS l hl hv MZ (by simp[MZ])) ?_
 unfold Cz
 cases mV l MZ with
 |none=>
  simp only[xE,V.getT,List.tail_cons,List.headD_cons,V.getB,Bool.not_false,if_true]
  exact aD _
 |some f=>
  have h66:Ret 66 [.lst 5 false (ofBytes b), .agg [.str f.1, .int .i64 f.2.1, .int .i64 f.2.2.1, .int .i64 f.2.2.2]] [] (.str (lM b f),[]):=NU b hb f
  have hle:=FM b f
  simp only[xE,V.getT,List.tail_cons,List.headD_cons,V.getB,Bool.not_true,Bool.false_eq_true,if_false,fdV,V.cells,V.getS,V.getI]
  refine aB h66 ?_
  simp only[V.getS]
  refine aB (Cg (lM b f) (by omega)) ?_
  simp only[V.getS,sEq]
  unfold low
  by_cases h1:((lM b f).map eG==[55,98,105,116])=true
  ·simp only[h1,if_true,Bool.true_or];exact aD _
  ·have h1' :((lM b f).map eG==[55,98,105,116])=false:=Bool.eq_false_iff.2 h1
   simp only[h1',Bool.false_eq_true,if_false,Bool.false_or]
   by_cases h2:((lM b f).map eG==[56,98,105,116])=true
   ·simp only[h2,if_true,Bool.true_or];exact aD _
   ·have h2' :((lM b f).map eG==[56,98,105,116])=false:=Bool.eq_false_iff.2 h2
    simp only[h2',Bool.false_eq_true,if_false,Bool.false_or]
    by_cases h3:((lM b f).map eG==[98,105,110,97,114,121])=true
    ·simp only[h3,if_true];exact aD _
    ·have h3' :((lM b f).map eG==[98,105,110,97,114,121])=false:=Bool.eq_false_iff.2 h3
     simp only[h3',Bool.false_eq_true,if_false];exact aD _
end Go.Proofs.YtgpofjbdjiajeaaGreatDoor
end
section
namespace Go.Proofs.YtgpofjbdjiajeaaGreatDoor
open Go.Ev Go
def eH (fr at_ to:Nat):Pt:= .mk 0 (fr,at_) (at_,to) [] [] (0,0)
def bdB:Bs:=[98,111,117,110,100,97,114,121]
def mpB:Bs:=[109,117,108,116,105,112,97,114,116]
def M1:Bs:=[109,101,115,115,97,103,101]
def M3:Bs:=[114,102,99,56,50,50]
def dgB:Bs:=[100,105,103,101,115,116]
def mH (fin:Nat):List (Nat×Nat)→Nat
 |[]=>fin
 |d::_=>d.1
def eT (ent:Nat→Nat→Nat→Pt×Nat) (fin:Nat):List (Nat×Nat)→Nat→List Pt×Nat
 |[],n=>([],n)
 |c::r,n=>
  ((ent c.2 (max (mH fin r) c.2) n).1::(eT ent fin r (ent c.2 (max (mH fin r) c.2) n).2).1,(eT ent fin r (ent c.2 (max (mH fin r) c.2) n).2).2)
def cL (b:Bs):Nat→Nat→Nat→Bool→Nat→Pt×Nat
 |0,fr,to,_,n=>(eH fr (dM b fr to).2.toNat to,n)
 |d+1,fr,to,dg,n=>
  let at_:=(dM b fr to).2.toNat
  let v:=mG b (dM b fr to).1 dg
  let bd:=(getF v.2.2 bdB).getD []
  if v.1=mpB∧bd≠[]∧bd.length≤70 then
   let c:=dR b at_ to bd
   if 0<c.1.length∧n+c.1.length≤1000 then
    let q:=eT (fun fr to n=>cL b d fr to (v.2.1==dgB) n) c.2.1 c.1 (n+c.1.length)
    (.mk 1 (fr,at_) (at_,to) q.1 c.1 c.2,q.2)
   else(eH fr at_ to,n)
  else if v.1=M1∧v.2.1=M3∧Cz b (dM b fr to).1=true∧n<1000 then
   let k:=cL b d at_ to false (n+1)
   (.mk 2 (fr,at_) (at_,to) [k.1] [] (0,0),k.2)
  else(eH fr at_ to,n)
def M5 (m:Nat) (f:Fd):Prop:=f.1.length≤m
theorem FQ {s:Bs} {p:Bs×Nat} (h:fO s=some p):p.1.length≤s.length:=by
 unfold fO at h
 split at h
 ·cases h
 ·split at h
  ·cases h;simp only[List.length_take];omega
  ·cases h
theorem Ls (b:Bs) (st:List Fd×Bool) (x:Ln) (h:∀f∈st.1,M5 b.length f):(∀f∈(jW b st x).1,M5 b.length f)∧(jW b st x).1.length≤st.1.length+1:=by
 unfold jW
 split
 ·split
  ·refine⟨fun f hf=>?_,by simp only[oU];omega⟩
   unfold yG at hf
   split at hf
   ·rename_i g hg
    rcases List.mem_or_eq_of_mem_set hf with hf|rfl
    ·exact h f hf
    ·exact h g (List.mem_of_getElem? hg)
   ·exact h f hf
  ·exact⟨h,by omega⟩
 ·split
  ·exact⟨h,by simp⟩
  ·rename_i p hp
   refine⟨fun f hf=>?_,by simp⟩
   rw[List.mem_append]at hf
   rcases hf with hf|hf
   ·exact h f hf
   ·simp at hf;subst hf
    exact Nat.le_trans (FQ hp) (AT b x)
theorem AY (b:Bs):∀(l:List Ln) (st:List Fd×Bool),(∀f∈st.1,M5 b.length f)→(∀f∈(l.foldl (jW b) st).1,M5 b.length f)∧(l.foldl (jW b) st).1.length≤st.1.length+l.length
 |[],st,h=>⟨h,by simp⟩
 |x::r,st,h=>by
  obtain⟨h1,h2⟩:=Ls b st x h
  obtain⟨h3,h4⟩:=AY b r (jW b st x) h1
  exact⟨h3,by simp only[List.foldl_cons,List.length_cons]at h4 ⊢;omega⟩
theorem Lt (b:Bs) (fr to:Int):(∀f∈(dM b fr to).1,f.1.length≤b.length)∧(dM b fr to).1.length≤b.length:=by
 have hl:=eS fr to b
 unfold dM
 split
 ·simp
 ·split
  ·rename_i k hk
   obtain⟨h1,h2⟩:=AY b ((aW fr to b).take k) ([],false) (by simp)
   exact⟨h1,by simp at h2 ⊢;omega⟩
  ·obtain⟨h1,h2⟩:=AY b (aW fr to b) ([],false) (by simp)
   exact⟨h1,by simp at h2 ⊢;omega⟩
theorem FR (b:Bs) (fr to:Nat):(((dM b fr to).2.toNat:Nat):Int)=(dM b fr to).2:=by
 unfold dM
 split
 ·simp
 ·split<;>simp
end Go.Proofs.YtgpofjbdjiajeaaGreatDoor
end
section
namespace Go.Proofs.YtgpofjbdjiajeaaGreatDoor
open Go.Ev Go
abbrev W32:=BitVec 32
def zP:W32:=3988292384#32
def zS (x:W32):W32:=(x >>> 1) ^^^ (if x.getLsbD 0=true then zP else 0#32)
def zN:Nat→W32→W32
 |0,x=>x
 |n+1,x=>zN n (zS x)
theorem Lu (a b:W32):zS (a ^^^ b)=zS a ^^^ zS b:=by
 apply BitVec.eq_of_getLsbD_eq
 intro i hi
 have e0:(a ^^^ b).getLsbD 0=(a.getLsbD 0 ^^ b.getLsbD 0):=BitVec.getLsbD_xor
 unfold zS
 rw[e0]
 simp only[BitVec.getLsbD_xor,BitVec.getLsbD_ushiftRight]
 generalize a.getLsbD (1+i)=p
 generalize b.getLsbD (1+i)=q
 cases a.getLsbD 0<;>cases b.getLsbD 0<;>simp only[Bool.xor_self,Bool.xor_true,Bool.xor_false,Bool.not_true,Bool.not_false,if_true,Bool.false_eq_true,if_false,BitVec.getLsbD_zero]
 all_goals (generalize zP.getLsbD i=t;cases p<;>cases q<;>cases t<;>rfl)
def fd:Nat→W32→Nat→W32
 |0,x,_=>x
 |n+1,x,c=>fd n (zS (x ^^^ BitVec.ofNat 32 (c % 2))) (c / 2)
theorem Hy:∀(m n:Nat) (x:W32) (c:Nat),fd (m+n) x c=fd n (fd m x c) (c / 2 ^ m)
 |0,n,x,c=>by simp[fd]
 |m+1,n,x,c=>by
  rw[show m+1+n=(m+n)+1 by omega,fd,fd,Hy m n,Nat.div_div_eq_div_mul,Nat.pow_succ,Nat.mul_comm 2]
theorem DW:∀(n:Nat) (x:W32) (c:Nat),fd n x (c % 2 ^ n)=fd n x c
 |0,_,_=>rfl
 |n+1,x,c=>by
  rw[fd,fd,Nat.mod_mod_of_dvd c ⟨2 ^ n,by rw[Nat.pow_succ,Nat.mul_comm]⟩]
  rw[show c % 2 ^ (n+1) / 2=c / 2 % 2 ^ n by rw[Nat.pow_succ,Nat.mul_comm,Nat.mod_mul_right_div_self],DW n]
theorem Pa (x:W32) {c:Nat} (hc:c<2 ^ 32):zS (x ^^^ BitVec.ofNat 32 c)=zS (x ^^^ BitVec.ofNat 32 (c % 2)) ^^^ BitVec.ofNat 32 (c / 2):=by
 have h:zS (BitVec.ofNat 32 c)=zS (BitVec.ofNat 32 (c % 2)) ^^^ BitVec.ofNat 32 (c / 2):=by
  have e0:(BitVec.ofNat 32 c).getLsbD 0=(BitVec.ofNat 32 (c % 2)).getLsbD 0:=by
   rw[BitVec.getLsbD_ofNat,BitVec.getLsbD_ofNat]
   congr 1
   simp[Nat.testBit_zero]
  unfold zS
  rw[←e0]
  have e1:(BitVec.ofNat 32 (c % 2)) >>> 1=0#32:=by
   rcases Nat.mod_two_eq_zero_or_one c with h|h<;>rw[h]<;>decide
  have e2:(BitVec.ofNat 32 c) >>> 1=BitVec.ofNat 32 (c / 2):=by
   apply BitVec.eq_of_toNat_eq
   rw[BitVec.toNat_ushiftRight,BitVec.toNat_ofNat,BitVec.toNat_ofNat,Nat.mod_eq_of_lt hc,Nat.mod_eq_of_lt (by omega),Nat.shiftRight_eq_div_pow]
  rw[e1,e2,BitVec.zero_xor,BitVec.xor_comm]
 rw[Lu,Lu,h,BitVec.xor_assoc]
theorem Im:∀(n:Nat) (x:W32) {c:Nat},c<2 ^ 32→zN n (x ^^^ BitVec.ofNat 32 c)=fd n x c ^^^ BitVec.ofNat 32 (c / 2 ^ n)
 |0,x,c,_=>by simp[zN,fd]
 |n+1,x,c,h=>by
  rw[zN,fd,Pa x h,Im n _ (c:=c / 2) (by omega),Nat.div_div_eq_div_mul,Nat.pow_succ,Nat.mul_comm 2]
theorem Q0 {n:Nat} (x:W32) {c:Nat} (h:c<2 ^ 32) (hn:c<2 ^ n):fd n x c=zN n (x ^^^ BitVec.ofNat 32 c):=by
 rw[Im n x h,Nat.div_eq_of_lt hn]
 simp
theorem Na (y:W32):zN 4 y=(y >>> 4) ^^^ zN 4 (y &&& 15#32):=by
 have h1:=Im 4 0#32 (c:=y.toNat) y.isLt
 have h2:=Im 4 0#32 (c:=y.toNat % 16) (by omega)
 have h3:=DW 4 0#32 y.toNat
 have e1:BitVec.ofNat 32 y.toNat=y:=by simp
 have e2:BitVec.ofNat 32 (y.toNat % 16)=y &&& 15#32:=by
  apply BitVec.eq_of_toNat_eq
  rw[BitVec.toNat_and,BitVec.toNat_ofNat,BitVec.toNat_ofNat]
  rw[show 15 % 2 ^ 32=2 ^ 4 - 1 from rfl,Nat.and_two_pow_sub_one_eq_mod]
  omega
 have e3:BitVec.ofNat 32 (y.toNat / 2 ^ 4)=y >>> 4:=by
  apply BitVec.eq_of_toNat_eq
  rw[BitVec.toNat_ushiftRight,BitVec.toNat_ofNat,Nat.shiftRight_eq_div_pow]
  have:=y.isLt
  omega
 rw[e1,BitVec.zero_xor,e3]at h1
 rw[e2,BitVec.zero_xor,Nat.div_eq_of_lt (show y.toNat % 16<2 ^ 4 by omega)]at h2
 rw[show(2:Nat) ^ 4=16 from rfl]at h3
 rw[h1,h2,h3,BitVec.xor_comm]
 simp
def leN:Bs→Nat
 |[]=>0
 |c::r=>c.toNat+256*leN r
def FS (x:W32) (l:Bs):W32:=fd (8*l.length) x (leN l)
def fX (l:Bs):W32:= ~~~ (FS (~~~ 0#32) l)
theorem Lx (x:W32):FS x []=x:=rfl
theorem JF (x:W32) (c:UInt8) (r:Bs):FS x (c::r)=FS (fd 8 x c.toNat) r:=by
 unfold FS
 rw[List.length_cons,show 8* (r.length+1)=8+8*r.length by omega,Hy,leN]
 have hc:=c.toNat_lt
 have e1:=DW 8 x (c.toNat+256*leN r)
 rw[show(c.toNat+256*leN r) % 2 ^ 8=c.toNat by omega]at e1
 rw[←e1,show(c.toNat+256*leN r) / 2 ^ 8=leN r by omega]
def le4 (x:Nat):Bs:=[UInt8.ofNat x,UInt8.ofNat (x / 256),UInt8.ofNat (x / 65536),UInt8.ofNat (x / 16777216)]
theorem Io {x:Nat} (h:x<2 ^ 32):leN (le4 x)=x:=by
 simp only[le4,leN,UInt8.toNat_ofNat']
 omega
theorem Nb (a b c d:UInt8):le4 (leN [a,b,c,d])=[a,b,c,d]:=by
 have ha:=a.toNat_lt;have hb:=b.toNat_lt;have hc:=c.toNat_lt;have hd:=d.toNat_lt
 have e:∀(u:UInt8) (n:Nat),n % 256=u.toNat→UInt8.ofNat n=u:=by
  intro u n hn
  apply UInt8.toNat_inj.1
  rw[UInt8.toNat_ofNat',hn]
 simp only[le4,leN]
 rw[e a _ (by omega),e b _ (by omega),e c _ (by omega),e d _ (by omega)]
end Go.Proofs.YtgpofjbdjiajeaaGreatDoor
end
section
namespace Go.Proofs.YtgpofjbdjiajeaaGreatDoor
open Go.Ev Go
open List (headD tail getD length drop take)
open V (getI getL getT getS getB)
set_option maxRecDepth 100000
variable (call : FuncId → Fun) (icall : aN (V × List Ob)) (again : List It → St → Option (V × List Ob))
def T19 (call:FuncId→Fun) (a0:List V):Option (V×List Ob):=
 Option.bind (call 45 [(V.int IntKind.u32 (0:Int)),(V.lst 5 false a0)] []) fun z0=>
 some ((V.int IntKind.u32 (getI z0.1)),[])
def A19 (a0:List V):List V:=[V.lst 5 false a0]
theorem E19 (a0:List V):GO 19 Tryz.f19 (A19 a0) [] call icall again=T19 call a0:=by kernel_rfl
theorem C19 (k:Nat) (a0:List V):aA cfg (k+1) 19 (A19 a0) []=T19 (aA cfg k) a0:=
 (show aA cfg (k+1) 19 (A19 a0) []=GO 19 Tryz.f19 (A19 a0) [] (aA cfg k) (aF cfg (aA cfg k) 20) (RN 19 Tryz.f19 [] (aA cfg k) (aF cfg (aA cfg k) 20) k)by kernel_rfl).trans (E19 _ _ _ a0)
theorem M19 (a0:List V) {r:V×List Ob} (h:Evt (fun k n=>T19 (aA cfg k) a0) r):Ret 19 [V.lst 5 false a0] [] r:=aR (g:=fun k n=>T19 (aA cfg k) a0) (fun k=>C19 k a0) h
end Go.Proofs.YtgpofjbdjiajeaaGreatDoor
end
section
namespace Go.Proofs.YtgpofjbdjiajeaaGreatDoor
open Go.Ev Go
open List (headD tail getD length drop take)
open V (getI getL getT getS getB)
set_option maxRecDepth 100000
variable (call : FuncId → Fun) (icall : aN (V × List Ob)) (again : List It → St → Option (V × List Ob))
def tlN:Nat→List V→List V
 |0,l=>l
 |n+1,l=>tlN n (tail l)
def tbl (t:Nat→Int):List V:=[V.int .u32 (t 0),V.int .u32 (t 1),V.int .u32 (t 2),V.int .u32 (t 3),V.int .u32 (t 4),V.int .u32 (t 5),V.int .u32 (t 6),V.int .u32 (t 7),V.int .u32 (t 8),V.int .u32 (t 9),V.int .u32 (t 10),V.int .u32 (t 11),V.int .u32 (t 12),V.int .u32 (t 13),V.int .u32 (t 14),V.int .u32 (t 15)]
def moK (t:Nat→Int) (b:List V) (n i x:Int) (r1 r2:List V):St:=⟨[V.bot,V.bot,V.bot,V.bot,V.bot,V.ref 0 0,V.int .u32 x]++List.replicate 7 V.bot++[V.lst 5 false b,V.int .i64 n,V.int .i64 i]++r1++r2,[Ob.cells (tbl t)]⟩
def moO (t:Nat→Int) (b:List V) (n i x:Int):St:=moK t b n i x (List.replicate 26 V.bot) []
def moI (f0 f1 k:Int) (t:Nat→Int) (b:List V) (n i x:Int):St:=moK t b n i x (List.replicate 9 V.bot) ([V.agg [V.int .u32 f0,V.int .u32 f1],V.int .i64 k]++List.replicate 15 V.bot)
def JG (x f:Int):Int:=bits BinOp.and IntKind.u32 (bits BinOp.xor IntKind.u32 x f) (15:Int)
def moS (ag:Int→Option (V×List Ob)) (t:Nat→Int) (x f:Int):Option (V×List Ob):=
 chk (decide (0≤(4:Int))) (chk (decide (0≤JG x f∧JG x f<((16:Nat):Int))) (chk (decide (0+Int.toNat (JG x f)*1<length (tbl t)))
  (ag (bits BinOp.xor IntKind.u32 (Int.fdiv x (2 ^ min (Int.toNat (4:Int)) (IntKind.bits IntKind.u32))) (getI (getD (tbl t) (0+Int.toNat (JG x f)*1) V.bot))))))
def moT (ag:Int→Int→Option (V×List Ob)) (b:List V) (n i x:Int):Option (V×List Ob):=
 if(decide (i<n))=true then chk (decide (0≤i)) (chk (decide (i<((length b:Nat):Int))) (chk (decide (0≤(4:Int)))
  (ag (IntKind.wrap IntKind.u32 (bits BinOp.and IntKind.u8 (getI (getD b (Int.toNat i) V.bot)) (15:Int))) (IntKind.wrap IntKind.u32 (Int.fdiv (getI (getD b (Int.toNat i) V.bot)) (2 ^ min (Int.toNat (4:Int)) (IntKind.bits IntKind.u8)))))))
 else some (V.int .u32 (bits BinOp.xor IntKind.u32 (IntKind.max IntKind.u32) x),[])
theorem Sq (t:Nat→Int) (f0 f1:Int) (b:List V) (n i x:Int):RM 45 Tryz.f45 [] call icall again (aL Tryz.f45 1) (moI f0 f1 0 t b n i x)=moS (fun x=>again (aL Tryz.f45 1) (moI f0 f1 1 t b n i x)) t x f0:=by kernel_rfl
theorem Sr (t:Nat→Int) (f0 f1:Int) (b:List V) (n i x:Int):RM 45 Tryz.f45 [] call icall again (aL Tryz.f45 1) (moI f0 f1 1 t b n i x)=moS (fun x=>again (aL Tryz.f45 1) (moI f0 f1 2 t b n i x)) t x f1:=by kernel_rfl
theorem Ss (t:Nat→Int) (f0 f1:Int) (b:List V) (n i x:Int):RM 45 Tryz.f45 [] call icall again (aL Tryz.f45 1) (moI f0 f1 2 t b n i x)=again (aL Tryz.f45 0) (moO t b n (IntKind.wrap IntKind.i64 (i+(1:Int))) x):=by kernel_rfl
theorem Su (t:Nat→Int) (b:List V) (n i x:Int):RM 45 Tryz.f45 [] call icall again (aL Tryz.f45 0) (moO t b n i x)=moT (fun f0 f1=>again (aL Tryz.f45 1) (moI f0 f1 0 t b n i x)) b n i x:=by kernel_rfl
def tOf (z:V×List Ob) (j:Nat):Int:=getI (headD (tlN j (V.cells z.1)) V.bot)
theorem moE (s:Int) (b:List V):GO 45 Tryz.f45 [V.int .u32 s,V.lst 5 false b] [] call icall again=Option.bind (call 71 [] []) fun z=>again (aL Tryz.f45 0) (moO (tOf z) b ((length b:Nat):Int) 0 (bits BinOp.xor IntKind.u32 (IntKind.max IntKind.u32) s)):=by kernel_rfl
def moL:Nat→((Nat→Int)→List V→Int→Int→Int→Option (V×List Ob))×(Int→Int→(Nat→Int)→List V→Int→Int→Int→Option (V×List Ob))×(Int→Int→(Nat→Int)→List V→Int→Int→Int→Option (V×List Ob))×(Int→Int→(Nat→Int)→List V→Int→Int→Int→Option (V×List Ob))
 |0=>(fun _ _ _ _ _=>none,fun _ _ _ _ _ _ _=>none,fun _ _ _ _ _ _ _=>none,fun _ _ _ _ _ _ _=>none)
 |k+1=>(fun t b n i x=>moT (fun f0 f1=>(moL k).2.1 f0 f1 t b n i x) b n i x,
   fun f0 f1 t b n i x=>moS (fun x=>(moL k).2.2.1 f0 f1 t b n i x) t x f0,
   fun f0 f1 t b n i x=>moS (fun x=>(moL k).2.2.2 f0 f1 t b n i x) t x f1,
   fun _ _ t b n i x=>(moL k).1 t b n (IntKind.wrap IntKind.i64 (i+(1:Int))) x)
theorem moR:∀k:Nat,(∀t b n i x,RN 45 Tryz.f45 [] call icall k (aL Tryz.f45 0) (moO t b n i x)=(moL k).1 t b n i x)∧
  (∀f0 f1 t b n i x,RN 45 Tryz.f45 [] call icall k (aL Tryz.f45 1) (moI f0 f1 0 t b n i x)=(moL k).2.1 f0 f1 t b n i x)∧
  (∀f0 f1 t b n i x,RN 45 Tryz.f45 [] call icall k (aL Tryz.f45 1) (moI f0 f1 1 t b n i x)=(moL k).2.2.1 f0 f1 t b n i x)∧
  (∀f0 f1 t b n i x,RN 45 Tryz.f45 [] call icall k (aL Tryz.f45 1) (moI f0 f1 2 t b n i x)=(moL k).2.2.2 f0 f1 t b n i x)
 |0=>⟨fun _ _ _ _ _=>rfl,fun _ _ _ _ _ _ _=>rfl,fun _ _ _ _ _ _ _=>rfl,fun _ _ _ _ _ _ _=>rfl⟩
 |k+1=>by
  obtain⟨h1,h2,h3,h4⟩:=moR k
  refine⟨fun t b n i x=>?_,fun f0 f1 t b n i x=>?_,fun f0 f1 t b n i x=>?_,fun f0 f1 t b n i x=>?_⟩
  ·refine(Su call icall (RN 45 Tryz.f45 [] call icall k) t b n i x).trans ?_
   simp only[h2]
   rfl
  ·refine(Sq call icall (RN 45 Tryz.f45 [] call icall k) t f0 f1 b n i x).trans ?_
   simp only[h3]
   rfl
  ·refine(Sr call icall (RN 45 Tryz.f45 [] call icall k) t f0 f1 b n i x).trans ?_
   simp only[h4]
   rfl
  ·refine(Ss call icall (RN 45 Tryz.f45 [] call icall k) t f0 f1 b n i x).trans ?_
   simp only[h1]
   rfl
theorem M45 (s:Int) (b:List V) {res:V×List Ob} (h:Evt (fun k n=>Option.bind (aA cfg k 71 [] []) fun z=>(moL n).1 (tOf z) b ((length b:Nat):Int) 0 (bits BinOp.xor IntKind.u32 (IntKind.max IntKind.u32) s)) res):Ret 45 [V.int .u32 s,V.lst 5 false b] [] res:=by
 refine aR (g:=fun k n=>Option.bind (aA cfg k 71 [] []) fun z=>(moL n).1 (tOf z) b ((length b:Nat):Int) 0 (bits BinOp.xor IntKind.u32 (IntKind.max IntKind.u32) s)) (fun k=>?_) h
 refine(show aA cfg (k+1) 45 [V.int .u32 s,V.lst 5 false b] []=GO 45 Tryz.f45 [V.int .u32 s,V.lst 5 false b] [] (aA cfg k) (aF cfg (aA cfg k) 20) (RN 45 Tryz.f45 [] (aA cfg k) (aF cfg (aA cfg k) 20) k)by kernel_rfl).trans ?_
 rw[moE]
 congr 1
 funext z
 exact(moR (aA cfg k) (aF cfg (aA cfg k) 20) k).1 _ _ _ _ _
def tL:List V:=[.int .u32 0, .int .u32 498536548, .int .u32 997073096, .int .u32 651767980, .int .u32 1994146192, .int .u32 1802195444, .int .u32 1303535960, .int .u32 1342533948, .int .u32 3988292384, .int .u32 4027552580, .int .u32 3604390888, .int .u32 3412177804, .int .u32 2607071920, .int .u32 2262029012, .int .u32 2685067896, .int .u32 3183342108]
theorem Ly {f:FuncId} {args:List V} {objs:List Ob} {r:V×List Ob} (K:Nat) (h:∀m,aA cfg (m+K) f args objs=some r):Ret f args objs r:=
 ⟨K,fun k hk=>by obtain⟨m,rfl⟩:∃m,k=m+K:=⟨k - K,by omega⟩;exact h m⟩
theorem Q1:Ret 71 [] [] (.agg tL,[]):=Ly 40 fun m=>by kernel_rfl
end Go.Proofs.YtgpofjbdjiajeaaGreatDoor
end
section
namespace Go.Proofs.YtgpofjbdjiajeaaGreatDoor
open Go.Ev Go
theorem AZ (l:Ps) (m:Nat):∀(q:Ps) (seen:List Bs),(∀p∈q,p.1.length≤m)→(rV l seen q).length≤q.length∧∀p∈rV l seen q,p.1.length≤m
 |[],seen,_=>by simp[rV]
 |p::r,seen,h=>by
  have hp:=h p (by simp)
  have hb:=Fv p.1
  have ih:=fun seen=>AZ l m r seen fun p hp=>h p (by simp[hp])
  unfold rV
  split
  ·obtain⟨h1,h2⟩:=ih seen
   exact⟨by simp;omega,h2⟩
  ·split
   ·obtain⟨h1,h2⟩:=ih (dQ p.1::seen)
    refine⟨by simp;omega,fun x hx=>?_⟩
    rcases List.mem_cons.1 hx with rfl|hx
    ·simp only;omega
    ·exact h2 x hx
   ·obtain⟨h1,h2⟩:=ih (dQ p.1::seen)
    exact⟨by simp;omega,h2⟩
theorem DX {s:Bs} {two:Bool} {t u:Bs} {ps:Ps} (h:xA s two=some (t,u,ps)):ps.length≤s.length∧∀p∈ps,p.1.length≤s.length:=by
 have key:∀q:Bs,q.length≤s.length→(rV (dD q) [] (dD q)).length≤s.length∧∀p∈rV (dD q) [] (dD q),p.1.length≤s.length:=by
  intro q hq
  obtain⟨g1,g2⟩:=uV q.length q (Nat.le_refl _)
  obtain⟨h1,h2⟩:=AZ (dD q) s.length (dD q) [] fun p hp=>by have:=g2 p hp;omega
  exact⟨by omega,h2⟩
 have h0:=qP s
 have h1:=mD (dB s)
 unfold xA at h
 split at h
 ·cases h
 ·split at h
  ·split at h
   ·cases h
   ·rename_i s2 hs2
    split at h
    ·cases h
    ·cases h
     have h2:=jU hs2
     have h3:=mD s2
     exact key _ (by omega)
  ·cases h
   exact key _ (by omega)
theorem FT (b:Bs) (l:List Fd) (dg:Bool):(mG b l dg).2.2.length≤b.length∧∀p∈(mG b l dg).2.2,p.1.length≤b.length:=by
 have hv:=Ct b l ctB
 unfold mG
 split
 ·rename_i p hp
  obtain⟨t,u,ps⟩:=p
  obtain⟨h1,h2⟩:=DX hp
  exact⟨by simp only;omega,fun p hp=>by have:=h2 p hp;omega⟩
 ·split<;>simp
end Go.Proofs.YtgpofjbdjiajeaaGreatDoor
end
section
namespace Go.Proofs.YtgpofjbdjiajeaaGreatDoor
open Go.Ev Go
theorem Ip {ent:Nat→Nat→Nat→Pt×Nat} (h:∀fr to n,n≤1000→(ent fr to n).2≤1000) (fin:Nat):∀(cs:List (Nat×Nat)) (n:Nat),n≤1000→(eT ent fin cs n).2≤1000
 |[],n,hn=>hn
 |c::r,n,hn=>by
  unfold eT
  exact Ip h fin r _ (h _ _ _ hn)
theorem A0 (b:Bs):∀(d fr to:Nat) (dg:Bool) (n:Nat),n≤1000→(cL b d fr to dg n).2≤1000
 |0,fr,to,dg,n,hn=>by simpa[cL]using hn
 |d+1,fr,to,dg,n,hn=>by
  unfold cL
  simp only
  split
  ·split
   ·rename_i h
    exact Ip (fun fr to n hn=>A0 b d fr to _ n hn) _ _ _ h.2
   ·exact hn
  ·split
   ·rename_i h
    exact A0 b d _ _ _ _ (by have:=h.2.2.2;omega)
   ·exact hn
def xF (b:Bs) (d:Nat):Prop:=∀(fr to n:Nat) (dg:Bool),n≤1000→
 Ret 15 [.ref 0 0, .agg [.int .i64 (fr:Nat), .int .i64 (to:Nat)], .int .i64 ((32 - d:Nat):Int), .bool dg] (uX b (n:Nat)) (partV (cL b d fr to dg n).1,uX b ((cL b d fr to dg n).2:Nat))
def Lz (k h1 h2 b1 b2:Int) (kids:List V) (cs:List (Nat×Nat)) (e1 e2:Int):Ob:=
 .cells [.int .i64 k, .int .i64 h1, .int .i64 h2, .int .i64 b1, .int .i64 b2, .lst 31 true kids, .lst 27 false (cs.map cutV), .int .i64 e1, .int .i64 e2]
theorem A1 {l:List (Nat×Nat)} {i:Nat} (h:i<l.length):(l.map cutV).getD i .bot=cutV l[i]:=by simp[List.getD,h]
theorem dS (p:Pt):V.agg [V.int .i64 (V.getI (List.headD (V.cells (partV p)) V.bot)),V.int .i64 (V.getI (List.headD (List.tail (V.cells (partV p))) V.bot)),V.int .i64 (V.getI (List.headD (List.tail (List.tail (V.cells (partV p)))) V.bot)),
  V.int .i64 (V.getI (List.headD (List.tail (List.tail (List.tail (V.cells (partV p))))) V.bot)),V.int .i64 (V.getI (List.headD (List.tail (List.tail (List.tail (List.tail (V.cells (partV p)))))) V.bot)),
  V.lst 31 false (V.getL (List.headD (List.tail (List.tail (List.tail (List.tail (List.tail (V.cells (partV p))))))) V.bot)),V.lst 27 false (V.getL (List.headD (List.tail (List.tail (List.tail (List.tail (List.tail (List.tail (V.cells (partV p)))))))) V.bot)),
  V.int .i64 (V.getI (List.headD (List.tail (List.tail (List.tail (List.tail (List.tail (List.tail (List.tail (V.cells (partV p))))))))) V.bot)),V.int .i64 (V.getI (List.headD (List.tail (List.tail (List.tail (List.tail (List.tail (List.tail (List.tail (List.tail (V.cells (partV p)))))))))) V.bot))]=partV p:=by
 cases p;rw[partV];rfl
theorem DY (x y:Nat):(if((y:Nat):Int)>((x:Nat):Int)then((y:Nat):Int)else((x:Nat):Int))=((max x y:Nat):Int):=by
 split<;>omega
theorem LA (b:Bs) (d:Nat) (he:xF b d) (dg:Bool) (cs:List (Nat×Nat)) (hcs:cs.length≤1000) (h1 h2 b1 b2:Int) (e1 e2:Nat):∀(m i:Nat) (kids:List Pt) (n:Nat),cs.length - i=m→i≤cs.length→kids.length=i→n≤1000→
  Evt (fun k j=>L38 (aA cfg k) j ((32 - d:Nat):Int) dg (cs.map cutV) (cs.length:Nat) (i:Nat) (ofBytes b) (n:Nat) 1 h1 h2 b1 b2 (kids.map partV) (cs.map cutV) (e1:Nat) (e2:Nat))
   (.tup [],[.cells [.lst 5 false (ofBytes b), .int .i64 ((eT (fun fr to n=>cL b d fr to dg n) e1 (cs.drop i) n).2:Nat)],Lz 1 h1 h2 b1 b2 ((kids++(eT (fun fr to n=>cL b d fr to dg n) e1 (cs.drop i) n).1).map partV) cs (e1:Nat) (e2:Nat)])
 |0,i,kids,n,h,hi,hk,hn=>by
  refine NW ((32 - d:Nat):Int) dg (cs.map cutV) (cs.length:Nat) (i:Nat) (ofBytes b) (n:Nat) 1 h1 h2 b1 b2 (kids.map partV) (cs.map cutV) (e1:Nat) (e2:Nat) ?_
  have g1:¬((i:Int)<(cs.length:Int)):=by omega
  rw[List.drop_eq_nil_of_le (by omega)]
  simp only[Cv,g1,decide_false,Bool.false_eq_true,if_false,eT,List.append_nil,Lz]
  exact aD _
 |m+1,i,kids,n,h,hi,hk,hn=>by
  have hlt:i<cs.length:=by omega
  refine NW ((32 - d:Nat):Int) dg (cs.map cutV) (cs.length:Nat) (i:Nat) (ofBytes b) (n:Nat) 1 h1 h2 b1 b2 (kids.map partV) (cs.map cutV) (e1:Nat) (e2:Nat) ?_
  have g1:((i:Int)<(cs.length:Int)):=by omega
  have g2:(0:Int)≤(i:Int):=by omega
  have hw:IntKind.wrap .i64 ((i:Int)+1)=((i+1:Nat):Int):=by rw[wrap64 (by omega) (by omega)];omega
  have hd:cs.drop i=cs[i]::cs.drop (i+1):=List.drop_eq_getElem_cons hlt
  have hap:∀v:V,cK (kids.map partV) [v] 105=true:=fun v=>gQ (by simp;omega)
  have hkl:((((kids.map partV).length:Nat):Int)==(((kids.map partV).length:Nat):Int))=true:=by simp
  rw[hd]
  have fin:∀x:Nat,mH e1 (cs.drop (i+1))=x→
    Evt (fun k j=>Option.bind (aA cfg k 15 [.ref 0 0, .agg [.int .i64 (cs[i].2:Nat), .int .i64 ((max x cs[i].2:Nat):Int)], .int .i64 ((32 - d:Nat):Int), .bool dg] (uX b (n:Nat))) fun z0=>
     L38 (aA cfg k) j ((32 - d:Nat):Int) dg (cs.map cutV) (cs.length:Nat) ((i+1:Nat):Int) ((V.getL (List.headD (Ob.getC (List.headD z0.2 Ob.dead)) V.bot))) ((V.getI (List.headD (List.tail (Ob.getC (List.headD z0.2 Ob.dead))) V.bot))) 1 h1 h2 b1 b2 (kids.map partV++[V.agg [V.int .i64 (V.getI (List.headD (V.cells z0.1) V.bot)),V.int .i64 (V.getI (List.headD (List.tail (V.cells z0.1)) V.bot)),V.int .i64 (V.getI (List.headD (List.tail (List.tail (V.cells z0.1))) V.bot)),V.int .i64 (V.getI (List.headD (List.tail (List.tail (List.tail (V.cells z0.1)))) V.bot)),V.int .i64 (V.getI (List.headD (List.tail (List.tail (List.tail (List.tail (V.cells z0.1))))) V.bot)),V.lst 31 false (V.getL (List.headD (List.tail (List.tail (List.tail (List.tail (List.tail (V.cells z0.1)))))) V.bot)),V.lst 27 false (V.getL (List.headD (List.tail (List.tail (List.tail (List.tail (List.tail (List.tail (V.cells z0.1))))))) V.bot)),V.int .i64 (V.getI (List.headD (List.tail (List.tail (List.tail (List.tail (List.tail (List.tail (List.tail (V.cells z0.1)))))))) V.bot)),V.int .i64 (V.getI (List.headD (List.tail (List.tail (List.tail (List.tail (List.tail (List.tail (List.tail (List.tail (V.cells z0.1))))))))) V.bot))]]) (cs.map cutV) (e1:Nat) (e2:Nat))
    (.tup [],[.cells [.lst 5 false (ofBytes b), .int .i64 ((eT (fun fr to n=>cL b d fr to dg n) e1 (cs[i]::cs.drop (i+1)) n).2:Nat)],Lz 1 h1 h2 b1 b2 ((kids++(eT (fun fr to n=>cL b d fr to dg n) e1 (cs[i]::cs.drop (i+1)) n).1).map partV) cs (e1:Nat) (e2:Nat)]):=by
   intro x hx
   refine aB (he cs[i].2 (max x cs[i].2) n dg hn) ?_
   have:=LA b d he dg cs hcs h1 h2 b1 b2 e1 e2 m (i+1) (kids++[(cL b d cs[i].2 (max x cs[i].2) dg n).1]) (cL b d cs[i].2 (max x cs[i].2) dg n).2 (by omega) (by omega) (by simp[hk]) (A0 b d _ _ _ _ hn)
   unfold eT
   rw[hx]
   simp only[dS]
   simp only[List.map_append,List.map_cons,List.map_nil,List.append_assoc,List.singleton_append]at this ⊢
   exact this
  by_cases hn1:i+1<cs.length
  ·have q1:(((i+1:Nat):Int)<(cs.length:Int)):=by omega
   have q2:(0:Int)≤((i+1:Nat):Int):=by omega
   simp only[Cv,g1,decide_true,if_true,aI g2,List.length_map,cY,hw,q1,aI q2,Int.toNat_natCast,A1 hlt,A1 hn1,cutV,V.cells,List.headD_cons,List.tail_cons,V.getI,DY,beq_self_eq_true,dG (hap _)]
   exact fin cs[i+1].1 (by rw[List.drop_eq_getElem_cons hn1];rfl)
  ·have q1:¬(((i+1:Nat):Int)<(cs.length:Int)):=by omega
   simp only[Cv,g1,decide_true,decide_false,Bool.false_eq_true,if_false,if_true,aI g2,List.length_map,cY,hw,q1,Int.toNat_natCast,A1 hlt,cutV,V.cells,List.headD_cons,List.tail_cons,V.getI,DY,beq_self_eq_true,dG (hap _)]
   exact fin e1 (by rw[List.drop_eq_nil_of_le (by omega)];rfl)
end Go.Proofs.YtgpofjbdjiajeaaGreatDoor
end
section
namespace Go.Proofs.YtgpofjbdjiajeaaGreatDoor
open Go.Ev Go
theorem Q2 (b:Bs) (d:Nat) (he:xF b d) (dg:Bool) (cs:List (Nat×Nat)) (hcs:cs.length≤1000) (h1 h2 b1 b2:Int) (e1 e2:Nat) (n:Nat) (hn:n≤1000):
  Ret 38 [.ref 0 0, .ref 1 0, .int .i64 ((32 - d:Nat):Int), .bool dg] [.cells [.lst 5 false (ofBytes b), .int .i64 (n:Nat)],Lz 1 h1 h2 b1 b2 [] cs (e1:Nat) (e2:Nat)]
   (.tup [],[.cells [.lst 5 false (ofBytes b), .int .i64 ((eT (fun fr to n=>cL b d fr to dg n) e1 cs n).2:Nat)],Lz 1 h1 h2 b1 b2 ((eT (fun fr to n=>cL b d fr to dg n) e1 cs n).1.map partV) cs (e1:Nat) (e2:Nat)]):=by
 refine M38 (ofBytes b) (n:Nat) 1 h1 h2 b1 b2 [] (cs.map cutV) (e1:Nat) (e2:Nat) ((32 - d:Nat):Int) dg ?_
 simp only[T38,List.length_map]
 have:=LA b d he dg cs hcs h1 h2 b1 b2 e1 e2 cs.length 0 [] n (by omega) (by omega) rfl hn
 simpa using this
theorem Q3 (b:Bs) (hb:b.length≤100000):xF b 0:=by
 intro fr to n dg hn
 refine M15 (ofBytes b) (n:Nat) (fr:Nat) (to:Nat) ((32 - 0:Nat):Int) dg ?_
 simp only[T15]
 refine aB (NR b (by omega) (fr:Nat) (to:Nat)) ?_
 have h1:((((32 - 0:Nat):Int))==(32:Int))=true:=rfl
 simp only[h1,if_true,V.getT,List.headD_cons,List.tail_cons,V.getI]
 rw[←FR]
 exact aD _
theorem oW (b bd:Bs):∀(l:List Ln) (out:List (Nat×Nat)) (fr:Nat),(fE b bd l out fr).1.length≤out.length+l.length
 |[],out,fr=>by simp[fE]
 |x::r,out,fr=>by
  unfold fE
  split
  ·have:=oW b bd r out x.2.1;simp only[List.length_cons];omega
  ·split
   ·simp
   ·have:=oW b bd r (out++[(fr,x.2.2)]) x.2.2;simp only[List.length_append,List.length_cons,List.length_nil]at this ⊢;omega
theorem uY (b:Bs) (fr to:Nat) (bd:Bs):(dR b fr to bd).1.length≤b.length:=by
 have h1:=eS fr to b
 have h2:=oW b bd (aW fr to b) [] fr
 unfold dR;simp at h2;simp only;omega
theorem eI (k:IntKind) (z:Int):(V.int k z).getI=z:=rfl
theorem bQ (t:TypeId) (o:Bool) (l:List V):(V.lst t o l).getL=l:=rfl
theorem nP (x:Bool):(V.bool x).getB=x:=rfl
theorem FU (x:Bs):(V.str x).getS=x:=rfl
theorem jX (l:List V):(V.tup l).getT=l:=rfl
theorem JH (l:List V):(V.agg l).cells=l:=rfl
theorem LC (fr at_ to:Nat):partV (eH fr at_ to)= .agg [.int .i64 0, .int .i64 (fr:Nat), .int .i64 (at_:Nat), .int .i64 (at_:Nat), .int .i64 (to:Nat), .lst 31 false [], .lst 27 false [], .int .i64 0, .int .i64 0]:=by
 unfold eH;rw[partV];rfl
theorem Iq {α β:Type} {o:Option β} {v:β} {F:Nat→Nat→β→Option α} {r:α} (h:o=some v) (h2:Evt (fun k n=>F k n v) r):Evt (fun k n=>Option.bind o (F k n)) r:=by subst h;exact h2
theorem Q4 (b:Bs) (hb:b.length≤100000) (d:Nat) (hd:d+1≤32) (he:xF b d):xF b (d+1):=by
 intro fr to n dg hn
 refine M15 (ofBytes b) (n:Nat) (fr:Nat) (to:Nat) ((32 - (d+1):Nat):Int) dg ?_
 simp only[T15]
 refine aB (NR b (by omega) (fr:Nat) (to:Nat)) ?_
 obtain⟨k1,k2⟩:=Lt b (fr:Nat) (to:Nat)
 have h1:((((32 - (d+1):Nat):Int))==(32:Int))=false:=beq_eq_false_iff_ne.2 (by omega)
 have hw:IntKind.wrap .i64 (((32 - (d+1):Nat):Int)+1)=((32 - d:Nat):Int):=by rw[wrap64 (by omega) (by omega)];omega
 simp only[h1,Bool.false_eq_true,if_false,jX,List.headD_cons,List.tail_cons,eI,bQ,hw]
 rw[←FR]
 generalize hat:(dM b (fr:Nat) (to:Nat)).2.toNat=at_
 generalize hfl:(dM b (fr:Nat) (to:Nat)).1=l at k1 k2
 refine aB (QY b (by omega) l (by omega) (fun f hf=>by have:=k1 f hf;omega) dg (n:Nat)) ?_
 obtain⟨m1,m2⟩:=FT b l dg
 generalize hv:mG b l dg=v at m1 m2
 obtain⟨t,u,ps⟩:=v
 simp only at m1 m2
 simp only[JH,FU,bQ,List.headD_cons,List.tail_cons]
 refine aB (QD t u ps (by omega) (fun p hp=>by have:=m2 p hp;omega) bdB (by simp[bdB])) ?_
 simp only[jX,FU,List.headD_cons]
 have hent:cL b (d+1) fr to dg n=(if t=mpB∧(getF ps bdB).getD []≠[]∧((getF ps bdB).getD []).length≤70 then
   if 0<(dR b at_ to ((getF ps bdB).getD [])).1.length∧n+(dR b at_ to ((getF ps bdB).getD [])).1.length≤1000 then
    (Pt.mk 1 (fr,at_) (at_,to) (eT (fun fr to n=>cL b d fr to (u==dgB) n) (dR b at_ to ((getF ps bdB).getD [])).2.1 (dR b at_ to ((getF ps bdB).getD [])).1 (n+(dR b at_ to ((getF ps bdB).getD [])).1.length)).1 (dR b at_ to ((getF ps bdB).getD [])).1 (dR b at_ to ((getF ps bdB).getD [])).2,
     (eT (fun fr to n=>cL b d fr to (u==dgB) n) (dR b at_ to ((getF ps bdB).getD [])).2.1 (dR b at_ to ((getF ps bdB).getD [])).1 (n+(dR b at_ to ((getF ps bdB).getD [])).1.length)).2)
   else(eH fr at_ to,n)
  else if t=M1∧u=M3∧Cz b l=true∧n<1000 then(Pt.mk 2 (fr,at_) (at_,to) [(cL b d at_ to false (n+1)).1] [] (0,0),(cL b d at_ to false (n+1)).2)
  else(eH fr at_ to,n)):=by
  rw[cL]
  simp only[hat,hfl,hv]
 rw[hent]
 generalize hbd:(getF ps bdB).getD []=bd
 have hsq:∀x y:Bs,sEq x y=decide (x=y):=fun x y=>by
  by_cases h:x=y
  ·subst h;simp[sEq]
  ·simp[sEq,h]
 have leaf:∀x:Int,x=(n:Int)→Evt (fun _ _=>some (V.agg [.int .i64 0, .int .i64 (fr:Nat), .int .i64 (at_:Nat), .int .i64 (at_:Nat), .int .i64 (to:Nat), .lst 31 false [], .lst 27 false [], .int .i64 0, .int .i64 0],
   [Ob.cells [.lst 5 false (ofBytes b), .int .i64 x]])) (partV (eH fr at_ to),uX b (n:Nat)):=by
  intro x hx
  subst hx
  rw[LC]
  exact aD _
 have hy3:(if sEq t [109,117,108,116,105,112,97,114,116]=true then(if(!(sEq bd []))=true then some (decide (((bd.length:Nat):Int)≤(70:Int)))else some false)else some false)=some (decide (t=mpB∧bd≠[]∧bd.length≤70)):=by
  have e1:sEq t [109,117,108,116,105,112,97,114,116]=decide (t=mpB):=hsq t mpB
  rw[e1,hsq bd []]
  by_cases c1:t=mpB
  ·by_cases c2:bd=[]
   ·simp[c1,c2]
   ·by_cases c3:bd.length≤70
    ·have:((bd.length:Nat):Int)≤70:=by omega
     simp[c1,c2,c3,this]
    ·have:¬(((bd.length:Nat):Int)≤70):=by omega
     simp[c1,c2,c3,this]
  ·simp[c1]
 refine Iq hy3 ?_
 by_cases hc:t=mpB∧bd≠[]∧bd.length≤70
 ·rw[if_pos hc]
  simp only[decide_eq_true hc,if_true]
  refine aB (QX b bd (by omega) (by have:=hc.2.2;omega) (n:Nat) at_ to) ?_
  have hcl:=uY b at_ to bd
  generalize hcu:dR b at_ to bd=cu at hcl
  obtain⟨cs,e1,e2⟩:=cu
  simp only at hcl
  have hwn:IntKind.wrap .i64 ((n:Int)+((cs.length:Nat):Int))=((n+cs.length:Nat):Int):=by rw[wrap64 (by omega) (by omega)];omega
  simp only[V.getT,List.headD_cons,List.tail_cons,V.getB,V.getL,uX,Ob.getC,V.getI,cutV,V.cells,List.length_map,hwn]
  have hy5:(if decide (0<cs.length)=true then some (decide (((n+cs.length:Nat):Int)≤(1000:Int)))else some false)=some (decide (0<cs.length∧n+cs.length≤1000)):=by
   by_cases c1:0<cs.length
   ·by_cases c2:n+cs.length≤1000
    ·have:((n+cs.length:Nat):Int)≤1000:=by omega
     simp only[c1,c2,this,decide_true,if_true,and_self]
    ·have:¬(((n+cs.length:Nat):Int)≤1000):=by omega
     simp only[c1,c2,this,decide_true,decide_false,if_true,and_false]
   ·simp only[c1,decide_false,Bool.false_eq_true,if_false,false_and]
  refine Iq hy5 ?_
  by_cases hc2:0<cs.length∧n+cs.length≤1000
  ·rw[if_pos hc2]
   simp only[decide_eq_true hc2,if_true]
   refine aB (Q2 b d he (u==dgB) cs (by omega) (fr:Nat) (at_:Nat) (at_:Nat) (to:Nat) e1 e2 (n+cs.length) hc2.2) ?_
   rw[partV,fQ]
   exact aD _
  ·rw[if_neg hc2]
   simp only[decide_eq_false hc2,Bool.false_eq_true,if_false]
   exact leaf _ rfl
 ·rw[if_neg hc]
  simp only[decide_eq_false hc,Bool.false_eq_true,if_false]
  by_cases t1:t=M1
  ·by_cases t2:u=M3
   ·have s1:sEq t [109,101,115,115,97,103,101]=true:=by rw[hsq];exact decide_eq_true t1
    have s2:sEq u [114,102,99,56,50,50]=true:=by rw[hsq];exact decide_eq_true t2
    simp only[s1,s2,if_true]
    refine aB (QZ b (by omega) l (by omega) (fun f hf=>by have:=k1 f hf;omega) (n:Nat)) ?_
    simp only[nP,uX,Ob.getC,List.headD_cons,List.tail_cons,eI,bQ]
    by_cases t3:Cz b l=true
    ·by_cases t4:n<1000
     ·have t4' :((n:Nat):Int)<1000:=by omega
      have hwn:IntKind.wrap .i64 ((n:Int)+1)=((n+1:Nat):Int):=by rw[wrap64 (by omega) (by omega)];omega
      rw[if_pos ⟨t1,t2,t3,t4⟩]
      simp only[t3,if_true,t4',decide_true,hwn]
      refine aB (he at_ to (n+1) false (by omega)) ?_
      simp only[dS]
      rw[partV,gP,gP]
      exact aD _
     ·have t4' :¬(((n:Nat):Int)<1000):=by omega
      rw[if_neg (fun h=>t4 h.2.2.2)]
      simp only[t3,if_true,t4',decide_false,Bool.false_eq_true,if_false]
      exact leaf _ rfl
    ·rw[if_neg (fun h=>t3 h.2.2.1)]
     simp only[t3,Bool.false_eq_true,if_false]
     exact leaf _ rfl
   ·rw[if_neg (fun h=>t2 h.2.1)]
    have s1:sEq t [109,101,115,115,97,103,101]=true:=by rw[hsq];exact decide_eq_true t1
    have s2:sEq u [114,102,99,56,50,50]=false:=by rw[hsq];exact decide_eq_false t2
    simp only[s1,s2,if_true,Bool.false_eq_true,if_false]
    exact leaf _ rfl
  ·rw[if_neg (fun h=>t1 h.1)]
   have s1:sEq t [109,101,115,115,97,103,101]=false:=by rw[hsq];exact decide_eq_false t1
   simp only[s1,Bool.false_eq_true,if_false]
   exact leaf _ rfl
theorem Ir (b:Bs) (hb:b.length≤100000):∀d,d≤32→xF b d
 |0,_=>Q3 b hb
 |d+1,h=>Q4 b hb d h (Ir b hb d (by omega))
end Go.Proofs.YtgpofjbdjiajeaaGreatDoor
end
section
namespace Go.Proofs.YtgpofjbdjiajeaaGreatDoor
open Go.Ev Go
theorem Sv (b:Bs) (hb:b.length≤100000):
  Ret 7 [.lst 5 false (ofBytes b)] [] (.tup [partV (cL b 32 0 b.length false 1).1, .int .i64 0],[]):=by
 refine M7 (ofBytes b) ?_
 have h1:¬(((b.length:Nat):Int)>67108864):=by omega
 simp only[T7,aM,h1,decide_false,Bool.false_eq_true,if_false]
 have he:Ret 15 [.ref 0 0, .agg [.int .i64 (0:Int), .int .i64 (b.length:Nat)], .int .i64 (0:Int), .bool false] [.cells [.lst 5 false (ofBytes b), .int .i64 (1:Int)]] (partV (cL b 32 0 b.length false 1).1,uX b ((cL b 32 0 b.length false 1).2:Nat)):=
  Ir b hb 32 (by omega) 0 b.length 1 false (by omega)
 refine aB he ?_
 simp only[dS]
 exact aD _
mutual
def cntF:Pt→Nat
 | .mk _ _ _ kids _ _=>1+eJ kids
def eJ:List Pt→Nat
 |[]=>0
 |p::r=>cntF p+eJ r
end
mutual
def dpF:Pt→Nat
 | .mk _ _ _ kids _ _=>dpL kids
def dpL:List Pt→Nat
 |[]=>0
 |p::r=>max (dpF p+1) (dpL r)
end
theorem nQ (p:Pt):1≤cntF p:=by cases p;rw[cntF];omega
theorem A2:∀l:List Pt,l.length≤eJ l
 |[]=>by simp[eJ]
 |p::r=>by have:=A2 r;have:=nQ p;rw[eJ,List.length_cons];omega
theorem uZ (f:Pt→V) (pre:List Pt) (p:Pt) (r:List Pt):((pre++p::r).map f).getD pre.length .bot=f p:=by
 simp[List.getD]
mutual
theorem N1:∀p:Pt,cntF p≤1000000→Ret 40 [partV p] [] (.int .i64 (cntF p:Nat),[])
 | .mk k h b kids cuts e,hc=>by
  rw[partV]
  refine M40 (k:Nat) (h.1:Nat) (h.2:Nat) (b.1:Nat) (b.2:Nat) (gP kids) (cuts.map cutV) (e.1:Nat) (e.2:Nat) ?_
  rw[cntF]at hc ⊢
  have:=LD kids [] 1 hc (by simp)
  simp only[T40,fQ,List.length_map]
  simpa using this
theorem LD:∀(r pre:List Pt) (acc:Nat),acc+eJ r≤1000000→pre.length≤acc→
  Evt (fun k j=>L40 (aA cfg k) j (acc:Nat) ((pre++r).map partV) ((pre++r).length:Nat) (pre.length:Nat)) (.int .i64 ((acc+eJ r:Nat):Int),[])
 |[],pre,acc,h,hp=>by
  refine NX (acc:Nat) ((pre++[]).map partV) ((pre++[]).length:Nat) (pre.length:Nat) ?_
  have h1:¬((pre.length:Int)<((pre++[]).length:Nat)):=by simp
  simp only[FO,h1,decide_false,Bool.false_eq_true,if_false,eJ]
  exact aD _
 |p::r,pre,acc,h,hp=>by
  rw[eJ]at h
  refine NX (acc:Nat) ((pre++p::r).map partV) ((pre++p::r).length:Nat) (pre.length:Nat) ?_
  have h1:((pre.length:Int)<((pre++p::r).length:Nat)):=by simp;omega
  have h2:(0:Int)≤(pre.length:Nat):=by omega
  have hpos:=nQ p
  have hw:IntKind.wrap .i64 (((pre.length:Nat):Int)+1)=((pre.length+1:Nat):Int):=by rw[wrap64 (by omega) (by omega)];omega
  have hw2:IntKind.wrap .i64 (((acc:Nat):Int)+((cntF p:Nat):Int))=((acc+cntF p:Nat):Int):=by rw[wrap64 (by omega) (by omega)];omega
  simp only[FO,h1,decide_true,if_true,aI h2,List.length_map,cY,Int.toNat_natCast,uZ,dS,hw]
  refine aB (N1 p (by omega)) ?_
  have:=LD r (pre++[p]) (acc+cntF p) (by omega) (by simp;omega)
  simp only[List.append_assoc,List.singleton_append,List.length_append,List.length_cons,List.length_nil,Nat.zero_add]at this
  simp only[V.getI,hw2,eJ,List.length_append,List.length_cons,←Nat.add_assoc]at this ⊢
  exact this
end
mutual
theorem Is:∀p:Pt,dpF p+1≤cntF p
 | .mk k h b kids cuts e=>by
  have:=Iu kids
  rw[dpF,cntF];omega
theorem Iu:∀l:List Pt,dpL l≤eJ l
 |[]=>by simp[dpL]
 |p::r=>by
  have:=Is p
  have:=Iu r
  rw[dpL,eJ];omega
end
mutual
theorem N2:∀p:Pt,cntF p≤1000000→Ret 41 [partV p] [] (.int .i64 (dpF p:Nat),[])
 | .mk k h b kids cuts e,hc=>by
  rw[partV]
  refine M41 (k:Nat) (h.1:Nat) (h.2:Nat) (b.1:Nat) (b.2:Nat) (gP kids) (cuts.map cutV) (e.1:Nat) (e.2:Nat) ?_
  rw[cntF]at hc
  rw[dpF]
  have:=LE kids [] 0 (by simp;omega)
  simp only[T41,fQ,List.length_map]
  simpa using this
theorem LE:∀(r pre:List Pt) (acc:Nat),pre.length+eJ r≤1000000→
  Evt (fun k j=>L41 (aA cfg k) j (acc:Nat) ((pre++r).map partV) ((pre++r).length:Nat) (pre.length:Nat)) (.int .i64 ((max acc (dpL r):Nat):Int),[])
 |[],pre,acc,h=>by
  refine NY (acc:Nat) ((pre++[]).map partV) ((pre++[]).length:Nat) (pre.length:Nat) ?_
  have h1:¬((pre.length:Int)<((pre++[]).length:Nat)):=by simp
  simp only[FP,h1,decide_false,Bool.false_eq_true,if_false,dpL,Nat.max_zero]
  exact aD _
 |p::r,pre,acc,h=>by
  rw[eJ]at h
  refine NY (acc:Nat) ((pre++p::r).map partV) ((pre++p::r).length:Nat) (pre.length:Nat) ?_
  have h1:((pre.length:Int)<((pre++p::r).length:Nat)):=by simp;omega
  have h2:(0:Int)≤(pre.length:Nat):=by omega
  have hpos:=nQ p
  have hdc:=Is p
  have hw:IntKind.wrap .i64 (((pre.length:Nat):Int)+1)=((pre.length+1:Nat):Int):=by rw[wrap64 (by omega) (by omega)];omega
  have hw2:IntKind.wrap .i64 (((dpF p:Nat):Int)+1)=((dpF p+1:Nat):Int):=by rw[wrap64 (by omega) (by omega)];omega
  simp only[FP,h1,decide_true,if_true,aI h2,List.length_map,cY,Int.toNat_natCast,uZ,dS,hw]
  refine aB (N2 p (by omega)) ?_
  have:=LE r (pre++[p]) (max acc (dpF p+1)) (by simp;omega)
  simp only[List.append_assoc,List.singleton_append,List.length_append,List.length_cons,List.length_nil,Nat.zero_add]at this
  simp only[V.getI,hw2,DY,dpL,List.length_append,List.length_cons,Nat.max_assoc]at this ⊢
  exact this
end
end Go.Proofs.YtgpofjbdjiajeaaGreatDoor
end
section
namespace Go.Proofs.YtgpofjbdjiajeaaGreatDoor
open Go.Ev Go
def Pt.kd:Pt→Nat| .mk k _ _ _ _ _=>k
def Pt.hd:Pt→Nat×Nat| .mk _ h _ _ _ _=>h
def Pt.bd:Pt→Nat×Nat| .mk _ _ b _ _ _=>b
def Pt.ks:Pt→List Pt| .mk _ _ _ l _ _=>l
def Pt.cs:Pt→List (Nat×Nat)| .mk _ _ _ _ c _=>c
def Pt.en:Pt→Nat×Nat| .mk _ _ _ _ _ e=>e
theorem qS (p:Pt):V.agg [.int .i64 (p.kd:Nat), .int .i64 (p.hd.1:Nat), .int .i64 (p.hd.2:Nat), .int .i64 (p.bd.1:Nat), .int .i64 (p.bd.2:Nat), .lst 31 false (p.ks.map partV), .lst 27 false (p.cs.map cutV), .int .i64 (p.en.1:Nat), .int .i64 (p.en.2:Nat)]=partV p:=by
 cases p;rw[partV,fQ];rfl
theorem Hz (p:Pt):V.cells (partV p)=[.int .i64 (p.kd:Nat), .int .i64 (p.hd.1:Nat), .int .i64 (p.hd.2:Nat), .int .i64 (p.bd.1:Nat), .int .i64 (p.bd.2:Nat), .lst 31 false (p.ks.map partV), .lst 27 false (p.cs.map cutV), .int .i64 (p.en.1:Nat), .int .i64 (p.en.2:Nat)]:=by
 rw[←qS];rfl
theorem HA {α:Type} {g g' :Nat→Nat→Option α} {r:α} (hg:∀k n,g k n=g' k n) (h:Evt g' r):Evt g r:=by
 obtain⟨K,h⟩:=h
 exact⟨K,fun k n hk hn=>(hg k n).trans (h k n hk hn)⟩
theorem DZ (b:Bs) (d fr to:Nat) (dg:Bool) (n:Nat) {at_:Nat} {l:List Fd} {t u:Bs} {ps:Ps} {bd:Bs} {cs:List (Nat×Nat)} {e:Nat×Nat}
  (h1:(dM b (fr:Nat) (to:Nat)).1=l) (h2:(dM b (fr:Nat) (to:Nat)).2.toNat=at_) (h3:mG b l dg=(t,u,ps)) (h4:(getF ps bdB).getD []=bd) (h5:dR b at_ to bd=(cs,e)):
  cL b (d+1) fr to dg n=if t=mpB∧bd≠[]∧bd.length≤70 then
   if 0<cs.length∧n+cs.length≤1000 then
    (Pt.mk 1 (fr,at_) (at_,to) (eT (fun fr to n=>cL b d fr to (u==dgB) n) e.1 cs (n+cs.length)).1 cs e,(eT (fun fr to n=>cL b d fr to (u==dgB) n) e.1 cs (n+cs.length)).2)
   else(eH fr at_ to,n)
  else if t=M1∧u=M3∧Cz b l=true∧n<1000 then(Pt.mk 2 (fr,at_) (at_,to) [(cL b d at_ to false (n+1)).1] [] (0,0),(cL b d at_ to false (n+1)).2)
  else(eH fr at_ to,n):=by
 rw[cL]
 simp only[h1,h2,h3,h4,h5]
theorem CB (ent:Nat→Nat→Nat→Pt×Nat) (h:∀fr to n,(ent fr to n).2+1=n+cntF (ent fr to n).1) (fin:Nat):∀(cs:List (Nat×Nat)) (n:Nat),(eT ent fin cs n).2+cs.length=n+eJ (eT ent fin cs n).1
 |[],n=>by simp[eT,eJ]
 |c::r,n=>by
  have h1:=h c.2 (max (mH fin r) c.2) n
  have h2:=CB ent h fin r (ent c.2 (max (mH fin r) c.2) n).2
  rw[eT,eJ,List.length_cons]
  simp only
  omega
theorem vA (b:Bs):∀(d fr to:Nat) (dg:Bool) (n:Nat),(cL b d fr to dg n).2+1=n+cntF (cL b d fr to dg n).1
 |0,fr,to,dg,n=>by rw[cL];simp only[eH,cntF,eJ]
 |d+1,fr,to,dg,n=>by
  generalize h1:(dM b (fr:Nat) (to:Nat)).1=l
  generalize h2:(dM b (fr:Nat) (to:Nat)).2.toNat=at_
  obtain⟨t,u,ps,h3⟩:∃t u ps,mG b l dg=(t,u,ps):=⟨_,_,_,rfl⟩
  generalize h4:(getF ps bdB).getD []=bd
  obtain⟨cs,e,h5⟩:∃cs e,dR b at_ to bd=(cs,e):=⟨_,_,rfl⟩
  rw[DZ b d fr to dg n h1 h2 h3 h4 h5]
  split
  ·split
   ·have:=CB (fun fr to n=>cL b d fr to (u==dgB) n) (fun fr to n=>vA b d fr to _ n) e.1 cs (n+cs.length)
    rw[cntF]
    simp only
    omega
   ·simp only[eH,cntF,eJ]
  ·split
   ·have:=vA b d at_ to false (n+1)
    simp only[cntF,eJ]
    omega
   ·simp only[eH,cntF,eJ]
theorem lN (x y:Bs):ofBytes x++ofBytes y=ofBytes (x++y):=by simp[ofBytes]
end Go.Proofs.YtgpofjbdjiajeaaGreatDoor
end
section
namespace Go.Proofs.YtgpofjbdjiajeaaGreatDoor
open Go.Ev Go
theorem wrap32 {n:Int} (h1:0≤n) (h2:n<4294967296):IntKind.wrap .u32 n=n:=by
 have:IntKind.wrap .u32 n=n % 4294967296:=by simp[IntKind.wrap,IntKind.signed,IntKind.bits]
 rw[this];omega
theorem N3 (x:W32):IntKind.wrap .u32 ((x.toNat:Nat):Int)=((x.toNat:Nat):Int):=wrap32 (by omega) (by have:=x.isLt;omega)
theorem D1 (x:W32):BitVec.ofInt 32 ((x.toNat:Nat):Int)=x:=by
 rw[BitVec.ofInt_natCast];simp
theorem LF (x y:W32):bits .xor .u32 ((x.toNat:Nat):Int) ((y.toNat:Nat):Int)=(((x ^^^ y).toNat:Nat):Int):=by
 show IntKind.wrap .u32 (((BitVec.ofInt 32 _ ^^^ BitVec.ofInt 32 _).toNat:Nat):Int)=_
 rw[D1,D1,N3]
theorem Q5 (x y:W32):bits .and .u32 ((x.toNat:Nat):Int) ((y.toNat:Nat):Int)=(((x &&& y).toNat:Nat):Int):=by
 show IntKind.wrap .u32 (((BitVec.ofInt 32 _ &&& BitVec.ofInt 32 _).toNat:Nat):Int)=_
 rw[D1,D1,N3]
theorem Q6 (x:W32) (k:Nat):Int.fdiv ((x.toNat:Nat):Int) ((2 ^ k:Nat):Int)=(((x >>> k).toNat:Nat):Int):=by
 rw[Int.fdiv_eq_ediv_of_nonneg _ (Int.natCast_nonneg _),BitVec.toNat_ushiftRight,Nat.shiftRight_eq_div_pow];rfl
theorem Pb (y:W32) (h:y.toNat<16):V.getI (List.getD tL (0+Int.toNat ((y.toNat:Nat):Int)*1) .bot)=(((zN 4 y).toNat:Nat):Int):=by
 have key:∀j:Fin 16,V.getI (List.getD tL (0+j.val*1) .bot)=(((zN 4 (BitVec.ofNat 32 j.val)).toNat:Nat):Int):=by decide+kernel
 have:=key ⟨y.toNat,h⟩
 simp only[Int.toNat_natCast]at this ⊢
 rw[this]
 simp
theorem Q7 (y:W32):(y &&& 15#32).toNat=y.toNat % 16:=by
 rw[BitVec.toNat_and,BitVec.toNat_ofNat,show 15 % 2 ^ 32=2 ^ 4 - 1 from rfl,Nat.and_two_pow_sub_one_eq_mod]
theorem Q8:IntKind.max .u32=(((~~~ 0#32:W32).toNat:Nat):Int):=rfl
theorem Q9 (x:W32):(~~~ 0#32:W32) ^^^ x= ~~~ x:=by
 apply BitVec.eq_of_getLsbD_eq
 intro i hi
 rw[BitVec.getLsbD_xor,BitVec.getLsbD_not,BitVec.getLsbD_not,BitVec.getLsbD_zero,decide_eq_true hi]
 simp
theorem Ra (x:W32) {f:Nat} (hf:f<16):(x >>> 4) ^^^ zN 4 ((x ^^^ BitVec.ofNat 32 f) &&& 15#32)=fd 4 x f:=by
 rw[Q0 x (by omega) (by omega),Na (x ^^^ BitVec.ofNat 32 f)]
 congr 1
 apply BitVec.eq_of_toNat_eq
 rw[BitVec.toNat_ushiftRight,BitVec.toNat_ushiftRight,BitVec.toNat_xor,BitVec.toNat_ofNat,Nat.mod_eq_of_lt (show f<2 ^ 32 by omega),Nat.shiftRight_xor_distrib,Nat.shiftRight_eq_div_pow f,Nat.div_eq_of_lt (by omega),Nat.xor_zero]
theorem Pd:tbl (tOf (.agg tL,[]))=tL:=rfl
theorem Iv {G:Nat→Nat→Int→Option (V×List Ob)} {r:V×List Ob} (x:W32) (f:Nat) (hf:f<16) (h:Evt (fun k n=>G k n ((fd 4 x f).toNat:Nat)) r):
  Evt (fun k n=>moS (G k n) (tOf (.agg tL,[])) ((x.toNat:Nat):Int) ((f:Nat):Int)) r:=by
 have e1:(((f:Nat):Int))=(((BitVec.ofNat 32 f).toNat:Nat):Int):=by rw[BitVec.toNat_ofNat,Nat.mod_eq_of_lt (by omega)]
 have e2:JG ((x.toNat:Nat):Int) ((f:Nat):Int)=((((x ^^^ BitVec.ofNat 32 f) &&& 15#32).toNat:Nat):Int):=by
  unfold JG
  rw[e1,LF,show(15:Int)=(((15#32:W32).toNat:Nat):Int)from rfl,Q5]
 have h16:((x ^^^ BitVec.ofNat 32 f) &&& 15#32).toNat<16:=by rw[Q7];omega
 have hp:(2:Int) ^ min (Int.toNat (4:Int)) (IntKind.bits IntKind.u32)=((2 ^ 4:Nat):Int):=rfl
 refine HA (g' :=fun k n=>G k n ((fd 4 x f).toNat:Nat)) (fun k n=>?_) h
 unfold moS
 rw[Pd,e2,aI (by decide),aI (by omega),aI (by rw[Int.toNat_natCast];simp only[tL,List.length_cons,List.length_nil];omega),Pb _ h16,hp,Q6,LF,Ra x hf]
theorem LG (b:Bs) (hb:b.length≤1000000000):∀(m i:Nat) (x:W32),b.length - i=m→i≤b.length→
  Evt (fun _ n=>(moL n).1 (tOf (.agg tL,[])) (ofBytes b) ((b.length:Nat):Int) (i:Nat) ((x.toNat:Nat):Int)) (.int .u32 (((~~~ (FS x (b.drop i))).toNat:Nat):Int),[])
 |0,i,x,h,hi=>by
  refine aX (g' :=fun _ n=>moT (fun f0 f1=>(moL n).2.1 f0 f1 (tOf (.agg tL,[])) (ofBytes b) ((b.length:Nat):Int) (i:Nat) ((x.toNat:Nat):Int)) (ofBytes b) ((b.length:Nat):Int) (i:Nat) ((x.toNat:Nat):Int)) (fun k n=>rfl) ?_
  have h1:¬(((i:Nat):Int)<((b.length:Nat):Int)):=by omega
  simp only[moT,h1,decide_false,Bool.false_eq_true,if_false]
  rw[Q8,LF,Q9,List.drop_of_length_le (by omega),Lx]
  exact aD _
 |m+1,i,x,h,hi=>by
  have hlt:i<b.length:=by omega
  have next:=LG b hb m (i+1) (fd 4 (fd 4 x (b[i].toNat % 16)) (b[i].toNat / 16)) (by omega) (by omega)
  have hc:=b[i].toNat_lt
  have e8:FS x (b.drop i)=FS (fd 4 (fd 4 x (b[i].toNat % 16)) (b[i].toNat / 16)) (b.drop (i+1)):=by
   rw[drop_at hlt,JF,show(8:Nat)=4+4 from rfl,Hy]
   rw[show b[i].toNat / 2 ^ 4=b[i].toNat / 16 from rfl,←DW 4 x b[i].toNat]
  rw[←e8]at next
  refine aX (g' :=fun _ n=>moT (fun f0 f1=>(moL n).2.1 f0 f1 (tOf (.agg tL,[])) (ofBytes b) ((b.length:Nat):Int) (i:Nat) ((x.toNat:Nat):Int)) (ofBytes b) ((b.length:Nat):Int) (i:Nat) ((x.toNat:Nat):Int)) (fun k n=>rfl) ?_
  have h1:(((i:Nat):Int)<((b.length:Nat):Int)):=by omega
  have h2:(0:Int)≤(i:Nat):=by omega
  have hw:IntKind.wrap .i64 (((i:Nat):Int)+1)=((i+1:Nat):Int):=by rw[wrap64 (by omega) (by omega)];omega
  have hg:V.getI (List.getD (ofBytes b) (Int.toNat ((i:Nat):Int)) .bot)=((b[i].toNat:Nat):Int):=by
   rw[Int.toNat_natCast]
   simp[ofBytes,List.getD,hlt,V.getI]
  have hlo:IntKind.wrap .u32 (bits .and .u8 ((b[i].toNat:Nat):Int) 15)=((b[i].toNat % 16:Nat):Int):=by
   have key:∀c:UInt8,IntKind.wrap .u32 (bits .and .u8 ((c.toNat:Nat):Int) 15)=((c.toNat % 16:Nat):Int):=nN (by decide+kernel)
   exact key _
  have hhi:IntKind.wrap .u32 (Int.fdiv ((b[i].toNat:Nat):Int) (2 ^ min (Int.toNat (4:Int)) (IntKind.bits IntKind.u8)))=((b[i].toNat / 16:Nat):Int):=by
   have key:∀c:UInt8,IntKind.wrap .u32 (Int.fdiv ((c.toNat:Nat):Int) (2 ^ min (Int.toNat (4:Int)) (IntKind.bits IntKind.u8)))=((c.toNat / 16:Nat):Int):=nN (by decide+kernel)
   exact key _
  simp only[moT,h1,decide_true,if_true,aI h2,aM,cY,hg,hlo,hhi,aI (show(0:Int)≤4 by decide)]
  refine aX (g' :=fun _ n=>moS (fun x' =>(moL n).2.2.1 ((b[i].toNat % 16:Nat):Int) ((b[i].toNat / 16:Nat):Int) (tOf (.agg tL,[])) (ofBytes b) ((b.length:Nat):Int) (i:Nat) x') (tOf (.agg tL,[])) ((x.toNat:Nat):Int) ((b[i].toNat % 16:Nat):Int)) (fun k n=>rfl) ?_
  refine Iv x (b[i].toNat % 16) (by omega) ?_
  refine aX (g' :=fun _ n=>moS (fun x' =>(moL n).2.2.2 ((b[i].toNat % 16:Nat):Int) ((b[i].toNat / 16:Nat):Int) (tOf (.agg tL,[])) (ofBytes b) ((b.length:Nat):Int) (i:Nat) x') (tOf (.agg tL,[])) (((fd 4 x (b[i].toNat % 16)).toNat:Nat):Int) ((b[i].toNat / 16:Nat):Int)) (fun k n=>rfl) ?_
  refine Iv _ (b[i].toNat / 16) (by omega) ?_
  refine aX (g' :=fun _ n=>(moL n).1 (tOf (.agg tL,[])) (ofBytes b) ((b.length:Nat):Int) (IntKind.wrap IntKind.i64 (((i:Nat):Int)+(1:Int))) (((fd 4 (fd 4 x (b[i].toNat % 16)) (b[i].toNat / 16)).toNat:Nat):Int)) (fun k n=>rfl) ?_
  rw[hw]
  exact next
def FV (b:Bs):V:= .int .u32 (((fX b).toNat:Nat):Int)
theorem Iw (b:Bs) (hb:b.length≤1000000000):Ret 19 [.lst 5 false (ofBytes b)] [] (FV b,[]):=by
 have hm:Ret 45 [.int .u32 0, .lst 5 false (ofBytes b)] [] (FV b,[]):=by
  refine M45 0 (ofBytes b) ?_
  refine aB Q1 ?_
  have e:bits .xor .u32 (IntKind.max .u32) 0=(((~~~ 0#32:W32).toNat:Nat):Int):=by decide+kernel
  rw[e,aM]
  have:=LG b hb b.length 0 (~~~ 0#32) (by omega) (by omega)
  rw[List.drop_zero]at this
  exact this
 refine M19 (ofBytes b) ?_
 simp only[T19]
 refine aB hm ?_
 exact aD _
end Go.Proofs.YtgpofjbdjiajeaaGreatDoor
end
section
namespace Go.Proofs.YtgpofjbdjiajeaaGreatDoor
open Go.Ev Go
def nR (s:Bs):Bs:=s++le4 (fX s).toNat
end Go.Proofs.YtgpofjbdjiajeaaGreatDoor
end
section
namespace Go.Proofs.YtgpofjbdjiajeaaGreatDoor
open Go.Ev Go
mutual
def fW (m:Nat):Pt→Prop
 | .mk _ h b kids cuts e=>h.1≤m∧h.2≤m∧b.1≤m∧b.2≤m∧(∀c∈cuts,c.1≤m∧c.2≤m)∧cuts.length≤m∧e.1≤m∧e.2≤m∧dT m kids
def dT (m:Nat):List Pt→Prop
 |[]=>True
 |p::r=>fW m p∧dT m r
end
end Go.Proofs.YtgpofjbdjiajeaaGreatDoor
end
section
namespace Go.Proofs.YtgpofjbdjiajeaaGreatDoor
open Go.Ev Go
theorem CC (b:Bs) (fr to:Nat):(dM b (fr:Nat) (to:Nat)).2.toNat≤max fr b.length:=by
 have hb:∀x∈aW (fr:Nat) (to:Nat) b,x.2.2≤b.length:=fun x hx=>(lL x hx).2.2
 generalize hl:aW (fr:Nat) (to:Nat) b=l at hb
 have hd:∀k,(l.getD k (0,0,0)).2.2≤b.length:=fun k=>by
  by_cases hk:k<l.length
  ·have:l.getD k (0,0,0)=l[k]:=by simp[List.getD,hk]
   rw[this];exact hb _ (List.getElem_mem hk)
  ·have:l.getD k (0,0,0)=(0,0,0):=by simp[List.getD,Nat.le_of_not_lt hk]
   rw[this];simp
 unfold dM
 rw[hl]
 split
 ·simp;omega
 ·split
  ·rename_i k hk
   have:=hd k;simp only[Int.toNat_natCast];omega
  ·have:=hd (l.length - 1);simp only[Int.toNat_natCast];omega
theorem A3 {m:Nat} (b bd:Bs):∀(l:List Ln) (out:List (Nat×Nat)) (fr:Nat),(∀x∈l,x.2.1≤m∧x.2.2≤m)→fr≤m→(∀c∈out,c.1≤m∧c.2≤m)→
  (∀c∈(fE b bd l out fr).1,c.1≤m∧c.2≤m)∧∀c,(fE b bd l out fr).2=some c→c.1≤m∧c.2≤m
 |[],out,fr,_,_,ho=>⟨ho,by simp[fE]⟩
 |x::r,out,fr,hl,hf,ho=>by
  obtain⟨h1,h2⟩:=hl x (by simp)
  have hr:∀y∈r,y.2.1≤m∧y.2.2≤m:=fun y hy=>hl y (by simp[hy])
  rw[fE]
  split
  ·exact A3 b bd r out _ hr h1 ho
  ·split
   ·exact⟨ho,fun c hc=>by cases hc;exact⟨hf,h2⟩⟩
   ·refine A3 b bd r _ _ hr h2 fun c hc=>?_
    rw[List.mem_append]at hc
    rcases hc with hc|hc
    ·exact ho c hc
    ·simp at hc;subst hc;exact⟨hf,h2⟩
theorem LH {m:Nat} (b:Bs) (fr to:Nat) (bd:Bs) (hb:b.length≤m) (hf:fr≤m) (ht:to≤m):(∀c∈(dR b fr to bd).1,c.1≤m∧c.2≤m)∧(dR b fr to bd).2.1≤m∧(dR b fr to bd).2.2≤m:=by
 obtain⟨h1,h2⟩:=A3 (m:=m) b bd (aW (fr:Nat) (to:Nat) b) [] fr (fun x hx=>by have:=lL x hx;omega) hf (by simp)
 unfold dR
 refine⟨h1,?_⟩
 simp only
 cases h3:(fE b bd (aW (fr:Nat) (to:Nat) b) [] fr).2 with
 |none=>exact⟨ht,ht⟩
 |some c=>exact h2 c h3
end Go.Proofs.YtgpofjbdjiajeaaGreatDoor
end
section
namespace Go.Proofs.YtgpofjbdjiajeaaGreatDoor
open Go.Ev Go
theorem CE (m:Nat) (ent:Nat→Nat→Nat→Pt×Nat) (h:∀fr to n,fr≤m→to≤m→fW m (ent fr to n).1) (fin:Nat) (hf:fin≤m):∀(cs:List (Nat×Nat)) (n:Nat),(∀c∈cs,c.1≤m∧c.2≤m)→
  dT m (eT ent fin cs n).1
 |[],n,_=>by rw[eT,dT];trivial
 |c::r,n,hc=>by
  obtain⟨h1,h2⟩:=hc c (by simp)
  have hr:∀x∈r,x.1≤m∧x.2≤m:=fun x hx=>hc x (by simp[hx])
  have hx:max (mH fin r) c.2≤m:=by
   cases r with
   |nil=>simp only[mH];omega
   |cons x r=>have:=hr x (by simp);simp only[mH];omega
  rw[eT,dT]
  exact⟨h _ _ _ h2 hx,CE m ent h fin hf r _ hr⟩
theorem A5 {m fr at_ to:Nat} (h1:fr≤m) (h2:at_≤m) (h3:to≤m):fW m (eH fr at_ to):=by
 rw[eH,fW,dT]
 exact⟨h1,h2,h2,h3,by simp,by simp,by simp,by simp,trivial⟩
theorem A9 (m:Nat) (b:Bs) (hb:b.length≤m):∀(d fr to:Nat) (dg:Bool) (n:Nat),fr≤m→to≤m→fW m (cL b d fr to dg n).1
 |0,fr,to,dg,n,hf,ht=>by
  have:=CC b fr to
  rw[cL]
  exact A5 hf (by omega) ht
 |d+1,fr,to,dg,n,hf,ht=>by
  generalize h1:(dM b (fr:Nat) (to:Nat)).1=l
  generalize h2:(dM b (fr:Nat) (to:Nat)).2.toNat=at_
  have hat:at_≤m:=by rw[←h2];have:=CC b fr to;omega
  obtain⟨t,u,ps,h3⟩:∃t u ps,mG b l dg=(t,u,ps):=⟨_,_,_,rfl⟩
  generalize h4:(getF ps bdB).getD []=bd
  obtain⟨cs,e,h5⟩:∃cs e,dR b at_ to bd=(cs,e):=⟨_,_,rfl⟩
  obtain⟨q1,q2,q3⟩:=LH (m:=m) b at_ to bd hb hat ht
  have q4:=uY b at_ to bd
  rw[h5]at q1 q2 q3 q4
  rw[DZ b d fr to dg n h1 h2 h3 h4 h5]
  split
  ·split
   ·rw[fW]
    exact⟨hf,hat,hat,ht,q1,Nat.le_trans q4 hb,q2,q3,CE m _ (fun fr to n hf ht=>A9 m b hb d fr to _ n hf ht) _ q2 _ _ q1⟩
   ·exact A5 hf hat ht
  ·split
   ·rw[fW,dT,dT]
    exact⟨hf,hat,hat,ht,by simp,by simp,by simp,by simp,A9 m b hb d at_ to _ _ hat ht,trivial⟩
   ·exact A5 hf hat ht
end Go.Proofs.YtgpofjbdjiajeaaGreatDoor
end
section
namespace Go.Proofs.YtgpofjbdjiajeaaGreatDoor
open Go.Ev Go
end Go.Proofs.YtgpofjbdjiajeaaGreatDoor
end
section
namespace Go.Proofs.YtgpofjbdjiajeaaGreatDoor
open Go.Ev Go
end Go.Proofs.YtgpofjbdjiajeaaGreatDoor
end
section
namespace Go.Proofs.YtgpofjbdjiajeaaGreatDoor
open Go.Ev Go
theorem HB {fr to:Nat} {b:Bs}:∀x∈aW (fr:Nat) (to:Nat) b,fr≤x.2.2∧x.2.2≤to:=by
 intro x hx
 unfold aW at hx
 split at hx
 ·rename_i h
  have:=mU _ _ _ x hx
  simp at this
  omega
 ·cases hx
theorem Ba {fr to:Nat} (b:Bs) (h:fr≤to):fr≤(dM b (fr:Nat) (to:Nat)).2.toNat∧(dM b (fr:Nat) (to:Nat)).2.toNat≤to:=by
 have hb:∀x∈aW (fr:Nat) (to:Nat) b,fr≤x.2.2∧x.2.2≤to:=HB
 generalize hl:aW (fr:Nat) (to:Nat) b=l at hb
 have hd:∀k,k<l.length→fr≤(l.getD k (0,0,0)).2.2∧(l.getD k (0,0,0)).2.2≤to:=fun k hk=>by
  have:l.getD k (0,0,0)=l[k]:=by simp[List.getD,hk]
  rw[this];exact hb _ (List.getElem_mem hk)
 unfold dM
 rw[hl]
 by_cases h0:l=[]
 ·rw[if_pos h0];simp;omega
 ·have hpos:0<l.length:=List.length_pos_iff.2 h0
  rw[if_neg h0]
  cases he:iO l with
  |some k=>
   have:=hd k (xB he)
   simp only[Int.toNat_natCast];exact this
  |none=>
   have:=hd (l.length - 1) (by omega)
   simp only[Int.toNat_natCast];exact this
theorem Ix (b:Bs) (d fr to:Nat) (dg:Bool) (n:Nat):(cL b d fr to dg n).1.hd=(fr,(dM b (fr:Nat) (to:Nat)).2.toNat)∧(cL b d fr to dg n).1.bd=((dM b (fr:Nat) (to:Nat)).2.toNat,to):=by
 cases d with
 |zero=>rw[cL];exact⟨rfl,rfl⟩
 |succ d=>
  obtain⟨t,u,ps,h3⟩:∃t u ps,mG b (dM b (fr:Nat) (to:Nat)).1 dg=(t,u,ps):=⟨_,_,_,rfl⟩
  obtain⟨cs,e,h5⟩:∃cs e,dR b (dM b (fr:Nat) (to:Nat)).2.toNat to ((getF ps bdB).getD [])=(cs,e):=⟨_,_,rfl⟩
  rw[DZ b d fr to dg n rfl rfl h3 rfl h5]
  split
  ·split<;>exact⟨rfl,rfl⟩
  ·split<;>exact⟨rfl,rfl⟩
end Go.Proofs.YtgpofjbdjiajeaaGreatDoor
end
section
namespace Go.Proofs.YtgpofjbdjiajeaaGreatDoor
open Go.Ev Go
def CCh:Nat→List (Nat×Nat)→Nat→Prop
 |a,[],z=>a≤z
 |a,c::r,z=>a≤c.1∧c.1≤c.2∧CCh c.2 r z
theorem CCh.le {z:Nat}:∀{l:List (Nat×Nat)} {a:Nat},CCh a l z→a≤z
 |[],_,h=>h
 |c::r,_,h=>Nat.le_trans h.1 (Nat.le_trans h.2.1 (CCh.le h.2.2))
theorem CCh.mono {z z' :Nat} (hz:z≤z'):∀{l:List (Nat×Nat)} {a:Nat},CCh a l z→CCh a l z'
 |[],_,h=>Nat.le_trans h hz
 |c::r,_,h=>⟨h.1,h.2.1,CCh.mono hz h.2.2⟩
theorem CCh.snoc {z z' u:Nat} (h1:z≤z') (h2:z'≤u):∀{l:List (Nat×Nat)} {a:Nat},CCh a l z→CCh a (l++[(z',u)]) u
 |[],a,h=>⟨Nat.le_trans h h1,h2,Nat.le_refl _⟩
 |c::r,_,h=>⟨h.1,h.2.1,CCh.snoc h1 h2 h.2.2⟩
def LCh:Nat→List Ln→Nat→Prop
 |a,[],z=>a≤z
 |a,x::r,z=>x.1=a∧a≤x.2.1∧x.2.1≤x.2.2∧LCh x.2.2 r z
theorem CG:∀(n a:Nat) (s:Bs),LCh a (eY n a s) (a+s.length)
 |0,a,s=>by simp[eY,LCh]
 |n+1,a,s=>by
  unfold eY
  split
  ·simp[LCh]
  ·rename_i hs
   have hp:0<s.length:=List.length_pos_iff.2 hs
   split
   ·exact⟨rfl,by simp,by simp,by simp[LCh]⟩
   ·rename_i hk
    obtain⟨q,hq⟩:∃q:Nat,Lib.indexByte s 10=q:=⟨(Lib.indexByte s 10).toNat,by omega⟩
    have hq0:=Lib.indexByte_some hq
    have hql:q<s.length:=(List.getElem?_eq_some_iff.1 hq0.1).1
    rw[hq]
    simp only[Int.toNat_natCast]
    refine⟨rfl,by simp only;split<;>omega,by simp only;split<;>omega,?_⟩
    have:=CG n (a+q+1) (s.drop (q+1))
    rw[List.length_drop,show a+q+1+(s.length - (q+1))=a+s.length by omega]at this
    exact this
theorem HD {fr to:Nat} {b:Bs} (h:fr≤to):LCh fr (aW (fr:Nat) (to:Nat) b) to:=by
 unfold aW
 split
 ·rename_i hh
  have:=CG ((b.take to).drop fr).length fr ((b.take to).drop fr)
  rw[show fr+((b.take to).drop fr).length=to by rw[List.length_drop,List.length_take];omega]at this
  exact this
 ·exact h
theorem Bb (b bd:Bs) (lo to:Nat):∀(l:List Ln) (out:List (Nat×Nat)) (fr a:Nat),LCh a l to→fr≤a→CCh lo out fr→
  CCh lo (fE b bd l out fr).1 ((fE b bd l out fr).2.getD (to,to)).1∧((fE b bd l out fr).2.getD (to,to)).1≤((fE b bd l out fr).2.getD (to,to)).2∧((fE b bd l out fr).2.getD (to,to)).2≤to
 |[],out,fr,a,hl,hf,ho=>by
  rw[fE]
  exact⟨ho.mono (Nat.le_trans hf hl),Nat.le_refl _,Nat.le_refl _⟩
 |x::r,out,fr,a,hl,hf,ho=>by
  obtain⟨h1,h2,h3,h4⟩:=hl
  have hz:x.2.2≤to:=by
   have:∀(l:List Ln) (a:Nat),LCh a l to→a≤to:=by
    intro l
    induction l with
    |nil=>intro a h;exact h
    |cons y r ih=>intro a h;obtain⟨_,g2,g3,g4⟩:=h;have:=ih _ g4;omega
   exact this _ _ h4
  rw[fE]
  split
  ·exact Bb b bd lo to r out x.2.1 x.2.2 h4 h3 (ho.mono (by omega))
  ·split
   ·exact⟨ho,by simp only[Option.getD_some];omega,hz⟩
   ·exact Bb b bd lo to r _ x.2.2 x.2.2 h4 (Nat.le_refl _) (ho.snoc (by omega) (by omega))
theorem LI (b bd:Bs) {fr to:Nat} (h:fr≤to):CCh fr (dR b fr to bd).1 (dR b fr to bd).2.1∧(dR b fr to bd).2.1≤(dR b fr to bd).2.2∧(dR b fr to bd).2.2≤to:=
 Bb b bd fr to _ [] fr fr (HD h) (Nat.le_refl _) (Nat.le_refl fr)
def KR (Q:Nat→Nat→Pt→Prop) (fin:Nat):List (Nat×Nat)→List Pt→Prop
 |[],[]=>True
 |c::r,q::ks=>Q c.2 (mH fin r) q∧KR Q fin r ks
 |_,_=>False
theorem KR.len {Q:Nat→Nat→Pt→Prop} {fin:Nat}:∀{cs:List (Nat×Nat)} {ks:List Pt},KR Q fin cs ks→ks.length=cs.length
 |[],[],_=>rfl
 |c::r,q::ks,h=>by simp[KR.len h.2]
 |[],_::_,h=>h.elim
 |_::_,[],h=>h.elim
theorem FW (ent:Nat→Nat→Nat→Pt×Nat) (Q:Nat→Nat→Pt→Prop) (len fin:Nat) (hf:fin≤len) (h:∀fr to n,fr≤to→to≤len→Q fr to (ent fr to n).1):∀(cs:List (Nat×Nat)) (n a:Nat),CCh a cs fin→KR Q fin cs (eT ent fin cs n).1
 |[],n,a,_=>by rw[eT];trivial
 |c::r,n,a,hc=>by
  obtain⟨h1,h2,h3⟩:=hc
  have hx:c.2≤mH fin r∧mH fin r≤len:=by
   cases r with
   |nil=>exact⟨h3,hf⟩
   |cons x r=>have h5:=h3.2.2.le;have h4:=h3.2.1;have h6:=h3.1;simp only[mH];omega
  rw[eT]
  refine⟨?_,FW ent Q len fin hf h r _ _ h3⟩
  rw[Nat.max_eq_left hx.1]
  exact h _ _ _ hx.1 hx.2
theorem vB (b:Bs) (P:Nat→Nat→Nat→Pt→Prop)
  (leaf:∀d fr at_ to,fr≤at_→at_≤to→to≤b.length→P d fr to (eH fr at_ to))
  (multi:∀d fr at_ to cs (e:Nat×Nat) ks,fr≤at_→at_≤to→to≤b.length→CCh at_ cs e.1→e.1≤e.2→e.2≤to→0<cs.length→KR (P d) e.1 cs ks→P (d+1) fr to (.mk 1 (fr,at_) (at_,to) ks cs e))
  (msg:∀d fr at_ to q,fr≤at_→at_≤to→to≤b.length→q.hd.1=at_→q.bd.2=to→P d at_ to q→P (d+1) fr to (.mk 2 (fr,at_) (at_,to) [q] [] (0,0))):
  ∀(d fr to:Nat) (dg:Bool) (n:Nat),fr≤to→to≤b.length→P d fr to (cL b d fr to dg n).1
 |0,fr,to,dg,n,hft,htl=>by
  have:=Ba b hft
  rw[cL]
  exact leaf _ _ _ _ this.1 this.2 htl
 |d+1,fr,to,dg,n,hft,htl=>by
  have hsp:=Ba b hft
  generalize h1:(dM b (fr:Nat) (to:Nat)).1=l
  generalize h2:(dM b (fr:Nat) (to:Nat)).2.toNat=at_ at hsp
  obtain⟨t,u,ps,h3⟩:∃t u ps,mG b l dg=(t,u,ps):=⟨_,_,_,rfl⟩
  generalize h4:(getF ps bdB).getD []=bd
  obtain⟨cs,e,h5⟩:∃cs e,dR b at_ to bd=(cs,e):=⟨_,_,rfl⟩
  have hch:=LI b bd hsp.2
  rw[h5]at hch
  have hle:e.1≤b.length:=by have:=hch.2.1;have:=hch.2.2;simp only at *;omega
  have ih:=vB b P leaf multi msg d
  rw[DZ b d fr to dg n h1 h2 h3 h4 h5]
  split
  ·split
   ·rename_i g
    exact multi d fr at_ to cs e _ hsp.1 hsp.2 htl hch.1 hch.2.1 hch.2.2 g.1 (FW _ (P d) b.length e.1 hle (fun fr to n a1 a2=>ih fr to _ n a1 a2) cs _ _ hch.1)
   ·exact leaf _ _ _ _ hsp.1 hsp.2 htl
  ·split
   ·obtain⟨k1,k2⟩:=Ix b d at_ to false (n+1)
    exact msg d fr at_ to _ hsp.1 hsp.2 htl (by rw[k1]) (by rw[k2]) (ih _ _ _ _ hsp.2 htl)
   ·exact leaf _ _ _ _ hsp.1 hsp.2 htl
def Chn:Nat→List (Nat×Nat×Nat)→Nat→Prop
 |a,[],z=>a=z
 |a,t::r,z=>t.1≤5∧t.2.1=a∧a≤t.2.2∧Chn t.2.2 r z
theorem Chn.app {z y:Nat} {m:List (Nat×Nat×Nat)} (hm:Chn z m y):∀{l:List (Nat×Nat×Nat)} {a:Nat},Chn a l z→Chn a (l++m) y
 |[],a,h=>by have:a=z:=h;subst this;exact hm
 |t::r,a,h=>⟨h.1,h.2.1,h.2.2.1,Chn.app hm h.2.2.2⟩
theorem Chn.le {z:Nat}:∀{l:List (Nat×Nat×Nat)} {a:Nat},Chn a l z→a≤z
 |[],a,h=>Nat.le_of_eq h
 |t::r,a,h=>Nat.le_trans h.2.2.1 (Chn.le h.2.2.2)
theorem Chn.chainT {z:Nat}:∀{l:List (Nat×Nat×Nat)} {a:Nat},Chn a l z→chainT (a:Nat) l=some (z:Nat)
 |[],a,h=>by have:a=z:=h;subst this;rfl
 |t::r,a,h=>by
  obtain⟨_,h1,h2,h3⟩:=h
  rw[Go.Proofs.YtgpofjbdjiajeaaGreatDoor.chainT,if_pos ⟨by omega,by omega⟩]
  exact Chn.chainT h3
theorem LJ {fin:Nat} {d:Nat}:∀{cs:List (Nat×Nat)} {ks:List Pt} {a:Nat},CCh a cs fin→KR (fun fr to q=>Chn fr (aV q) to) fin cs ks→Chn (mH fin cs) (fR cs (bP ks)) fin
 |[],[],a,_,_=>rfl
 |c::r,q::ks,a,h,hk=>by
  obtain⟨h1,h2,h3⟩:=h
  have:=LJ (d:=d) h3 hk.2
  rw[bP]
  exact⟨by simp,rfl,h2,this.app hk.1⟩
 |[],_::_,_,_,h=>h.elim
 |_::_,[],_,_,h=>h.elim
theorem FX (b:Bs) (d fr to:Nat) (dg:Bool) (n:Nat) (h1:fr≤to) (h2:to≤b.length):Chn fr (aV (cL b d fr to dg n).1) to:=by
 refine vB b (fun _ fr to p=>Chn fr (aV p) to) ?_ ?_ ?_ d fr to dg n h1 h2
 ·intro d fr at_ to k1 k2 k3
  unfold eH
  rw[aV,if_neg (by decide),if_neg (by decide)]
  exact⟨by simp,rfl,k1,by simp,rfl,k2,rfl⟩
 ·intro d fr at_ to cs e ks k1 k2 k3 k4 k5 k6 k7 k8
  have hl:=k8.len
  have hz:=LJ (d:=d) k4 k8
  rw[aV,if_pos rfl,if_pos (by omega)]
  cases cs with
  |nil=>simp at k7
  |cons c r=>
   refine⟨by simp,rfl,k1,by simp,rfl,k4.1,?_⟩
   refine Chn.app ?_ hz
   exact⟨by simp,rfl,k5,by simp,rfl,k6,rfl⟩
 ·intro d fr at_ to q k1 k2 k3 k4 k5 k6
  rw[aV,if_neg (by decide),if_pos rfl]
  exact⟨by simp,rfl,k1,k6⟩
mutual
def pG:Pt→Prop
 | .mk k h b kids cuts e=>((k=0∧cuts=[]∧e=(0,0)∧kids=[])∨(k=1∧0<kids.length∧kids.length=cuts.length)∨(k=2∧cuts=[]∧e=(0,0)∧∃q,kids=[q]∧q.hd.1=b.1∧q.bd.2=b.2))∧h.2=b.1∧b.1≤b.2∧mJ kids
def mJ:List Pt→Prop
 |[]=>True
 |p::r=>pG p∧mJ r
end
theorem Iy {fin:Nat}:∀{cs:List (Nat×Nat)} {ks:List Pt},KR (fun _ _ q=>pG q) fin cs ks→mJ ks
 |[],[],_=>by rw[mJ];trivial
 |c::r,q::ks,h=>by rw[mJ];exact⟨h.1,Iy h.2⟩
 |[],_::_,h=>h.elim
 |_::_,[],h=>h.elim
theorem CH (b:Bs) (d fr to:Nat) (dg:Bool) (n:Nat) (h1:fr≤to) (h2:to≤b.length):pG (cL b d fr to dg n).1:=by
 refine vB b (fun _ _ _ p=>pG p) ?_ ?_ ?_ d fr to dg n h1 h2
 ·intro d fr at_ to k1 k2 k3
  unfold eH
  rw[pG,mJ]
  exact⟨.inl ⟨rfl,rfl,rfl,rfl⟩,rfl,k2,trivial⟩
 ·intro d fr at_ to cs e ks k1 k2 k3 k4 k5 k6 k7 k8
  have hl:=k8.len
  rw[pG]
  exact⟨.inr (.inl ⟨rfl,by omega,hl⟩),rfl,k2,Iy k8⟩
 ·intro d fr at_ to q k1 k2 k3 k4 k5 k6
  rw[pG,mJ,mJ]
  exact⟨.inr (.inr ⟨rfl,rfl,rfl,q,rfl,k4,k5⟩),rfl,k2,k6,trivial⟩
theorem N4 {fin d:Nat}:∀{cs:List (Nat×Nat)} {ks:List Pt},KR (fun _ _ q=>dpF q≤d) fin cs ks→dpL ks≤d+1
 |[],[],_=>by simp[dpL]
 |c::r,q::ks,h=>by have:=N4 h.2;have:=h.1;rw[dpL];omega
 |[],_::_,h=>h.elim
 |_::_,[],h=>h.elim
theorem Iz (b:Bs) (d fr to:Nat) (dg:Bool) (n:Nat) (h1:fr≤to) (h2:to≤b.length):dpF (cL b d fr to dg n).1≤d:=by
 refine vB b (fun d _ _ p=>dpF p≤d) ?_ ?_ ?_ d fr to dg n h1 h2
 ·intro d fr at_ to k1 k2 k3
  unfold eH
  simp[dpF,dpL]
 ·intro d fr at_ to cs e ks k1 k2 k3 k4 k5 k6 k7 k8
  rw[dpF];exact N4 k8
 ·intro d fr at_ to q k1 k2 k3 k4 k5 k6
  simp only[dpF,dpL];omega
mutual
theorem xG:∀p:Pt,(aV p).length+1≤5*cntF p
 | .mk k h b kids cuts e=>by
  have:=Bc cuts kids
  have h2:=FY kids
  rw[aV,cntF]
  split
  ·simp only[List.length_cons,List.length_append,List.length_nil];omega
  ·split
   ·simp only[List.length_cons];omega
   ·simp only[List.length_cons,List.length_nil];omega
theorem Bc:∀(cs:List (Nat×Nat)) (l:List Pt),(fR cs (bP l)).length≤5*eJ l
 |[],l=>by simp[fR]
 |c::cs,[]=>by rw[bP];simp[fR]
 |c::cs,p::r=>by
  have h1:=xG p
  have h2:=Bc cs r
  rw[bP,eJ]
  simp only[fR,List.length_cons,List.length_append]
  omega
theorem FY:∀l:List Pt,((bP l).headD []).length≤5*eJ l
 |[]=>by simp[bP]
 |p::r=>by
  have h1:=xG p
  rw[bP,eJ,List.headD_cons];omega
end
end Go.Proofs.YtgpofjbdjiajeaaGreatDoor
end
section
namespace Go.Proofs.YtgpofjbdjiajeaaGreatDoor
open Go.Ev Go
def tM:Nat→Nat→Bs
 |0,x=>[UInt8.ofNat x]
 |n+1,x=>if x<128 then[UInt8.ofNat x]else UInt8.ofNat (x % 128+128)::tM n (x / 128)
def dK (x:Nat):Bs:=tM 10 x
theorem Bd (n:Nat) {x:Nat} (h:x<128):tM n x=[UInt8.ofNat x]:=by
 cases n with
 |zero=>rfl
 |succ n=>rw[tM,if_pos h]
theorem FZ:∀(n x:Nat),1≤(tM n x).length∧(tM n x).length≤n+1
 |0,x=>by simp[tM]
 |n+1,x=>by
  rw[tM]
  split
  ·simp
  ·have:=FZ n (x / 128)
   simp only[List.length_cons];omega
theorem cZ (x:Nat):1≤(dK x).length∧(dK x).length≤11:=FZ 10 x
abbrev PR (α:Type):=Except Int (α×Bs)
def tN {α:Type} (v:α):Bs→PR α:=fun s=> .ok (v,s)
def HG {α:Type} (e:Int):Bs→PR α:=fun _=> .error e
def dA {α β:Type} (P:Bs→PR α) (Q:α→Bs→PR β):Bs→PR β:=fun s=>match P s with| .error e=> .error e| .ok p=>Q p.1 p.2
theorem bR {α β:Type} {P:Bs→PR α} {Q:α→Bs→PR β} {s:Bs} {w:β×Bs} (h:dA P Q s= .ok w):∃v r,P s= .ok (v,r)∧Q v r= .ok w:=by
 unfold dA at h
 split at h
 ·cases h
 ·rename_i p hp;exact⟨p.1,p.2,hp,h⟩
theorem aY {α β:Type} {P:Bs→PR α} {Q:α→Bs→PR β} {s:Bs} {v:α} {r:Bs} (h:P s= .ok (v,r)):dA P Q s=Q v r:=by
 unfold dA;rw[h]
theorem cA {α β:Type} {P:Bs→PR α} {Q:α→Bs→PR β} {s:Bs} {e:Int} (h:P s= .error e):dA P Q s= .error e:=by
 unfold dA;rw[h]
def Pre {α:Type} (P:Bs→PR α):Prop:=∀s v r,P s= .ok (v,r)→∀t u,s=t++u→P t= .error 10∨∃r',P t= .ok (v,r')∧r=r' ++u
theorem Pre.ret {α:Type} (v:α):Pre (tN v):=by
 intro s v' r h t u hs
 cases h
 exact .inr ⟨t,rfl,hs⟩
theorem Pre.err {α:Type} (e:Int):Pre (HG (α:=α) e):=by intro s v r h;cases h
theorem Pre.then {α β:Type} {P:Bs→PR α} {Q:α→Bs→PR β} (hP:Pre P) (hQ:∀v,Pre (Q v)):Pre (dA P Q):=by
 intro s w r h t u hs
 obtain⟨v,r1,h1,h2⟩:=bR h
 rcases hP s v r1 h1 t u hs with h3|⟨r',h3,h4⟩
 ·exact .inl (cA h3)
 ·rcases hQ v r1 w r h2 r' u h4 with h5|⟨r'',h5,h6⟩
  ·exact .inl (by rw[aY h3];exact h5)
  ·exact .inr ⟨r'',by rw[aY h3];exact h5,h6⟩
def Eat {α:Type} (n:Nat) (P:Bs→PR α):Prop:=∀s v r,P s= .ok (v,r)→r.length+n≤s.length
theorem Eat.ret {α:Type} (v:α):Eat 0 (tN v):=by intro s v' r h;cases h;omega
theorem Eat.err {α:Type} (n:Nat) (e:Int):Eat n (HG (α:=α) e):=by intro s v r h;cases h
theorem Eat.then {α β:Type} {P:Bs→PR α} {Q:α→Bs→PR β} {m n:Nat} (hP:Eat m P) (hQ:∀v,Eat n (Q v)):Eat (m+n) (dA P Q):=by
 intro s w r h
 obtain⟨v,r1,h1,h2⟩:=bR h
 have:=hP s v r1 h1
 have:=hQ v r1 w r h2
 omega
def oY:Nat→Nat→Bs→PR Nat
 |_,_,[]=> .error 10
 |i,x,c::r=>if(0<i∧c.toNat=0)∨40<i*7 then .error 11 else
  if c.toNat<128 then(if 1099511627776≤x+c.toNat % 128*2 ^ (i*7)then .error 11 else .ok (x+c.toNat % 128*2 ^ (i*7),r))
  else oY (i+1) (x+c.toNat % 128*2 ^ (i*7)) r
def lQ:Bs→PR Nat:=oY 0 0
theorem Be:∀(s:Bs) (i x v:Nat) (r:Bs),oY i x s= .ok (v,r)→r.length+1≤s.length∧v<1099511627776
 |[],i,x,v,r,h=>by rw[oY]at h;cases h
 |c::s,i,x,v,r,h=>by
  rw[oY]at h
  split at h
  ·cases h
  ·split at h
   ·split at h
    ·cases h
    ·cases h
     simp;omega
   ·have:=Be s _ _ v r h
    simp only[List.length_cons];omega
theorem eK:Eat 1 lQ:=fun s v r h=>(Be s 0 0 v r h).1
theorem mL {s:Bs} {v:Nat} {r:Bs} (h:lQ s= .ok (v,r)):v<1099511627776:=(Be s 0 0 v r h).2
theorem Pe (i:Nat):2 ^ ((i+1)*7)=2 ^ (i*7)*128:=by rw[show(i+1)*7=i*7+7 by omega,Nat.pow_add]
theorem Bf {y:Nat} (h:y<256):(UInt8.ofNat y).toNat=y:=by rw[UInt8.toNat_ofNat'];omega
theorem LK:∀(n i x y:Nat) (r:Bs),y<128 ^ (n+1)→(i=0∨0<y)→x+y*2 ^ (i*7)<1099511627776→oY i x (tM n y++r)= .ok (x+y*2 ^ (i*7),r):=by
 have hi7:∀i x y:Nat,(i=0∨0<y)→x+y*2 ^ (i*7)<1099511627776→¬40<i*7:=by
  intro i x y h0 hlt hc
  rcases h0 with rfl|h0
  ·omega
  ·have h1:2 ^ 41≤2 ^ (i*7):=Nat.pow_le_pow_right (by omega) (by omega)
   have h2:1*2 ^ (i*7)≤y*2 ^ (i*7):=Nat.mul_le_mul_right _ h0
   have h3:(2:Nat) ^ 41=2199023255552:=rfl
   omega
 have small:∀i x y:Nat,y<128→(i=0∨0<y)→x+y*2 ^ (i*7)<1099511627776→∀r,oY i x (UInt8.ofNat y::r)= .ok (x+y*2 ^ (i*7),r):=by
  intro i x y hy h0 hlt r
  rw[oY,Bf (by omega),if_neg (by have:=hi7 i x y h0 hlt;omega),if_pos hy,Nat.mod_eq_of_lt hy,if_neg (by omega)]
 intro n
 induction n with
 |zero=>intro i x y r hy h0 hlt;exact small i x y (by simpa using hy) h0 hlt r
 |succ n ih=>
  intro i x y r hy h0 hlt
  rw[tM]
  by_cases h:y<128
  ·rw[if_pos h];exact small i x y h h0 hlt r
  ·rw[if_neg h,List.cons_append,oY,Bf (by omega),if_neg (by have:=hi7 i x y h0 hlt;omega),if_neg (by omega)]
   have e1:(y % 128+128) % 128=y % 128:=by omega
   have e2:x+y % 128*2 ^ (i*7)+y / 128*2 ^ ((i+1)*7)=x+y*2 ^ (i*7):=by
    have e:y=y % 128+128* (y / 128):=by omega
    have:y*2 ^ (i*7)=y % 128*2 ^ (i*7)+y / 128* (2 ^ (i*7)*128):=by
     conv=>lhs;rw[e]
     rw[Nat.add_mul]
     congr 1
     rw[Nat.mul_comm 128,Nat.mul_assoc,Nat.mul_comm 128]
    rw[Pe,this,Nat.add_assoc]
   have hd:y / 128<128 ^ (n+1):=by
    rw[Nat.pow_succ]at hy
    exact Nat.div_lt_of_lt_mul (by rw[Nat.mul_comm];exact hy)
   rw[e1,ih (i+1) (x+y % 128*2 ^ (i*7)) (y / 128) r hd (.inr (by omega)) (by rw[e2];exact hlt),e2]
theorem jY {y:Nat} (h:y<1099511627776) (r:Bs):lQ (dK y++r)= .ok (y,r):=by
 have h2:(1099511627776:Nat)≤128 ^ (10+1):=by decide
 have:=LK 10 0 0 y r (by omega) (.inl rfl) (by simpa using h)
 rw[show 0+y*2 ^ (0*7)=y by simp]at this
 exact this
theorem F2:∀(s:Bs) (i x v:Nat) (r:Bs),i≤6→oY i x s= .ok (v,r)→∃y,v=x+y*2 ^ (i*7)∧(0<i→0<y)∧∀m,5≤m+i→s=tM m y++r
 |[],i,x,v,r,_,h=>by rw[oY]at h;cases h
 |c::s,i,x,v,r,hi,h=>by
  have hc:=c.toNat_lt
  rw[oY]at h
  split at h
  ·cases h
  ·rename_i h1
   split at h
   ·rename_i h2
    split at h
    ·cases h
    ·cases h
     refine⟨c.toNat,by rw[Nat.mod_eq_of_lt h2],fun h0=>by omega,fun m _=>?_⟩
     rw[Bd m h2]
     have:UInt8.ofNat c.toNat=c:=by simp
     rw[this];rfl
   ·rename_i h2
    have hi5:i≤5:=by omega
    obtain⟨y,e1,e2,e3⟩:=F2 s (i+1) _ v r (by omega) h
    have hy:=e2 (by omega)
    refine⟨c.toNat % 128+128*y,?_,fun _=>by omega,fun m hm=>?_⟩
    ·rw[e1,Pe,Nat.add_mul,Nat.add_assoc]
     congr 2
     rw[Nat.mul_comm 128 y,Nat.mul_assoc,Nat.mul_comm 128]
    ·obtain⟨m,rfl⟩:∃k,m=k+1:=⟨m - 1,by
      rcases Nat.eq_zero_or_pos m with hm0|hm0
      ·exfalso
       subst hm0
       have:i=5:=by omega
       subst this
       cases s with
       |nil=>rw[oY]at h;cases h
       |cons d s=>rw[oY,if_pos (.inr (by omega))]at h;cases h
      ·omega⟩
     rw[tM,if_neg (by omega),e3 m (by omega)]
     have q1:(c.toNat % 128+128*y) % 128+128=c.toNat:=by omega
     have q2:(c.toNat % 128+128*y) / 128=y:=by omega
     have q3:UInt8.ofNat c.toNat=c:=by simp
     rw[q1,q2,q3];rfl
theorem nS {s:Bs} {v:Nat} {r:Bs} (h:lQ s= .ok (v,r)):s=dK v++r:=by
 obtain⟨y,e1,_,e3⟩:=F2 s 0 0 v r (by omega) h
 have:v=y:=by simpa using e1
 subst this
 exact e3 10 (by omega)
def CJ:Bs→PR Nat
 |a::b::c::d::r=> .ok (leN [a,b,c,d],r)
 |_=> .error 10
theorem JI {x:Nat} (h:x<2 ^ 32) (r:Bs):CJ (le4 x++r)= .ok (x,r):=by
 show Except.ok (leN (le4 x),r)=_
 rw[Io h]
def iP (a:Nat):Bs→PR (Nat×Nat):=dA lQ fun x=>dA lQ fun y=>tN (a+x,a+x+y)
theorem CL (a:Nat):Eat 2 (iP a):=eK.then fun _=>eK.then fun _=>Eat.ret _
theorem CM {a:Nat} {c:Nat×Nat} (h1:a≤c.1) (h2:c.1≤c.2) (h3:c.2<1099511627776) (r:Bs):iP a (dK (c.1 - a)++(dK (c.2 - c.1)++r))= .ok (c,r):=by
 unfold iP
 rw[aY (jY (by omega) _),aY (jY (by omega) _)]
 show Except.ok ((a+(c.1 - a),a+(c.1 - a)+(c.2 - c.1)),r)=_
 rw[show a+(c.1 - a)=c.1 by omega,show c.1+(c.2 - c.1)=c.2 by omega]
theorem rM {a:Nat} {s:Bs} {c:Nat×Nat} {r:Bs} (h:iP a s= .ok (c,r)):s=dK (c.1 - a)++(dK (c.2 - c.1)++r)∧a≤c.1∧c.1≤c.2∧c.2+1099511627776*r.length≤a+1099511627776*s.length:=by
 obtain⟨x,r1,h1,h2⟩:=bR h
 obtain⟨y,r2,h3,h4⟩:=bR h2
 cases h4
 have e1:=nS h1
 have e2:=nS h3
 have:=mL h1
 have:=mL h3
 have:=eK _ _ _ h1
 have:=eK _ _ _ h3
 refine⟨?_,by show a≤a+x;omega,by show a+x≤a+x+y;omega,by show a+x+y+_≤_;omega⟩
 show s=dK (a+x - a)++(dK (a+x+y - (a+x))++r)
 rw[show a+x - a=x by omega,show a+x+y - (a+x)=y by omega,←e2,←e1]
def pH (g:Nat→Bs→PR Pt):Nat→Nat→Bs→PR (List (Nat×Nat)×List Pt×Nat)
 |0,a=>tN ([],[],a)
 |n+1,a=>dA (iP a) fun c=>dA (g c.2) fun q=>dA (pH g n q.bd.2) fun t=>tN (c::t.1,q::t.2.1,t.2.2)
def getT:Nat→Nat→Bs→PR Pt
 |0,_=>dA lQ fun _=>HG 11
 |d+1,a=>dA lQ fun k=>if 2<k then HG 11 else dA lQ fun h=>dA lQ fun b=>
  if k=0 then tN (eH a (a+h) (a+h+b))
  else if k=2 then dA (getT d (a+h)) fun q=>tN (.mk 2 (a,a+h) (a+h,a+h+b) [q] [] (0,0))
  else dA lQ fun n=>if 1000<n then HG 11 else dA (pH (fun a=>getT d a) n (a+h)) fun t=>dA (iP t.2.2) fun e=>tN (.mk 1 (a,a+h) (a+h,a+h+b) t.2.1 t.1 e)
end Go.Proofs.YtgpofjbdjiajeaaGreatDoor
end
section
namespace Go.Proofs.YtgpofjbdjiajeaaGreatDoor
open Go.Ev Go
def pM:Nat→List (Nat×Nat)→List (Bs×Nat)→Bs×Nat
 |a,c::cs,k::ks=>(dK (c.1 - a)++(dK (c.2 - c.1)++(k.1++(pM k.2 cs ks).1)),(pM k.2 cs ks).2)
 |a,_,_=>([],a)
mutual
def kO:Pt→Bs
 | .mk k h b kids cuts e=>dK k++(dK (h.2 - h.1)++(dK (b.2 - b.1)++
  (if k=2 then(((kE kids).head?).getD ([],0)).1
   else if k=1 then dK kids.length++((pM b.1 cuts (kE kids)).1++(dK (e.1 - (pM b.1 cuts (kE kids)).2)++dK (e.2 - e.1)))
   else[])))
def kE:List Pt→List (Bs×Nat)
 |[]=>[]
 |p::r=>(kO p,p.bd.2)::kE r
end
mutual
def WL:Nat→Pt→Prop
 |a, .mk k h b kids cuts e=>h.1=a∧h.1≤h.2∧h.2=b.1∧b.1≤b.2∧
  ((k=0∧kids=[]∧cuts=[]∧e=(0,0))∨(k=2∧cuts=[]∧e=(0,0)∧WL1 b.1 kids)∨
   (k=1∧∃z,WLs b.1 cuts kids z∧z≤e.1∧e.1≤e.2))
def WL1:Nat→List Pt→Prop
 |a,[q]=>WL a q
 |_,_=>False
def WLs:Nat→List (Nat×Nat)→List Pt→Nat→Prop
 |a,cs,q::ks,z=>∃c r,cs=c::r∧a≤c.1∧c.1≤c.2∧WL c.2 q∧WLs q.bd.2 r ks z
 |a,cs,[],z=>cs=[]∧a=z
end
mutual
def SmL (m:Nat):Pt→Prop
 | .mk _ h b kids cuts e=>h.2<m∧b.2<m∧(∀c∈cuts,c.2<m)∧e.2<m∧kids.length≤1000∧F3 m kids
def F3 (m:Nat):List Pt→Prop
 |[]=>True
 |p::r=>SmL m p∧F3 m r
end
theorem yT:∀(ks:List Pt) (cs:List (Nat×Nat)) (a z:Nat),WLs a cs ks z→(pM a cs (kE ks)).2=z∧cs.length=ks.length
 |[],cs,a,z,h=>by
  rw[WLs]at h
  obtain⟨rfl,rfl⟩:=h
  exact⟨rfl,rfl⟩
 |q::ks,cs,a,z,h=>by
  rw[WLs]at h
  obtain⟨c,r,rfl,_,_,_,h4⟩:=h
  have:=yT ks r q.bd.2 z h4
  rw[kE,pM]
  exact⟨this.1,by simp[this.2]⟩
mutual
theorem get_put:∀(p:Pt) (d a:Nat) (r:Bs),WL a p→SmL 1099511627776 p→dpF p<d→getT d a (kO p++r)= .ok (p,r)
 | .mk k h b kids cuts e,0,a,r,_,_,hd=>by omega
 | .mk k h b kids cuts e,d+1,a,r,hw,hs,hd=>by
  rw[WL]at hw
  rw[SmL]at hs
  rw[dpF]at hd
  obtain⟨h1,h2⟩:=h
  obtain⟨b1,b2⟩:=b
  simp only at hw hs
  obtain⟨rfl,w2,rfl,w4,hk⟩:=hw
  obtain⟨s1,s2,s3,s4,s5,s6⟩:=hs
  have hk2:k≤2:=by rcases hk with h|h|h<;>omega
  have e1:h1+(h2 - h1)=h2:=by omega
  have e2:h2+(b2 - h2)=b2:=by omega
  rw[kO]
  simp only[List.append_assoc]
  rw[getT,aY (jY (by omega) _),if_neg (by omega),aY (jY (by omega) _),aY (jY (by omega) _),e1,e2]
  rcases hk with⟨rfl,rfl,rfl,rfl⟩|⟨rfl,rfl,rfl,hk⟩|⟨rfl,z,hk,hz1,hz2⟩
  ·rw[if_pos rfl,if_neg (by decide),if_neg (by decide)]
   rfl
  ·match kids,hk,hd,s6 with
   |[q],hk,hd,s6=>
    rw[WL1]at hk
    rw[F3]at s6
    rw[dpL]at hd
    have:=get_put q d h2 r hk s6.1 (by omega)
    rw[if_neg (by decide),if_pos rfl,if_pos rfl]
    have e3:(((kE [q]).head?).getD ([],0)).1=kO q:=by rw[kE];rfl
    rw[e3,aY this]
    rfl
  ·obtain⟨e5,e6⟩:=yT kids cuts h2 z hk
   have:=F4 kids cuts d h2 z (dK (e.1 - z)++(dK (e.2 - e.1)++r)) hk s3 s6 (by omega)
   rw[if_neg (by decide),if_neg (by decide),if_neg (by decide),if_pos rfl]
   simp only[List.append_assoc]
   rw[aY (jY (by omega) _),if_neg (by omega),e5,aY this]
   show dA (iP z) _ _=_
   rw[aY (CM hz1 hz2 s4 _)]
   rfl
theorem F4:∀(ks:List Pt) (cs:List (Nat×Nat)) (d a z:Nat) (r:Bs),WLs a cs ks z→(∀c∈cs,c.2<1099511627776)→F3 1099511627776 ks→dpL ks≤d→
  pH (fun a=>getT d a) ks.length a ((pM a cs (kE ks)).1++r)= .ok ((cs,ks,z),r)
 |[],cs,d,a,z,r,h,_,_,_=>by
  rw[WLs]at h
  obtain⟨rfl,rfl⟩:=h
  rfl
 |q::ks,cs,d,a,z,r,h,hc,hs,hd=>by
  rw[WLs]at h
  obtain⟨c,cr,rfl,h1,h2,h3,h4⟩:=h
  rw[F3]at hs
  rw[dpL]at hd
  have g1:=get_put q d c.2 ((pM q.bd.2 cr (kE ks)).1++r) h3 hs.1 (by omega)
  have g2:=F4 ks cr d q.bd.2 z r h4 (fun x hx=>hc x (by simp[hx])) hs.2 (by omega)
  rw[List.length_cons,pH,kE,pM]
  simp only[List.append_assoc]
  rw[aY (CM h1 h2 (hc c (by simp)) _),aY g1,aY g2]
  rfl
end
mutual
theorem oZ {x y:Nat} (hxy:x≤y):∀{p:Pt},fW x p→fW y p
 | .mk k hh b kids cuts e,h=>by
  rw[fW]at h ⊢
  obtain⟨g1,g2,g3,g4,g5,g6,g7,g8,g9⟩:=h
  exact⟨by omega,by omega,by omega,by omega,fun c hc=>by have:=g5 c hc;omega,by omega,by omega,by omega,mM hxy g9⟩
theorem mM {x y:Nat} (hxy:x≤y):∀{l:List Pt},dT x l→dT y l
 |[],_=>by rw[dT];trivial
 |p::l,h=>by
  rw[dT]at h ⊢
  exact⟨oZ hxy h.1,mM hxy h.2⟩
end
theorem F5 {g:Nat→Bs→PR Pt} (hg:∀a s p r,g a s= .ok (p,r)→s=kO p++r∧WL a p∧p.bd.2+1099511627776*r.length≤a+1099511627776*s.length∧cntF p+r.length≤s.length∧fW (a+1099511627776*s.length) p):
  ∀(n a:Nat) (s:Bs) (t:List (Nat×Nat)×List Pt×Nat) (r:Bs),pH g n a s= .ok (t,r)→
   s=(pM a t.1 (kE t.2.1)).1++r∧WLs a t.1 t.2.1 t.2.2∧t.2.1.length=n∧t.2.2+1099511627776*r.length≤a+1099511627776*s.length∧eJ t.2.1+r.length≤s.length∧dT (a+1099511627776*s.length) t.2.1∧(∀c∈t.1,c.1≤a+1099511627776*s.length∧c.2≤a+1099511627776*s.length)
 |0,a,s,t,r,h=>by
  cases h
  refine⟨rfl,by rw[WLs];exact⟨rfl,rfl⟩,rfl,Nat.le_refl _,by simp[eJ],by rw[dT];trivial,fun c hc=>by cases hc⟩
 |n+1,a,s,t,r,h=>by
  obtain⟨c,r1,h1,h⟩:=bR h
  obtain⟨q,r2,h2,h⟩:=bR h
  obtain⟨t',r3,h3,h4⟩:=bR h
  cases h4
  obtain⟨a1,a2,a3,a4⟩:=rM h1
  obtain⟨b1,b2,b3,b4,b5⟩:=hg _ _ _ _ h2
  obtain⟨c1,c2,c3,c4,c5,c6,c7⟩:=F5 hg n _ _ _ _ h3
  have h5:=CL _ _ _ _ h1
  refine⟨?_,?_,by simp[c3],by simp only;omega,?_,?_,?_⟩
  ·rw[kE,pM]
   simp only[List.append_assoc]
   rw[←c1,←b1,←a1]
  ·rw[WLs]
   exact⟨c,t'.1,rfl,a2,a3,b2,c2⟩
  ·simp only[eJ];omega
  ·rw[dT]
   exact⟨oZ (by omega) b5,mM (by omega) c6⟩
  ·intro x hx
   rcases List.mem_cons.1 hx with rfl|hx
   ·omega
   ·have:=c7 x hx;omega
theorem yU:∀(d a:Nat) (s:Bs) (p:Pt) (r:Bs),getT d a s= .ok (p,r)→s=kO p++r∧WL a p∧p.bd.2+1099511627776*r.length≤a+1099511627776*s.length∧cntF p+r.length≤s.length∧fW (a+1099511627776*s.length) p
 |0,a,s,p,r,h=>by
  obtain⟨k,r1,_,h⟩:=bR h
  cases h
 |d+1,a,s,p,r,h=>by
  obtain⟨k,r1,h1,ga⟩:=bR h
  clear h
  by_cases hk:2<k
  ·rw[if_pos hk]at ga;cases ga
  rw[if_neg hk]at ga
  obtain⟨x,r2,h2,gb⟩:=bR ga
  clear ga
  obtain⟨y,r3,h3,gc⟩:=bR gb
  clear gb
  have e1:=nS h1
  have e2:=nS h2
  have e3:=nS h3
  have l2:=mL h2
  have l3:=mL h3
  have q1:=eK _ _ _ h1
  have q2:=eK _ _ _ h2
  have q3:=eK _ _ _ h3
  have d1:a+x - a=x:=by omega
  have d2:a+x+y - (a+x)=y:=by omega
  by_cases hk0:k=0
  ·rw[if_pos hk0]at gc
   subst hk0
   cases gc
   refine⟨?_,?_,?_,?_,?_⟩
   ·rw[eH,kO]
    rw[if_neg (by decide),if_neg (by decide)]
    simp only[d1,d2]
    simp only[List.append_assoc,List.nil_append]
    rw[←e3,←e2,←e1]
   ·rw[eH,WL]
    exact⟨rfl,by simp,rfl,by simp, .inl ⟨rfl,rfl,rfl,rfl⟩⟩
   ·show a+x+y+_≤_;omega
   ·simp only[eH,cntF,eJ];omega
   ·rw[eH,fW]
    refine⟨?_,?_,?_,?_,(fun c hc=>by cases hc),?_,?_,?_,by rw[dT];trivial⟩<;>first|omega|(simp only[List.length_nil];omega)|(simp only;omega)
  ·rw[if_neg hk0]at gc
   by_cases hk2:k=2
   ·rw[if_pos hk2]at gc
    subst hk2
    obtain⟨q,r4,h4,gd⟩:=bR gc
    clear gc
    cases gd
    obtain⟨b1,b2,b3,b4,b5⟩:=yU d _ _ _ _ h4
    refine⟨?_,?_,?_,?_,?_⟩
    ·rw[kO]
     rw[if_pos rfl]
     simp only[d1,d2]
     have e4:(((kE [q]).head?).getD ([],0)).1=kO q:=by rw[kE];rfl
     rw[e4]
     simp only[List.append_assoc]
     rw[←b1,←e3,←e2,←e1]
    ·rw[WL]
     exact⟨rfl,by simp,rfl,by simp, .inr (.inl ⟨rfl,rfl,rfl,by rw[WL1];exact b2⟩)⟩
    ·show a+x+y+_≤_;omega
    ·simp only[cntF,eJ];omega
    ·rw[fW]
     refine⟨?_,?_,?_,?_,(fun c hc=>by cases hc),?_,?_,?_,?_⟩
     ·first|omega|(simp only[List.length_nil];omega)|(simp only;omega)
     ·first|omega|(simp only[List.length_nil];omega)|(simp only;omega)
     ·first|omega|(simp only[List.length_nil];omega)|(simp only;omega)
     ·first|omega|(simp only[List.length_nil];omega)|(simp only;omega)
     ·first|omega|(simp only[List.length_nil];omega)|(simp only;omega)
     ·first|omega|(simp only[List.length_nil];omega)|(simp only;omega)
     ·first|omega|(simp only[List.length_nil];omega)|(simp only;omega)
     ·rw[dT,dT]
      exact⟨oZ (by omega) b5,trivial⟩
   ·rw[if_neg hk2]at gc
    obtain⟨n,r4,h4,gd⟩:=bR gc
    clear gc
    have hk1:k=1:=by omega
    subst hk1
    by_cases hn:1000<n
    ·rw[if_pos hn]at gd;cases gd
    rw[if_neg hn]at gd
    obtain⟨t,r5,h5,ge⟩:=bR gd
    clear gd
    obtain⟨e,r6,h6,gf⟩:=bR ge
    clear ge
    cases gf
    have e4:=nS h4
    have q4:=eK _ _ _ h4
    obtain⟨c1,c2,c3,c4,c5,c6,c7⟩:=F5 (fun a s p r h=>yU d a s p r h) n _ _ _ _ h5
    obtain⟨a1,a2,a3,a4⟩:=rM h6
    have q6:=CL _ _ _ _ h6
    obtain⟨z1,z2⟩:=yT _ _ _ _ c2
    refine⟨?_,?_,?_,?_,?_⟩
    ·rw[kO]
     rw[if_neg (by decide),if_pos rfl,z1,c3]
     simp only[d1,d2]
     simp only[List.append_assoc]
     rw[←a1,←c1,←e4,←e3,←e2,←e1]
    ·rw[WL]
     exact⟨rfl,by simp,rfl,by simp, .inr (.inr ⟨rfl,t.2.2,c2,a2,a3⟩)⟩
    ·show a+x+y+_≤_;omega
    ·simp only[cntF];omega
    ·rw[fW]
     refine⟨?_,?_,?_,?_,fun c hc=>?_,?_,?_,?_,?_⟩
     ·first|omega|(simp only[List.length_nil];omega)|(simp only;omega)
     ·first|omega|(simp only[List.length_nil];omega)|(simp only;omega)
     ·first|omega|(simp only[List.length_nil];omega)|(simp only;omega)
     ·first|omega|(simp only[List.length_nil];omega)|(simp only;omega)
     ·have:=c7 c hc;omega
     ·rw[z2,c3];omega
     ·first|omega|(simp only[List.length_nil];omega)|(simp only;omega)
     ·first|omega|(simp only[List.length_nil];omega)|(simp only;omega)
     ·exact mM (by omega) c6
end Go.Proofs.YtgpofjbdjiajeaaGreatDoor
end
section
namespace Go.Proofs.YtgpofjbdjiajeaaGreatDoor
open Go.Ev Go
open List (headD tail getD length drop take)
open V (getI getL getT getS getB)
set_option maxRecDepth 100000
variable (call : FuncId → Fun) (icall : aN (V × List Ob)) (again : List It → St → Option (V × List Ob))
def T17 (call:FuncId→Fun) (a0:List V) (a1:Int):Option (V×List Ob):=
 chk (decide (0≤(8:Int))) (chk (decide (0≤(16:Int))) (chk (decide (0≤(24:Int))) (chk (cK a0 [(V.int .u8 (IntKind.wrap .u8 a1)),(V.int .u8 (IntKind.wrap .u8 (Int.fdiv a1 (2 ^ min (Int.toNat (8:Int)) (IntKind.bits IntKind.u32))))),(V.int .u8 (IntKind.wrap .u8 (Int.fdiv a1 (2 ^ min (Int.toNat (16:Int)) (IntKind.bits IntKind.u32))))),(V.int .u8 (IntKind.wrap .u8 (Int.fdiv a1 (2 ^ min (Int.toNat (24:Int)) (IntKind.bits IntKind.u32)))))] 2) (some ((V.lst 5 true (a0++[(V.int .u8 (IntKind.wrap .u8 a1)),(V.int .u8 (IntKind.wrap .u8 (Int.fdiv a1 (2 ^ min (Int.toNat (8:Int)) (IntKind.bits IntKind.u32))))),(V.int .u8 (IntKind.wrap .u8 (Int.fdiv a1 (2 ^ min (Int.toNat (16:Int)) (IntKind.bits IntKind.u32))))),(V.int .u8 (IntKind.wrap .u8 (Int.fdiv a1 (2 ^ min (Int.toNat (24:Int)) (IntKind.bits IntKind.u32)))))])),[])))))
def A17 (a0:List V) (a1:Int):List V:=[V.lst 5 true a0,V.int IntKind.u32 a1]
theorem E17 (a0:List V) (a1:Int):GO 17 Tryz.f17 (A17 a0 a1) [] call icall again=T17 call a0 a1:=by kernel_rfl
theorem C17 (k:Nat) (a0:List V) (a1:Int):aA cfg (k+1) 17 (A17 a0 a1) []=T17 (aA cfg k) a0 a1:=
 (show aA cfg (k+1) 17 (A17 a0 a1) []=GO 17 Tryz.f17 (A17 a0 a1) [] (aA cfg k) (aF cfg (aA cfg k) 20) (RN 17 Tryz.f17 [] (aA cfg k) (aF cfg (aA cfg k) 20) k)by kernel_rfl).trans (E17 _ _ _ a0 a1)
theorem M17 (a0:List V) (a1:Int) {r:V×List Ob} (h:Evt (fun k n=>T17 (aA cfg k) a0 a1) r):Ret 17 [V.lst 5 true a0,V.int IntKind.u32 a1] [] r:=aR (g:=fun k n=>T17 (aA cfg k) a0 a1) (fun k=>C17 k a0 a1) h
def F6 (call:FuncId→Fun) (ag0:List V→Int→Option (V×List Ob)) (l0:List V) (i1:Int):Option (V×List Ob):=
 if(decide (i1≥(128:Int)))=true then
 chk (cK l0 [(V.int .u8 (bits BinOp.or .u8 (IntKind.wrap .u8 i1) (128:Int)))] 2) (chk (decide (0≤(7:Int))) ((ag0 ((l0++[(V.int .u8 (bits BinOp.or .u8 (IntKind.wrap .u8 i1) (128:Int)))])) ((Int.fdiv i1 (2 ^ min (Int.toNat (7:Int)) (IntKind.bits .i64)))))))
 else
 chk (cK l0 [(V.int .u8 (IntKind.wrap .u8 i1))] 2) (some ((V.lst 5 true (l0++[(V.int .u8 (IntKind.wrap .u8 i1))])),[]))
def T18 (call:FuncId→Fun) (ag0:List V→Int→Option (V×List Ob)) (a0:List V) (a1:Int):Option (V×List Ob):=
 (ag0 (a0) (a1))
def A18 (a0:List V) (a1:Int):List V:=[V.lst 5 true a0,V.int IntKind.i64 a1]
def CN (l0:List V) (i1:Int):St:=⟨[(V.lst 5 true l0),(V.int IntKind.i64 i1)]++List.replicate 18 V.bot,[]⟩
theorem Rb (l0:List V) (i1:Int):
 RM 18 Tryz.f18 [] call icall again (aL Tryz.f18 0) (CN l0 i1)=F6 call (fun l0 i1=>again (aL Tryz.f18 0) (CN l0 i1)) l0 i1:=by kernel_rfl
theorem E18 (a0:List V) (a1:Int):GO 18 Tryz.f18 (A18 a0 a1) [] call icall again=T18 call (fun l0 i1=>again (aL Tryz.f18 0) (CN l0 i1)) a0 a1:=by kernel_rfl
def L18 (call:FuncId→Fun):Nat→(List V→Int→Option (V×List Ob))
 |0=>fun _ _=>none
 |n+1=>F6 call (L18 call n)
theorem R18 (call:FuncId→Fun) (icall:aN (V×List Ob)):∀n,(∀(l0:List V) (i1:Int),RN 18 Tryz.f18 [] call icall n (aL Tryz.f18 0) (CN l0 i1)=(L18 call n) l0 i1)
 |0=>fun l0 i1=>rfl
 |n+1=>by
  have ih:=R18 call icall n
  exact fun l0 i1=>(Rb call icall (RN 18 Tryz.f18 [] call icall n) l0 i1).trans (by rw[show(fun l0 i1=>RN 18 Tryz.f18 [] call icall n (aL Tryz.f18 0) (CN l0 i1))=(L18 call n)from(funext fun l0=>funext fun i1=>ih l0 i1)];rfl)
theorem C18 (k:Nat) (a0:List V) (a1:Int):aA cfg (k+1) 18 (A18 a0 a1) []=T18 (aA cfg k) (L18 (aA cfg k) k) a0 a1:=by
 have ih:=R18 (aA cfg k) (aF cfg (aA cfg k) 20) k
 refine(show aA cfg (k+1) 18 (A18 a0 a1) []=GO 18 Tryz.f18 (A18 a0 a1) [] (aA cfg k) (aF cfg (aA cfg k) 20) (RN 18 Tryz.f18 [] (aA cfg k) (aF cfg (aA cfg k) 20) k)by kernel_rfl).trans ((E18 _ _ _ a0 a1).trans ?_)
 rw[show(fun l0 i1=>RN 18 Tryz.f18 [] (aA cfg k) (aF cfg (aA cfg k) 20) k (aL Tryz.f18 0) (CN l0 i1))=(L18 (aA cfg k) k)from(funext fun l0=>funext fun i1=>ih l0 i1)]
theorem M18 (a0:List V) (a1:Int) {r:V×List Ob} (h:Evt (fun k n=>T18 (aA cfg k) (L18 (aA cfg k) n) a0 a1) r):Ret 18 [V.lst 5 true a0,V.int IntKind.i64 a1] [] r:=aR (g:=fun k n=>T18 (aA cfg k) (L18 (aA cfg k) n) a0 a1) (fun k=>C18 k a0 a1) h
theorem N5 (l0:List V) (i1:Int) {r:V×List Ob} (h:Evt (fun k n=>F6 (aA cfg k) (L18 (aA cfg k) n) l0 i1) r):Evt (fun k n=>(L18 (aA cfg k) n) l0 i1) r:=aX (fun k n=>rfl) h
def F7 (call:FuncId→Fun) (ag0:List V→Int→List V→Int→Int→Int→Int→Int→Int→Int→List V→List V→Int→Int→Option (V×List Ob)) (l0:List V) (i1:Int) (l2:List V) (i3:Int) (i4:Int) (i5:Int) (i6:Int) (i7:Int) (i8:Int) (i9:Int) (l10:List V) (l11:List V) (i12:Int) (i13:Int):Option (V×List Ob):=
 if(decide (i4<i3))=true then
 chk (decide (0≤i4)) (chk (decide (i4<((length l2:Nat):Int))) (chk (decide (0≤i4)) (chk (decide (i4<((length l11:Nat):Int))) (Option.bind (call 18 [(V.lst 5 true l0),(V.int .i64 (IntKind.wrap .i64 ((getI (headD (V.cells (getD l11 (Int.toNat i4) V.bot)) V.bot)) - i1)))] []) fun z0=>
 Option.bind (call 18 [(V.lst 5 true (getL z0.1)),(V.int .i64 (IntKind.wrap .i64 ((getI (headD (tail (V.cells (getD l11 (Int.toNat i4) V.bot))) V.bot)) - (getI (headD (V.cells (getD l11 (Int.toNat i4) V.bot)) V.bot)))))] []) fun z1=>
 Option.bind (call 20 [(V.lst 5 true (getL z1.1)),(V.agg [(V.int .i64 (getI (headD (V.cells (getD l2 (Int.toNat i4) V.bot)) V.bot))),(V.int .i64 (getI (headD (tail (V.cells (getD l2 (Int.toNat i4) V.bot))) V.bot))),(V.int .i64 (getI (headD (tail (tail (V.cells (getD l2 (Int.toNat i4) V.bot)))) V.bot))),(V.int .i64 (getI (headD (tail (tail (tail (V.cells (getD l2 (Int.toNat i4) V.bot))))) V.bot))),(V.int .i64 (getI (headD (tail (tail (tail (tail (V.cells (getD l2 (Int.toNat i4) V.bot)))))) V.bot))),(V.lst 31 false (getL (headD (tail (tail (tail (tail (tail (V.cells (getD l2 (Int.toNat i4) V.bot))))))) V.bot))),(V.lst 27 false (getL (headD (tail (tail (tail (tail (tail (tail (V.cells (getD l2 (Int.toNat i4) V.bot)))))))) V.bot))),(V.int .i64 (getI (headD (tail (tail (tail (tail (tail (tail (tail (V.cells (getD l2 (Int.toNat i4) V.bot))))))))) V.bot))),(V.int .i64 (getI (headD (tail (tail (tail (tail (tail (tail (tail (tail (V.cells (getD l2 (Int.toNat i4) V.bot)))))))))) V.bot)))])] []) fun z2=>
 (ag0 ((getL z2.1)) ((getI (headD (tail (tail (tail (tail (V.cells (getD l2 (Int.toNat i4) V.bot)))))) V.bot))) (l2) (i3) ((IntKind.wrap .i64 (i4+(1:Int)))) (i5) (i6) (i7) (i8) (i9) (l10) (l11) (i12) (i13))))))
 else
 Option.bind (call 18 [(V.lst 5 true l0),(V.int .i64 (IntKind.wrap .i64 (i12 - i1)))] []) fun z0=>
 Option.bind (call 18 [(V.lst 5 true (getL z0.1)),(V.int .i64 (IntKind.wrap .i64 (i13 - i12)))] []) fun z1=>
 some ((V.lst 5 true (getL z1.1)),[])
def T20 (call:FuncId→Fun) (ag0:List V→Int→List V→Int→Int→Int→Int→Int→Int→Int→List V→List V→Int→Int→Option (V×List Ob)) (a0:List V) (a1:Int) (a2:Int) (a3:Int) (a4:Int) (a5:Int) (a6:List V) (a7:List V) (a8:Int) (a9:Int):Option (V×List Ob):=
 Option.bind (call 18 [(V.lst 5 true a0),(V.int .i64 a1)] []) fun z0=>
 Option.bind (call 18 [(V.lst 5 true (getL z0.1)),(V.int .i64 (IntKind.wrap .i64 (a3 - a2)))] []) fun z1=>
 Option.bind (call 18 [(V.lst 5 true (getL z1.1)),(V.int .i64 (IntKind.wrap .i64 (a5 - a4)))] []) fun z2=>
 if(a1==(2:Int))=true then
 chk (decide (0≤(0:Int))) (chk (decide ((0:Int)<((length a6:Nat):Int))) (Option.bind (call 20 [(V.lst 5 true (getL z2.1)),(V.agg [(V.int .i64 (getI (headD (V.cells (getD a6 (Int.toNat (0:Int)) V.bot)) V.bot))),(V.int .i64 (getI (headD (tail (V.cells (getD a6 (Int.toNat (0:Int)) V.bot))) V.bot))),(V.int .i64 (getI (headD (tail (tail (V.cells (getD a6 (Int.toNat (0:Int)) V.bot)))) V.bot))),(V.int .i64 (getI (headD (tail (tail (tail (V.cells (getD a6 (Int.toNat (0:Int)) V.bot))))) V.bot))),(V.int .i64 (getI (headD (tail (tail (tail (tail (V.cells (getD a6 (Int.toNat (0:Int)) V.bot)))))) V.bot))),(V.lst 31 false (getL (headD (tail (tail (tail (tail (tail (V.cells (getD a6 (Int.toNat (0:Int)) V.bot))))))) V.bot))),(V.lst 27 false (getL (headD (tail (tail (tail (tail (tail (tail (V.cells (getD a6 (Int.toNat (0:Int)) V.bot)))))))) V.bot))),(V.int .i64 (getI (headD (tail (tail (tail (tail (tail (tail (tail (V.cells (getD a6 (Int.toNat (0:Int)) V.bot))))))))) V.bot))),(V.int .i64 (getI (headD (tail (tail (tail (tail (tail (tail (tail (tail (V.cells (getD a6 (Int.toNat (0:Int)) V.bot)))))))))) V.bot)))])] []) fun z3=>
 some ((V.lst 5 true (getL z3.1)),[])))
 else
 if(a1==(1:Int))=true then
 Option.bind (call 18 [(V.lst 5 true (getL z2.1)),(V.int .i64 ((length a6:Nat):Int))] []) fun z3=>
 (ag0 ((getL z3.1)) (a4) (a6) (((length a6:Nat):Int)) ((0:Int)) (a1) (a2) (a3) (a4) (a5) (a6) (a7) (a8) (a9))
 else
 some ((V.lst 5 true (getL z2.1)),[])
def A20 (a0:List V) (a1:Int) (a2:Int) (a3:Int) (a4:Int) (a5:Int) (a6:List V) (a7:List V) (a8:Int) (a9:Int):List V:=[V.lst 5 true a0,V.agg [V.int IntKind.i64 a1,V.int IntKind.i64 a2,V.int IntKind.i64 a3,V.int IntKind.i64 a4,V.int IntKind.i64 a5,V.lst 31 false a6,V.lst 27 false a7,V.int IntKind.i64 a8,V.int IntKind.i64 a9]]
def CO (l0:List V) (i1:Int) (l2:List V) (i3:Int) (i4:Int) (i5:Int) (i6:Int) (i7:Int) (i8:Int) (i9:Int) (l10:List V) (l11:List V) (i12:Int) (i13:Int):St:=⟨[(V.lst 5 true l0),V.bot,V.bot,(V.ref 0 0),V.bot,(V.int IntKind.i64 i1),V.bot,V.bot,V.bot,V.bot,V.bot,V.bot,V.bot,V.bot,V.bot,V.bot,V.bot,V.bot,V.bot,V.bot,V.bot,V.bot,V.bot,V.bot,V.bot,V.bot,V.bot,V.bot,V.bot,V.bot,V.bot,V.bot,V.bot,V.bot,V.bot,V.bot,V.bot,V.bot,V.bot,V.bot,V.bot,V.bot,V.bot,V.bot,V.bot,V.bot,V.bot,V.bot,V.bot,V.bot,V.bot,V.bot,(V.lst 31 false l2),(V.int IntKind.i64 i3),(V.int IntKind.i64 i4)]++List.replicate 43 V.bot,[(Ob.cells [(V.int IntKind.i64 i5),(V.int IntKind.i64 i6),(V.int IntKind.i64 i7),(V.int IntKind.i64 i8),(V.int IntKind.i64 i9),(V.lst 31 false l10),(V.lst 27 false l11),(V.int IntKind.i64 i12),(V.int IntKind.i64 i13)])]⟩
theorem Rc (l0:List V) (i1:Int) (l2:List V) (i3:Int) (i4:Int) (i5:Int) (i6:Int) (i7:Int) (i8:Int) (i9:Int) (l10:List V) (l11:List V) (i12:Int) (i13:Int):
 RM 20 Tryz.f20 [] call icall again (aL Tryz.f20 0) (CO l0 i1 l2 i3 i4 i5 i6 i7 i8 i9 l10 l11 i12 i13)=F7 call (fun l0 i1 l2 i3 i4 i5 i6 i7 i8 i9 l10 l11 i12 i13=>again (aL Tryz.f20 0) (CO l0 i1 l2 i3 i4 i5 i6 i7 i8 i9 l10 l11 i12 i13)) l0 i1 l2 i3 i4 i5 i6 i7 i8 i9 l10 l11 i12 i13:=by kernel_rfl
theorem E20 (a0:List V) (a1:Int) (a2:Int) (a3:Int) (a4:Int) (a5:Int) (a6:List V) (a7:List V) (a8:Int) (a9:Int):GO 20 Tryz.f20 (A20 a0 a1 a2 a3 a4 a5 a6 a7 a8 a9) [] call icall again=T20 call (fun l0 i1 l2 i3 i4 i5 i6 i7 i8 i9 l10 l11 i12 i13=>again (aL Tryz.f20 0) (CO l0 i1 l2 i3 i4 i5 i6 i7 i8 i9 l10 l11 i12 i13)) a0 a1 a2 a3 a4 a5 a6 a7 a8 a9:=by kernel_rfl
def L20 (call:FuncId→Fun):Nat→(List V→Int→List V→Int→Int→Int→Int→Int→Int→Int→List V→List V→Int→Int→Option (V×List Ob))
 |0=>fun _ _ _ _ _ _ _ _ _ _ _ _ _ _=>none
 |n+1=>F7 call (L20 call n)
theorem R20 (call:FuncId→Fun) (icall:aN (V×List Ob)):∀n,(∀(l0:List V) (i1:Int) (l2:List V) (i3:Int) (i4:Int) (i5:Int) (i6:Int) (i7:Int) (i8:Int) (i9:Int) (l10:List V) (l11:List V) (i12:Int) (i13:Int),RN 20 Tryz.f20 [] call icall n (aL Tryz.f20 0) (CO l0 i1 l2 i3 i4 i5 i6 i7 i8 i9 l10 l11 i12 i13)=(L20 call n) l0 i1 l2 i3 i4 i5 i6 i7 i8 i9 l10 l11 i12 i13)
 |0=>fun l0 i1 l2 i3 i4 i5 i6 i7 i8 i9 l10 l11 i12 i13=>rfl
 |n+1=>by
  have ih:=R20 call icall n
  exact fun l0 i1 l2 i3 i4 i5 i6 i7 i8 i9 l10 l11 i12 i13=>(Rc call icall (RN 20 Tryz.f20 [] call icall n) l0 i1 l2 i3 i4 i5 i6 i7 i8 i9 l10 l11 i12 i13).trans (by rw[show(fun l0 i1 l2 i3 i4 i5 i6 i7 i8 i9 l10 l11 i12 i13=>RN 20 Tryz.f20 [] call icall n (aL Tryz.f20 0) (CO l0 i1 l2 i3 i4 i5 i6 i7 i8 i9 l10 l11 i12 i13))=(L20 call n)from(funext fun l0=>funext fun i1=>funext fun l2=>funext fun i3=>funext fun i4=>funext fun i5=>funext fun i6=>funext fun i7=>funext fun i8=>funext fun i9=>funext fun l10=>funext fun l11=>funext fun i12=>funext fun i13=>ih l0 i1 l2 i3 i4 i5 i6 i7 i8 i9 l10 l11 i12 i13)];rfl)
theorem C20 (k:Nat) (a0:List V) (a1:Int) (a2:Int) (a3:Int) (a4:Int) (a5:Int) (a6:List V) (a7:List V) (a8:Int) (a9:Int):aA cfg (k+1) 20 (A20 a0 a1 a2 a3 a4 a5 a6 a7 a8 a9) []=T20 (aA cfg k) (L20 (aA cfg k) k) a0 a1 a2 a3 a4 a5 a6 a7 a8 a9:=by
 have ih:=R20 (aA cfg k) (aF cfg (aA cfg k) 20) k
 refine(show aA cfg (k+1) 20 (A20 a0 a1 a2 a3 a4 a5 a6 a7 a8 a9) []=GO 20 Tryz.f20 (A20 a0 a1 a2 a3 a4 a5 a6 a7 a8 a9) [] (aA cfg k) (aF cfg (aA cfg k) 20) (RN 20 Tryz.f20 [] (aA cfg k) (aF cfg (aA cfg k) 20) k)by kernel_rfl).trans ((E20 _ _ _ a0 a1 a2 a3 a4 a5 a6 a7 a8 a9).trans ?_)
 rw[show(fun l0 i1 l2 i3 i4 i5 i6 i7 i8 i9 l10 l11 i12 i13=>RN 20 Tryz.f20 [] (aA cfg k) (aF cfg (aA cfg k) 20) k (aL Tryz.f20 0) (CO l0 i1 l2 i3 i4 i5 i6 i7 i8 i9 l10 l11 i12 i13))=(L20 (aA cfg k) k)from(funext fun l0=>funext fun i1=>funext fun l2=>funext fun i3=>funext fun i4=>funext fun i5=>funext fun i6=>funext fun i7=>funext fun i8=>funext fun i9=>funext fun l10=>funext fun l11=>funext fun i12=>funext fun i13=>ih l0 i1 l2 i3 i4 i5 i6 i7 i8 i9 l10 l11 i12 i13)]
theorem M20 (a0:List V) (a1:Int) (a2:Int) (a3:Int) (a4:Int) (a5:Int) (a6:List V) (a7:List V) (a8:Int) (a9:Int) {r:V×List Ob} (h:Evt (fun k n=>T20 (aA cfg k) (L20 (aA cfg k) n) a0 a1 a2 a3 a4 a5 a6 a7 a8 a9) r):Ret 20 [V.lst 5 true a0,V.agg [V.int IntKind.i64 a1,V.int IntKind.i64 a2,V.int IntKind.i64 a3,V.int IntKind.i64 a4,V.int IntKind.i64 a5,V.lst 31 false a6,V.lst 27 false a7,V.int IntKind.i64 a8,V.int IntKind.i64 a9]] [] r:=aR (g:=fun k n=>T20 (aA cfg k) (L20 (aA cfg k) n) a0 a1 a2 a3 a4 a5 a6 a7 a8 a9) (fun k=>C20 k a0 a1 a2 a3 a4 a5 a6 a7 a8 a9) h
theorem N6 (l0:List V) (i1:Int) (l2:List V) (i3:Int) (i4:Int) (i5:Int) (i6:Int) (i7:Int) (i8:Int) (i9:Int) (l10:List V) (l11:List V) (i12:Int) (i13:Int) {r:V×List Ob} (h:Evt (fun k n=>F7 (aA cfg k) (L20 (aA cfg k) n) l0 i1 l2 i3 i4 i5 i6 i7 i8 i9 l10 l11 i12 i13) r):Evt (fun k n=>(L20 (aA cfg k) n) l0 i1 l2 i3 i4 i5 i6 i7 i8 i9 l10 l11 i12 i13) r:=aX (fun k n=>rfl) h
def T8 (call:FuncId→Fun) (a0:List V) (a1:Int) (a2:Int) (a3:Int) (a4:Int) (a5:Int) (a6:List V) (a7:List V) (a8:Int) (a9:Int):Option (V×List Ob):=
 Option.bind (call 16 [(V.agg [(V.int .i64 a1),(V.int .i64 a2),(V.int .i64 a3),(V.int .i64 a4),(V.int .i64 a5),(V.lst 31 false a6),(V.lst 27 false a7),(V.int .i64 a8),(V.int .i64 a9)]),(V.int .i64 ((length a0:Nat):Int))] []) fun z0=>
 if((getI z0.1) != (0:Int))=true then
 some ((V.tup [(V.lst 5 false []),(V.int .i64 (getI z0.1))]),[])
 else
 Option.bind (call 18 [(V.lst 5 true [(V.int .u8 76),(V.int .u8 66),(V.int .u8 1)]),(V.int .i64 ((length a0:Nat):Int))] []) fun z1=>
 Option.bind (call 19 [(V.lst 5 false a0)] []) fun z2=>
 Option.bind (call 17 [(V.lst 5 true (getL z1.1)),(V.int IntKind.u32 (getI z2.1))] []) fun z3=>
 Option.bind (call 20 [(V.lst 5 true (getL z3.1)),(V.agg [(V.int .i64 a1),(V.int .i64 a2),(V.int .i64 a3),(V.int .i64 a4),(V.int .i64 a5),(V.lst 31 false a6),(V.lst 27 false a7),(V.int .i64 a8),(V.int .i64 a9)])] []) fun z4=>
 Option.bind (call 19 [(V.lst 5 false (getL z4.1))] []) fun z5=>
 Option.bind (call 17 [(V.lst 5 true (getL z4.1)),(V.int IntKind.u32 (getI z5.1))] []) fun z6=>
 some ((V.tup [(V.lst 5 false (getL z6.1)),(V.int .i64 0)]),[])
def A8 (a0:List V) (a1:Int) (a2:Int) (a3:Int) (a4:Int) (a5:Int) (a6:List V) (a7:List V) (a8:Int) (a9:Int):List V:=[V.lst 5 false a0,V.agg [V.int IntKind.i64 a1,V.int IntKind.i64 a2,V.int IntKind.i64 a3,V.int IntKind.i64 a4,V.int IntKind.i64 a5,V.lst 31 false a6,V.lst 27 false a7,V.int IntKind.i64 a8,V.int IntKind.i64 a9]]
theorem E8 (a0:List V) (a1:Int) (a2:Int) (a3:Int) (a4:Int) (a5:Int) (a6:List V) (a7:List V) (a8:Int) (a9:Int):GO 8 Tryz.f8 (A8 a0 a1 a2 a3 a4 a5 a6 a7 a8 a9) [] call icall again=T8 call a0 a1 a2 a3 a4 a5 a6 a7 a8 a9:=by kernel_rfl
theorem C8 (k:Nat) (a0:List V) (a1:Int) (a2:Int) (a3:Int) (a4:Int) (a5:Int) (a6:List V) (a7:List V) (a8:Int) (a9:Int):aA cfg (k+1) 8 (A8 a0 a1 a2 a3 a4 a5 a6 a7 a8 a9) []=T8 (aA cfg k) a0 a1 a2 a3 a4 a5 a6 a7 a8 a9:=
 (show aA cfg (k+1) 8 (A8 a0 a1 a2 a3 a4 a5 a6 a7 a8 a9) []=GO 8 Tryz.f8 (A8 a0 a1 a2 a3 a4 a5 a6 a7 a8 a9) [] (aA cfg k) (aF cfg (aA cfg k) 20) (RN 8 Tryz.f8 [] (aA cfg k) (aF cfg (aA cfg k) 20) k)by kernel_rfl).trans (E8 _ _ _ a0 a1 a2 a3 a4 a5 a6 a7 a8 a9)
theorem M8 (a0:List V) (a1:Int) (a2:Int) (a3:Int) (a4:Int) (a5:Int) (a6:List V) (a7:List V) (a8:Int) (a9:Int) {r:V×List Ob} (h:Evt (fun k n=>T8 (aA cfg k) a0 a1 a2 a3 a4 a5 a6 a7 a8 a9) r):Ret 8 [V.lst 5 false a0,V.agg [V.int IntKind.i64 a1,V.int IntKind.i64 a2,V.int IntKind.i64 a3,V.int IntKind.i64 a4,V.int IntKind.i64 a5,V.lst 31 false a6,V.lst 27 false a7,V.int IntKind.i64 a8,V.int IntKind.i64 a9]] [] r:=aR (g:=fun k n=>T8 (aA cfg k) a0 a1 a2 a3 a4 a5 a6 a7 a8 a9) (fun k=>C8 k a0 a1 a2 a3 a4 a5 a6 a7 a8 a9) h
def T23 (call:FuncId→Fun) (a0:List V) (a1:Int) (a2:Bool) (a3:Nat) (a4:V) (a5:Int):Option (V×List Ob):=
 if a2=true then
 some ((V.tup []),[(Ob.cells [(V.lst 5 false a0),(V.int .i64 a1),(V.ifo false 110 (V.cpt [(V.int .i64 a1),(V.ifc 32 (V.int .i64 a5))]))])])
 else
 some ((V.tup []),[(Ob.cells [(V.lst 5 false a0),(V.int .i64 a1),(V.ifo a2 a3 a4)])])
def O23 (a0:List V) (a1:Int) (a2:Bool) (a3:Nat) (a4:V):List Ob:=[Ob.cells [V.lst 5 false a0,V.int IntKind.i64 a1,V.ifo a2 a3 a4]]
def A23 (a5:Int):List V:=[V.ref 0 0,V.int IntKind.i64 a5]
theorem E23 (a0:List V) (a1:Int) (a2:Bool) (a3:Nat) (a4:V) (a5:Int):GO 23 Tryz.f23 (A23 a5) (O23 a0 a1 a2 a3 a4) call icall again=T23 call a0 a1 a2 a3 a4 a5:=by kernel_rfl
theorem C23 (k:Nat) (a0:List V) (a1:Int) (a2:Bool) (a3:Nat) (a4:V) (a5:Int):aA cfg (k+1) 23 (A23 a5) (O23 a0 a1 a2 a3 a4)=T23 (aA cfg k) a0 a1 a2 a3 a4 a5:=
 (show aA cfg (k+1) 23 (A23 a5) (O23 a0 a1 a2 a3 a4)=GO 23 Tryz.f23 (A23 a5) (O23 a0 a1 a2 a3 a4) (aA cfg k) (aF cfg (aA cfg k) 20) (RN 23 Tryz.f23 (O23 a0 a1 a2 a3 a4) (aA cfg k) (aF cfg (aA cfg k) 20) k)by kernel_rfl).trans (E23 _ _ _ a0 a1 a2 a3 a4 a5)
theorem M23 (a0:List V) (a1:Int) (a2:Bool) (a3:Nat) (a4:V) (a5:Int) {r:V×List Ob} (h:Evt (fun k n=>T23 (aA cfg k) a0 a1 a2 a3 a4 a5) r):Ret 23 [V.ref 0 0,V.int IntKind.i64 a5] [Ob.cells [V.lst 5 false a0,V.int IntKind.i64 a1,V.ifo a2 a3 a4]] r:=aR (g:=fun k n=>T23 (aA cfg k) a0 a1 a2 a3 a4 a5) (fun k=>C23 k a0 a1 a2 a3 a4 a5) h
def T46 (call:FuncId→Fun) (a0:List V) (a1:Int) (a2:Bool) (a3:Nat) (a4:V) (a5:Int):Option (V×List Ob):=
 Option.bind (if a2=true then
 some (decide (a5>(IntKind.wrap .i64 (((length a0:Nat):Int) - a1))))
 else
 some false) fun y0=>
 if y0=true then
 Option.bind (call 23 [(V.ref 0 0),(V.int .i64 10)] [(Ob.cells [(V.lst 5 false a0),(V.int .i64 a1),(V.ifo a2 a3 a4)])]) fun z1=>
 if(!(V.ifN (headD (tail (tail (Ob.getC (headD z1.2 Ob.dead)))) V.bot)))=true then
 chk (a5==a5) (chk (decide (0≤a5)) (chk (decide (a5* ((2:Nat):Int)≤70368744177664)) (some ((V.lst 5 false (List.replicate (Int.toNat a5) (V.int .u8 0))),[(Ob.cells [(V.lst 5 false (getL (headD (Ob.getC (headD z1.2 Ob.dead)) V.bot))),(V.int .i64 (getI (headD (tail (Ob.getC (headD z1.2 Ob.dead))) V.bot))),(V.ifo (V.ifN (headD (tail (tail (Ob.getC (headD z1.2 Ob.dead)))) V.bot)) (V.ifT (headD (tail (tail (Ob.getC (headD z1.2 Ob.dead)))) V.bot)) (V.ifV (headD (tail (tail (Ob.getC (headD z1.2 Ob.dead)))) V.bot)))])]))))
 else
 chk (decide (0≤(IntKind.wrap .i64 ((getI (headD (tail (Ob.getC (headD z1.2 Ob.dead))) V.bot))+a5)))) (chk (decide ((IntKind.wrap .i64 ((getI (headD (tail (Ob.getC (headD z1.2 Ob.dead))) V.bot))+a5))≤((length (getL (headD (Ob.getC (headD z1.2 Ob.dead)) V.bot)):Nat):Int))) (chk (decide (0≤(IntKind.wrap .i64 ((IntKind.wrap .i64 ((getI (headD (tail (Ob.getC (headD z1.2 Ob.dead))) V.bot))+a5)) - a5)))) (chk (decide ((IntKind.wrap .i64 ((IntKind.wrap .i64 ((getI (headD (tail (Ob.getC (headD z1.2 Ob.dead))) V.bot))+a5)) - a5))≤(IntKind.wrap .i64 ((getI (headD (tail (Ob.getC (headD z1.2 Ob.dead))) V.bot))+a5)))) (some ((V.lst 5 false (drop (Int.toNat (IntKind.wrap .i64 ((IntKind.wrap .i64 ((getI (headD (tail (Ob.getC (headD z1.2 Ob.dead))) V.bot))+a5)) - a5))) (take (Int.toNat (IntKind.wrap .i64 ((getI (headD (tail (Ob.getC (headD z1.2 Ob.dead))) V.bot))+a5))) (getL (headD (Ob.getC (headD z1.2 Ob.dead)) V.bot))))),[(Ob.cells [(V.lst 5 false (getL (headD (Ob.getC (headD z1.2 Ob.dead)) V.bot))),(V.int .i64 (IntKind.wrap .i64 ((getI (headD (tail (Ob.getC (headD z1.2 Ob.dead))) V.bot))+a5))),(V.ifo (V.ifN (headD (tail (tail (Ob.getC (headD z1.2 Ob.dead)))) V.bot)) (V.ifT (headD (tail (tail (Ob.getC (headD z1.2 Ob.dead)))) V.bot)) (V.ifV (headD (tail (tail (Ob.getC (headD z1.2 Ob.dead)))) V.bot)))])])))))
 else
 if(!a2)=true then
 chk (a5==a5) (chk (decide (0≤a5)) (chk (decide (a5* ((2:Nat):Int)≤70368744177664)) (some ((V.lst 5 false (List.replicate (Int.toNat a5) (V.int .u8 0))),[(Ob.cells [(V.lst 5 false a0),(V.int .i64 a1),(V.ifo a2 a3 a4)])]))))
 else
 chk (decide (0≤(IntKind.wrap .i64 (a1+a5)))) (chk (decide ((IntKind.wrap .i64 (a1+a5))≤((length a0:Nat):Int))) (chk (decide (0≤(IntKind.wrap .i64 ((IntKind.wrap .i64 (a1+a5)) - a5)))) (chk (decide ((IntKind.wrap .i64 ((IntKind.wrap .i64 (a1+a5)) - a5))≤(IntKind.wrap .i64 (a1+a5)))) (some ((V.lst 5 false (drop (Int.toNat (IntKind.wrap .i64 ((IntKind.wrap .i64 (a1+a5)) - a5))) (take (Int.toNat (IntKind.wrap .i64 (a1+a5))) a0))),[(Ob.cells [(V.lst 5 false a0),(V.int .i64 (IntKind.wrap .i64 (a1+a5))),(V.ifo a2 a3 a4)])])))))
def O46 (a0:List V) (a1:Int) (a2:Bool) (a3:Nat) (a4:V):List Ob:=[Ob.cells [V.lst 5 false a0,V.int IntKind.i64 a1,V.ifo a2 a3 a4]]
def A46 (a5:Int):List V:=[V.ref 0 0,V.int IntKind.i64 a5]
theorem E46 (a0:List V) (a1:Int) (a2:Bool) (a3:Nat) (a4:V) (a5:Int):GO 46 Tryz.f46 (A46 a5) (O46 a0 a1 a2 a3 a4) call icall again=T46 call a0 a1 a2 a3 a4 a5:=by kernel_rfl
theorem C46 (k:Nat) (a0:List V) (a1:Int) (a2:Bool) (a3:Nat) (a4:V) (a5:Int):aA cfg (k+1) 46 (A46 a5) (O46 a0 a1 a2 a3 a4)=T46 (aA cfg k) a0 a1 a2 a3 a4 a5:=
 (show aA cfg (k+1) 46 (A46 a5) (O46 a0 a1 a2 a3 a4)=GO 46 Tryz.f46 (A46 a5) (O46 a0 a1 a2 a3 a4) (aA cfg k) (aF cfg (aA cfg k) 20) (RN 46 Tryz.f46 (O46 a0 a1 a2 a3 a4) (aA cfg k) (aF cfg (aA cfg k) 20) k)by kernel_rfl).trans (E46 _ _ _ a0 a1 a2 a3 a4 a5)
theorem M46 (a0:List V) (a1:Int) (a2:Bool) (a3:Nat) (a4:V) (a5:Int) {r:V×List Ob} (h:Evt (fun k n=>T46 (aA cfg k) a0 a1 a2 a3 a4 a5) r):Ret 46 [V.ref 0 0,V.int IntKind.i64 a5] [Ob.cells [V.lst 5 false a0,V.int IntKind.i64 a1,V.ifo a2 a3 a4]] r:=aR (g:=fun k n=>T46 (aA cfg k) a0 a1 a2 a3 a4 a5) (fun k=>C46 k a0 a1 a2 a3 a4 a5) h
def yH (call:FuncId→Fun) (ag0:Int→Int→List V→Int→Bool→Nat→V→Option (V×List Ob)) (i0:Int) (i1:Int) (l2:List V) (i3:Int) (b4:Bool) (t5:Nat) (v6:V):Option (V×List Ob):=
 Option.bind (call 46 [(V.ref 0 0),(V.int .i64 1)] [(Ob.cells [(V.lst 5 false l2),(V.int .i64 i3),(V.ifo b4 t5 v6)])]) fun z0=>
 chk (decide (0≤(0:Int))) (chk (decide ((0:Int)<((length (getL z0.1):Nat):Int))) (Option.bind (if(decide (i1>(0:Int)))=true then
 if((getI (getD (getL z0.1) (Int.toNat (0:Int)) V.bot))==(0:Int))=false then
 some (decide ((IntKind.wrap .i64 (i1* (7:Int)))>(40:Int)))
 else
 some true
 else
 some (decide ((IntKind.wrap .i64 (i1* (7:Int)))>(40:Int)))) fun y1=>
 if y1=true then
 Option.bind (call 23 [(V.ref 0 0),(V.int .i64 11)] [(Ob.cells [(V.lst 5 false (getL (headD (Ob.getC (headD z0.2 Ob.dead)) V.bot))),(V.int .i64 (getI (headD (tail (Ob.getC (headD z0.2 Ob.dead))) V.bot))),(V.ifo (V.ifN (headD (tail (tail (Ob.getC (headD z0.2 Ob.dead)))) V.bot)) (V.ifT (headD (tail (tail (Ob.getC (headD z0.2 Ob.dead)))) V.bot)) (V.ifV (headD (tail (tail (Ob.getC (headD z0.2 Ob.dead)))) V.bot)))])]) fun z2=>
 if(!(V.ifN (headD (tail (tail (Ob.getC (headD z2.2 Ob.dead)))) V.bot)))=true then
 some ((V.int .i64 0),[(Ob.cells [(V.lst 5 false (getL (headD (Ob.getC (headD z2.2 Ob.dead)) V.bot))),(V.int .i64 (getI (headD (tail (Ob.getC (headD z2.2 Ob.dead))) V.bot))),(V.ifo (V.ifN (headD (tail (tail (Ob.getC (headD z2.2 Ob.dead)))) V.bot)) (V.ifT (headD (tail (tail (Ob.getC (headD z2.2 Ob.dead)))) V.bot)) (V.ifV (headD (tail (tail (Ob.getC (headD z2.2 Ob.dead)))) V.bot)))])])
 else
 chk (decide (0≤(IntKind.wrap .i64 (i1* (7:Int))))) (if(decide ((getI (getD (getL z0.1) (Int.toNat (0:Int)) V.bot))<(128:Int)))=true then
 if(decide ((bits BinOp.or .i64 i0 (IntKind.wrap .i64 ((IntKind.wrap .i64 (bits BinOp.and .u8 (getI (getD (getL z0.1) (Int.toNat (0:Int)) V.bot)) (127:Int)))*2 ^ min (Int.toNat (IntKind.wrap .i64 (i1* (7:Int)))) (IntKind.bits .i64))))≥(1099511627776:Int)))=true then
 Option.bind (call 23 [(V.ref 0 0),(V.int .i64 11)] [(Ob.cells [(V.lst 5 false (getL (headD (Ob.getC (headD z2.2 Ob.dead)) V.bot))),(V.int .i64 (getI (headD (tail (Ob.getC (headD z2.2 Ob.dead))) V.bot))),(V.ifo (V.ifN (headD (tail (tail (Ob.getC (headD z2.2 Ob.dead)))) V.bot)) (V.ifT (headD (tail (tail (Ob.getC (headD z2.2 Ob.dead)))) V.bot)) (V.ifV (headD (tail (tail (Ob.getC (headD z2.2 Ob.dead)))) V.bot)))])]) fun z3=>
 some ((V.int .i64 0),[(Ob.cells [(V.lst 5 false (getL (headD (Ob.getC (headD z3.2 Ob.dead)) V.bot))),(V.int .i64 (getI (headD (tail (Ob.getC (headD z3.2 Ob.dead))) V.bot))),(V.ifo (V.ifN (headD (tail (tail (Ob.getC (headD z3.2 Ob.dead)))) V.bot)) (V.ifT (headD (tail (tail (Ob.getC (headD z3.2 Ob.dead)))) V.bot)) (V.ifV (headD (tail (tail (Ob.getC (headD z3.2 Ob.dead)))) V.bot)))])])
 else
 some ((V.int .i64 (bits BinOp.or .i64 i0 (IntKind.wrap .i64 ((IntKind.wrap .i64 (bits BinOp.and .u8 (getI (getD (getL z0.1) (Int.toNat (0:Int)) V.bot)) (127:Int)))*2 ^ min (Int.toNat (IntKind.wrap .i64 (i1* (7:Int)))) (IntKind.bits .i64))))),[(Ob.cells [(V.lst 5 false (getL (headD (Ob.getC (headD z2.2 Ob.dead)) V.bot))),(V.int .i64 (getI (headD (tail (Ob.getC (headD z2.2 Ob.dead))) V.bot))),(V.ifo (V.ifN (headD (tail (tail (Ob.getC (headD z2.2 Ob.dead)))) V.bot)) (V.ifT (headD (tail (tail (Ob.getC (headD z2.2 Ob.dead)))) V.bot)) (V.ifV (headD (tail (tail (Ob.getC (headD z2.2 Ob.dead)))) V.bot)))])])
 else
 (ag0 ((bits BinOp.or .i64 i0 (IntKind.wrap .i64 ((IntKind.wrap .i64 (bits BinOp.and .u8 (getI (getD (getL z0.1) (Int.toNat (0:Int)) V.bot)) (127:Int)))*2 ^ min (Int.toNat (IntKind.wrap .i64 (i1* (7:Int)))) (IntKind.bits .i64))))) ((IntKind.wrap .i64 (i1+(1:Int)))) ((getL (headD (Ob.getC (headD z2.2 Ob.dead)) V.bot))) ((getI (headD (tail (Ob.getC (headD z2.2 Ob.dead))) V.bot))) ((V.ifN (headD (tail (tail (Ob.getC (headD z2.2 Ob.dead)))) V.bot))) ((V.ifT (headD (tail (tail (Ob.getC (headD z2.2 Ob.dead)))) V.bot))) ((V.ifV (headD (tail (tail (Ob.getC (headD z2.2 Ob.dead)))) V.bot)))))
 else
 if(!(V.ifN (headD (tail (tail (Ob.getC (headD z0.2 Ob.dead)))) V.bot)))=true then
 some ((V.int .i64 0),[(Ob.cells [(V.lst 5 false (getL (headD (Ob.getC (headD z0.2 Ob.dead)) V.bot))),(V.int .i64 (getI (headD (tail (Ob.getC (headD z0.2 Ob.dead))) V.bot))),(V.ifo (V.ifN (headD (tail (tail (Ob.getC (headD z0.2 Ob.dead)))) V.bot)) (V.ifT (headD (tail (tail (Ob.getC (headD z0.2 Ob.dead)))) V.bot)) (V.ifV (headD (tail (tail (Ob.getC (headD z0.2 Ob.dead)))) V.bot)))])])
 else
 chk (decide (0≤(IntKind.wrap .i64 (i1* (7:Int))))) (if(decide ((getI (getD (getL z0.1) (Int.toNat (0:Int)) V.bot))<(128:Int)))=true then
 if(decide ((bits BinOp.or .i64 i0 (IntKind.wrap .i64 ((IntKind.wrap .i64 (bits BinOp.and .u8 (getI (getD (getL z0.1) (Int.toNat (0:Int)) V.bot)) (127:Int)))*2 ^ min (Int.toNat (IntKind.wrap .i64 (i1* (7:Int)))) (IntKind.bits .i64))))≥(1099511627776:Int)))=true then
 Option.bind (call 23 [(V.ref 0 0),(V.int .i64 11)] [(Ob.cells [(V.lst 5 false (getL (headD (Ob.getC (headD z0.2 Ob.dead)) V.bot))),(V.int .i64 (getI (headD (tail (Ob.getC (headD z0.2 Ob.dead))) V.bot))),(V.ifo (V.ifN (headD (tail (tail (Ob.getC (headD z0.2 Ob.dead)))) V.bot)) (V.ifT (headD (tail (tail (Ob.getC (headD z0.2 Ob.dead)))) V.bot)) (V.ifV (headD (tail (tail (Ob.getC (headD z0.2 Ob.dead)))) V.bot)))])]) fun z2=>
 some ((V.int .i64 0),[(Ob.cells [(V.lst 5 false (getL (headD (Ob.getC (headD z2.2 Ob.dead)) V.bot))),(V.int .i64 (getI (headD (tail (Ob.getC (headD z2.2 Ob.dead))) V.bot))),(V.ifo (V.ifN (headD (tail (tail (Ob.getC (headD z2.2 Ob.dead)))) V.bot)) (V.ifT (headD (tail (tail (Ob.getC (headD z2.2 Ob.dead)))) V.bot)) (V.ifV (headD (tail (tail (Ob.getC (headD z2.2 Ob.dead)))) V.bot)))])])
 else
 some ((V.int .i64 (bits BinOp.or .i64 i0 (IntKind.wrap .i64 ((IntKind.wrap .i64 (bits BinOp.and .u8 (getI (getD (getL z0.1) (Int.toNat (0:Int)) V.bot)) (127:Int)))*2 ^ min (Int.toNat (IntKind.wrap .i64 (i1* (7:Int)))) (IntKind.bits .i64))))),[(Ob.cells [(V.lst 5 false (getL (headD (Ob.getC (headD z0.2 Ob.dead)) V.bot))),(V.int .i64 (getI (headD (tail (Ob.getC (headD z0.2 Ob.dead))) V.bot))),(V.ifo (V.ifN (headD (tail (tail (Ob.getC (headD z0.2 Ob.dead)))) V.bot)) (V.ifT (headD (tail (tail (Ob.getC (headD z0.2 Ob.dead)))) V.bot)) (V.ifV (headD (tail (tail (Ob.getC (headD z0.2 Ob.dead)))) V.bot)))])])
 else
 (ag0 ((bits BinOp.or .i64 i0 (IntKind.wrap .i64 ((IntKind.wrap .i64 (bits BinOp.and .u8 (getI (getD (getL z0.1) (Int.toNat (0:Int)) V.bot)) (127:Int)))*2 ^ min (Int.toNat (IntKind.wrap .i64 (i1* (7:Int)))) (IntKind.bits .i64))))) ((IntKind.wrap .i64 (i1+(1:Int)))) ((getL (headD (Ob.getC (headD z0.2 Ob.dead)) V.bot))) ((getI (headD (tail (Ob.getC (headD z0.2 Ob.dead))) V.bot))) ((V.ifN (headD (tail (tail (Ob.getC (headD z0.2 Ob.dead)))) V.bot))) ((V.ifT (headD (tail (tail (Ob.getC (headD z0.2 Ob.dead)))) V.bot))) ((V.ifV (headD (tail (tail (Ob.getC (headD z0.2 Ob.dead)))) V.bot)))))))
def T22 (call:FuncId→Fun) (ag0:Int→Int→List V→Int→Bool→Nat→V→Option (V×List Ob)) (a0:List V) (a1:Int) (a2:Bool) (a3:Nat) (a4:V):Option (V×List Ob):=
 (ag0 ((0:Int)) ((0:Int)) (a0) (a1) (a2) (a3) (a4))
def O22 (a0:List V) (a1:Int) (a2:Bool) (a3:Nat) (a4:V):List Ob:=[Ob.cells [V.lst 5 false a0,V.int IntKind.i64 a1,V.ifo a2 a3 a4]]
def A22:List V:=[V.ref 0 0]
def CP (i0:Int) (i1:Int) (l2:List V) (i3:Int) (b4:Bool) (t5:Nat) (v6:V):St:=⟨[(V.ref 0 0),V.bot,V.bot,(V.int IntKind.i64 i0),(V.int IntKind.i64 i1)]++List.replicate 40 V.bot,[(Ob.cells [(V.lst 5 false l2),(V.int IntKind.i64 i3),(V.ifo b4 t5 v6)])]⟩
theorem Re (a0:List V) (a1:Int) (a2:Bool) (a3:Nat) (a4:V) (i0:Int) (i1:Int) (l2:List V) (i3:Int) (b4:Bool) (t5:Nat) (v6:V):
 RM 22 Tryz.f22 (O22 a0 a1 a2 a3 a4) call icall again (aL Tryz.f22 0) (CP i0 i1 l2 i3 b4 t5 v6)=yH call (fun i0 i1 l2 i3 b4 t5 v6=>again (aL Tryz.f22 0) (CP i0 i1 l2 i3 b4 t5 v6)) i0 i1 l2 i3 b4 t5 v6:=by kernel_rfl
theorem E22 (a0:List V) (a1:Int) (a2:Bool) (a3:Nat) (a4:V):GO 22 Tryz.f22 A22 (O22 a0 a1 a2 a3 a4) call icall again=T22 call (fun i0 i1 l2 i3 b4 t5 v6=>again (aL Tryz.f22 0) (CP i0 i1 l2 i3 b4 t5 v6)) a0 a1 a2 a3 a4:=by kernel_rfl
def L22 (call:FuncId→Fun):Nat→(Int→Int→List V→Int→Bool→Nat→V→Option (V×List Ob))
 |0=>fun _ _ _ _ _ _ _=>none
 |n+1=>yH call (L22 call n)
theorem R22 (call:FuncId→Fun) (icall:aN (V×List Ob)) (a0:List V) (a1:Int) (a2:Bool) (a3:Nat) (a4:V):∀n,(∀(i0:Int) (i1:Int) (l2:List V) (i3:Int) (b4:Bool) (t5:Nat) (v6:V),RN 22 Tryz.f22 (O22 a0 a1 a2 a3 a4) call icall n (aL Tryz.f22 0) (CP i0 i1 l2 i3 b4 t5 v6)=(L22 call n) i0 i1 l2 i3 b4 t5 v6)
 |0=>fun i0 i1 l2 i3 b4 t5 v6=>rfl
 |n+1=>by
  have ih:=R22 call icall a0 a1 a2 a3 a4 n
  exact fun i0 i1 l2 i3 b4 t5 v6=>(Re call icall (RN 22 Tryz.f22 (O22 a0 a1 a2 a3 a4) call icall n) a0 a1 a2 a3 a4 i0 i1 l2 i3 b4 t5 v6).trans (by rw[show(fun i0 i1 l2 i3 b4 t5 v6=>RN 22 Tryz.f22 (O22 a0 a1 a2 a3 a4) call icall n (aL Tryz.f22 0) (CP i0 i1 l2 i3 b4 t5 v6))=(L22 call n)from(funext fun i0=>funext fun i1=>funext fun l2=>funext fun i3=>funext fun b4=>funext fun t5=>funext fun v6=>ih i0 i1 l2 i3 b4 t5 v6)];rfl)
theorem C22 (k:Nat) (a0:List V) (a1:Int) (a2:Bool) (a3:Nat) (a4:V):aA cfg (k+1) 22 A22 (O22 a0 a1 a2 a3 a4)=T22 (aA cfg k) (L22 (aA cfg k) k) a0 a1 a2 a3 a4:=by
 have ih:=R22 (aA cfg k) (aF cfg (aA cfg k) 20) a0 a1 a2 a3 a4 k
 refine(show aA cfg (k+1) 22 A22 (O22 a0 a1 a2 a3 a4)=GO 22 Tryz.f22 A22 (O22 a0 a1 a2 a3 a4) (aA cfg k) (aF cfg (aA cfg k) 20) (RN 22 Tryz.f22 (O22 a0 a1 a2 a3 a4) (aA cfg k) (aF cfg (aA cfg k) 20) k)by kernel_rfl).trans ((E22 _ _ _ a0 a1 a2 a3 a4).trans ?_)
 rw[show(fun i0 i1 l2 i3 b4 t5 v6=>RN 22 Tryz.f22 (O22 a0 a1 a2 a3 a4) (aA cfg k) (aF cfg (aA cfg k) 20) k (aL Tryz.f22 0) (CP i0 i1 l2 i3 b4 t5 v6))=(L22 (aA cfg k) k)from(funext fun i0=>funext fun i1=>funext fun l2=>funext fun i3=>funext fun b4=>funext fun t5=>funext fun v6=>ih i0 i1 l2 i3 b4 t5 v6)]
theorem M22 (a0:List V) (a1:Int) (a2:Bool) (a3:Nat) (a4:V) {r:V×List Ob} (h:Evt (fun k n=>T22 (aA cfg k) (L22 (aA cfg k) n) a0 a1 a2 a3 a4) r):Ret 22 [V.ref 0 0] [Ob.cells [V.lst 5 false a0,V.int IntKind.i64 a1,V.ifo a2 a3 a4]] r:=aR (g:=fun k n=>T22 (aA cfg k) (L22 (aA cfg k) n) a0 a1 a2 a3 a4) (fun k=>C22 k a0 a1 a2 a3 a4) h
theorem LL (i0:Int) (i1:Int) (l2:List V) (i3:Int) (b4:Bool) (t5:Nat) (v6:V) {r:V×List Ob} (h:Evt (fun k n=>yH (aA cfg k) (L22 (aA cfg k) n) i0 i1 l2 i3 b4 t5 v6) r):Evt (fun k n=>(L22 (aA cfg k) n) i0 i1 l2 i3 b4 t5 v6) r:=aX (fun k n=>rfl) h
def T24 (call:FuncId→Fun) (a0:List V) (a1:Int) (a2:Bool) (a3:Nat) (a4:V):Option (V×List Ob):=
 Option.bind (call 46 [(V.ref 0 0),(V.int .i64 4)] [(Ob.cells [(V.lst 5 false a0),(V.int .i64 a1),(V.ifo a2 a3 a4)])]) fun z0=>
 chk (decide (0≤(0:Int))) (chk (decide ((0:Int)<((length (getL z0.1):Nat):Int))) (chk (decide (0≤(1:Int))) (chk (decide ((1:Int)<((length (getL z0.1):Nat):Int))) (chk (decide (0≤(8:Int))) (chk (decide (0≤(2:Int))) (chk (decide ((2:Int)<((length (getL z0.1):Nat):Int))) (chk (decide (0≤(16:Int))) (chk (decide (0≤(3:Int))) (chk (decide ((3:Int)<((length (getL z0.1):Nat):Int))) (chk (decide (0≤(24:Int))) (some ((V.int IntKind.u32 (bits BinOp.or IntKind.u32 (bits BinOp.or IntKind.u32 (bits BinOp.or IntKind.u32 (IntKind.wrap IntKind.u32 (getI (getD (getL z0.1) (Int.toNat (0:Int)) V.bot))) (IntKind.wrap IntKind.u32 ((IntKind.wrap IntKind.u32 (getI (getD (getL z0.1) (Int.toNat (1:Int)) V.bot)))*2 ^ min (Int.toNat (8:Int)) (IntKind.bits IntKind.u32)))) (IntKind.wrap IntKind.u32 ((IntKind.wrap IntKind.u32 (getI (getD (getL z0.1) (Int.toNat (2:Int)) V.bot)))*2 ^ min (Int.toNat (16:Int)) (IntKind.bits IntKind.u32)))) (IntKind.wrap IntKind.u32 ((IntKind.wrap IntKind.u32 (getI (getD (getL z0.1) (Int.toNat (3:Int)) V.bot)))*2 ^ min (Int.toNat (24:Int)) (IntKind.bits IntKind.u32))))),[(Ob.cells [(V.lst 5 false (getL (headD (Ob.getC (headD z0.2 Ob.dead)) V.bot))),(V.int .i64 (getI (headD (tail (Ob.getC (headD z0.2 Ob.dead))) V.bot))),(V.ifo (V.ifN (headD (tail (tail (Ob.getC (headD z0.2 Ob.dead)))) V.bot)) (V.ifT (headD (tail (tail (Ob.getC (headD z0.2 Ob.dead)))) V.bot)) (V.ifV (headD (tail (tail (Ob.getC (headD z0.2 Ob.dead)))) V.bot)))])]))))))))))))
def O24 (a0:List V) (a1:Int) (a2:Bool) (a3:Nat) (a4:V):List Ob:=[Ob.cells [V.lst 5 false a0,V.int IntKind.i64 a1,V.ifo a2 a3 a4]]
def A24:List V:=[V.ref 0 0]
theorem E24 (a0:List V) (a1:Int) (a2:Bool) (a3:Nat) (a4:V):GO 24 Tryz.f24 A24 (O24 a0 a1 a2 a3 a4) call icall again=T24 call a0 a1 a2 a3 a4:=by kernel_rfl
theorem C24 (k:Nat) (a0:List V) (a1:Int) (a2:Bool) (a3:Nat) (a4:V):aA cfg (k+1) 24 A24 (O24 a0 a1 a2 a3 a4)=T24 (aA cfg k) a0 a1 a2 a3 a4:=
 (show aA cfg (k+1) 24 A24 (O24 a0 a1 a2 a3 a4)=GO 24 Tryz.f24 A24 (O24 a0 a1 a2 a3 a4) (aA cfg k) (aF cfg (aA cfg k) 20) (RN 24 Tryz.f24 (O24 a0 a1 a2 a3 a4) (aA cfg k) (aF cfg (aA cfg k) 20) k)by kernel_rfl).trans (E24 _ _ _ a0 a1 a2 a3 a4)
theorem M24 (a0:List V) (a1:Int) (a2:Bool) (a3:Nat) (a4:V) {r:V×List Ob} (h:Evt (fun k n=>T24 (aA cfg k) a0 a1 a2 a3 a4) r):Ret 24 [V.ref 0 0] [Ob.cells [V.lst 5 false a0,V.int IntKind.i64 a1,V.ifo a2 a3 a4]] r:=aR (g:=fun k n=>T24 (aA cfg k) a0 a1 a2 a3 a4) (fun k=>C24 k a0 a1 a2 a3 a4) h
def T47 (call:FuncId→Fun) (a0:List V) (a1:Int) (a2:Bool) (a3:Nat) (a4:V) (a5:Int):Option (V×List Ob):=
 Option.bind (call 22 [(V.ref 0 0)] [(Ob.cells [(V.lst 5 false a0),(V.int .i64 a1),(V.ifo a2 a3 a4)])]) fun z0=>
 Option.bind (call 22 [(V.ref 0 0)] [(Ob.cells [(V.lst 5 false (getL (headD (Ob.getC (headD z0.2 Ob.dead)) V.bot))),(V.int .i64 (getI (headD (tail (Ob.getC (headD z0.2 Ob.dead))) V.bot))),(V.ifo (V.ifN (headD (tail (tail (Ob.getC (headD z0.2 Ob.dead)))) V.bot)) (V.ifT (headD (tail (tail (Ob.getC (headD z0.2 Ob.dead)))) V.bot)) (V.ifV (headD (tail (tail (Ob.getC (headD z0.2 Ob.dead)))) V.bot)))])]) fun z1=>
 some ((V.agg [(V.int .i64 (IntKind.wrap .i64 (a5+(getI z0.1)))),(V.int .i64 (IntKind.wrap .i64 ((IntKind.wrap .i64 (a5+(getI z0.1)))+(getI z1.1))))]),[(Ob.cells [(V.lst 5 false (getL (headD (Ob.getC (headD z1.2 Ob.dead)) V.bot))),(V.int .i64 (getI (headD (tail (Ob.getC (headD z1.2 Ob.dead))) V.bot))),(V.ifo (V.ifN (headD (tail (tail (Ob.getC (headD z1.2 Ob.dead)))) V.bot)) (V.ifT (headD (tail (tail (Ob.getC (headD z1.2 Ob.dead)))) V.bot)) (V.ifV (headD (tail (tail (Ob.getC (headD z1.2 Ob.dead)))) V.bot)))])])
def O47 (a0:List V) (a1:Int) (a2:Bool) (a3:Nat) (a4:V):List Ob:=[Ob.cells [V.lst 5 false a0,V.int IntKind.i64 a1,V.ifo a2 a3 a4]]
def A47 (a5:Int):List V:=[V.ref 0 0,V.int IntKind.i64 a5]
theorem E47 (a0:List V) (a1:Int) (a2:Bool) (a3:Nat) (a4:V) (a5:Int):GO 47 Tryz.f47 (A47 a5) (O47 a0 a1 a2 a3 a4) call icall again=T47 call a0 a1 a2 a3 a4 a5:=by kernel_rfl
theorem C47 (k:Nat) (a0:List V) (a1:Int) (a2:Bool) (a3:Nat) (a4:V) (a5:Int):aA cfg (k+1) 47 (A47 a5) (O47 a0 a1 a2 a3 a4)=T47 (aA cfg k) a0 a1 a2 a3 a4 a5:=
 (show aA cfg (k+1) 47 (A47 a5) (O47 a0 a1 a2 a3 a4)=GO 47 Tryz.f47 (A47 a5) (O47 a0 a1 a2 a3 a4) (aA cfg k) (aF cfg (aA cfg k) 20) (RN 47 Tryz.f47 (O47 a0 a1 a2 a3 a4) (aA cfg k) (aF cfg (aA cfg k) 20) k)by kernel_rfl).trans (E47 _ _ _ a0 a1 a2 a3 a4 a5)
theorem M47 (a0:List V) (a1:Int) (a2:Bool) (a3:Nat) (a4:V) (a5:Int) {r:V×List Ob} (h:Evt (fun k n=>T47 (aA cfg k) a0 a1 a2 a3 a4 a5) r):Ret 47 [V.ref 0 0,V.int IntKind.i64 a5] [Ob.cells [V.lst 5 false a0,V.int IntKind.i64 a1,V.ifo a2 a3 a4]] r:=aR (g:=fun k n=>T47 (aA cfg k) a0 a1 a2 a3 a4 a5) (fun k=>C47 k a0 a1 a2 a3 a4 a5) h
end Go.Proofs.YtgpofjbdjiajeaaGreatDoor
end
section
namespace Go.Proofs.YtgpofjbdjiajeaaGreatDoor
open Go.Ev Go
theorem LM (n:Int):IntKind.wrap .u8 n=n % 256:=by simp[IntKind.wrap,IntKind.signed,IntKind.bits]
theorem LN (x:Nat):V.int .u8 (IntKind.wrap .u8 ((x:Nat):Int))=V.int .u8 (((UInt8.ofNat x).toNat:Nat):Int):=by
 rw[LM,UInt8.toNat_ofNat'];rfl
theorem IA (c:UInt8):ofBytes [c]=[V.int .u8 ((c.toNat:Nat):Int)]:=rfl
theorem Rf (x:Nat):V.int .u8 (bits .or .u8 (IntKind.wrap .u8 ((x:Nat):Int)) 128)=V.int .u8 (((UInt8.ofNat (x % 128+128)).toNat:Nat):Int):=by
 have key:∀c:UInt8,bits .or .u8 ((c.toNat:Nat):Int) 128=((c.toNat % 128+128:Nat):Int):=nN (by decide+kernel)
 have:=key (UInt8.ofNat x)
 have e:IntKind.wrap .u8 ((x:Nat):Int)=(((UInt8.ofNat x).toNat:Nat):Int):=by rw[LM,UInt8.toNat_ofNat'];rfl
 rw[e,this,UInt8.toNat_ofNat',UInt8.toNat_ofNat']
 congr 1
 omega
theorem Pf:∀(n x:Nat) (s:Bs),x<128 ^ (n+1)→s.length+n≤1000000000→
  Evt (fun k j=>L18 (aA cfg k) j (ofBytes s) (x:Nat)) (.lst 5 true (ofBytes (s++tM n x)),[]):=by
 have small:∀(n x:Nat) (s:Bs),x<128→s.length+n≤1000000000→Evt (fun k j=>L18 (aA cfg k) j (ofBytes s) (x:Nat)) (.lst 5 true (ofBytes (s++tM n x)),[]):=by
  intro n x s hx hs
  refine N5 (ofBytes s) (x:Nat) ?_
  have h1:¬(((x:Nat):Int)≥128):=by omega
  rw[Bd n hx,←lN,IA]
  simp only[F6,h1,decide_false,Bool.false_eq_true,if_false,LN]
  simp only[dG (gQ (x:=ofBytes s) (y:=[V.int .u8 (((UInt8.ofNat x).toNat:Nat):Int)]) (n:=2) (by rw[aM];simp;omega))]
  exact aD _
 intro n
 induction n with
 |zero=>intro x s hx hs;exact small 0 x s (by simpa using hx) hs
 |succ n ih=>
  intro x s hx hs
  by_cases h:x<128
  ·exact small (n+1) x s h hs
  ·have hd:x / 128<128 ^ (n+1):=by
    rw[Nat.pow_succ]at hx
    exact Nat.div_lt_of_lt_mul (by rw[Nat.mul_comm];exact hx)
   have next:=ih (x / 128) (s++[UInt8.ofNat (x % 128+128)]) hd (by simp;omega)
   rw[List.append_assoc,List.singleton_append]at next
   rw[tM,if_neg h]
   refine N5 (ofBytes s) (x:Nat) ?_
   have h1:(((x:Nat):Int)≥128):=by omega
   have e:Int.fdiv ((x:Nat):Int) (2 ^ min (Int.toNat (7:Int)) (IntKind.bits IntKind.i64))=((x / 128:Nat):Int):=by
    have:(2:Int) ^ min (Int.toNat (7:Int)) (IntKind.bits IntKind.i64)=((128:Nat):Int):=rfl
    rw[this,Int.fdiv_eq_ediv_of_nonneg _ (by omega)];rfl
   simp only[F6,h1,decide_true,if_true,Rf,e,aI (show(0:Int)≤7 by decide)]
   simp only[dG (gQ (x:=ofBytes s) (y:=[V.int .u8 (((UInt8.ofNat (x % 128+128)).toNat:Nat):Int)]) (n:=2) (by rw[aM];simp;omega))]
   rw[←IA,lN]
   exact next
theorem vC (x:Nat) (s:Bs) (hx:x<4611686018427387904) (hs:s.length≤900000000):
  Ret 18 [.lst 5 true (ofBytes s), .int .i64 (x:Nat)] [] (.lst 5 true (ofBytes (s++dK x)),[]):=by
 refine M18 (ofBytes s) (x:Nat) ?_
 simp only[T18]
 have hp:(4611686018427387904:Nat)≤128 ^ (10+1):=by decide
 exact Pf 10 x s (Nat.lt_of_lt_of_le hx hp) (by omega)
theorem N7 (x:W32) (s:Bs) (hs:s.length≤900000000):
  Ret 17 [.lst 5 true (ofBytes s), .int .u32 ((x.toNat:Nat):Int)] [] (.lst 5 true (ofBytes (s++le4 x.toNat)),[]):=by
 refine M17 (ofBytes s) ((x.toNat:Nat):Int) ?_
 have hp:∀k:Nat,k≤32→Int.fdiv ((x.toNat:Nat):Int) (2 ^ k)=((x.toNat / 2 ^ k:Nat):Int):=fun k _=>by
  have:(2:Int) ^ k=((2 ^ k:Nat):Int):=by simp
  rw[this,Int.fdiv_eq_ediv_of_nonneg _ (Int.natCast_nonneg _)];rfl
 have e8:Int.fdiv ((x.toNat:Nat):Int) (2 ^ min (Int.toNat (8:Int)) (IntKind.bits IntKind.u32))=((x.toNat / 256:Nat):Int):=hp 8 (by omega)
 have e16:Int.fdiv ((x.toNat:Nat):Int) (2 ^ min (Int.toNat (16:Int)) (IntKind.bits IntKind.u32))=((x.toNat / 65536:Nat):Int):=hp 16 (by omega)
 have e24:Int.fdiv ((x.toNat:Nat):Int) (2 ^ min (Int.toNat (24:Int)) (IntKind.bits IntKind.u32))=((x.toNat / 16777216:Nat):Int):=hp 24 (by omega)
 have el:[V.int .u8 (((UInt8.ofNat x.toNat).toNat:Nat):Int),V.int .u8 (((UInt8.ofNat (x.toNat / 256)).toNat:Nat):Int),V.int .u8 (((UInt8.ofNat (x.toNat / 65536)).toNat:Nat):Int),V.int .u8 (((UInt8.ofNat (x.toNat / 16777216)).toNat:Nat):Int)]=ofBytes (le4 x.toNat):=rfl
 simp only[T17,e8,e16,e24,LN,el,aI (show(0:Int)≤8 by decide),aI (show(0:Int)≤16 by decide),aI (show(0:Int)≤24 by decide)]
 simp only[dG (gQ (x:=ofBytes s) (y:=ofBytes (le4 x.toNat)) (n:=2) (by rw[aM,aM];simp[le4];omega)),lN]
 exact aD _
mutual
theorem vD:∀p:Pt,∀a,WL a p→(kO p).length+22≤100*cntF p
 | .mk k h b kids cuts e,a,hw=>by
  rw[WL]at hw
  rw[kO,cntF]
  have n1:=(cZ k).2
  have n2:=(cZ (h.2 - h.1)).2
  have n3:=(cZ (b.2 - b.1)).2
  obtain⟨_,_,_,_,hk⟩:=hw
  rcases hk with⟨rfl,rfl,rfl,rfl⟩|⟨rfl,rfl,rfl,hk⟩|⟨rfl,z,hk,_,_⟩
  ·rw[if_neg (by decide),if_neg (by decide)]
   simp only[List.length_append,List.length_nil];omega
  ·match kids,hk with
   |[q],hk=>
    rw[WL1]at hk
    have:=vD q b.1 hk
    rw[if_pos rfl,eJ,eJ]
    have e3:(((kE [q]).head?).getD ([],0)).1=kO q:=by rw[kE];rfl
    rw[e3]
    simp only[List.length_append];omega
  ·have:=F8 kids cuts b.1 z hk
   have n4:=(cZ kids.length).2
   have n5:=(cZ (e.1 - (pM b.1 cuts (kE kids)).2)).2
   have n6:=(cZ (e.2 - e.1)).2
   rw[if_neg (by decide),if_pos rfl]
   simp only[List.length_append];omega
theorem F8:∀(ks:List Pt) (cs:List (Nat×Nat)) (a z:Nat),WLs a cs ks z→(pM a cs (kE ks)).1.length≤100*eJ ks
 |[],cs,a,z,h=>by
  rw[WLs]at h
  obtain⟨rfl,rfl⟩:=h
  simp[pM]
 |q::ks,cs,a,z,h=>by
  rw[WLs]at h
  obtain⟨c,r,rfl,_,_,h3,h4⟩:=h
  have h5:=vD q c.2 h3
  have h6:=F8 ks r q.bd.2 z h4
  have h7:=nQ q
  have n1:=(cZ (c.1 - a)).2
  have n2:=(cZ (c.2 - c.1)).2
  rw[kE,pM,eJ]
  simp only[List.length_append,List.length_cons]
  omega
end
end Go.Proofs.YtgpofjbdjiajeaaGreatDoor
end
section
namespace Go.Proofs.YtgpofjbdjiajeaaGreatDoor
open Go.Ev Go
theorem N8 {n:Nat} (h:n<4611686018427387904):(BitVec.ofInt 64 ((n:Nat):Int)).toNat=n:=by
 rw[BitVec.toNat_ofInt]
 omega
theorem Nc {a b:Nat} (ha:a<4611686018427387904) (hb:b<4611686018427387904):bits .or .i64 ((a:Nat):Int) ((b:Nat):Int)=((a ||| b:Nat):Int):=by
 show IntKind.wrap .i64 (((BitVec.ofInt 64 ((a:Nat):Int) ||| BitVec.ofInt 64 ((b:Nat):Int)).toNat:Nat):Int)=_
 rw[BitVec.toNat_or,N8 ha,N8 hb]
 have:a ||| b<2 ^ 62:=Nat.or_lt_two_pow ha hb
 exact wrap64 (by omega) (by omega)
theorem D2 {a v:Nat} (k:Nat) (hv:v<2 ^ k):a*2 ^ k ||| v=a*2 ^ k+v:=by
 have:=Nat.two_pow_add_eq_or_of_lt hv a
 rw[Nat.mul_comm a];exact this.symm
def putS (w:Nat) (st:Bs×Nat) (c:UInt8):Bs×Nat:=if st.2+1=w then(st.1++[c,13,10],0)else(st.1++[c],st.2+1)
end Go.Proofs.YtgpofjbdjiajeaaGreatDoor
end
section
namespace Go.Proofs.YtgpofjbdjiajeaaGreatDoor
open Go.Ev Go
open List (headD tail)
open V (getI getL)
abbrev Er:=Option (Nat×Int)
def erV:Er→V
 |none=> .ifo true 0 .bot
 |some p=> .ifo false 110 (.cpt [.int .i64 ((p.1:Nat):Int), .ifc 32 (.int .i64 p.2)])
abbrev rdS (b:Bs) (a:Nat) (e:Er):Ob:= .cells [.lst 5 false (ofBytes b), .int .i64 ((a:Nat):Int),erV e]
theorem cH (b:Bs) (a:Nat) (e:Er):getL (headD (Ob.getC (headD [rdS b a e] Ob.dead)) V.bot)=ofBytes b:=rfl
theorem cI (b:Bs) (a:Nat) (e:Er):getI (headD (tail (Ob.getC (headD [rdS b a e] Ob.dead))) V.bot)=((a:Nat):Int):=rfl
theorem cJ (b:Bs) (a:Nat) (e:Er):headD (tail (tail (Ob.getC (headD [rdS b a e] Ob.dead)))) V.bot=erV e:=rfl
theorem bB (e:Er):V.ifo (V.ifN (erV e)) (V.ifT (erV e)) (V.ifV (erV e))=erV e:=by cases e<;>rfl
theorem kP (e:Er):V.ifN (erV e)=e.isNone:=by cases e<;>rfl
theorem qT (b:Bs) (a:Nat) (e:Er) (n:Int):Ret 23 [.ref 0 0, .int .i64 n] [rdS b a e] (.tup [],[rdS b a (e.or (some (a,n)))]):=by
 cases e with
 |none=>
  refine M23 (ofBytes b) ((a:Nat):Int) true 0 .bot n ?_
  simp only[T23,if_true]
  exact aD _
 |some p=>
  refine M23 (ofBytes b) ((a:Nat):Int) false 110 (.cpt [.int .i64 ((p.1:Nat):Int), .ifc 32 (.int .i64 p.2)]) n ?_
  simp only[T23,Bool.false_eq_true,if_false]
  exact aD _
theorem IB (n:Nat):List.replicate n (V.int .u8 (0:Int))=ofBytes (List.replicate n 0):=by
 simp[ofBytes]
theorem Nf (b:Bs) (x y:Nat):List.drop x (List.take y (ofBytes b))=ofBytes ((b.take y).drop x):=by
 simp[ofBytes,List.map_drop,List.map_take]
theorem IC (b:Bs) (hb:b.length≤1000000000) (a n:Nat) (hn:n≤1000) (h:a+n≤b.length):
  Ret 46 [.ref 0 0, .int .i64 ((n:Nat):Int)] [rdS b a none] (.lst 5 false (ofBytes ((b.drop a).take n)),[rdS b (a+n) none]):=by
 refine M46 (ofBytes b) ((a:Nat):Int) true 0 .bot ((n:Nat):Int) ?_
 have w1:IntKind.wrap .i64 (((b.length:Nat):Int) - ((a:Nat):Int))=((b.length:Nat):Int) - ((a:Nat):Int):=wrap64 (by omega) (by omega)
 have w2:IntKind.wrap .i64 (((a:Nat):Int)+((n:Nat):Int))=((a+n:Nat):Int):=by rw[wrap64 (by omega) (by omega)];omega
 have w3:IntKind.wrap .i64 (((a+n:Nat):Int) - ((n:Nat):Int))=((a:Nat):Int):=by rw[wrap64 (by omega) (by omega)];omega
 have h1:¬(((n:Nat):Int)>((b.length:Nat):Int) - ((a:Nat):Int)):=by omega
 have h2:(0:Int)≤((a+n:Nat):Int):=by omega
 have h3:((a+n:Nat):Int)≤((b.length:Nat):Int):=by omega
 have h4:(0:Int)≤((a:Nat):Int):=by omega
 have h5:((a:Nat):Int)≤((a+n:Nat):Int):=by omega
 simp only[T46,aM,if_true,w1,h1,decide_false,bA,Bool.false_eq_true,if_false,Bool.not_true,w2,w3,aI h2,aI h3,aI h4,aI h5,Int.toNat_natCast,Nf]
 have e:(b.take (a+n)).drop a=(b.drop a).take n:=by rw[List.drop_take];congr 1;omega
 rw[e]
 exact aD _
theorem Bg (b:Bs) (hb:b.length≤1000000000) (a n:Nat) (hn:n≤1000) (ha:a≤b.length) (h:b.length<a+n):
  Ret 46 [.ref 0 0, .int .i64 ((n:Nat):Int)] [rdS b a none] (.lst 5 false (ofBytes (List.replicate n 0)),[rdS b a (some (a,10))]):=by
 refine M46 (ofBytes b) ((a:Nat):Int) true 0 .bot ((n:Nat):Int) ?_
 have w1:IntKind.wrap .i64 (((b.length:Nat):Int) - ((a:Nat):Int))=((b.length:Nat):Int) - ((a:Nat):Int):=wrap64 (by omega) (by omega)
 have h1:(((n:Nat):Int)>((b.length:Nat):Int) - ((a:Nat):Int)):=by omega
 have h2:(0:Int)≤((n:Nat):Int):=by omega
 have h3:((n:Nat):Int)* ((2:Nat):Int)≤70368744177664:=by omega
 have h4:(((n:Nat):Int)==((n:Nat):Int))=true:=by simp
 simp only[T46,aM,if_true,w1,h1,decide_true,bA]
 refine aB (qT b a none 10) ?_
 simp only[Option.or,cH,cI,cJ,kP,bB,Option.isNone_some,Bool.not_false,if_true,h4,cY,aI h2,aI h3,Int.toNat_natCast,IB]
 exact aD _
theorem F9 (b:Bs) (a n:Nat) (hn:n≤1000) (p:Nat×Int):
  Ret 46 [.ref 0 0, .int .i64 ((n:Nat):Int)] [rdS b a (some p)] (.lst 5 false (ofBytes (List.replicate n 0)),[rdS b a (some p)]):=by
 refine M46 (ofBytes b) ((a:Nat):Int) false 110 (.cpt [.int .i64 ((p.1:Nat):Int), .ifc 32 (.int .i64 p.2)]) ((n:Nat):Int) ?_
 have h2:(0:Int)≤((n:Nat):Int):=by omega
 have h3:((n:Nat):Int)* ((2:Nat):Int)≤70368744177664:=by omega
 have h4:(((n:Nat):Int)==((n:Nat):Int))=true:=by simp
 simp only[T46,Bool.false_eq_true,if_false,bA,Bool.not_false,if_true,h4,cY,aI h2,aI h3,Int.toNat_natCast,IB]
 exact aD _
def RdF {α:Type} (f:FuncId) (args:List V) (b:Bs) (a:Nat) (P:Bs→PR α) (val:α→V):Prop:=
 (∀v r,P (b.drop a)= .ok (v,r)→∃a',a≤a'∧a'≤b.length∧r=b.drop a'∧Ret f (.ref 0 0::args) [rdS b a none] (val v,[rdS b a' none]))∧
 (∀n,P (b.drop a)= .error n→∃v a' p,p.2=n∧Ret f (.ref 0 0::args) [rdS b a none] (v,[rdS b a' (some p)]))
def RdE (f:FuncId) (args:List V) (b:Bs):Prop:=∀(a:Nat) (p:Nat×Int),∃v,Ret f (.ref 0 0::args) [rdS b a (some p)] (v,[rdS b a (some p)])
theorem LO (c:UInt8):V.getI (List.getD (ofBytes [c]) (Int.toNat (0:Int)) .bot)=((c.toNat:Nat):Int):=rfl
theorem Ga (c:UInt8):(0:Int)<(((ofBytes [c]).length:Nat):Int):=by rw[aM,List.length_singleton];decide
theorem eq0 (c:UInt8):(((c.toNat:Nat):Int)==(0:Int))=decide (c.toNat=0):=by
 by_cases h:c.toNat=0
 ·rw[h];rfl
 ·rw[decide_eq_false h]
  have:¬((c.toNat:Nat):Int)=0:=by omega
  simpa using this
theorem Pg {i x:Nat} (c:UInt8) (hi:i*7≤40) (hx:x<2 ^ (i*7)):
  bits .or .i64 ((x:Nat):Int) (IntKind.wrap .i64 ((IntKind.wrap .i64 (bits .and .u8 ((c.toNat:Nat):Int) 127))*2 ^ min (Int.toNat (((i*7:Nat):Int))) (IntKind.bits IntKind.i64)))=((x+c.toNat % 128*2 ^ (i*7):Nat):Int):=by
 have h0:∀c:UInt8,bits .and .u8 ((c.toNat:Nat):Int) 127=((c.toNat % 128:Nat):Int):=nN (by decide+kernel)
 have hp:2 ^ (i*7)≤2 ^ 40:=Nat.pow_le_pow_right (by omega) hi
 have hp40:(2:Nat) ^ 40=1099511627776:=rfl
 have hm:c.toNat % 128*2 ^ (i*7)≤127*2 ^ (i*7):=Nat.mul_le_mul_right _ (by omega)
 have e1:(2:Int) ^ min (Int.toNat (((i*7:Nat):Int))) (IntKind.bits IntKind.i64)=((2 ^ (i*7):Nat):Int):=by
  rw[Int.toNat_natCast,show IntKind.bits IntKind.i64=64 from rfl,Nat.min_eq_left (by omega)]
  simp
 have e0:IntKind.wrap .i64 ((c.toNat % 128:Nat):Int)=((c.toNat % 128:Nat):Int):=wrap64 (by omega) (by omega)
 rw[h0 c,e0,e1,←Int.natCast_mul,wrap64 (by omega) (by omega),Nc (by omega) (by omega)]
 congr 1
 rw[Nat.or_comm,D2 _ hx,Nat.add_comm]
theorem vE (b:Bs):RdE 22 [] b:=by
 intro a p
 refine⟨.int .i64 0,?_⟩
 refine M22 (ofBytes b) ((a:Nat):Int) false 110 (.cpt [.int .i64 ((p.1:Nat):Int), .ifc 32 (.int .i64 p.2)]) ?_
 simp only[T22]
 refine LL 0 0 (ofBytes b) ((a:Nat):Int) false 110 (.cpt [.int .i64 ((p.1:Nat):Int), .ifc 32 (.int .i64 p.2)]) ?_
 simp only[yH]
 refine aB (F9 b a 1 (by omega) p) ?_
 have h1:¬((0:Int)>0):=by omega
 have h2:IntKind.wrap .i64 ((0:Int)*7)=0:=by decide+kernel
 have h3:¬((0:Int)>40):=by omega
 have h4:(0:Int)<(((ofBytes (List.replicate 1 0)).length:Nat):Int):=by decide
 simp only[cH,cI,cJ,kP,bB,bQ,aI (Int.le_refl 0),aI h4,h1,h2,h3,decide_false,bA,Bool.false_eq_true,if_false,Option.isNone_some,Bool.not_false,if_true]
 exact aD _
end Go.Proofs.YtgpofjbdjiajeaaGreatDoor
end
section
namespace Go.Proofs.YtgpofjbdjiajeaaGreatDoor
open Go.Ev Go
open List (headD tail)
open V (getI getL)
set_option maxRecDepth 10000 in
theorem LP (b:Bs) (hb:b.length≤1000000000):∀(s:Bs) (i x a:Nat),s=b.drop a→a≤b.length→i≤6→x<2 ^ (i*7)→
  (∀v r,oY i x s= .ok (v,r)→∃a',a≤a'∧a'≤b.length∧r=b.drop a'∧Evt (fun k j=>L22 (aA cfg k) j (x:Nat) (i:Nat) (ofBytes b) (a:Nat) true 0 .bot) (.int .i64 (v:Nat),[rdS b a' none]))∧
  (∀n,oY i x s= .error n→∃a' p,p.2=n∧Evt (fun k j=>L22 (aA cfg k) j (x:Nat) (i:Nat) (ofBytes b) (a:Nat) true 0 .bot) (.int .i64 0,[rdS b a' (some p)]))
 |[],i,x,a,hs,ha,hi,hx=>by
  have hla:b.length≤a:=by
   have:=congrArg List.length hs
   rw[List.length_drop,List.length_nil]at this
   omega
  refine⟨(fun v r h=>by rw[oY]at h;cases h),fun n h=>?_⟩
  rw[oY]at h
  cases h
  refine⟨a,(a,10),rfl,?_⟩
  refine LL (x:Nat) (i:Nat) (ofBytes b) (a:Nat) true 0 .bot ?_
  simp only[yH]
  refine aB (Bg b hb a 1 (by omega) ha (by omega)) ?_
  have h4:(0:Int)<(((ofBytes (List.replicate 1 0)).length:Nat):Int):=by decide
  have h5:V.getI (List.getD (ofBytes (List.replicate 1 0)) (Int.toNat (0:Int)) .bot)=0:=rfl
  have hw:IntKind.wrap .i64 (((i:Nat):Int)*7)=((i*7:Nat):Int):=by rw[wrap64 (by omega) (by omega)];omega
  simp only[cH,cI,cJ,kP,bB,bQ,aI (Int.le_refl 0),aI h4,h5,hw,beq_self_eq_true]
  have hf:=qT b a (some (a,10)) 11
  by_cases h0:((i:Nat):Int)>0
  ·simp only[h0,decide_true,if_true,Bool.true_eq_false,if_false,bA]
   refine aB hf ?_
   simp only[Option.or,cH,cI,cJ,kP,bB,Option.isNone_some,Bool.not_false,if_true]
   exact aD _
  ·have h6:¬(((i*7:Nat):Int)>40):=by omega
   simp only[h0,decide_false,Bool.false_eq_true,if_false,h6,bA,Option.isNone_some,Bool.not_false,if_true]
   exact aD _
 |c::s,i,x,a,hs,ha,hi,hx=>by
  have hc:=c.toNat_lt
  have hla:a<b.length:=by
   rcases Nat.lt_or_ge a b.length with h|h
   ·exact h
   ·rw[List.drop_of_length_le h]at hs;cases hs
  have hs1:s=b.drop (a+1):=by
   rw[drop_at hla,List.cons.injEq]at hs
   exact hs.2
  have ht:=IC b hb a 1 (by omega) (by omega)
  have e1:(b.drop a).take 1=[c]:=by rw[←hs];rfl
  rw[e1]at ht
  have hw:IntKind.wrap .i64 (((i:Nat):Int)*7)=((i*7:Nat):Int):=by rw[wrap64 (by omega) (by omega)];omega
  have hy:(if(decide (((i:Nat):Int)>0))=true then
    if(((c.toNat:Nat):Int)==(0:Int))=false then some (decide (((i*7:Nat):Int)>40))else some true
   else some (decide (((i*7:Nat):Int)>40)))=some (decide ((0<i∧c.toNat=0)∨40<i*7)):=by
   rw[eq0]
   by_cases h0:((i:Nat):Int)>0
   ·rw[decide_eq_true h0,if_pos rfl]
    by_cases h1:c.toNat=0
    ·rw[decide_eq_true h1,if_neg (by decide),decide_eq_true (show(0<i∧c.toNat=0)∨40<i*7 from .inl ⟨by omega,h1⟩)]
    ·rw[decide_eq_false h1,if_pos rfl]
     congr 1
     have:(((i*7:Nat):Int)>40)↔((0<i∧c.toNat=0)∨40<i*7):=by omega
     exact decide_eq_decide.2 this
   ·rw[decide_eq_false h0,if_neg (by decide)]
    congr 1
    have:(((i*7:Nat):Int)>40)↔((0<i∧c.toNat=0)∨40<i*7):=by omega
    exact decide_eq_decide.2 this
  have start:∀{res:V×List Ob},Evt (fun k j=>yH (aA cfg k) (L22 (aA cfg k) j) (x:Nat) (i:Nat) (ofBytes b) (a:Nat) true 0 .bot) res→Evt (fun k j=>L22 (aA cfg k) j (x:Nat) (i:Nat) (ofBytes b) (a:Nat) true 0 .bot) res:=
   fun h=>LL (x:Nat) (i:Nat) (ofBytes b) (a:Nat) true 0 .bot h
  rw[oY]
  by_cases hcond:(0<i∧c.toNat=0)∨40<i*7
  ·rw[if_pos hcond]
   refine⟨(fun v r h=>by cases h),fun n h=>?_⟩
   cases h
   refine⟨a+1,(a+1,11),rfl,start ?_⟩
   simp only[yH]
   refine aB ht ?_
   simp only[cH,cI,cJ,kP,bB,bQ,aI (Int.le_refl 0),aI (Ga c),LO,hw,hy,decide_eq_true hcond,bA,if_true]
   refine aB (qT b (a+1) none 11) ?_
   simp only[Option.or,cH,cI,cJ,kP,bB,Option.isNone_some,Bool.not_false,if_true]
   exact aD _
  ·rw[if_neg hcond]
   have hi7:i*7≤40:=by omega
   have ho:=Pg (i:=i) (x:=x) c hi7 hx
   have h7:(0:Int)≤((i*7:Nat):Int):=by omega
   have body:∀{res:V×List Ob},Evt (fun k j=>if(decide (((c.toNat:Nat):Int)<(128:Int)))=true then
     if(decide (((x+c.toNat % 128*2 ^ (i*7):Nat):Int)≥(1099511627776:Int)))=true then
      Option.bind (aA cfg k 23 [.ref 0 0, .int .i64 11] [rdS b (a+1) none]) fun z3=>some ((V.int .i64 0),[.cells [.lst 5 false (getL (headD (Ob.getC (headD z3.2 Ob.dead)) V.bot)), .int .i64 (getI (headD (tail (Ob.getC (headD z3.2 Ob.dead))) V.bot)), .ifo (V.ifN (headD (tail (tail (Ob.getC (headD z3.2 Ob.dead)))) V.bot)) (V.ifT (headD (tail (tail (Ob.getC (headD z3.2 Ob.dead)))) V.bot)) (V.ifV (headD (tail (tail (Ob.getC (headD z3.2 Ob.dead)))) V.bot))]])
     else some (.int .i64 ((x+c.toNat % 128*2 ^ (i*7):Nat):Int),[rdS b (a+1) none])
    else L22 (aA cfg k) j ((x+c.toNat % 128*2 ^ (i*7):Nat):Int) ((i+1:Nat):Int) (ofBytes b) ((a+1:Nat):Int) true 0 .bot) res→Evt (fun k j=>L22 (aA cfg k) j (x:Nat) (i:Nat) (ofBytes b) (a:Nat) true 0 .bot) res:=by
    intro res h
    refine start ?_
    simp only[yH]
    refine aB ht ?_
    have hw1:IntKind.wrap .i64 (((i:Nat):Int)+1)=((i+1:Nat):Int):=by rw[wrap64 (by omega) (by omega)];omega
    simp only[cH,cI,cJ,kP,bB,bQ,aI (Int.le_refl 0),aI (Ga c),LO,hw,hy,decide_eq_false hcond,bA,Bool.false_eq_true,if_false,Option.isNone_none,Bool.not_true,aI h7,ho,hw1]
    exact h
   by_cases h1:c.toNat<128
   ·rw[if_pos h1]
    have h1' :((c.toNat:Nat):Int)<128:=by omega
    by_cases h2:1099511627776≤x+c.toNat % 128*2 ^ (i*7)
    ·rw[if_pos h2]
     refine⟨(fun v r h=>by cases h),fun n h=>?_⟩
     cases h
     refine⟨a+1,(a+1,11),rfl,body ?_⟩
     have h2' :((x+c.toNat % 128*2 ^ (i*7):Nat):Int)≥1099511627776:=by omega
     simp only[h1',h2',decide_true,if_true]
     refine aB (qT b (a+1) none 11) ?_
     simp only[Option.or,cH,cI,cJ,kP,bB]
     exact aD _
    ·rw[if_neg h2]
     refine⟨fun v r h=>?_,(fun n h=>by cases h)⟩
     cases h
     refine⟨a+1,by omega,by omega,hs1,body ?_⟩
     have h2' :¬(((x+c.toNat % 128*2 ^ (i*7):Nat):Int)≥1099511627776):=by omega
     simp only[h1',h2',decide_true,decide_false,if_true,Bool.false_eq_true,if_false]
     exact aD _
   ·rw[if_neg h1]
    have h1' :¬((c.toNat:Nat):Int)<128:=by omega
    have hx' :x+c.toNat % 128*2 ^ (i*7)<2 ^ ((i+1)*7):=by
     rw[Pe]
     have hm:c.toNat % 128*2 ^ (i*7)≤127*2 ^ (i*7):=Nat.mul_le_mul_right _ (by omega)
     omega
    obtain⟨n1,n2⟩:=LP b hb s (i+1) (x+c.toNat % 128*2 ^ (i*7)) (a+1) hs1 (by omega) (by omega) hx'
    refine⟨fun v r h=>?_,fun n h=>?_⟩
    ·obtain⟨a',g1,g2,g3,g4⟩:=n1 v r h
     refine⟨a',by omega,g2,g3,body ?_⟩
     simp only[h1',decide_false,Bool.false_eq_true,if_false]
     exact g4
    ·obtain⟨a',p,g1,g2⟩:=n2 n h
     refine⟨a',p,g1,body ?_⟩
     simp only[h1',decide_false,Bool.false_eq_true,if_false]
     exact g2
def JJ (n:Nat):V:= .int .i64 ((n:Nat):Int)
theorem mW (b:Bs) (hb:b.length≤1000000000) (a:Nat) (ha:a≤b.length):RdF 22 [] b a lQ JJ:=by
 obtain⟨h1,h2⟩:=LP b hb (b.drop a) 0 0 a rfl ha (by omega) (by omega)
 have start:∀{res:V×List Ob},Evt (fun k j=>L22 (aA cfg k) j ((0:Nat):Int) ((0:Nat):Int) (ofBytes b) (a:Nat) true 0 .bot) res→Ret 22 [.ref 0 0] [rdS b a none] res:=by
  intro res h
  refine M22 (ofBytes b) ((a:Nat):Int) true 0 .bot ?_
  simp only[T22]
  exact h
 refine⟨fun v r h=>?_,fun n h=>?_⟩
 ·obtain⟨a',g1,g2,g3,g4⟩:=h1 v r h
  exact⟨a',g1,g2,g3,start g4⟩
 ·obtain⟨a',p,g1,g2⟩:=h2 n h
  exact⟨_,a',p,g1,start g2⟩
theorem LQ {x y:Nat} (hx:x<4294967296) (hy:y<4294967296):bits .or .u32 ((x:Nat):Int) ((y:Nat):Int)=((x ||| y:Nat):Int):=by
 have h:x ||| y<2 ^ 32:=Nat.or_lt_two_pow hx hy
 show IntKind.wrap .u32 (((BitVec.ofInt 32 ((x:Nat):Int) ||| BitVec.ofInt 32 ((y:Nat):Int)).toNat:Nat):Int)=_
 rw[BitVec.ofInt_natCast,BitVec.ofInt_natCast,BitVec.toNat_or,BitVec.toNat_ofNat,BitVec.toNat_ofNat,Nat.mod_eq_of_lt (by omega),Nat.mod_eq_of_lt (by omega),wrap32 (by omega) (by omega)]
def LR (n:Nat):V:= .int .u32 ((n:Nat):Int)
theorem Gb (c0 c1 c2 c3:UInt8):bits .or .u32 (bits .or .u32 (bits .or .u32 (IntKind.wrap .u32 ((c0.toNat:Nat):Int)) (IntKind.wrap .u32 ((IntKind.wrap .u32 ((c1.toNat:Nat):Int))*2 ^ min (Int.toNat (8:Int)) (IntKind.bits IntKind.u32)))) (IntKind.wrap .u32 ((IntKind.wrap .u32 ((c2.toNat:Nat):Int))*2 ^ min (Int.toNat (16:Int)) (IntKind.bits IntKind.u32)))) (IntKind.wrap .u32 ((IntKind.wrap .u32 ((c3.toNat:Nat):Int))*2 ^ min (Int.toNat (24:Int)) (IntKind.bits IntKind.u32)))=((leN [c0,c1,c2,c3]:Nat):Int):=by
 have h0:=c0.toNat_lt;have h1:=c1.toNat_lt;have h2:=c2.toNat_lt;have h3:=c3.toNat_lt
 have p8:(2:Int) ^ min (Int.toNat (8:Int)) (IntKind.bits IntKind.u32)=256:=rfl
 have p16:(2:Int) ^ min (Int.toNat (16:Int)) (IntKind.bits IntKind.u32)=65536:=rfl
 have p24:(2:Int) ^ min (Int.toNat (24:Int)) (IntKind.bits IntKind.u32)=16777216:=rfl
 have w0:∀c:UInt8,IntKind.wrap .u32 ((c.toNat:Nat):Int)=((c.toNat:Nat):Int):=fun c=>wrap32 (by omega) (by have:=c.toNat_lt;omega)
 have w8:IntKind.wrap .u32 (((c1.toNat:Nat):Int)*256)=((c1.toNat*2 ^ 8:Nat):Int):=by rw[wrap32 (by omega) (by omega)];omega
 have w16:IntKind.wrap .u32 (((c2.toNat:Nat):Int)*65536)=((c2.toNat*2 ^ 16:Nat):Int):=by rw[wrap32 (by omega) (by omega)];omega
 have w24:IntKind.wrap .u32 (((c3.toNat:Nat):Int)*16777216)=((c3.toNat*2 ^ 24:Nat):Int):=by rw[wrap32 (by omega) (by omega)];omega
 rw[p8,p16,p24,w0,w0,w0,w0,w8,w16,w24,LQ (by omega) (by omega),Nat.or_comm,D2 8 (by omega),LQ (by omega) (by omega),Nat.or_comm,D2 16 (by omega),LQ (by omega) (by omega),Nat.or_comm,D2 24 (by omega)]
 simp only[leN]
 omega
theorem Gc {s:Bs} {n:Int} (h:CJ s= .error n):s.length<4∧n=10:=by
 match s,h with
 |[],h=>cases h;exact⟨by simp,rfl⟩
 |[_],h=>cases h;exact⟨by simp,rfl⟩
 |[_,_],h=>cases h;exact⟨by simp,rfl⟩
 |[_,_,_],h=>cases h;exact⟨by simp,rfl⟩
theorem D3 (b:Bs) (a a' :Nat) (e e' :Er) (c0 c1 c2 c3:UInt8) (ht:Ret 46 [.ref 0 0, .int .i64 (4:Int)] [rdS b a e] (.lst 5 false (ofBytes [c0,c1,c2,c3]),[rdS b a' e'])):
  Ret 24 [.ref 0 0] [rdS b a e] (LR (leN [c0,c1,c2,c3]),[rdS b a' e']):=by
 have g0:V.getI (List.getD (ofBytes [c0,c1,c2,c3]) (Int.toNat (0:Int)) .bot)=((c0.toNat:Nat):Int):=rfl
 have g1:V.getI (List.getD (ofBytes [c0,c1,c2,c3]) (Int.toNat (1:Int)) .bot)=((c1.toNat:Nat):Int):=rfl
 have g2:V.getI (List.getD (ofBytes [c0,c1,c2,c3]) (Int.toNat (2:Int)) .bot)=((c2.toNat:Nat):Int):=rfl
 have g3:V.getI (List.getD (ofBytes [c0,c1,c2,c3]) (Int.toNat (3:Int)) .bot)=((c3.toNat:Nat):Int):=rfl
 have l4:(((ofBytes [c0,c1,c2,c3]).length:Nat):Int)=4:=rfl
 cases e with
 |none=>
  refine M24 (ofBytes b) ((a:Nat):Int) true 0 .bot ?_
  simp only[T24]
  refine aB ht ?_
  simp only[bQ,l4,g0,g1,g2,g3,cH,cI,cJ,bB,Gb,aI (show(0:Int)≤0 by decide),aI (show(0:Int)<4 by decide),aI (show(0:Int)≤1 by decide),aI (show(1:Int)<4 by decide),aI (show(0:Int)≤8 by decide),aI (show(0:Int)≤2 by decide),aI (show(2:Int)<4 by decide),aI (show(0:Int)≤16 by decide),aI (show(0:Int)≤3 by decide),aI (show(3:Int)<4 by decide),aI (show(0:Int)≤24 by decide)]
  exact aD _
 |some p=>
  refine M24 (ofBytes b) ((a:Nat):Int) false 110 (.cpt [.int .i64 ((p.1:Nat):Int), .ifc 32 (.int .i64 p.2)]) ?_
  simp only[T24]
  refine aB ht ?_
  simp only[bQ,l4,g0,g1,g2,g3,cH,cI,cJ,bB,Gb,aI (show(0:Int)≤0 by decide),aI (show(0:Int)<4 by decide),aI (show(0:Int)≤1 by decide),aI (show(1:Int)<4 by decide),aI (show(0:Int)≤8 by decide),aI (show(0:Int)≤2 by decide),aI (show(2:Int)<4 by decide),aI (show(0:Int)≤16 by decide),aI (show(0:Int)≤3 by decide),aI (show(3:Int)<4 by decide),aI (show(0:Int)≤24 by decide)]
  exact aD _
theorem ID (b:Bs) (hb:b.length≤1000000000) (a:Nat) (ha:a≤b.length):RdF 24 [] b a CJ LR:=by
 refine⟨fun v r h=>?_,fun n h=>?_⟩
 ·match hd:b.drop a,h with
  |c0::c1::c2::c3::r',h=>
   cases h
   have hl:=congrArg List.length hd
   rw[List.length_drop]at hl
   simp only[List.length_cons]at hl
   have ht:=IC b hb a 4 (by omega) (by omega)
   have e1:(b.drop a).take 4=[c0,c1,c2,c3]:=by rw[hd];rfl
   rw[e1]at ht
   refine⟨a+4,by omega,by omega,?_,D3 b a _ _ _ c0 c1 c2 c3 ht⟩
   rw[←List.drop_drop,hd];rfl
 ·obtain⟨hl,rfl⟩:=Gc h
  rw[List.length_drop]at hl
  exact⟨_,a,(a,10),rfl,D3 b a _ _ _ 0 0 0 0 (Bg b hb a 4 (by omega) ha (by omega))⟩
theorem LU (b:Bs):RdE 24 [] b:=fun a p=>⟨_,D3 b a _ _ _ 0 0 0 0 (F9 b a 4 (by omega) p)⟩
theorem LV (b:Bs) (at_:Int):RdE 47 [.int .i64 at_] b:=by
 intro a p
 obtain⟨v,hv⟩:=vE b a p
 refine⟨.agg [.int .i64 (IntKind.wrap .i64 (at_+getI v)), .int .i64 (IntKind.wrap .i64 (IntKind.wrap .i64 (at_+getI v)+getI v))],?_⟩
 refine M47 (ofBytes b) ((a:Nat):Int) false 110 (.cpt [.int .i64 ((p.1:Nat):Int), .ifc 32 (.int .i64 p.2)]) at_ ?_
 simp only[T47]
 refine aB hv ?_
 simp only[cH,cI,cJ,bB]
 refine aB hv ?_
 simp only[cH,cI,cJ,bB]
 exact aD _
theorem IE (b:Bs) (hb:b.length≤1000000) (a:Nat) (ha:a≤b.length) (at_:Nat) (hat:at_+1099511627776* (b.length - a)≤4611686018427387904):RdF 47 [.int .i64 ((at_:Nat):Int)] b a (iP at_) cutV:=by
 obtain⟨n1,n2⟩:=mW b (by omega) a ha
 have start:∀{res:V×List Ob},Evt (fun k _=>T47 (aA cfg k) (ofBytes b) ((a:Nat):Int) true 0 .bot ((at_:Nat):Int)) res→Ret 47 [.ref 0 0, .int .i64 ((at_:Nat):Int)] [rdS b a none] res:=
  fun h=>M47 (ofBytes b) ((a:Nat):Int) true 0 .bot ((at_:Nat):Int) h
 refine⟨fun v r h=>?_,fun n h=>?_⟩
 ·obtain⟨x,r1,h1,h2⟩:=bR h
  obtain⟨y,r2,h3,h4⟩:=bR h2
  cases h4
  obtain⟨a1,g1,g2,g3,g4⟩:=n1 x r1 h1
  rw[g3]at h3
  obtain⟨a2,k1,k2,k3,k4⟩:=(mW b (by omega) a1 g2).1 y r h3
  have hx:=mL h1
  have hy:=mL h3
  have q1:=eK _ _ _ h1
  have q2:=eK _ _ _ h3
  rw[g3,List.length_drop,List.length_drop]at q1
  rw[List.length_drop]at q2
  have w1:IntKind.wrap .i64 (((at_:Nat):Int)+((x:Nat):Int))=((at_+x:Nat):Int):=by rw[wrap64 (by omega) (by omega)];omega
  have w2:IntKind.wrap .i64 (((at_+x:Nat):Int)+((y:Nat):Int))=((at_+x+y:Nat):Int):=by rw[wrap64 (by omega) (by omega)];omega
  refine⟨a2,by omega,k2,k3,start ?_⟩
  simp only[T47]
  refine aB g4 ?_
  simp only[cH,cI,cJ,bB]
  refine aB k4 ?_
  simp only[cH,cI,cJ,bB,JJ,eI,w1,w2]
  exact aD _
 ·cases hp:lQ (b.drop a)with
  |error m=>
   rw[iP,cA hp]at h
   cases h
   obtain⟨v,a',p,e1,g⟩:=n2 n hp
   obtain⟨v2,g2⟩:=vE b a' p
   refine⟨?_,a',p,e1,start ?_⟩
   rotate_left
   ·simp only[T47]
    refine aB g ?_
    simp only[cH,cI,cJ,bB]
    refine aB g2 ?_
    simp only[cH,cI,cJ,bB]
    exact aD _
  |ok w=>
   obtain⟨x,r1⟩:=w
   rw[iP,aY hp]at h
   obtain⟨a1,g1,g2,g3,g4⟩:=n1 x r1 hp
   cases hq:lQ r1 with
   |ok w=>rw[aY hq]at h;cases h
   |error m=>
    rw[cA hq]at h
    cases h
    rw[g3]at hq
    obtain⟨v,a',p,e1,g⟩:=(mW b (by omega) a1 g2).2 n hq
    refine⟨?_,a',p,e1,start ?_⟩
    rotate_left
    ·simp only[T47]
     refine aB g4 ?_
     simp only[cH,cI,cJ,bB]
     refine aB g ?_
     simp only[cH,cI,cJ,bB]
     exact aD _
end Go.Proofs.YtgpofjbdjiajeaaGreatDoor
end
section
namespace Go.Proofs.YtgpofjbdjiajeaaGreatDoor
open Go.Ev Go
open List (headD tail getD length drop take)
open V (getI getL getT getS getB)
set_option maxRecDepth 100000
variable (call : FuncId → Fun) (icall : aN (V × List Ob)) (again : List It → St → Option (V × List Ob))
def pI (call:FuncId→Fun) (ag0:Int→Int→Int→Int→List V→Int→Bool→Nat→V→Int→Int→Int→Int→Int→List V→List V→Int→Int→Int→Int→Int→Int→Int→List V→List V→Int→Int→Option (V×List Ob)) (i0:Int) (i1:Int) (i2:Int) (i3:Int) (l4:List V) (i5:Int) (b6:Bool) (t7:Nat) (v8:V) (i9:Int) (i10:Int) (i11:Int) (i12:Int) (i13:Int) (l14:List V) (l15:List V) (i16:Int) (i17:Int) (i18:Int) (i19:Int) (i20:Int) (i21:Int) (i22:Int) (l23:List V) (l24:List V) (i25:Int) (i26:Int):Option (V×List Ob):=
 Option.bind (if(decide (i3<i2))=true then
 some b6
 else
 some false) fun y0=>
 if y0=true then
 Option.bind (call 47 [(V.ref 0 0),(V.int .i64 i0)] [(Ob.cells [(V.lst 5 false l4),(V.int .i64 i5),(V.ifo b6 t7 v8)])]) fun z1=>
 Option.bind (call 25 [(V.ref 0 0),(V.int .i64 (getI (headD (tail (V.cells z1.1)) V.bot))),(V.int .i64 (IntKind.wrap .i64 (i1+(1:Int))))] [(Ob.cells [(V.lst 5 false (getL (headD (Ob.getC (headD z1.2 Ob.dead)) V.bot))),(V.int .i64 (getI (headD (tail (Ob.getC (headD z1.2 Ob.dead))) V.bot))),(V.ifo (V.ifN (headD (tail (tail (Ob.getC (headD z1.2 Ob.dead)))) V.bot)) (V.ifT (headD (tail (tail (Ob.getC (headD z1.2 Ob.dead)))) V.bot)) (V.ifV (headD (tail (tail (Ob.getC (headD z1.2 Ob.dead)))) V.bot)))])]) fun z2=>
 chk (cK l24 [(V.agg [(V.int .i64 (getI (headD (V.cells z1.1) V.bot))),(V.int .i64 (getI (headD (tail (V.cells z1.1)) V.bot)))])] 17) (chk (cK l23 [(V.agg [(V.int .i64 (getI (headD (V.cells z2.1) V.bot))),(V.int .i64 (getI (headD (tail (V.cells z2.1)) V.bot))),(V.int .i64 (getI (headD (tail (tail (V.cells z2.1))) V.bot))),(V.int .i64 (getI (headD (tail (tail (tail (V.cells z2.1)))) V.bot))),(V.int .i64 (getI (headD (tail (tail (tail (tail (V.cells z2.1))))) V.bot))),(V.lst 31 false (getL (headD (tail (tail (tail (tail (tail (V.cells z2.1)))))) V.bot))),(V.lst 27 false (getL (headD (tail (tail (tail (tail (tail (tail (V.cells z2.1))))))) V.bot))),(V.int .i64 (getI (headD (tail (tail (tail (tail (tail (tail (tail (V.cells z2.1)))))))) V.bot))),(V.int .i64 (getI (headD (tail (tail (tail (tail (tail (tail (tail (tail (V.cells z2.1))))))))) V.bot)))])] 105) ((ag0 ((getI (headD (tail (tail (tail (tail (V.cells z2.1))))) V.bot))) (i1) (i2) ((IntKind.wrap .i64 (i3+(1:Int)))) ((getL (headD (Ob.getC (headD z2.2 Ob.dead)) V.bot))) ((getI (headD (tail (Ob.getC (headD z2.2 Ob.dead))) V.bot))) ((V.ifN (headD (tail (tail (Ob.getC (headD z2.2 Ob.dead)))) V.bot))) ((V.ifT (headD (tail (tail (Ob.getC (headD z2.2 Ob.dead)))) V.bot))) ((V.ifV (headD (tail (tail (Ob.getC (headD z2.2 Ob.dead)))) V.bot))) (i9) (i10) (i11) (i12) (i13) (l14) (l15) (i16) (i17) (i18) (i19) (i20) (i21) (i22) ((l23++[(V.agg [(V.int .i64 (getI (headD (V.cells z2.1) V.bot))),(V.int .i64 (getI (headD (tail (V.cells z2.1)) V.bot))),(V.int .i64 (getI (headD (tail (tail (V.cells z2.1))) V.bot))),(V.int .i64 (getI (headD (tail (tail (tail (V.cells z2.1)))) V.bot))),(V.int .i64 (getI (headD (tail (tail (tail (tail (V.cells z2.1))))) V.bot))),(V.lst 31 false (getL (headD (tail (tail (tail (tail (tail (V.cells z2.1)))))) V.bot))),(V.lst 27 false (getL (headD (tail (tail (tail (tail (tail (tail (V.cells z2.1))))))) V.bot))),(V.int .i64 (getI (headD (tail (tail (tail (tail (tail (tail (tail (V.cells z2.1)))))))) V.bot))),(V.int .i64 (getI (headD (tail (tail (tail (tail (tail (tail (tail (tail (V.cells z2.1))))))))) V.bot)))])])) ((l24++[(V.agg [(V.int .i64 (getI (headD (V.cells z1.1) V.bot))),(V.int .i64 (getI (headD (tail (V.cells z1.1)) V.bot)))])])) (i25) (i26))))
 else
 Option.bind (call 47 [(V.ref 0 0),(V.int .i64 i0)] [(Ob.cells [(V.lst 5 false l4),(V.int .i64 i5),(V.ifo b6 t7 v8)])]) fun z1=>
 some ((V.agg [(V.int .i64 i18),(V.int .i64 i19),(V.int .i64 i20),(V.int .i64 i21),(V.int .i64 i22),(V.lst 31 false l23),(V.lst 27 false l24),(V.int .i64 (getI (headD (V.cells z1.1) V.bot))),(V.int .i64 (getI (headD (tail (V.cells z1.1)) V.bot)))]),[(Ob.cells [(V.lst 5 false (getL (headD (Ob.getC (headD z1.2 Ob.dead)) V.bot))),(V.int .i64 (getI (headD (tail (Ob.getC (headD z1.2 Ob.dead))) V.bot))),(V.ifo (V.ifN (headD (tail (tail (Ob.getC (headD z1.2 Ob.dead)))) V.bot)) (V.ifT (headD (tail (tail (Ob.getC (headD z1.2 Ob.dead)))) V.bot)) (V.ifV (headD (tail (tail (Ob.getC (headD z1.2 Ob.dead)))) V.bot)))])])
def T25 (call:FuncId→Fun) (ag0:Int→Int→Int→Int→List V→Int→Bool→Nat→V→Int→Int→Int→Int→Int→List V→List V→Int→Int→Int→Int→Int→Int→Int→List V→List V→Int→Int→Option (V×List Ob)) (a0:List V) (a1:Int) (a2:Bool) (a3:Nat) (a4:V) (a5:Int) (a6:Int):Option (V×List Ob):=
 Option.bind (call 22 [(V.ref 0 0)] [(Ob.cells [(V.lst 5 false a0),(V.int .i64 a1),(V.ifo a2 a3 a4)])]) fun z0=>
 Option.bind (if(decide ((getI z0.1)>(2:Int)))=false then
 some (decide (a6>(32:Int)))
 else
 some true) fun y1=>
 if y1=true then
 Option.bind (call 23 [(V.ref 0 0),(V.int .i64 11)] [(Ob.cells [(V.lst 5 false (getL (headD (Ob.getC (headD z0.2 Ob.dead)) V.bot))),(V.int .i64 (getI (headD (tail (Ob.getC (headD z0.2 Ob.dead))) V.bot))),(V.ifo (V.ifN (headD (tail (tail (Ob.getC (headD z0.2 Ob.dead)))) V.bot)) (V.ifT (headD (tail (tail (Ob.getC (headD z0.2 Ob.dead)))) V.bot)) (V.ifV (headD (tail (tail (Ob.getC (headD z0.2 Ob.dead)))) V.bot)))])]) fun z2=>
 Option.bind (call 22 [(V.ref 0 0)] [(Ob.cells [(V.lst 5 false (getL (headD (Ob.getC (headD z2.2 Ob.dead)) V.bot))),(V.int .i64 (getI (headD (tail (Ob.getC (headD z2.2 Ob.dead))) V.bot))),(V.ifo (V.ifN (headD (tail (tail (Ob.getC (headD z2.2 Ob.dead)))) V.bot)) (V.ifT (headD (tail (tail (Ob.getC (headD z2.2 Ob.dead)))) V.bot)) (V.ifV (headD (tail (tail (Ob.getC (headD z2.2 Ob.dead)))) V.bot)))])]) fun z3=>
 Option.bind (call 22 [(V.ref 0 0)] [(Ob.cells [(V.lst 5 false (getL (headD (Ob.getC (headD z3.2 Ob.dead)) V.bot))),(V.int .i64 (getI (headD (tail (Ob.getC (headD z3.2 Ob.dead))) V.bot))),(V.ifo (V.ifN (headD (tail (tail (Ob.getC (headD z3.2 Ob.dead)))) V.bot)) (V.ifT (headD (tail (tail (Ob.getC (headD z3.2 Ob.dead)))) V.bot)) (V.ifV (headD (tail (tail (Ob.getC (headD z3.2 Ob.dead)))) V.bot)))])]) fun z4=>
 if(!(V.ifN (headD (tail (tail (Ob.getC (headD z4.2 Ob.dead)))) V.bot)))=true then
 some ((V.agg [(V.int .i64 (getI z0.1)),(V.int .i64 a5),(V.int .i64 (IntKind.wrap .i64 (a5+(getI z3.1)))),(V.int .i64 (IntKind.wrap .i64 (a5+(getI z3.1)))),(V.int .i64 (IntKind.wrap .i64 ((IntKind.wrap .i64 (a5+(getI z3.1)))+(getI z4.1)))),(V.lst 31 false []),(V.lst 27 false []),(V.int .i64 0),(V.int .i64 0)]),[(Ob.cells [(V.lst 5 false (getL (headD (Ob.getC (headD z4.2 Ob.dead)) V.bot))),(V.int .i64 (getI (headD (tail (Ob.getC (headD z4.2 Ob.dead))) V.bot))),(V.ifo (V.ifN (headD (tail (tail (Ob.getC (headD z4.2 Ob.dead)))) V.bot)) (V.ifT (headD (tail (tail (Ob.getC (headD z4.2 Ob.dead)))) V.bot)) (V.ifV (headD (tail (tail (Ob.getC (headD z4.2 Ob.dead)))) V.bot)))])])
 else
 if((getI z0.1)==(2:Int))=true then
 Option.bind (call 25 [(V.ref 0 0),(V.int .i64 (IntKind.wrap .i64 (a5+(getI z3.1)))),(V.int .i64 (IntKind.wrap .i64 (a6+(1:Int))))] [(Ob.cells [(V.lst 5 false (getL (headD (Ob.getC (headD z4.2 Ob.dead)) V.bot))),(V.int .i64 (getI (headD (tail (Ob.getC (headD z4.2 Ob.dead))) V.bot))),(V.ifo (V.ifN (headD (tail (tail (Ob.getC (headD z4.2 Ob.dead)))) V.bot)) (V.ifT (headD (tail (tail (Ob.getC (headD z4.2 Ob.dead)))) V.bot)) (V.ifV (headD (tail (tail (Ob.getC (headD z4.2 Ob.dead)))) V.bot)))])]) fun z5=>
 some ((V.agg [(V.int .i64 (getI z0.1)),(V.int .i64 a5),(V.int .i64 (IntKind.wrap .i64 (a5+(getI z3.1)))),(V.int .i64 (IntKind.wrap .i64 (a5+(getI z3.1)))),(V.int .i64 (IntKind.wrap .i64 ((IntKind.wrap .i64 (a5+(getI z3.1)))+(getI z4.1)))),(V.lst 31 false [(V.agg [(V.int .i64 (getI (headD (V.cells z5.1) V.bot))),(V.int .i64 (getI (headD (tail (V.cells z5.1)) V.bot))),(V.int .i64 (getI (headD (tail (tail (V.cells z5.1))) V.bot))),(V.int .i64 (getI (headD (tail (tail (tail (V.cells z5.1)))) V.bot))),(V.int .i64 (getI (headD (tail (tail (tail (tail (V.cells z5.1))))) V.bot))),(V.lst 31 false (getL (headD (tail (tail (tail (tail (tail (V.cells z5.1)))))) V.bot))),(V.lst 27 false (getL (headD (tail (tail (tail (tail (tail (tail (V.cells z5.1))))))) V.bot))),(V.int .i64 (getI (headD (tail (tail (tail (tail (tail (tail (tail (V.cells z5.1)))))))) V.bot))),(V.int .i64 (getI (headD (tail (tail (tail (tail (tail (tail (tail (tail (V.cells z5.1))))))))) V.bot)))])]),(V.lst 27 false []),(V.int .i64 0),(V.int .i64 0)]),[(Ob.cells [(V.lst 5 false (getL (headD (Ob.getC (headD z5.2 Ob.dead)) V.bot))),(V.int .i64 (getI (headD (tail (Ob.getC (headD z5.2 Ob.dead))) V.bot))),(V.ifo (V.ifN (headD (tail (tail (Ob.getC (headD z5.2 Ob.dead)))) V.bot)) (V.ifT (headD (tail (tail (Ob.getC (headD z5.2 Ob.dead)))) V.bot)) (V.ifV (headD (tail (tail (Ob.getC (headD z5.2 Ob.dead)))) V.bot)))])])
 else
 if((getI z0.1)==(1:Int))=true then
 Option.bind (call 22 [(V.ref 0 0)] [(Ob.cells [(V.lst 5 false (getL (headD (Ob.getC (headD z4.2 Ob.dead)) V.bot))),(V.int .i64 (getI (headD (tail (Ob.getC (headD z4.2 Ob.dead))) V.bot))),(V.ifo (V.ifN (headD (tail (tail (Ob.getC (headD z4.2 Ob.dead)))) V.bot)) (V.ifT (headD (tail (tail (Ob.getC (headD z4.2 Ob.dead)))) V.bot)) (V.ifV (headD (tail (tail (Ob.getC (headD z4.2 Ob.dead)))) V.bot)))])]) fun z5=>
 if(decide ((getI z5.1)>(1000:Int)))=true then
 Option.bind (call 23 [(V.ref 0 0),(V.int .i64 11)] [(Ob.cells [(V.lst 5 false (getL (headD (Ob.getC (headD z5.2 Ob.dead)) V.bot))),(V.int .i64 (getI (headD (tail (Ob.getC (headD z5.2 Ob.dead))) V.bot))),(V.ifo (V.ifN (headD (tail (tail (Ob.getC (headD z5.2 Ob.dead)))) V.bot)) (V.ifT (headD (tail (tail (Ob.getC (headD z5.2 Ob.dead)))) V.bot)) (V.ifV (headD (tail (tail (Ob.getC (headD z5.2 Ob.dead)))) V.bot)))])]) fun z6=>
 (ag0 ((IntKind.wrap .i64 (a5+(getI z3.1)))) (a6) ((getI z5.1)) ((0:Int)) ((getL (headD (Ob.getC (headD z6.2 Ob.dead)) V.bot))) ((getI (headD (tail (Ob.getC (headD z6.2 Ob.dead))) V.bot))) ((V.ifN (headD (tail (tail (Ob.getC (headD z6.2 Ob.dead)))) V.bot))) ((V.ifT (headD (tail (tail (Ob.getC (headD z6.2 Ob.dead)))) V.bot))) ((V.ifV (headD (tail (tail (Ob.getC (headD z6.2 Ob.dead)))) V.bot))) ((0:Int)) ((0:Int)) ((0:Int)) ((0:Int)) ((0:Int)) ([]) ([]) ((0:Int)) ((0:Int)) ((getI z0.1)) (a5) ((IntKind.wrap .i64 (a5+(getI z3.1)))) ((IntKind.wrap .i64 (a5+(getI z3.1)))) ((IntKind.wrap .i64 ((IntKind.wrap .i64 (a5+(getI z3.1)))+(getI z4.1)))) ([]) ([]) ((0:Int)) ((0:Int)))
 else
 (ag0 ((IntKind.wrap .i64 (a5+(getI z3.1)))) (a6) ((getI z5.1)) ((0:Int)) ((getL (headD (Ob.getC (headD z5.2 Ob.dead)) V.bot))) ((getI (headD (tail (Ob.getC (headD z5.2 Ob.dead))) V.bot))) ((V.ifN (headD (tail (tail (Ob.getC (headD z5.2 Ob.dead)))) V.bot))) ((V.ifT (headD (tail (tail (Ob.getC (headD z5.2 Ob.dead)))) V.bot))) ((V.ifV (headD (tail (tail (Ob.getC (headD z5.2 Ob.dead)))) V.bot))) ((0:Int)) ((0:Int)) ((0:Int)) ((0:Int)) ((0:Int)) ([]) ([]) ((0:Int)) ((0:Int)) ((getI z0.1)) (a5) ((IntKind.wrap .i64 (a5+(getI z3.1)))) ((IntKind.wrap .i64 (a5+(getI z3.1)))) ((IntKind.wrap .i64 ((IntKind.wrap .i64 (a5+(getI z3.1)))+(getI z4.1)))) ([]) ([]) ((0:Int)) ((0:Int)))
 else
 some ((V.agg [(V.int .i64 (getI z0.1)),(V.int .i64 a5),(V.int .i64 (IntKind.wrap .i64 (a5+(getI z3.1)))),(V.int .i64 (IntKind.wrap .i64 (a5+(getI z3.1)))),(V.int .i64 (IntKind.wrap .i64 ((IntKind.wrap .i64 (a5+(getI z3.1)))+(getI z4.1)))),(V.lst 31 false []),(V.lst 27 false []),(V.int .i64 0),(V.int .i64 0)]),[(Ob.cells [(V.lst 5 false (getL (headD (Ob.getC (headD z4.2 Ob.dead)) V.bot))),(V.int .i64 (getI (headD (tail (Ob.getC (headD z4.2 Ob.dead))) V.bot))),(V.ifo (V.ifN (headD (tail (tail (Ob.getC (headD z4.2 Ob.dead)))) V.bot)) (V.ifT (headD (tail (tail (Ob.getC (headD z4.2 Ob.dead)))) V.bot)) (V.ifV (headD (tail (tail (Ob.getC (headD z4.2 Ob.dead)))) V.bot)))])])
 else
 Option.bind (call 22 [(V.ref 0 0)] [(Ob.cells [(V.lst 5 false (getL (headD (Ob.getC (headD z0.2 Ob.dead)) V.bot))),(V.int .i64 (getI (headD (tail (Ob.getC (headD z0.2 Ob.dead))) V.bot))),(V.ifo (V.ifN (headD (tail (tail (Ob.getC (headD z0.2 Ob.dead)))) V.bot)) (V.ifT (headD (tail (tail (Ob.getC (headD z0.2 Ob.dead)))) V.bot)) (V.ifV (headD (tail (tail (Ob.getC (headD z0.2 Ob.dead)))) V.bot)))])]) fun z2=>
 Option.bind (call 22 [(V.ref 0 0)] [(Ob.cells [(V.lst 5 false (getL (headD (Ob.getC (headD z2.2 Ob.dead)) V.bot))),(V.int .i64 (getI (headD (tail (Ob.getC (headD z2.2 Ob.dead))) V.bot))),(V.ifo (V.ifN (headD (tail (tail (Ob.getC (headD z2.2 Ob.dead)))) V.bot)) (V.ifT (headD (tail (tail (Ob.getC (headD z2.2 Ob.dead)))) V.bot)) (V.ifV (headD (tail (tail (Ob.getC (headD z2.2 Ob.dead)))) V.bot)))])]) fun z3=>
 if(!(V.ifN (headD (tail (tail (Ob.getC (headD z3.2 Ob.dead)))) V.bot)))=true then
 some ((V.agg [(V.int .i64 (getI z0.1)),(V.int .i64 a5),(V.int .i64 (IntKind.wrap .i64 (a5+(getI z2.1)))),(V.int .i64 (IntKind.wrap .i64 (a5+(getI z2.1)))),(V.int .i64 (IntKind.wrap .i64 ((IntKind.wrap .i64 (a5+(getI z2.1)))+(getI z3.1)))),(V.lst 31 false []),(V.lst 27 false []),(V.int .i64 0),(V.int .i64 0)]),[(Ob.cells [(V.lst 5 false (getL (headD (Ob.getC (headD z3.2 Ob.dead)) V.bot))),(V.int .i64 (getI (headD (tail (Ob.getC (headD z3.2 Ob.dead))) V.bot))),(V.ifo (V.ifN (headD (tail (tail (Ob.getC (headD z3.2 Ob.dead)))) V.bot)) (V.ifT (headD (tail (tail (Ob.getC (headD z3.2 Ob.dead)))) V.bot)) (V.ifV (headD (tail (tail (Ob.getC (headD z3.2 Ob.dead)))) V.bot)))])])
 else
 if((getI z0.1)==(2:Int))=true then
 Option.bind (call 25 [(V.ref 0 0),(V.int .i64 (IntKind.wrap .i64 (a5+(getI z2.1)))),(V.int .i64 (IntKind.wrap .i64 (a6+(1:Int))))] [(Ob.cells [(V.lst 5 false (getL (headD (Ob.getC (headD z3.2 Ob.dead)) V.bot))),(V.int .i64 (getI (headD (tail (Ob.getC (headD z3.2 Ob.dead))) V.bot))),(V.ifo (V.ifN (headD (tail (tail (Ob.getC (headD z3.2 Ob.dead)))) V.bot)) (V.ifT (headD (tail (tail (Ob.getC (headD z3.2 Ob.dead)))) V.bot)) (V.ifV (headD (tail (tail (Ob.getC (headD z3.2 Ob.dead)))) V.bot)))])]) fun z4=>
 some ((V.agg [(V.int .i64 (getI z0.1)),(V.int .i64 a5),(V.int .i64 (IntKind.wrap .i64 (a5+(getI z2.1)))),(V.int .i64 (IntKind.wrap .i64 (a5+(getI z2.1)))),(V.int .i64 (IntKind.wrap .i64 ((IntKind.wrap .i64 (a5+(getI z2.1)))+(getI z3.1)))),(V.lst 31 false [(V.agg [(V.int .i64 (getI (headD (V.cells z4.1) V.bot))),(V.int .i64 (getI (headD (tail (V.cells z4.1)) V.bot))),(V.int .i64 (getI (headD (tail (tail (V.cells z4.1))) V.bot))),(V.int .i64 (getI (headD (tail (tail (tail (V.cells z4.1)))) V.bot))),(V.int .i64 (getI (headD (tail (tail (tail (tail (V.cells z4.1))))) V.bot))),(V.lst 31 false (getL (headD (tail (tail (tail (tail (tail (V.cells z4.1)))))) V.bot))),(V.lst 27 false (getL (headD (tail (tail (tail (tail (tail (tail (V.cells z4.1))))))) V.bot))),(V.int .i64 (getI (headD (tail (tail (tail (tail (tail (tail (tail (V.cells z4.1)))))))) V.bot))),(V.int .i64 (getI (headD (tail (tail (tail (tail (tail (tail (tail (tail (V.cells z4.1))))))))) V.bot)))])]),(V.lst 27 false []),(V.int .i64 0),(V.int .i64 0)]),[(Ob.cells [(V.lst 5 false (getL (headD (Ob.getC (headD z4.2 Ob.dead)) V.bot))),(V.int .i64 (getI (headD (tail (Ob.getC (headD z4.2 Ob.dead))) V.bot))),(V.ifo (V.ifN (headD (tail (tail (Ob.getC (headD z4.2 Ob.dead)))) V.bot)) (V.ifT (headD (tail (tail (Ob.getC (headD z4.2 Ob.dead)))) V.bot)) (V.ifV (headD (tail (tail (Ob.getC (headD z4.2 Ob.dead)))) V.bot)))])])
 else
 if((getI z0.1)==(1:Int))=true then
 Option.bind (call 22 [(V.ref 0 0)] [(Ob.cells [(V.lst 5 false (getL (headD (Ob.getC (headD z3.2 Ob.dead)) V.bot))),(V.int .i64 (getI (headD (tail (Ob.getC (headD z3.2 Ob.dead))) V.bot))),(V.ifo (V.ifN (headD (tail (tail (Ob.getC (headD z3.2 Ob.dead)))) V.bot)) (V.ifT (headD (tail (tail (Ob.getC (headD z3.2 Ob.dead)))) V.bot)) (V.ifV (headD (tail (tail (Ob.getC (headD z3.2 Ob.dead)))) V.bot)))])]) fun z4=>
 if(decide ((getI z4.1)>(1000:Int)))=true then
 Option.bind (call 23 [(V.ref 0 0),(V.int .i64 11)] [(Ob.cells [(V.lst 5 false (getL (headD (Ob.getC (headD z4.2 Ob.dead)) V.bot))),(V.int .i64 (getI (headD (tail (Ob.getC (headD z4.2 Ob.dead))) V.bot))),(V.ifo (V.ifN (headD (tail (tail (Ob.getC (headD z4.2 Ob.dead)))) V.bot)) (V.ifT (headD (tail (tail (Ob.getC (headD z4.2 Ob.dead)))) V.bot)) (V.ifV (headD (tail (tail (Ob.getC (headD z4.2 Ob.dead)))) V.bot)))])]) fun z5=>
 (ag0 ((IntKind.wrap .i64 (a5+(getI z2.1)))) (a6) ((getI z4.1)) ((0:Int)) ((getL (headD (Ob.getC (headD z5.2 Ob.dead)) V.bot))) ((getI (headD (tail (Ob.getC (headD z5.2 Ob.dead))) V.bot))) ((V.ifN (headD (tail (tail (Ob.getC (headD z5.2 Ob.dead)))) V.bot))) ((V.ifT (headD (tail (tail (Ob.getC (headD z5.2 Ob.dead)))) V.bot))) ((V.ifV (headD (tail (tail (Ob.getC (headD z5.2 Ob.dead)))) V.bot))) ((0:Int)) ((0:Int)) ((0:Int)) ((0:Int)) ((0:Int)) ([]) ([]) ((0:Int)) ((0:Int)) ((getI z0.1)) (a5) ((IntKind.wrap .i64 (a5+(getI z2.1)))) ((IntKind.wrap .i64 (a5+(getI z2.1)))) ((IntKind.wrap .i64 ((IntKind.wrap .i64 (a5+(getI z2.1)))+(getI z3.1)))) ([]) ([]) ((0:Int)) ((0:Int)))
 else
 (ag0 ((IntKind.wrap .i64 (a5+(getI z2.1)))) (a6) ((getI z4.1)) ((0:Int)) ((getL (headD (Ob.getC (headD z4.2 Ob.dead)) V.bot))) ((getI (headD (tail (Ob.getC (headD z4.2 Ob.dead))) V.bot))) ((V.ifN (headD (tail (tail (Ob.getC (headD z4.2 Ob.dead)))) V.bot))) ((V.ifT (headD (tail (tail (Ob.getC (headD z4.2 Ob.dead)))) V.bot))) ((V.ifV (headD (tail (tail (Ob.getC (headD z4.2 Ob.dead)))) V.bot))) ((0:Int)) ((0:Int)) ((0:Int)) ((0:Int)) ((0:Int)) ([]) ([]) ((0:Int)) ((0:Int)) ((getI z0.1)) (a5) ((IntKind.wrap .i64 (a5+(getI z2.1)))) ((IntKind.wrap .i64 (a5+(getI z2.1)))) ((IntKind.wrap .i64 ((IntKind.wrap .i64 (a5+(getI z2.1)))+(getI z3.1)))) ([]) ([]) ((0:Int)) ((0:Int)))
 else
 some ((V.agg [(V.int .i64 (getI z0.1)),(V.int .i64 a5),(V.int .i64 (IntKind.wrap .i64 (a5+(getI z2.1)))),(V.int .i64 (IntKind.wrap .i64 (a5+(getI z2.1)))),(V.int .i64 (IntKind.wrap .i64 ((IntKind.wrap .i64 (a5+(getI z2.1)))+(getI z3.1)))),(V.lst 31 false []),(V.lst 27 false []),(V.int .i64 0),(V.int .i64 0)]),[(Ob.cells [(V.lst 5 false (getL (headD (Ob.getC (headD z3.2 Ob.dead)) V.bot))),(V.int .i64 (getI (headD (tail (Ob.getC (headD z3.2 Ob.dead))) V.bot))),(V.ifo (V.ifN (headD (tail (tail (Ob.getC (headD z3.2 Ob.dead)))) V.bot)) (V.ifT (headD (tail (tail (Ob.getC (headD z3.2 Ob.dead)))) V.bot)) (V.ifV (headD (tail (tail (Ob.getC (headD z3.2 Ob.dead)))) V.bot)))])])
def O25 (a0:List V) (a1:Int) (a2:Bool) (a3:Nat) (a4:V):List Ob:=[Ob.cells [V.lst 5 false a0,V.int IntKind.i64 a1,V.ifo a2 a3 a4]]
def A25 (a5:Int) (a6:Int):List V:=[V.ref 0 0,V.int IntKind.i64 a5,V.int IntKind.i64 a6]
def CQ (i0:Int) (i1:Int) (i2:Int) (i3:Int) (l4:List V) (i5:Int) (b6:Bool) (t7:Nat) (v8:V) (i9:Int) (i10:Int) (i11:Int) (i12:Int) (i13:Int) (l14:List V) (l15:List V) (i16:Int) (i17:Int) (i18:Int) (i19:Int) (i20:Int) (i21:Int) (i22:Int) (l23:List V) (l24:List V) (i25:Int) (i26:Int):St:=⟨[(V.ref 0 0),(V.int IntKind.i64 i0),(V.int IntKind.i64 i1),V.bot,V.bot,V.bot,(V.ref 1 0),(V.ref 2 0),(V.int IntKind.i64 i2),(V.int IntKind.i64 i3)]++List.replicate 101 V.bot,[(Ob.cells [(V.lst 5 false l4),(V.int IntKind.i64 i5),(V.ifo b6 t7 v8)]),(Ob.cells [(V.int IntKind.i64 i9),(V.int IntKind.i64 i10),(V.int IntKind.i64 i11),(V.int IntKind.i64 i12),(V.int IntKind.i64 i13),(V.lst 31 true l14),(V.lst 27 true l15),(V.int IntKind.i64 i16),(V.int IntKind.i64 i17)]),(Ob.cells [(V.int IntKind.i64 i18),(V.int IntKind.i64 i19),(V.int IntKind.i64 i20),(V.int IntKind.i64 i21),(V.int IntKind.i64 i22),(V.lst 31 true l23),(V.lst 27 true l24),(V.int IntKind.i64 i25),(V.int IntKind.i64 i26)])]⟩
theorem Rh (a0:List V) (a1:Int) (a2:Bool) (a3:Nat) (a4:V) (i0:Int) (i1:Int) (i2:Int) (i3:Int) (l4:List V) (i5:Int) (b6:Bool) (t7:Nat) (v8:V) (i9:Int) (i10:Int) (i11:Int) (i12:Int) (i13:Int) (l14:List V) (l15:List V) (i16:Int) (i17:Int) (i18:Int) (i19:Int) (i20:Int) (i21:Int) (i22:Int) (l23:List V) (l24:List V) (i25:Int) (i26:Int):
 RM 25 Tryz.f25 (O25 a0 a1 a2 a3 a4) call icall again (aL Tryz.f25 0) (CQ i0 i1 i2 i3 l4 i5 b6 t7 v8 i9 i10 i11 i12 i13 l14 l15 i16 i17 i18 i19 i20 i21 i22 l23 l24 i25 i26)=pI call (fun i0 i1 i2 i3 l4 i5 b6 t7 v8 i9 i10 i11 i12 i13 l14 l15 i16 i17 i18 i19 i20 i21 i22 l23 l24 i25 i26=>again (aL Tryz.f25 0) (CQ i0 i1 i2 i3 l4 i5 b6 t7 v8 i9 i10 i11 i12 i13 l14 l15 i16 i17 i18 i19 i20 i21 i22 l23 l24 i25 i26)) i0 i1 i2 i3 l4 i5 b6 t7 v8 i9 i10 i11 i12 i13 l14 l15 i16 i17 i18 i19 i20 i21 i22 l23 l24 i25 i26:=by kernel_rfl
theorem E25 (a0:List V) (a1:Int) (a2:Bool) (a3:Nat) (a4:V) (a5:Int) (a6:Int):GO 25 Tryz.f25 (A25 a5 a6) (O25 a0 a1 a2 a3 a4) call icall again=T25 call (fun i0 i1 i2 i3 l4 i5 b6 t7 v8 i9 i10 i11 i12 i13 l14 l15 i16 i17 i18 i19 i20 i21 i22 l23 l24 i25 i26=>again (aL Tryz.f25 0) (CQ i0 i1 i2 i3 l4 i5 b6 t7 v8 i9 i10 i11 i12 i13 l14 l15 i16 i17 i18 i19 i20 i21 i22 l23 l24 i25 i26)) a0 a1 a2 a3 a4 a5 a6:=by kernel_rfl
def L25 (call:FuncId→Fun):Nat→(Int→Int→Int→Int→List V→Int→Bool→Nat→V→Int→Int→Int→Int→Int→List V→List V→Int→Int→Int→Int→Int→Int→Int→List V→List V→Int→Int→Option (V×List Ob))
 |0=>fun _ _ _ _ _ _ _ _ _ _ _ _ _ _ _ _ _ _ _ _ _ _ _ _ _ _ _=>none
 |n+1=>pI call (L25 call n)
theorem R25 (call:FuncId→Fun) (icall:aN (V×List Ob)) (a0:List V) (a1:Int) (a2:Bool) (a3:Nat) (a4:V):∀n,(∀(i0:Int) (i1:Int) (i2:Int) (i3:Int) (l4:List V) (i5:Int) (b6:Bool) (t7:Nat) (v8:V) (i9:Int) (i10:Int) (i11:Int) (i12:Int) (i13:Int) (l14:List V) (l15:List V) (i16:Int) (i17:Int) (i18:Int) (i19:Int) (i20:Int) (i21:Int) (i22:Int) (l23:List V) (l24:List V) (i25:Int) (i26:Int),RN 25 Tryz.f25 (O25 a0 a1 a2 a3 a4) call icall n (aL Tryz.f25 0) (CQ i0 i1 i2 i3 l4 i5 b6 t7 v8 i9 i10 i11 i12 i13 l14 l15 i16 i17 i18 i19 i20 i21 i22 l23 l24 i25 i26)=(L25 call n) i0 i1 i2 i3 l4 i5 b6 t7 v8 i9 i10 i11 i12 i13 l14 l15 i16 i17 i18 i19 i20 i21 i22 l23 l24 i25 i26)
 |0=>fun i0 i1 i2 i3 l4 i5 b6 t7 v8 i9 i10 i11 i12 i13 l14 l15 i16 i17 i18 i19 i20 i21 i22 l23 l24 i25 i26=>rfl
 |n+1=>by
  have ih:=R25 call icall a0 a1 a2 a3 a4 n
  exact fun i0 i1 i2 i3 l4 i5 b6 t7 v8 i9 i10 i11 i12 i13 l14 l15 i16 i17 i18 i19 i20 i21 i22 l23 l24 i25 i26=>(Rh call icall (RN 25 Tryz.f25 (O25 a0 a1 a2 a3 a4) call icall n) a0 a1 a2 a3 a4 i0 i1 i2 i3 l4 i5 b6 t7 v8 i9 i10 i11 i12 i13 l14 l15 i16 i17 i18 i19 i20 i21 i22 l23 l24 i25 i26).trans (by rw[show(fun i0 i1 i2 i3 l4 i5 b6 t7 v8 i9 i10 i11 i12 i13 l14 l15 i16 i17 i18 i19 i20 i21 i22 l23 l24 i25 i26=>RN 25 Tryz.f25 (O25 a0 a1 a2 a3 a4) call icall n (aL Tryz.f25 0) (CQ i0 i1 i2 i3 l4 i5 b6 t7 v8 i9 i10 i11 i12 i13 l14 l15 i16 i17 i18 i19 i20 i21 i22 l23 l24 i25 i26))=(L25 call n)from(funext fun i0=>funext fun i1=>funext fun i2=>funext fun i3=>funext fun l4=>funext fun i5=>funext fun b6=>funext fun t7=>funext fun v8=>funext fun i9=>funext fun i10=>funext fun i11=>funext fun i12=>funext fun i13=>funext fun l14=>funext fun l15=>funext fun i16=>funext fun i17=>funext fun i18=>funext fun i19=>funext fun i20=>funext fun i21=>funext fun i22=>funext fun l23=>funext fun l24=>funext fun i25=>funext fun i26=>ih i0 i1 i2 i3 l4 i5 b6 t7 v8 i9 i10 i11 i12 i13 l14 l15 i16 i17 i18 i19 i20 i21 i22 l23 l24 i25 i26)];rfl)
theorem C25 (k:Nat) (a0:List V) (a1:Int) (a2:Bool) (a3:Nat) (a4:V) (a5:Int) (a6:Int):aA cfg (k+1) 25 (A25 a5 a6) (O25 a0 a1 a2 a3 a4)=T25 (aA cfg k) (L25 (aA cfg k) k) a0 a1 a2 a3 a4 a5 a6:=by
 have ih:=R25 (aA cfg k) (aF cfg (aA cfg k) 20) a0 a1 a2 a3 a4 k
 refine(show aA cfg (k+1) 25 (A25 a5 a6) (O25 a0 a1 a2 a3 a4)=GO 25 Tryz.f25 (A25 a5 a6) (O25 a0 a1 a2 a3 a4) (aA cfg k) (aF cfg (aA cfg k) 20) (RN 25 Tryz.f25 (O25 a0 a1 a2 a3 a4) (aA cfg k) (aF cfg (aA cfg k) 20) k)by kernel_rfl).trans ((E25 _ _ _ a0 a1 a2 a3 a4 a5 a6).trans ?_)
 rw[show(fun i0 i1 i2 i3 l4 i5 b6 t7 v8 i9 i10 i11 i12 i13 l14 l15 i16 i17 i18 i19 i20 i21 i22 l23 l24 i25 i26=>RN 25 Tryz.f25 (O25 a0 a1 a2 a3 a4) (aA cfg k) (aF cfg (aA cfg k) 20) k (aL Tryz.f25 0) (CQ i0 i1 i2 i3 l4 i5 b6 t7 v8 i9 i10 i11 i12 i13 l14 l15 i16 i17 i18 i19 i20 i21 i22 l23 l24 i25 i26))=(L25 (aA cfg k) k)from(funext fun i0=>funext fun i1=>funext fun i2=>funext fun i3=>funext fun l4=>funext fun i5=>funext fun b6=>funext fun t7=>funext fun v8=>funext fun i9=>funext fun i10=>funext fun i11=>funext fun i12=>funext fun i13=>funext fun l14=>funext fun l15=>funext fun i16=>funext fun i17=>funext fun i18=>funext fun i19=>funext fun i20=>funext fun i21=>funext fun i22=>funext fun l23=>funext fun l24=>funext fun i25=>funext fun i26=>ih i0 i1 i2 i3 l4 i5 b6 t7 v8 i9 i10 i11 i12 i13 l14 l15 i16 i17 i18 i19 i20 i21 i22 l23 l24 i25 i26)]
theorem M25 (a0:List V) (a1:Int) (a2:Bool) (a3:Nat) (a4:V) (a5:Int) (a6:Int) {r:V×List Ob} (h:Evt (fun k n=>T25 (aA cfg k) (L25 (aA cfg k) n) a0 a1 a2 a3 a4 a5 a6) r):Ret 25 [V.ref 0 0,V.int IntKind.i64 a5,V.int IntKind.i64 a6] [Ob.cells [V.lst 5 false a0,V.int IntKind.i64 a1,V.ifo a2 a3 a4]] r:=aR (g:=fun k n=>T25 (aA cfg k) (L25 (aA cfg k) n) a0 a1 a2 a3 a4 a5 a6) (fun k=>C25 k a0 a1 a2 a3 a4 a5 a6) h
theorem LW (i0:Int) (i1:Int) (i2:Int) (i3:Int) (l4:List V) (i5:Int) (b6:Bool) (t7:Nat) (v8:V) (i9:Int) (i10:Int) (i11:Int) (i12:Int) (i13:Int) (l14:List V) (l15:List V) (i16:Int) (i17:Int) (i18:Int) (i19:Int) (i20:Int) (i21:Int) (i22:Int) (l23:List V) (l24:List V) (i25:Int) (i26:Int) {r:V×List Ob} (h:Evt (fun k n=>pI (aA cfg k) (L25 (aA cfg k) n) i0 i1 i2 i3 l4 i5 b6 t7 v8 i9 i10 i11 i12 i13 l14 l15 i16 i17 i18 i19 i20 i21 i22 l23 l24 i25 i26) r):Evt (fun k n=>(L25 (aA cfg k) n) i0 i1 i2 i3 l4 i5 b6 t7 v8 i9 i10 i11 i12 i13 l14 l15 i16 i17 i18 i19 i20 i21 i22 l23 l24 i25 i26) r:=aX (fun k n=>rfl) h
end Go.Proofs.YtgpofjbdjiajeaaGreatDoor
end
section
namespace Go.Proofs.YtgpofjbdjiajeaaGreatDoor
open Go.Ev Go
open List (headD tail)
open V (getI getL)
theorem IF:V.ifT (erV none)=0:=rfl
theorem IG:V.ifV (erV none)= .bot:=rfl
theorem Ng (e:Er):V.ifo e.isNone (V.ifT (erV e)) (V.ifV (erV e))=erV e:=by cases e<;>rfl
theorem Bh (q:Pt):getI (headD (tail (tail (tail (tail (V.cells (partV q)))))) V.bot)=((q.bd.2:Nat):Int):=by rw[Hz];rfl
theorem Gd (c:Nat×Nat):getI (headD (V.cells (cutV c)) V.bot)=((c.1:Nat):Int):=rfl
theorem Ge (c:Nat×Nat):getI (headD (tail (V.cells (cutV c))) V.bot)=((c.2:Nat):Int):=rfl
theorem IH (c:Nat×Nat):V.agg [.int .i64 ((c.1:Nat):Int), .int .i64 ((c.2:Nat):Int)]=cutV c:=rfl
theorem vF (b:Bs) (a:Nat) (p:Nat×Int) (i0 i1 i2 i3 j0 j1 j2 j3 j4:Int) (m0 m1:List V) (j5 j6 k0 k1 k2 k3 k4:Int) (l0 l1:List V) (k5 k6:Int):
  ∃v,Evt (fun k n=>L25 (aA cfg k) n i0 i1 i2 i3 (ofBytes b) ((a:Nat):Int) (Option.isNone (some p)) (V.ifT (erV (some p))) (V.ifV (erV (some p))) j0 j1 j2 j3 j4 m0 m1 j5 j6 k0 k1 k2 k3 k4 l0 l1 k5 k6) (v,[rdS b a (some p)]):=by
 obtain⟨v,hs⟩:=LV b i0 a p
 have ew:(if(decide (i3<i2))=true then some (Option.isNone (some p))else some false)=some false:=by cases decide (i3<i2)<;>rfl
 refine⟨?_,LW i0 i1 i2 i3 (ofBytes b) ((a:Nat):Int) (Option.isNone (some p)) (V.ifT (erV (some p))) (V.ifV (erV (some p))) j0 j1 j2 j3 j4 m0 m1 j5 j6 k0 k1 k2 k3 k4 l0 l1 k5 k6 ?_⟩
 rotate_left
 ·simp only[pI,ew,bA,Bool.false_eq_true,if_false,Ng]
  refine aB hs ?_
  simp only[cH,cI,cJ,bB]
  exact aD _
theorem Gf {c:Bool} {x y:Bool}:∃z:Bool,(if c=false then some x else some y)=some z:=by cases c<;>exact⟨_,rfl⟩
theorem LX (b:Bs) (at_ dp:Int):RdE 25 [.int .i64 at_, .int .i64 dp] b:=by
 intro a p
 obtain⟨v,hn⟩:=vE b a p
 obtain⟨y,hy⟩:= @Gf (decide (getI v>(2:Int))) (decide (dp>(32:Int))) true
 have hf:=qT b a (some p) 11
 refine⟨?_,M25 (ofBytes b) ((a:Nat):Int) false 110 (.cpt [.int .i64 ((p.1:Nat):Int), .ifc 32 (.int .i64 p.2)]) at_ dp ?_⟩
 rotate_left
 ·simp only[T25]
  refine aB hn ?_
  simp only[hy,bA]
  cases y
  ·simp only[Bool.false_eq_true,if_false,cH,cI,cJ,bB]
   refine aB hn ?_
   simp only[cH,cI,cJ,bB]
   refine aB hn ?_
   simp only[cH,cI,cJ,kP,bB,Option.isNone_some,Bool.not_false,if_true]
   exact aD _
  ·simp only[if_true,cH,cI,cJ,bB]
   refine aB hf ?_
   simp only[Option.or,cH,cI,cJ,bB]
   refine aB hn ?_
   simp only[cH,cI,cJ,bB]
   refine aB hn ?_
   simp only[cH,cI,cJ,kP,bB,Option.isNone_some,Bool.not_false,if_true]
   exact aD _
def qU (d n at_:Nat):Bs→PR ((List (Nat×Nat)×List Pt×Nat)×(Nat×Nat)):=dA (pH (fun a=>getT d a) n at_) fun t=>dA (iP t.2.2) fun e=>tN (t,e)
def LY (b:Bs) (d:Nat):Prop:=∀(a at_:Nat),a≤b.length→at_+1099511627776* (b.length - a)≤4611686018427387904→
 RdF 25 [.int .i64 ((at_:Nat):Int), .int .i64 ((33 - d:Nat):Int)] b a (getT d at_) partV
theorem D4 (b:Bs) (hb:b.length≤1000000) (d:Nat) (hd:d+1≤33) (ih:LY b d) (j0 j1 j2 j3 j4:Int) (m0 m1:List V) (j5 j6 k0 k1 k2 k3 k4:Int) (k5 k6:Int) (n:Nat) (hn:n≤1000):
  ∀(m i a at_:Nat) (ks:List Pt) (cs:List (Nat×Nat)),i+m=n→ks.length=i→cs.length=i→a≤b.length→at_+1099511627776* (b.length - a)≤4611686018427387904→
  (∀t e r,qU d m at_ (b.drop a)= .ok ((t,e),r)→∃a',a≤a'∧a'≤b.length∧r=b.drop a'∧
   Evt (fun k q=>L25 (aA cfg k) q (at_:Nat) ((33 - (d+1):Nat):Int) (n:Nat) (i:Nat) (ofBytes b) (a:Nat) true 0 .bot j0 j1 j2 j3 j4 m0 m1 j5 j6 k0 k1 k2 k3 k4 (ks.map partV) (cs.map cutV) k5 k6)
    (.agg [.int .i64 k0, .int .i64 k1, .int .i64 k2, .int .i64 k3, .int .i64 k4, .lst 31 false ((ks++t.2.1).map partV), .lst 27 false ((cs++t.1).map cutV), .int .i64 (e.1:Nat), .int .i64 (e.2:Nat)],[rdS b a' none]))∧
  (∀er,qU d m at_ (b.drop a)= .error er→∃v a' p,p.2=er∧
   Evt (fun k q=>L25 (aA cfg k) q (at_:Nat) ((33 - (d+1):Nat):Int) (n:Nat) (i:Nat) (ofBytes b) (a:Nat) true 0 .bot j0 j1 j2 j3 j4 m0 m1 j5 j6 k0 k1 k2 k3 k4 (ks.map partV) (cs.map cutV) k5 k6) (v,[rdS b a' (some p)]))
 |0,i,a,at_,ks,cs,hi,hk,hc,ha,hat=>by
  obtain⟨s1,s2⟩:=IE b hb a ha at_ hat
  have start:∀{res:V×List Ob},Evt (fun k q=>pI (aA cfg k) (L25 (aA cfg k) q) (at_:Nat) ((33 - (d+1):Nat):Int) (n:Nat) (i:Nat) (ofBytes b) (a:Nat) true 0 .bot j0 j1 j2 j3 j4 m0 m1 j5 j6 k0 k1 k2 k3 k4 (ks.map partV) (cs.map cutV) k5 k6) res→_:=fun h=>LW (at_:Nat) ((33 - (d+1):Nat):Int) (n:Nat) (i:Nat) (ofBytes b) (a:Nat) true 0 .bot j0 j1 j2 j3 j4 m0 m1 j5 j6 k0 k1 k2 k3 k4 (ks.map partV) (cs.map cutV) k5 k6 h
  have hlt:¬(((i:Nat):Int)<((n:Nat):Int)):=by omega
  refine⟨fun t e r h=>?_,fun er h=>?_⟩
  ·obtain⟨t',r1,h1,h2⟩:=bR h
   cases h1
   obtain⟨e',r2,h3,h4⟩:=bR h2
   cases h4
   obtain⟨a',g1,g2,g3,g4⟩:=s1 e r h3
   refine⟨a',g1,g2,g3,start ?_⟩
   simp only[pI,hlt,decide_false,Bool.false_eq_true,if_false,bA]
   refine aB g4 ?_
   simp only[cH,cI,cJ,bB,Gd,Ge,List.append_nil]
   exact aD _
  ·have h2:iP at_ (b.drop a)= .error er:=by
    cases hq:iP at_ (b.drop a)with
    |error m=>unfold qU at h;rw[pH,aY (rfl:tN _ _= .ok (_,_)),cA hq]at h;cases h;rfl
    |ok w=>unfold qU at h;rw[pH,aY (rfl:tN _ _= .ok (_,_)),aY (v:=w.1) (r:=w.2) hq]at h;cases h
   obtain⟨v,a',p,g1,g2⟩:=s2 er h2
   refine⟨?_,a',p,g1,start ?_⟩
   rotate_left
   ·simp only[pI,hlt,decide_false,Bool.false_eq_true,if_false,bA]
    refine aB g2 ?_
    simp only[cH,cI,cJ,bB]
    exact aD _
 |m+1,i,a,at_,ks,cs,hi,hk,hc,ha,hat=>by
  obtain⟨s1,s2⟩:=IE b hb a ha at_ hat
  have start:∀{res:V×List Ob},Evt (fun k q=>pI (aA cfg k) (L25 (aA cfg k) q) (at_:Nat) ((33 - (d+1):Nat):Int) (n:Nat) (i:Nat) (ofBytes b) (a:Nat) true 0 .bot j0 j1 j2 j3 j4 m0 m1 j5 j6 k0 k1 k2 k3 k4 (ks.map partV) (cs.map cutV) k5 k6) res→_:=fun h=>LW (at_:Nat) ((33 - (d+1):Nat):Int) (n:Nat) (i:Nat) (ofBytes b) (a:Nat) true 0 .bot j0 j1 j2 j3 j4 m0 m1 j5 j6 k0 k1 k2 k3 k4 (ks.map partV) (cs.map cutV) k5 k6 h
  have hlt:(((i:Nat):Int)<((n:Nat):Int)):=by omega
  have hw:IntKind.wrap .i64 (((i:Nat):Int)+1)=((i+1:Nat):Int):=by rw[wrap64 (by omega) (by omega)];omega
  have hw2:IntKind.wrap .i64 (((33 - (d+1):Nat):Int)+1)=((33 - d:Nat):Int):=by rw[wrap64 (by omega) (by omega)];omega
  have k1' :∀v:V,cK (cs.map cutV) [v] 17=true:=fun v=>gQ (by simp;omega)
  have k2' :∀v:V,cK (ks.map partV) [v] 105=true:=fun v=>gQ (by simp;omega)
  have hE:qU d (m+1) at_=dA (iP at_) fun c=>dA (getT d c.2) fun q=>dA (qU d m q.bd.2) fun w=>tN ((c::w.1.1,q::w.1.2.1,w.1.2.2),w.2):=by
   funext s
   unfold qU
   rw[pH]
   unfold dA
   cases iP at_ s with
   |error e=>rfl
   |ok c=>
    simp only
    cases getT d c.1.2 c.2 with
    |error e=>rfl
    |ok q=>
     simp only
     cases pH (fun a=>getT d a) m q.1.bd.2 q.2 with
     |error e=>rfl
     |ok t=>
      simp only[tN]
      cases iP t.1.2.2 t.2 with
      |error e=>rfl
      |ok e=>rfl
  rw[hE]
  refine⟨fun t e r h=>?_,fun er h=>?_⟩
  ·obtain⟨c,r1,h1,h2⟩:=bR h
   obtain⟨q,r2,h3,h4⟩:=bR h2
   obtain⟨w,r3,h5,h6⟩:=bR h4
   cases h6
   obtain⟨a1,g1,g2,g3,g4⟩:=s1 c r1 h1
   have hc1:=rM h1
   subst g3
   rw[List.length_drop,List.length_drop]at hc1
   obtain⟨a2,l1,l2,l3,l4⟩:=(ih a1 c.2 g2 (by omega)).1 q r2 h3
   obtain⟨_,_,hq3,_,_⟩:=yU _ _ _ _ _ h3
   subst l3
   rw[List.length_drop,List.length_drop]at hq3
   obtain⟨a3,u1,u2,u3,u4⟩:=(D4 b hb d hd ih j0 j1 j2 j3 j4 m0 m1 j5 j6 k0 k1 k2 k3 k4 k5 k6 n hn m (i+1) a2 q.bd.2 (ks++[q]) (cs++[c]) (by omega) (by simp[hk]) (by simp[hc]) l2 (by omega)).1 w.1 w.2 r h5
   refine⟨a3,by omega,u2,u3,start ?_⟩
   simp only[pI,hlt,decide_true,if_true,bA]
   refine aB g4 ?_
   simp only[cH,cI,cJ,bB,Gd,Ge,hw2]
   refine aB l4 ?_
   simp only[cH,cI,cJ,kP,Option.isNone_none,IF,IG,dS]
   simp only[Bh,IH,dG (k1' _),dG (k2' _),hw]
   rw[List.map_append,List.map_append]at u4
   simp only[List.append_assoc,List.singleton_append]at u4
   exact u4
  ·cases h1:iP at_ (b.drop a)with
   |error m=>
    rw[cA h1]at h
    cases h
    obtain⟨v,a',p,g1,g2⟩:=s2 er h1
    obtain⟨v2,g3⟩:=LX b (getI (headD (tail (V.cells v)) V.bot)) ((33 - d:Nat):Int) a' p
    obtain⟨v3,g4⟩:=vF b a' p (getI (headD (tail (tail (tail (tail (V.cells v2))))) V.bot)) ((33 - (d+1):Nat):Int) ((n:Nat):Int) ((i+1:Nat):Int) j0 j1 j2 j3 j4 m0 m1 j5 j6 k0 k1 k2 k3 k4
     (ks.map partV++[_]) (cs.map cutV++[_]) k5 k6
    refine⟨v3,a',p,g1,start ?_⟩
    simp only[pI,hlt,decide_true,if_true,bA]
    refine aB g2 ?_
    simp only[cH,cI,cJ,bB,hw2]
    refine aB g3 ?_
    simp only[cH,cI,cJ,kP,dG (k1' _),dG (k2' _),hw]
    exact g4
   |ok w1=>
    obtain⟨c,r1⟩:=w1
    rw[aY h1]at h
    obtain⟨a1,g1,g2,g3,g4⟩:=s1 c r1 h1
    have hc1:=rM h1
    subst g3
    rw[List.length_drop,List.length_drop]at hc1
    obtain⟨t1,t2⟩:=ih a1 c.2 g2 (by omega)
    cases h3:getT d c.2 (b.drop a1)with
    |error m=>
     rw[cA h3]at h
     cases h
     obtain⟨v2,a',p,e1,g5⟩:=t2 er h3
     obtain⟨v3,g6⟩:=vF b a' p (getI (headD (tail (tail (tail (tail (V.cells v2))))) V.bot)) ((33 - (d+1):Nat):Int) ((n:Nat):Int) ((i+1:Nat):Int) j0 j1 j2 j3 j4 m0 m1 j5 j6 k0 k1 k2 k3 k4
      (ks.map partV++[_]) (cs.map cutV++[_]) k5 k6
     refine⟨v3,a',p,e1,start ?_⟩
     simp only[pI,hlt,decide_true,if_true,bA]
     refine aB g4 ?_
     simp only[cH,cI,cJ,bB,Gd,Ge,hw2]
     refine aB g5 ?_
     simp only[cH,cI,cJ,kP,dG (k1' _),dG (k2' _),hw]
     exact g6
    |ok w2=>
     obtain⟨q,r2⟩:=w2
     rw[aY h3]at h
     obtain⟨a2,l1,l2,l3,l4⟩:=t1 q r2 h3
     obtain⟨_,_,hq3,_,_⟩:=yU _ _ _ _ _ h3
     subst l3
     rw[List.length_drop,List.length_drop]at hq3
     cases h5:qU d m q.bd.2 (b.drop a2)with
     |ok w3=>rw[aY (v:=w3.1) (r:=w3.2) h5]at h;cases h
     |error m' =>
      rw[cA h5]at h
      cases h
      obtain⟨v,a3,p,u3,u4⟩:=(D4 b hb d hd ih j0 j1 j2 j3 j4 m0 m1 j5 j6 k0 k1 k2 k3 k4 k5 k6 n hn m (i+1) a2 q.bd.2 (ks++[q]) (cs++[c]) (by omega) (by simp[hk]) (by simp[hc]) l2 (by omega)).2 er h5
      refine⟨v,a3,p,u3,start ?_⟩
      simp only[pI,hlt,decide_true,if_true,bA]
      refine aB g4 ?_
      simp only[cH,cI,cJ,bB,Gd,Ge,hw2]
      refine aB l4 ?_
      simp only[cH,cI,cJ,kP,Option.isNone_none,IF,IG,dS]
      simp only[Bh,IH,dG (k1' _),dG (k2' _),hw]
      rw[List.map_append,List.map_append]at u4
      exact u4
theorem Nh {x:Int} {d:Nat} (hx:¬x>2) (hd:d+1≤33):(if(decide (x>(2:Int)))=false then some (decide (((33 - (d+1):Nat):Int)>(32:Int)))else some true)=some false:=by
 rw[decide_eq_false hx,if_pos rfl,decide_eq_false (by omega)]
theorem Ph {x dp:Int} (h:x>2∨dp>32):(if(decide (x>(2:Int)))=false then some (decide (dp>(32:Int)))else some true)=some true:=by
 by_cases hx:x>2
 ·rw[decide_eq_true hx,if_neg (by decide)]
 ·rw[decide_eq_false hx,if_pos rfl,decide_eq_true (by omega)]
theorem rN (b:Bs) (at_ dp:Int) (a a1:Nat) (v0:V) (e0:Er) (p:Nat×Int) (h0:Ret 22 [.ref 0 0] [rdS b a none] (v0,[rdS b a1 e0]))
  (h:e0=some p∨(e0=none∧(getI v0>2∨dp>32)∧p=(a1,11))):∃v,Ret 25 [.ref 0 0, .int .i64 at_, .int .i64 dp] [rdS b a none] (v,[rdS b a1 (some p)]):=by
 obtain⟨v,hn⟩:=vE b a1 p
 obtain⟨y,hy⟩:= @Gf (decide (getI v0>(2:Int))) (decide (dp>(32:Int))) true
 have hf:=qT b a1 e0 11
 have he:e0.or (some (a1,11))=some p:=by
  rcases h with rfl|⟨rfl,_,rfl⟩<;>rfl
 rw[he]at hf
 have hy0:y=false→e0=some p:=by
  intro hy0
  rcases h with h|⟨_,h,_⟩
  ·exact h
  ·rw[Ph h]at hy
   cases hy
   cases hy0
 refine⟨?_,M25 (ofBytes b) ((a:Nat):Int) true 0 .bot at_ dp ?_⟩
 rotate_left
 ·simp only[T25]
  refine aB h0 ?_
  simp only[hy,bA]
  cases y
  ·have:=hy0 rfl
   subst this
   simp only[Bool.false_eq_true,if_false,cH,cI,cJ,bB]
   refine aB hn ?_
   simp only[cH,cI,cJ,bB]
   refine aB hn ?_
   simp only[cH,cI,cJ,kP,bB,Option.isNone_some,Bool.not_false,if_true]
   exact aD _
  ·simp only[if_true,cH,cI,cJ,bB]
   refine aB hf ?_
   simp only[cH,cI,cJ,bB]
   refine aB hn ?_
   simp only[cH,cI,cJ,bB]
   refine aB hn ?_
   simp only[cH,cI,cJ,kP,bB,Option.isNone_some,Bool.not_false,if_true]
   exact aD _
end Go.Proofs.YtgpofjbdjiajeaaGreatDoor
end
