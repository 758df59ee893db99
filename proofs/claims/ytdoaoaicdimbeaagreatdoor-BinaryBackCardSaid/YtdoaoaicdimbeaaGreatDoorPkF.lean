/- Lemmas for the claim, merged: the plain reading of the program's functions, its soundness, and what they compute. -/
import Derived.Test.YtdoaoaicdimbeaaGreatDoorPkE
import Derived.KernelRfl
import Derived.ChangeSlices
import Derived.Lib.LaidTab
set_option linter.all false
set_option linter.unusedVariables false
set_option linter.unusedSimpArgs false
section
namespace Go.Proofs.YtdoaoaicdimbeaaGreatDoor
open Go.Ev Go
open List (headD tail getD length drop take)
open V (getI getL getT getS getB)
set_option maxRecDepth 100000
variable (call : FuncId → Fun) (icall : aQ (V × List Ob)) (again : List It → St → Option (V × List Ob))
def T82 (call:FuncId→Fun) (a0:List V) (a1:Int) (a2:Int):Option (V×List Ob):=
 Option.bind (call 74 [(V.agg [(V.int .i64 a1),(V.int .i64 a2)]),(V.int .i64 ((length a0:Nat):Int))] []) fun z0=>
 if(!(getB z0.1))=true then
 some ((V.lst 5 false []),[])
 else
 chk (decide (0≤a2)) (chk (decide (a2≤((length a0:Nat):Int))) (chk (decide (0≤a1)) (chk (decide (a1≤a2)) (Option.bind (call 75 [(V.lst 5 false (drop (Int.toNat a1) (take (Int.toNat a2) a0)))] []) fun z1=>
 some ((V.lst 5 false (getL z1.1)),[])))))
def A82 (a0:List V) (a1:Int) (a2:Int):List V:=[V.lst 5 false a0,V.agg [V.int IntKind.i64 a1,V.int IntKind.i64 a2]]
theorem E82 (a0:List V) (a1:Int) (a2:Int):GO 82 Tryz.f82 (A82 a0 a1 a2) [] call icall again=T82 call a0 a1 a2:=by kernel_rfl
theorem C82 (k:Nat) (a0:List V) (a1:Int) (a2:Int):aA cfg (k+1) 82 (A82 a0 a1 a2) []=T82 (aA cfg k) a0 a1 a2:=
 (show aA cfg (k+1) 82 (A82 a0 a1 a2) []=GO 82 Tryz.f82 (A82 a0 a1 a2) [] (aA cfg k) (aE cfg (aA cfg k) 20) (RN 82 Tryz.f82 [] (aA cfg k) (aE cfg (aA cfg k) 20) k)by kernel_rfl).trans (E82 _ _ _ a0 a1 a2)
theorem M82 (a0:List V) (a1:Int) (a2:Int) {r:V×List Ob} (h:Evt (fun k n=>T82 (aA cfg k) a0 a1 a2) r):Ret 82 [V.lst 5 false a0,V.agg [V.int IntKind.i64 a1,V.int IntKind.i64 a2]] [] r:=aS (g:=fun k n=>T82 (aA cfg k) a0 a1 a2) (fun k=>C82 k a0 a1 a2) h
def T76 (call:FuncId→Fun) (a0:Int) (a1:Int) (a2:Int) (a3:Int) (a4:Int) (a5:List V) (a6:List V) (a7:Int) (a8:Int) (a9:Int):Option (V×List Ob):=
 if(a0==(1:Int))=true then
 Option.bind (if(decide (a9<(1:Int)))=false then
 some (decide (a9>((length a5:Nat):Int)))
 else
 some true) fun y0=>
 if y0=true then
 some ((V.tup [(V.agg [(V.int .i64 0),(V.int .i64 0),(V.int .i64 0),(V.int .i64 0),(V.int .i64 0),(V.lst 36 false []),(V.lst 32 false []),(V.int .i64 0),(V.int .i64 0)]),(V.bool false)]),[])
 else
 chk (decide (0≤(IntKind.wrap .i64 (a9 - (1:Int))))) (chk (decide ((IntKind.wrap .i64 (a9 - (1:Int)))<((length a5:Nat):Int))) (some ((V.tup [(V.agg [(V.int .i64 (getI (headD (V.cells (getD a5 (Int.toNat (IntKind.wrap .i64 (a9 - (1:Int)))) V.bot)) V.bot))),(V.int .i64 (getI (headD (tail (V.cells (getD a5 (Int.toNat (IntKind.wrap .i64 (a9 - (1:Int)))) V.bot))) V.bot))),(V.int .i64 (getI (headD (tail (tail (V.cells (getD a5 (Int.toNat (IntKind.wrap .i64 (a9 - (1:Int)))) V.bot)))) V.bot))),(V.int .i64 (getI (headD (tail (tail (tail (V.cells (getD a5 (Int.toNat (IntKind.wrap .i64 (a9 - (1:Int)))) V.bot))))) V.bot))),(V.int .i64 (getI (headD (tail (tail (tail (tail (V.cells (getD a5 (Int.toNat (IntKind.wrap .i64 (a9 - (1:Int)))) V.bot)))))) V.bot))),(V.lst 36 false (getL (headD (tail (tail (tail (tail (tail (V.cells (getD a5 (Int.toNat (IntKind.wrap .i64 (a9 - (1:Int)))) V.bot))))))) V.bot))),(V.lst 32 false (getL (headD (tail (tail (tail (tail (tail (tail (V.cells (getD a5 (Int.toNat (IntKind.wrap .i64 (a9 - (1:Int)))) V.bot)))))))) V.bot))),(V.int .i64 (getI (headD (tail (tail (tail (tail (tail (tail (tail (V.cells (getD a5 (Int.toNat (IntKind.wrap .i64 (a9 - (1:Int)))) V.bot))))))))) V.bot))),(V.int .i64 (getI (headD (tail (tail (tail (tail (tail (tail (tail (tail (V.cells (getD a5 (Int.toNat (IntKind.wrap .i64 (a9 - (1:Int)))) V.bot)))))))))) V.bot)))]),(V.bool true)]),[])))
 else
 if(a9==(1:Int))=true then
 some ((V.tup [(V.agg [(V.int .i64 a0),(V.int .i64 a1),(V.int .i64 a2),(V.int .i64 a3),(V.int .i64 a4),(V.lst 36 false a5),(V.lst 32 false a6),(V.int .i64 a7),(V.int .i64 a8)]),(V.bool true)]),[])
 else
 some ((V.tup [(V.agg [(V.int .i64 0),(V.int .i64 0),(V.int .i64 0),(V.int .i64 0),(V.int .i64 0),(V.lst 36 false []),(V.lst 32 false []),(V.int .i64 0),(V.int .i64 0)]),(V.bool false)]),[])
def A76 (a0:Int) (a1:Int) (a2:Int) (a3:Int) (a4:Int) (a5:List V) (a6:List V) (a7:Int) (a8:Int) (a9:Int):List V:=[V.agg [V.int IntKind.i64 a0,V.int IntKind.i64 a1,V.int IntKind.i64 a2,V.int IntKind.i64 a3,V.int IntKind.i64 a4,V.lst 36 false a5,V.lst 32 false a6,V.int IntKind.i64 a7,V.int IntKind.i64 a8],V.int IntKind.i64 a9]
theorem E76 (a0:Int) (a1:Int) (a2:Int) (a3:Int) (a4:Int) (a5:List V) (a6:List V) (a7:Int) (a8:Int) (a9:Int):GO 76 Tryz.f76 (A76 a0 a1 a2 a3 a4 a5 a6 a7 a8 a9) [] call icall again=T76 call a0 a1 a2 a3 a4 a5 a6 a7 a8 a9:=by kernel_rfl
theorem C76 (k:Nat) (a0:Int) (a1:Int) (a2:Int) (a3:Int) (a4:Int) (a5:List V) (a6:List V) (a7:Int) (a8:Int) (a9:Int):aA cfg (k+1) 76 (A76 a0 a1 a2 a3 a4 a5 a6 a7 a8 a9) []=T76 (aA cfg k) a0 a1 a2 a3 a4 a5 a6 a7 a8 a9:=
 (show aA cfg (k+1) 76 (A76 a0 a1 a2 a3 a4 a5 a6 a7 a8 a9) []=GO 76 Tryz.f76 (A76 a0 a1 a2 a3 a4 a5 a6 a7 a8 a9) [] (aA cfg k) (aE cfg (aA cfg k) 20) (RN 76 Tryz.f76 [] (aA cfg k) (aE cfg (aA cfg k) 20) k)by kernel_rfl).trans (E76 _ _ _ a0 a1 a2 a3 a4 a5 a6 a7 a8 a9)
theorem M76 (a0:Int) (a1:Int) (a2:Int) (a3:Int) (a4:Int) (a5:List V) (a6:List V) (a7:Int) (a8:Int) (a9:Int) {r:V×List Ob} (h:Evt (fun k n=>T76 (aA cfg k) a0 a1 a2 a3 a4 a5 a6 a7 a8 a9) r):Ret 76 [V.agg [V.int IntKind.i64 a0,V.int IntKind.i64 a1,V.int IntKind.i64 a2,V.int IntKind.i64 a3,V.int IntKind.i64 a4,V.lst 36 false a5,V.lst 32 false a6,V.int IntKind.i64 a7,V.int IntKind.i64 a8],V.int IntKind.i64 a9] [] r:=aS (g:=fun k n=>T76 (aA cfg k) a0 a1 a2 a3 a4 a5 a6 a7 a8 a9) (fun k=>C76 k a0 a1 a2 a3 a4 a5 a6 a7 a8 a9) h
def zQ (call:FuncId→Fun) (ag0:Bool→List V→Int→Int→Int→Int→Int→Int→Int→List V→List V→Int→Int→Int→Int→Int→Int→Int→List V→List V→Int→Int→Option (V×List Ob)) (b0:Bool) (l1:List V) (i2:Int) (i3:Int) (i4:Int) (i5:Int) (i6:Int) (i7:Int) (i8:Int) (l9:List V) (l10:List V) (i11:Int) (i12:Int) (i13:Int) (i14:Int) (i15:Int) (i16:Int) (i17:Int) (l18:List V) (l19:List V) (i20:Int) (i21:Int):Option (V×List Ob):=
 if(decide (i3<i2))=true then
 chk (decide (0≤i3)) (chk (decide (i3<((length l1:Nat):Int))) (if(decide (i3>(0:Int)))=true then
 Option.bind (if(i4==(2:Int))=true then
 some (decide (((length l9:Nat):Int)>(0:Int)))
 else
 some false) fun y0=>
 if y0=true then
 chk (decide (0≤(0:Int))) (chk (decide ((0:Int)<((length l9:Nat):Int))) (Option.bind (call 76 [(V.agg [(V.int .i64 (getI (headD (V.cells (getD l9 (Int.toNat (0:Int)) V.bot)) V.bot))),(V.int .i64 (getI (headD (tail (V.cells (getD l9 (Int.toNat (0:Int)) V.bot))) V.bot))),(V.int .i64 (getI (headD (tail (tail (V.cells (getD l9 (Int.toNat (0:Int)) V.bot)))) V.bot))),(V.int .i64 (getI (headD (tail (tail (tail (V.cells (getD l9 (Int.toNat (0:Int)) V.bot))))) V.bot))),(V.int .i64 (getI (headD (tail (tail (tail (tail (V.cells (getD l9 (Int.toNat (0:Int)) V.bot)))))) V.bot))),(V.lst 36 false (getL (headD (tail (tail (tail (tail (tail (V.cells (getD l9 (Int.toNat (0:Int)) V.bot))))))) V.bot))),(V.lst 32 false (getL (headD (tail (tail (tail (tail (tail (tail (V.cells (getD l9 (Int.toNat (0:Int)) V.bot)))))))) V.bot))),(V.int .i64 (getI (headD (tail (tail (tail (tail (tail (tail (tail (V.cells (getD l9 (Int.toNat (0:Int)) V.bot))))))))) V.bot))),(V.int .i64 (getI (headD (tail (tail (tail (tail (tail (tail (tail (tail (V.cells (getD l9 (Int.toNat (0:Int)) V.bot)))))))))) V.bot)))]),(V.int .i64 (getI (getD l1 (Int.toNat i3) V.bot)))] []) fun z1=>
 if(!(getB (headD (tail (getT z1.1)) V.bot)))=true then
 if(!(getB (headD (tail (getT z1.1)) V.bot)))=true then
 some ((V.tup [(V.agg [(V.int .i64 0),(V.int .i64 0),(V.int .i64 0),(V.int .i64 0),(V.int .i64 0),(V.lst 36 false []),(V.lst 32 false []),(V.int .i64 0),(V.int .i64 0)]),(V.bool false)]),[])
 else
 some ((V.tup [(V.agg [(V.int .i64 (getI (headD (V.cells (headD (getT z1.1) V.bot)) V.bot))),(V.int .i64 (getI (headD (tail (V.cells (headD (getT z1.1) V.bot))) V.bot))),(V.int .i64 (getI (headD (tail (tail (V.cells (headD (getT z1.1) V.bot)))) V.bot))),(V.int .i64 (getI (headD (tail (tail (tail (V.cells (headD (getT z1.1) V.bot))))) V.bot))),(V.int .i64 (getI (headD (tail (tail (tail (tail (V.cells (headD (getT z1.1) V.bot)))))) V.bot))),(V.lst 36 false (getL (headD (tail (tail (tail (tail (tail (V.cells (headD (getT z1.1) V.bot))))))) V.bot))),(V.lst 32 false (getL (headD (tail (tail (tail (tail (tail (tail (V.cells (headD (getT z1.1) V.bot)))))))) V.bot))),(V.int .i64 (getI (headD (tail (tail (tail (tail (tail (tail (tail (V.cells (headD (getT z1.1) V.bot))))))))) V.bot))),(V.int .i64 (getI (headD (tail (tail (tail (tail (tail (tail (tail (tail (V.cells (headD (getT z1.1) V.bot)))))))))) V.bot)))]),(V.bool true)]),[])
 else
 (ag0 ((getB (headD (tail (getT z1.1)) V.bot))) (l1) (i2) ((IntKind.wrap .i64 (i3+(1:Int)))) ((getI (headD (V.cells (headD (getT z1.1) V.bot)) V.bot))) ((getI (headD (tail (V.cells (headD (getT z1.1) V.bot))) V.bot))) ((getI (headD (tail (tail (V.cells (headD (getT z1.1) V.bot)))) V.bot))) ((getI (headD (tail (tail (tail (V.cells (headD (getT z1.1) V.bot))))) V.bot))) ((getI (headD (tail (tail (tail (tail (V.cells (headD (getT z1.1) V.bot)))))) V.bot))) ((getL (headD (tail (tail (tail (tail (tail (V.cells (headD (getT z1.1) V.bot))))))) V.bot))) ((getL (headD (tail (tail (tail (tail (tail (tail (V.cells (headD (getT z1.1) V.bot)))))))) V.bot))) ((getI (headD (tail (tail (tail (tail (tail (tail (tail (V.cells (headD (getT z1.1) V.bot))))))))) V.bot))) ((getI (headD (tail (tail (tail (tail (tail (tail (tail (tail (V.cells (headD (getT z1.1) V.bot)))))))))) V.bot))) (i13) (i14) (i15) (i16) (i17) (l18) (l19) (i20) (i21))))
 else
 if(i4 != (1:Int))=true then
 if(!false)=true then
 some ((V.tup [(V.agg [(V.int .i64 0),(V.int .i64 0),(V.int .i64 0),(V.int .i64 0),(V.int .i64 0),(V.lst 36 false []),(V.lst 32 false []),(V.int .i64 0),(V.int .i64 0)]),(V.bool false)]),[])
 else
 some ((V.tup [(V.agg [(V.int .i64 i4),(V.int .i64 i5),(V.int .i64 i6),(V.int .i64 i7),(V.int .i64 i8),(V.lst 36 false l9),(V.lst 32 false l10),(V.int .i64 i11),(V.int .i64 i12)]),(V.bool true)]),[])
 else
 Option.bind (call 76 [(V.agg [(V.int .i64 i4),(V.int .i64 i5),(V.int .i64 i6),(V.int .i64 i7),(V.int .i64 i8),(V.lst 36 false l9),(V.lst 32 false l10),(V.int .i64 i11),(V.int .i64 i12)]),(V.int .i64 (getI (getD l1 (Int.toNat i3) V.bot)))] []) fun z1=>
 if(!(getB (headD (tail (getT z1.1)) V.bot)))=true then
 if(!(getB (headD (tail (getT z1.1)) V.bot)))=true then
 some ((V.tup [(V.agg [(V.int .i64 0),(V.int .i64 0),(V.int .i64 0),(V.int .i64 0),(V.int .i64 0),(V.lst 36 false []),(V.lst 32 false []),(V.int .i64 0),(V.int .i64 0)]),(V.bool false)]),[])
 else
 some ((V.tup [(V.agg [(V.int .i64 (getI (headD (V.cells (headD (getT z1.1) V.bot)) V.bot))),(V.int .i64 (getI (headD (tail (V.cells (headD (getT z1.1) V.bot))) V.bot))),(V.int .i64 (getI (headD (tail (tail (V.cells (headD (getT z1.1) V.bot)))) V.bot))),(V.int .i64 (getI (headD (tail (tail (tail (V.cells (headD (getT z1.1) V.bot))))) V.bot))),(V.int .i64 (getI (headD (tail (tail (tail (tail (V.cells (headD (getT z1.1) V.bot)))))) V.bot))),(V.lst 36 false (getL (headD (tail (tail (tail (tail (tail (V.cells (headD (getT z1.1) V.bot))))))) V.bot))),(V.lst 32 false (getL (headD (tail (tail (tail (tail (tail (tail (V.cells (headD (getT z1.1) V.bot)))))))) V.bot))),(V.int .i64 (getI (headD (tail (tail (tail (tail (tail (tail (tail (V.cells (headD (getT z1.1) V.bot))))))))) V.bot))),(V.int .i64 (getI (headD (tail (tail (tail (tail (tail (tail (tail (tail (V.cells (headD (getT z1.1) V.bot)))))))))) V.bot)))]),(V.bool true)]),[])
 else
 (ag0 ((getB (headD (tail (getT z1.1)) V.bot))) (l1) (i2) ((IntKind.wrap .i64 (i3+(1:Int)))) ((getI (headD (V.cells (headD (getT z1.1) V.bot)) V.bot))) ((getI (headD (tail (V.cells (headD (getT z1.1) V.bot))) V.bot))) ((getI (headD (tail (tail (V.cells (headD (getT z1.1) V.bot)))) V.bot))) ((getI (headD (tail (tail (tail (V.cells (headD (getT z1.1) V.bot))))) V.bot))) ((getI (headD (tail (tail (tail (tail (V.cells (headD (getT z1.1) V.bot)))))) V.bot))) ((getL (headD (tail (tail (tail (tail (tail (V.cells (headD (getT z1.1) V.bot))))))) V.bot))) ((getL (headD (tail (tail (tail (tail (tail (tail (V.cells (headD (getT z1.1) V.bot)))))))) V.bot))) ((getI (headD (tail (tail (tail (tail (tail (tail (tail (V.cells (headD (getT z1.1) V.bot))))))))) V.bot))) ((getI (headD (tail (tail (tail (tail (tail (tail (tail (tail (V.cells (headD (getT z1.1) V.bot)))))))))) V.bot))) (i13) (i14) (i15) (i16) (i17) (l18) (l19) (i20) (i21))
 else
 Option.bind (call 76 [(V.agg [(V.int .i64 i4),(V.int .i64 i5),(V.int .i64 i6),(V.int .i64 i7),(V.int .i64 i8),(V.lst 36 false l9),(V.lst 32 false l10),(V.int .i64 i11),(V.int .i64 i12)]),(V.int .i64 (getI (getD l1 (Int.toNat i3) V.bot)))] []) fun z0=>
 if(!(getB (headD (tail (getT z0.1)) V.bot)))=true then
 if(!(getB (headD (tail (getT z0.1)) V.bot)))=true then
 some ((V.tup [(V.agg [(V.int .i64 0),(V.int .i64 0),(V.int .i64 0),(V.int .i64 0),(V.int .i64 0),(V.lst 36 false []),(V.lst 32 false []),(V.int .i64 0),(V.int .i64 0)]),(V.bool false)]),[])
 else
 some ((V.tup [(V.agg [(V.int .i64 (getI (headD (V.cells (headD (getT z0.1) V.bot)) V.bot))),(V.int .i64 (getI (headD (tail (V.cells (headD (getT z0.1) V.bot))) V.bot))),(V.int .i64 (getI (headD (tail (tail (V.cells (headD (getT z0.1) V.bot)))) V.bot))),(V.int .i64 (getI (headD (tail (tail (tail (V.cells (headD (getT z0.1) V.bot))))) V.bot))),(V.int .i64 (getI (headD (tail (tail (tail (tail (V.cells (headD (getT z0.1) V.bot)))))) V.bot))),(V.lst 36 false (getL (headD (tail (tail (tail (tail (tail (V.cells (headD (getT z0.1) V.bot))))))) V.bot))),(V.lst 32 false (getL (headD (tail (tail (tail (tail (tail (tail (V.cells (headD (getT z0.1) V.bot)))))))) V.bot))),(V.int .i64 (getI (headD (tail (tail (tail (tail (tail (tail (tail (V.cells (headD (getT z0.1) V.bot))))))))) V.bot))),(V.int .i64 (getI (headD (tail (tail (tail (tail (tail (tail (tail (tail (V.cells (headD (getT z0.1) V.bot)))))))))) V.bot)))]),(V.bool true)]),[])
 else
 (ag0 ((getB (headD (tail (getT z0.1)) V.bot))) (l1) (i2) ((IntKind.wrap .i64 (i3+(1:Int)))) ((getI (headD (V.cells (headD (getT z0.1) V.bot)) V.bot))) ((getI (headD (tail (V.cells (headD (getT z0.1) V.bot))) V.bot))) ((getI (headD (tail (tail (V.cells (headD (getT z0.1) V.bot)))) V.bot))) ((getI (headD (tail (tail (tail (V.cells (headD (getT z0.1) V.bot))))) V.bot))) ((getI (headD (tail (tail (tail (tail (V.cells (headD (getT z0.1) V.bot)))))) V.bot))) ((getL (headD (tail (tail (tail (tail (tail (V.cells (headD (getT z0.1) V.bot))))))) V.bot))) ((getL (headD (tail (tail (tail (tail (tail (tail (V.cells (headD (getT z0.1) V.bot)))))))) V.bot))) ((getI (headD (tail (tail (tail (tail (tail (tail (tail (V.cells (headD (getT z0.1) V.bot))))))))) V.bot))) ((getI (headD (tail (tail (tail (tail (tail (tail (tail (tail (V.cells (headD (getT z0.1) V.bot)))))))))) V.bot))) (i13) (i14) (i15) (i16) (i17) (l18) (l19) (i20) (i21))))
 else
 if(!b0)=true then
 some ((V.tup [(V.agg [(V.int .i64 0),(V.int .i64 0),(V.int .i64 0),(V.int .i64 0),(V.int .i64 0),(V.lst 36 false []),(V.lst 32 false []),(V.int .i64 0),(V.int .i64 0)]),(V.bool false)]),[])
 else
 some ((V.tup [(V.agg [(V.int .i64 i4),(V.int .i64 i5),(V.int .i64 i6),(V.int .i64 i7),(V.int .i64 i8),(V.lst 36 false l9),(V.lst 32 false l10),(V.int .i64 i11),(V.int .i64 i12)]),(V.bool true)]),[])
def T38 (call:FuncId→Fun) (ag0:Bool→List V→Int→Int→Int→Int→Int→Int→Int→List V→List V→Int→Int→Int→Int→Int→Int→Int→List V→List V→Int→Int→Option (V×List Ob)) (a0:Int) (a1:Int) (a2:Int) (a3:Int) (a4:Int) (a5:List V) (a6:List V) (a7:Int) (a8:Int) (a9:List V):Option (V×List Ob):=
 (ag0 (false) (a9) (((length a9:Nat):Int)) ((0:Int)) (a0) (a1) (a2) (a3) (a4) (a5) (a6) (a7) (a8) ((0:Int)) ((0:Int)) ((0:Int)) ((0:Int)) ((0:Int)) ([]) ([]) ((0:Int)) ((0:Int)))
def A38 (a0:Int) (a1:Int) (a2:Int) (a3:Int) (a4:Int) (a5:List V) (a6:List V) (a7:Int) (a8:Int) (a9:List V):List V:=[V.agg [V.int IntKind.i64 a0,V.int IntKind.i64 a1,V.int IntKind.i64 a2,V.int IntKind.i64 a3,V.int IntKind.i64 a4,V.lst 36 false a5,V.lst 32 false a6,V.int IntKind.i64 a7,V.int IntKind.i64 a8],V.lst 3 false a9]
def Bj (b0:Bool) (l1:List V) (i2:Int) (i3:Int) (i4:Int) (i5:Int) (i6:Int) (i7:Int) (i8:Int) (l9:List V) (l10:List V) (i11:Int) (i12:Int) (i13:Int) (i14:Int) (i15:Int) (i16:Int) (i17:Int) (l18:List V) (l19:List V) (i20:Int) (i21:Int):St:=⟨[V.bot,V.bot,(V.ref 0 0),V.bot,(V.ref 1 0),V.bot,(V.bool b0),V.bot,V.bot,(V.lst 3 false l1),(V.int IntKind.i64 i2),(V.int IntKind.i64 i3)]++List.replicate 37 V.bot,[(Ob.cells [(V.int IntKind.i64 i4),(V.int IntKind.i64 i5),(V.int IntKind.i64 i6),(V.int IntKind.i64 i7),(V.int IntKind.i64 i8),(V.lst 36 false l9),(V.lst 32 false l10),(V.int IntKind.i64 i11),(V.int IntKind.i64 i12)]),(Ob.cells [(V.int IntKind.i64 i13),(V.int IntKind.i64 i14),(V.int IntKind.i64 i15),(V.int IntKind.i64 i16),(V.int IntKind.i64 i17),(V.lst 36 true l18),(V.lst 32 true l19),(V.int IntKind.i64 i20),(V.int IntKind.i64 i21)])]⟩
theorem OD (b0:Bool) (l1:List V) (i2:Int) (i3:Int) (i4:Int) (i5:Int) (i6:Int) (i7:Int) (i8:Int) (l9:List V) (l10:List V) (i11:Int) (i12:Int) (i13:Int) (i14:Int) (i15:Int) (i16:Int) (i17:Int) (l18:List V) (l19:List V) (i20:Int) (i21:Int):
 RM 38 Tryz.f38 [] call icall again (aK Tryz.f38 0) (Bj b0 l1 i2 i3 i4 i5 i6 i7 i8 l9 l10 i11 i12 i13 i14 i15 i16 i17 l18 l19 i20 i21)=zQ call (fun b0 l1 i2 i3 i4 i5 i6 i7 i8 l9 l10 i11 i12 i13 i14 i15 i16 i17 l18 l19 i20 i21=>again (aK Tryz.f38 0) (Bj b0 l1 i2 i3 i4 i5 i6 i7 i8 l9 l10 i11 i12 i13 i14 i15 i16 i17 l18 l19 i20 i21)) b0 l1 i2 i3 i4 i5 i6 i7 i8 l9 l10 i11 i12 i13 i14 i15 i16 i17 l18 l19 i20 i21:=by kernel_rfl
theorem E38 (a0:Int) (a1:Int) (a2:Int) (a3:Int) (a4:Int) (a5:List V) (a6:List V) (a7:Int) (a8:Int) (a9:List V):GO 38 Tryz.f38 (A38 a0 a1 a2 a3 a4 a5 a6 a7 a8 a9) [] call icall again=T38 call (fun b0 l1 i2 i3 i4 i5 i6 i7 i8 l9 l10 i11 i12 i13 i14 i15 i16 i17 l18 l19 i20 i21=>again (aK Tryz.f38 0) (Bj b0 l1 i2 i3 i4 i5 i6 i7 i8 l9 l10 i11 i12 i13 i14 i15 i16 i17 l18 l19 i20 i21)) a0 a1 a2 a3 a4 a5 a6 a7 a8 a9:=by kernel_rfl
def L38 (call:FuncId→Fun):Nat→(Bool→List V→Int→Int→Int→Int→Int→Int→Int→List V→List V→Int→Int→Int→Int→Int→Int→Int→List V→List V→Int→Int→Option (V×List Ob))
 |0=>fun _ _ _ _ _ _ _ _ _ _ _ _ _ _ _ _ _ _ _ _ _ _=>none
 |n+1=>zQ call (L38 call n)
theorem R38 (call:FuncId→Fun) (icall:aQ (V×List Ob)):∀n,(∀(b0:Bool) (l1:List V) (i2:Int) (i3:Int) (i4:Int) (i5:Int) (i6:Int) (i7:Int) (i8:Int) (l9:List V) (l10:List V) (i11:Int) (i12:Int) (i13:Int) (i14:Int) (i15:Int) (i16:Int) (i17:Int) (l18:List V) (l19:List V) (i20:Int) (i21:Int),RN 38 Tryz.f38 [] call icall n (aK Tryz.f38 0) (Bj b0 l1 i2 i3 i4 i5 i6 i7 i8 l9 l10 i11 i12 i13 i14 i15 i16 i17 l18 l19 i20 i21)=(L38 call n) b0 l1 i2 i3 i4 i5 i6 i7 i8 l9 l10 i11 i12 i13 i14 i15 i16 i17 l18 l19 i20 i21)
 |0=>fun b0 l1 i2 i3 i4 i5 i6 i7 i8 l9 l10 i11 i12 i13 i14 i15 i16 i17 l18 l19 i20 i21=>rfl
 |n+1=>by
  have ih:=R38 call icall n
  exact fun b0 l1 i2 i3 i4 i5 i6 i7 i8 l9 l10 i11 i12 i13 i14 i15 i16 i17 l18 l19 i20 i21=>(OD call icall (RN 38 Tryz.f38 [] call icall n) b0 l1 i2 i3 i4 i5 i6 i7 i8 l9 l10 i11 i12 i13 i14 i15 i16 i17 l18 l19 i20 i21).trans (by rw[show(fun b0 l1 i2 i3 i4 i5 i6 i7 i8 l9 l10 i11 i12 i13 i14 i15 i16 i17 l18 l19 i20 i21=>RN 38 Tryz.f38 [] call icall n (aK Tryz.f38 0) (Bj b0 l1 i2 i3 i4 i5 i6 i7 i8 l9 l10 i11 i12 i13 i14 i15 i16 i17 l18 l19 i20 i21))=(L38 call n)from(funext fun b0=>funext fun l1=>funext fun i2=>funext fun i3=>funext fun i4=>funext fun i5=>funext fun i6=>funext fun i7=>funext fun i8=>funext fun l9=>funext fun l10=>funext fun i11=>funext fun i12=>funext fun i13=>funext fun i14=>funext fun i15=>funext fun i16=>funext fun i17=>funext fun l18=>funext fun l19=>funext fun i20=>funext fun i21=>ih b0 l1 i2 i3 i4 i5 i6 i7 i8 l9 l10 i11 i12 i13 i14 i15 i16 i17 l18 l19 i20 i21)];rfl)
theorem C38 (k:Nat) (a0:Int) (a1:Int) (a2:Int) (a3:Int) (a4:Int) (a5:List V) (a6:List V) (a7:Int) (a8:Int) (a9:List V):aA cfg (k+1) 38 (A38 a0 a1 a2 a3 a4 a5 a6 a7 a8 a9) []=T38 (aA cfg k) (L38 (aA cfg k) k) a0 a1 a2 a3 a4 a5 a6 a7 a8 a9:=by
 have ih:=R38 (aA cfg k) (aE cfg (aA cfg k) 20) k
 refine(show aA cfg (k+1) 38 (A38 a0 a1 a2 a3 a4 a5 a6 a7 a8 a9) []=GO 38 Tryz.f38 (A38 a0 a1 a2 a3 a4 a5 a6 a7 a8 a9) [] (aA cfg k) (aE cfg (aA cfg k) 20) (RN 38 Tryz.f38 [] (aA cfg k) (aE cfg (aA cfg k) 20) k)by kernel_rfl).trans ((E38 _ _ _ a0 a1 a2 a3 a4 a5 a6 a7 a8 a9).trans ?_)
 rw[show(fun b0 l1 i2 i3 i4 i5 i6 i7 i8 l9 l10 i11 i12 i13 i14 i15 i16 i17 l18 l19 i20 i21=>RN 38 Tryz.f38 [] (aA cfg k) (aE cfg (aA cfg k) 20) k (aK Tryz.f38 0) (Bj b0 l1 i2 i3 i4 i5 i6 i7 i8 l9 l10 i11 i12 i13 i14 i15 i16 i17 l18 l19 i20 i21))=(L38 (aA cfg k) k)from(funext fun b0=>funext fun l1=>funext fun i2=>funext fun i3=>funext fun i4=>funext fun i5=>funext fun i6=>funext fun i7=>funext fun i8=>funext fun l9=>funext fun l10=>funext fun i11=>funext fun i12=>funext fun i13=>funext fun i14=>funext fun i15=>funext fun i16=>funext fun i17=>funext fun l18=>funext fun l19=>funext fun i20=>funext fun i21=>ih b0 l1 i2 i3 i4 i5 i6 i7 i8 l9 l10 i11 i12 i13 i14 i15 i16 i17 l18 l19 i20 i21)]
theorem M38 (a0:Int) (a1:Int) (a2:Int) (a3:Int) (a4:Int) (a5:List V) (a6:List V) (a7:Int) (a8:Int) (a9:List V) {r:V×List Ob} (h:Evt (fun k n=>T38 (aA cfg k) (L38 (aA cfg k) n) a0 a1 a2 a3 a4 a5 a6 a7 a8 a9) r):Ret 38 [V.agg [V.int IntKind.i64 a0,V.int IntKind.i64 a1,V.int IntKind.i64 a2,V.int IntKind.i64 a3,V.int IntKind.i64 a4,V.lst 36 false a5,V.lst 32 false a6,V.int IntKind.i64 a7,V.int IntKind.i64 a8],V.lst 3 false a9] [] r:=aS (g:=fun k n=>T38 (aA cfg k) (L38 (aA cfg k) n) a0 a1 a2 a3 a4 a5 a6 a7 a8 a9) (fun k=>C38 k a0 a1 a2 a3 a4 a5 a6 a7 a8 a9) h
theorem IH (b0:Bool) (l1:List V) (i2:Int) (i3:Int) (i4:Int) (i5:Int) (i6:Int) (i7:Int) (i8:Int) (l9:List V) (l10:List V) (i11:Int) (i12:Int) (i13:Int) (i14:Int) (i15:Int) (i16:Int) (i17:Int) (l18:List V) (l19:List V) (i20:Int) (i21:Int) {r:V×List Ob} (h:Evt (fun k n=>zQ (aA cfg k) (L38 (aA cfg k) n) b0 l1 i2 i3 i4 i5 i6 i7 i8 l9 l10 i11 i12 i13 i14 i15 i16 i17 l18 l19 i20 i21) r):Evt (fun k n=>(L38 (aA cfg k) n) b0 l1 i2 i3 i4 i5 i6 i7 i8 l9 l10 i11 i12 i13 i14 i15 i16 i17 l18 l19 i20 i21) r:=aV (fun k n=>rfl) h
def DJ (call:FuncId→Fun) (ag0:Bool→List V→Int→Int→List V→Int→List V→Bool→Int→Int→Option (V×List Ob)) (ag1:Bool→List V→Int→Int→List V→Int→List V→Bool→Int→Int→Option (V×List Ob)) (b0:Bool) (l1:List V) (i2:Int) (i3:Int) (l4:List V) (i5:Int) (l6:List V) (b7:Bool) (i8:Int) (i9:Int):Option (V×List Ob):=
 if(decide (i3<i2))=true then
 chk (decide (0≤i3)) (chk (decide (i3<((length l1:Nat):Int))) (if b0=true then
 Option.bind (call 117 [(V.int .i64 (getI (getD l1 (Int.toNat i3) V.bot))),(V.int .i64 1)] []) fun z0=>
 (ag0 ((getB z0.1)) (l1) (i2) ((IntKind.wrap .i64 (i3+(1:Int)))) (l4) (i5) (l6) (b7) (i8) (i9))
 else
 (ag0 (false) (l1) (i2) ((IntKind.wrap .i64 (i3+(1:Int)))) (l4) (i5) (l6) (b7) (i8) (i9))))
 else
 (ag1 (b0) (l6) (((length l6:Nat):Int)) ((0:Int)) (l4) (i5) (l6) (b7) (i8) (i9))
def DK (call:FuncId→Fun) (ag0:Bool→List V→Int→Int→List V→Int→List V→Bool→Int→Int→Option (V×List Ob)) (ag1:Bool→List V→Int→Int→List V→Int→List V→Bool→Int→Int→Option (V×List Ob)) (b0:Bool) (l1:List V) (i2:Int) (i3:Int) (l4:List V) (i5:Int) (l6:List V) (b7:Bool) (i8:Int) (i9:Int):Option (V×List Ob):=
 if(decide (i3<i2))=true then
 chk (decide (0≤i3)) (chk (decide (i3<((length l1:Nat):Int))) (if b0=true then
 Option.bind (call 118 [(V.str (getS (getD l1 (Int.toNat i3) V.bot)))] []) fun z0=>
 (ag1 ((getB z0.1)) (l1) (i2) ((IntKind.wrap .i64 (i3+(1:Int)))) (l4) (i5) (l6) (b7) (i8) (i9))
 else
 (ag1 (false) (l1) (i2) ((IntKind.wrap .i64 (i3+(1:Int)))) (l4) (i5) (l6) (b7) (i8) (i9))))
 else
 Option.bind (call 119 [(V.agg [(V.lst 3 false l4),(V.int .i64 i5),(V.lst 9 false l6),(V.bool b7),(V.int .i64 i8),(V.int .i64 i9)])] []) fun z0=>
 if(getB z0.1)=true then
 Option.bind (if b0=true then
 if(decide (((length l6:Nat):Int)≥(1:Int)))=true then
 some (decide (((length l6:Nat):Int)≤(100:Int)))
 else
 some false
 else
 some false) fun y1=>
 if b7=true then
 if y1=true then
 Option.bind (call 117 [(V.int .i64 i8),(V.int .i64 0)] []) fun z2=>
 if(getB z2.1)=true then
 Option.bind (call 117 [(V.int .i64 i9),(V.int .i64 1)] []) fun z3=>
 if(!(getB z3.1))=true then
 some ((V.int .i64 1),[])
 else
 some ((V.int .i64 0),[])
 else
 if(!false)=true then
 some ((V.int .i64 1),[])
 else
 some ((V.int .i64 0),[])
 else
 if(!false)=true then
 some ((V.int .i64 1),[])
 else
 some ((V.int .i64 0),[])
 else
 Option.bind (if y1=true then
 if(i8==(0:Int))=true then
 some (i9==(0:Int))
 else
 some false
 else
 some false) fun y2=>
 if(!y2)=true then
 some ((V.int .i64 1),[])
 else
 some ((V.int .i64 0),[])
 else
 Option.bind (if b0=true then
 some (((length l6:Nat):Int)==(0:Int))
 else
 some false) fun y1=>
 if b7=true then
 if y1=true then
 Option.bind (call 117 [(V.int .i64 i8),(V.int .i64 0)] []) fun z2=>
 if(getB z2.1)=true then
 Option.bind (call 117 [(V.int .i64 i9),(V.int .i64 1)] []) fun z3=>
 if(!(getB z3.1))=true then
 some ((V.int .i64 1),[])
 else
 some ((V.int .i64 0),[])
 else
 if(!false)=true then
 some ((V.int .i64 1),[])
 else
 some ((V.int .i64 0),[])
 else
 if(!false)=true then
 some ((V.int .i64 1),[])
 else
 some ((V.int .i64 0),[])
 else
 Option.bind (if y1=true then
 if(i8==(0:Int))=true then
 some (i9==(0:Int))
 else
 some false
 else
 some false) fun y2=>
 if(!y2)=true then
 some ((V.int .i64 1),[])
 else
 some ((V.int .i64 0),[])
def T80 (call:FuncId→Fun) (ag0:Bool→List V→Int→Int→List V→Int→List V→Bool→Int→Int→Option (V×List Ob)) (ag1:Bool→List V→Int→Int→List V→Int→List V→Bool→Int→Int→Option (V×List Ob)) (a0:List V) (a1:Int) (a2:List V) (a3:Bool) (a4:Int) (a5:Int):Option (V×List Ob):=
 Option.bind (if(decide (((length a0:Nat):Int)≤(64:Int)))=true then
 if(decide (a1≥(0:Int)))=true then
 if(decide (a1≤(5:Int)))=true then
 if(a1 != (5:Int))=false then
 some (decide (((length a0:Nat):Int)>(0:Int)))
 else
 some true
 else
 some false
 else
 some false
 else
 some false) fun y0=>
 (ag0 (y0) (a0) (((length a0:Nat):Int)) ((0:Int)) (a0) (a1) (a2) (a3) (a4) (a5))
def A80 (a0:List V) (a1:Int) (a2:List V) (a3:Bool) (a4:Int) (a5:Int):List V:=[V.agg [V.lst 3 false a0,V.int IntKind.i64 a1,V.lst 9 false a2,V.bool a3,V.int IntKind.i64 a4,V.int IntKind.i64 a5]]
def vT (b0:Bool) (l1:List V) (i2:Int) (i3:Int) (l4:List V) (i5:Int) (l6:List V) (b7:Bool) (i8:Int) (i9:Int):St:=⟨[V.bot,(V.ref 0 0),V.bot,(V.bool b0),V.bot,V.bot,V.bot,V.bot,V.bot,V.bot,V.bot,V.bot,V.bot,V.bot,V.bot,V.bot,V.bot,V.bot,V.bot,V.bot,V.bot,V.bot,V.bot,V.bot,V.bot,V.bot,V.bot,V.bot,V.bot,V.bot,V.bot,V.bot,V.bot,V.bot,(V.lst 3 false l1),(V.int IntKind.i64 i2),(V.int IntKind.i64 i3)]++List.replicate 70 V.bot,[(Ob.cells [(V.lst 3 false l4),(V.int IntKind.i64 i5),(V.lst 9 false l6),(V.bool b7),(V.int IntKind.i64 i8),(V.int IntKind.i64 i9)])]⟩
def vU (b0:Bool) (l1:List V) (i2:Int) (i3:Int) (l4:List V) (i5:Int) (l6:List V) (b7:Bool) (i8:Int) (i9:Int):St:=⟨[V.bot,(V.ref 0 0),V.bot,(V.bool b0),V.bot,V.bot,V.bot,V.bot,V.bot,V.bot,V.bot,V.bot,V.bot,V.bot,V.bot,V.bot,V.bot,V.bot,V.bot,V.bot,V.bot,V.bot,V.bot,V.bot,V.bot,V.bot,V.bot,V.bot,V.bot,V.bot,V.bot,V.bot,V.bot,V.bot,V.bot,V.bot,V.bot,V.bot,V.bot,V.bot,V.bot,V.bot,V.bot,V.bot,V.bot,V.bot,V.bot,(V.lst 9 false l1),(V.int IntKind.i64 i2),(V.int IntKind.i64 i3)]++List.replicate 57 V.bot,[(Ob.cells [(V.lst 3 false l4),(V.int IntKind.i64 i5),(V.lst 9 false l6),(V.bool b7),(V.int IntKind.i64 i8),(V.int IntKind.i64 i9)])]⟩
theorem OE (b0:Bool) (l1:List V) (i2:Int) (i3:Int) (l4:List V) (i5:Int) (l6:List V) (b7:Bool) (i8:Int) (i9:Int):
 RM 80 Tryz.f80 [] call icall again (aK Tryz.f80 0) (vT b0 l1 i2 i3 l4 i5 l6 b7 i8 i9)=DJ call (fun b0 l1 i2 i3 l4 i5 l6 b7 i8 i9=>again (aK Tryz.f80 0) (vT b0 l1 i2 i3 l4 i5 l6 b7 i8 i9)) (fun b0 l1 i2 i3 l4 i5 l6 b7 i8 i9=>again (aK Tryz.f80 1) (vU b0 l1 i2 i3 l4 i5 l6 b7 i8 i9)) b0 l1 i2 i3 l4 i5 l6 b7 i8 i9:=by kernel_rfl
theorem OF (b0:Bool) (l1:List V) (i2:Int) (i3:Int) (l4:List V) (i5:Int) (l6:List V) (b7:Bool) (i8:Int) (i9:Int):
 RM 80 Tryz.f80 [] call icall again (aK Tryz.f80 1) (vU b0 l1 i2 i3 l4 i5 l6 b7 i8 i9)=DK call (fun b0 l1 i2 i3 l4 i5 l6 b7 i8 i9=>again (aK Tryz.f80 0) (vT b0 l1 i2 i3 l4 i5 l6 b7 i8 i9)) (fun b0 l1 i2 i3 l4 i5 l6 b7 i8 i9=>again (aK Tryz.f80 1) (vU b0 l1 i2 i3 l4 i5 l6 b7 i8 i9)) b0 l1 i2 i3 l4 i5 l6 b7 i8 i9:=by kernel_rfl
theorem E80 (a0:List V) (a1:Int) (a2:List V) (a3:Bool) (a4:Int) (a5:Int):GO 80 Tryz.f80 (A80 a0 a1 a2 a3 a4 a5) [] call icall again=T80 call (fun b0 l1 i2 i3 l4 i5 l6 b7 i8 i9=>again (aK Tryz.f80 0) (vT b0 l1 i2 i3 l4 i5 l6 b7 i8 i9)) (fun b0 l1 i2 i3 l4 i5 l6 b7 i8 i9=>again (aK Tryz.f80 1) (vU b0 l1 i2 i3 l4 i5 l6 b7 i8 i9)) a0 a1 a2 a3 a4 a5:=by kernel_rfl
def L80 (call:FuncId→Fun):Nat→(Bool→List V→Int→Int→List V→Int→List V→Bool→Int→Int→Option (V×List Ob))×(Bool→List V→Int→Int→List V→Int→List V→Bool→Int→Int→Option (V×List Ob))
 |0=>⟨fun _ _ _ _ _ _ _ _ _ _=>none,fun _ _ _ _ _ _ _ _ _ _=>none⟩
 |n+1=>⟨DJ call (L80 call n).1 (L80 call n).2,DK call (L80 call n).1 (L80 call n).2⟩
theorem R80 (call:FuncId→Fun) (icall:aQ (V×List Ob)):∀n,(∀(b0:Bool) (l1:List V) (i2:Int) (i3:Int) (l4:List V) (i5:Int) (l6:List V) (b7:Bool) (i8:Int) (i9:Int),RN 80 Tryz.f80 [] call icall n (aK Tryz.f80 0) (vT b0 l1 i2 i3 l4 i5 l6 b7 i8 i9)=(L80 call n).1 b0 l1 i2 i3 l4 i5 l6 b7 i8 i9)∧(∀(b0:Bool) (l1:List V) (i2:Int) (i3:Int) (l4:List V) (i5:Int) (l6:List V) (b7:Bool) (i8:Int) (i9:Int),RN 80 Tryz.f80 [] call icall n (aK Tryz.f80 1) (vU b0 l1 i2 i3 l4 i5 l6 b7 i8 i9)=(L80 call n).2 b0 l1 i2 i3 l4 i5 l6 b7 i8 i9)
 |0=>⟨fun b0 l1 i2 i3 l4 i5 l6 b7 i8 i9=>rfl,fun b0 l1 i2 i3 l4 i5 l6 b7 i8 i9=>rfl⟩
 |n+1=>by
  have ih:=R80 call icall n
  exact⟨fun b0 l1 i2 i3 l4 i5 l6 b7 i8 i9=>(OE call icall (RN 80 Tryz.f80 [] call icall n) b0 l1 i2 i3 l4 i5 l6 b7 i8 i9).trans (by rw[show(fun b0 l1 i2 i3 l4 i5 l6 b7 i8 i9=>RN 80 Tryz.f80 [] call icall n (aK Tryz.f80 0) (vT b0 l1 i2 i3 l4 i5 l6 b7 i8 i9))=(L80 call n).1 from(funext fun b0=>funext fun l1=>funext fun i2=>funext fun i3=>funext fun l4=>funext fun i5=>funext fun l6=>funext fun b7=>funext fun i8=>funext fun i9=>ih.1 b0 l1 i2 i3 l4 i5 l6 b7 i8 i9),show(fun b0 l1 i2 i3 l4 i5 l6 b7 i8 i9=>RN 80 Tryz.f80 [] call icall n (aK Tryz.f80 1) (vU b0 l1 i2 i3 l4 i5 l6 b7 i8 i9))=(L80 call n).2 from(funext fun b0=>funext fun l1=>funext fun i2=>funext fun i3=>funext fun l4=>funext fun i5=>funext fun l6=>funext fun b7=>funext fun i8=>funext fun i9=>ih.2 b0 l1 i2 i3 l4 i5 l6 b7 i8 i9)];rfl),
   fun b0 l1 i2 i3 l4 i5 l6 b7 i8 i9=>(OF call icall (RN 80 Tryz.f80 [] call icall n) b0 l1 i2 i3 l4 i5 l6 b7 i8 i9).trans (by rw[show(fun b0 l1 i2 i3 l4 i5 l6 b7 i8 i9=>RN 80 Tryz.f80 [] call icall n (aK Tryz.f80 0) (vT b0 l1 i2 i3 l4 i5 l6 b7 i8 i9))=(L80 call n).1 from(funext fun b0=>funext fun l1=>funext fun i2=>funext fun i3=>funext fun l4=>funext fun i5=>funext fun l6=>funext fun b7=>funext fun i8=>funext fun i9=>ih.1 b0 l1 i2 i3 l4 i5 l6 b7 i8 i9),show(fun b0 l1 i2 i3 l4 i5 l6 b7 i8 i9=>RN 80 Tryz.f80 [] call icall n (aK Tryz.f80 1) (vU b0 l1 i2 i3 l4 i5 l6 b7 i8 i9))=(L80 call n).2 from(funext fun b0=>funext fun l1=>funext fun i2=>funext fun i3=>funext fun l4=>funext fun i5=>funext fun l6=>funext fun b7=>funext fun i8=>funext fun i9=>ih.2 b0 l1 i2 i3 l4 i5 l6 b7 i8 i9)];rfl)⟩
theorem C80 (k:Nat) (a0:List V) (a1:Int) (a2:List V) (a3:Bool) (a4:Int) (a5:Int):aA cfg (k+1) 80 (A80 a0 a1 a2 a3 a4 a5) []=T80 (aA cfg k) (L80 (aA cfg k) k).1 (L80 (aA cfg k) k).2 a0 a1 a2 a3 a4 a5:=by
 have ih:=R80 (aA cfg k) (aE cfg (aA cfg k) 20) k
 refine(show aA cfg (k+1) 80 (A80 a0 a1 a2 a3 a4 a5) []=GO 80 Tryz.f80 (A80 a0 a1 a2 a3 a4 a5) [] (aA cfg k) (aE cfg (aA cfg k) 20) (RN 80 Tryz.f80 [] (aA cfg k) (aE cfg (aA cfg k) 20) k)by kernel_rfl).trans ((E80 _ _ _ a0 a1 a2 a3 a4 a5).trans ?_)
 rw[show(fun b0 l1 i2 i3 l4 i5 l6 b7 i8 i9=>RN 80 Tryz.f80 [] (aA cfg k) (aE cfg (aA cfg k) 20) k (aK Tryz.f80 0) (vT b0 l1 i2 i3 l4 i5 l6 b7 i8 i9))=(L80 (aA cfg k) k).1 from(funext fun b0=>funext fun l1=>funext fun i2=>funext fun i3=>funext fun l4=>funext fun i5=>funext fun l6=>funext fun b7=>funext fun i8=>funext fun i9=>ih.1 b0 l1 i2 i3 l4 i5 l6 b7 i8 i9),show(fun b0 l1 i2 i3 l4 i5 l6 b7 i8 i9=>RN 80 Tryz.f80 [] (aA cfg k) (aE cfg (aA cfg k) 20) k (aK Tryz.f80 1) (vU b0 l1 i2 i3 l4 i5 l6 b7 i8 i9))=(L80 (aA cfg k) k).2 from(funext fun b0=>funext fun l1=>funext fun i2=>funext fun i3=>funext fun l4=>funext fun i5=>funext fun l6=>funext fun b7=>funext fun i8=>funext fun i9=>ih.2 b0 l1 i2 i3 l4 i5 l6 b7 i8 i9)]
theorem M80 (a0:List V) (a1:Int) (a2:List V) (a3:Bool) (a4:Int) (a5:Int) {r:V×List Ob} (h:Evt (fun k n=>T80 (aA cfg k) (L80 (aA cfg k) n).1 (L80 (aA cfg k) n).2 a0 a1 a2 a3 a4 a5) r):Ret 80 [V.agg [V.lst 3 false a0,V.int IntKind.i64 a1,V.lst 9 false a2,V.bool a3,V.int IntKind.i64 a4,V.int IntKind.i64 a5]] [] r:=aS (g:=fun k n=>T80 (aA cfg k) (L80 (aA cfg k) n).1 (L80 (aA cfg k) n).2 a0 a1 a2 a3 a4 a5) (fun k=>C80 k a0 a1 a2 a3 a4 a5) h
theorem Le (b0:Bool) (l1:List V) (i2:Int) (i3:Int) (l4:List V) (i5:Int) (l6:List V) (b7:Bool) (i8:Int) (i9:Int) {r:V×List Ob} (h:Evt (fun k n=>DJ (aA cfg k) (L80 (aA cfg k) n).1 (L80 (aA cfg k) n).2 b0 l1 i2 i3 l4 i5 l6 b7 i8 i9) r):Evt (fun k n=>(L80 (aA cfg k) n).1 b0 l1 i2 i3 l4 i5 l6 b7 i8 i9) r:=aV (fun k n=>rfl) h
theorem Lf (b0:Bool) (l1:List V) (i2:Int) (i3:Int) (l4:List V) (i5:Int) (l6:List V) (b7:Bool) (i8:Int) (i9:Int) {r:V×List Ob} (h:Evt (fun k n=>DK (aA cfg k) (L80 (aA cfg k) n).1 (L80 (aA cfg k) n).2 b0 l1 i2 i3 l4 i5 l6 b7 i8 i9) r):Evt (fun k n=>(L80 (aA cfg k) n).2 b0 l1 i2 i3 l4 i5 l6 b7 i8 i9) r:=aV (fun k n=>rfl) h
def T81 (call:FuncId→Fun) (a0:List V) (a1:Int) (a2:Int) (a3:Int) (a4:Int) (a5:Int) (a6:List V) (a7:List V) (a8:Int) (a9:Int) (a10:List V) (a11:Int) (a12:List V) (a13:Bool) (a14:Int) (a15:Int):Option (V×List Ob):=
 if(a11==(0:Int))=true then
 Option.bind (call 82 [(V.lst 5 false a0),(V.agg [(V.int .i64 a2),(V.int .i64 a5)])] []) fun z0=>
 some ((V.lst 5 false (getL z0.1)),[])
 else
 if(a11==(1:Int))=true then
 Option.bind (call 82 [(V.lst 5 false a0),(V.agg [(V.int .i64 a2),(V.int .i64 a3)])] []) fun z0=>
 some ((V.lst 5 false (getL z0.1)),[])
 else
 if(a11==(4:Int))=true then
 Option.bind (call 82 [(V.lst 5 false a0),(V.agg [(V.int .i64 a4),(V.int .i64 a5)])] []) fun z0=>
 some ((V.lst 5 false (getL z0.1)),[])
 else
 if(a11==(3:Int))=true then
 Option.bind (call 32 [(V.lst 5 false a0),(V.agg [(V.int .i64 a2),(V.int .i64 a3)])] []) fun z0=>
 Option.bind (call 120 [(V.lst 5 false a0),(V.lst 91 false (getL (headD (getT z0.1) V.bot))),(V.lst 9 false a12),(V.bool true)] []) fun z1=>
 some ((V.lst 5 false (getL z1.1)),[])
 else
 if(a11==(2:Int))=true then
 Option.bind (call 32 [(V.lst 5 false a0),(V.agg [(V.int .i64 a2),(V.int .i64 a3)])] []) fun z0=>
 Option.bind (call 120 [(V.lst 5 false a0),(V.lst 91 false (getL (headD (getT z0.1) V.bot))),(V.lst 9 false a12),(V.bool false)] []) fun z1=>
 some ((V.lst 5 false (getL z1.1)),[])
 else
 some ((V.lst 5 false []),[])
def A81 (a0:List V) (a1:Int) (a2:Int) (a3:Int) (a4:Int) (a5:Int) (a6:List V) (a7:List V) (a8:Int) (a9:Int) (a10:List V) (a11:Int) (a12:List V) (a13:Bool) (a14:Int) (a15:Int):List V:=[V.lst 5 false a0,V.agg [V.int IntKind.i64 a1,V.int IntKind.i64 a2,V.int IntKind.i64 a3,V.int IntKind.i64 a4,V.int IntKind.i64 a5,V.lst 36 false a6,V.lst 32 false a7,V.int IntKind.i64 a8,V.int IntKind.i64 a9],V.agg [V.lst 3 false a10,V.int IntKind.i64 a11,V.lst 9 false a12,V.bool a13,V.int IntKind.i64 a14,V.int IntKind.i64 a15]]
theorem E81 (a0:List V) (a1:Int) (a2:Int) (a3:Int) (a4:Int) (a5:Int) (a6:List V) (a7:List V) (a8:Int) (a9:Int) (a10:List V) (a11:Int) (a12:List V) (a13:Bool) (a14:Int) (a15:Int):GO 81 Tryz.f81 (A81 a0 a1 a2 a3 a4 a5 a6 a7 a8 a9 a10 a11 a12 a13 a14 a15) [] call icall again=T81 call a0 a1 a2 a3 a4 a5 a6 a7 a8 a9 a10 a11 a12 a13 a14 a15:=by kernel_rfl
theorem C81 (k:Nat) (a0:List V) (a1:Int) (a2:Int) (a3:Int) (a4:Int) (a5:Int) (a6:List V) (a7:List V) (a8:Int) (a9:Int) (a10:List V) (a11:Int) (a12:List V) (a13:Bool) (a14:Int) (a15:Int):aA cfg (k+1) 81 (A81 a0 a1 a2 a3 a4 a5 a6 a7 a8 a9 a10 a11 a12 a13 a14 a15) []=T81 (aA cfg k) a0 a1 a2 a3 a4 a5 a6 a7 a8 a9 a10 a11 a12 a13 a14 a15:=
 (show aA cfg (k+1) 81 (A81 a0 a1 a2 a3 a4 a5 a6 a7 a8 a9 a10 a11 a12 a13 a14 a15) []=GO 81 Tryz.f81 (A81 a0 a1 a2 a3 a4 a5 a6 a7 a8 a9 a10 a11 a12 a13 a14 a15) [] (aA cfg k) (aE cfg (aA cfg k) 20) (RN 81 Tryz.f81 [] (aA cfg k) (aE cfg (aA cfg k) 20) k)by kernel_rfl).trans (E81 _ _ _ a0 a1 a2 a3 a4 a5 a6 a7 a8 a9 a10 a11 a12 a13 a14 a15)
theorem M81 (a0:List V) (a1:Int) (a2:Int) (a3:Int) (a4:Int) (a5:Int) (a6:List V) (a7:List V) (a8:Int) (a9:Int) (a10:List V) (a11:Int) (a12:List V) (a13:Bool) (a14:Int) (a15:Int) {r:V×List Ob} (h:Evt (fun k n=>T81 (aA cfg k) a0 a1 a2 a3 a4 a5 a6 a7 a8 a9 a10 a11 a12 a13 a14 a15) r):Ret 81 [V.lst 5 false a0,V.agg [V.int IntKind.i64 a1,V.int IntKind.i64 a2,V.int IntKind.i64 a3,V.int IntKind.i64 a4,V.int IntKind.i64 a5,V.lst 36 false a6,V.lst 32 false a7,V.int IntKind.i64 a8,V.int IntKind.i64 a9],V.agg [V.lst 3 false a10,V.int IntKind.i64 a11,V.lst 9 false a12,V.bool a13,V.int IntKind.i64 a14,V.int IntKind.i64 a15]] [] r:=aS (g:=fun k n=>T81 (aA cfg k) a0 a1 a2 a3 a4 a5 a6 a7 a8 a9 a10 a11 a12 a13 a14 a15) (fun k=>C81 k a0 a1 a2 a3 a4 a5 a6 a7 a8 a9 a10 a11 a12 a13 a14 a15) h
def T40 (call:FuncId→Fun) (a0:List V) (a1:Int) (a2:Int) (a3:Int) (a4:Int) (a5:Int) (a6:List V) (a7:List V) (a8:Int) (a9:Int) (a10:List V) (a11:Int) (a12:List V) (a13:Bool) (a14:Int) (a15:Int):Option (V×List Ob):=
 Option.bind (call 80 [(V.agg [(V.lst 3 false a10),(V.int .i64 a11),(V.lst 9 false a12),(V.bool a13),(V.int .i64 a14),(V.int .i64 a15)])] []) fun z0=>
 if((getI z0.1) != (0:Int))=true then
 some ((V.lst 5 false []),[])
 else
 if(((length a10:Nat):Int)==(0:Int))=true then
 Option.bind (call 81 [(V.lst 5 false a0),(V.agg [(V.int .i64 a1),(V.int .i64 a2),(V.int .i64 a3),(V.int .i64 a4),(V.int .i64 a5),(V.lst 36 false a6),(V.lst 32 false a7),(V.int .i64 a8),(V.int .i64 a9)]),(V.agg [(V.lst 3 false a10),(V.int .i64 a11),(V.lst 9 false a12),(V.bool a13),(V.int .i64 a14),(V.int .i64 a15)])] []) fun z1=>
 some ((V.lst 5 false (getL z1.1)),[])
 else
 Option.bind (call 38 [(V.agg [(V.int .i64 a1),(V.int .i64 a2),(V.int .i64 a3),(V.int .i64 a4),(V.int .i64 a5),(V.lst 36 false a6),(V.lst 32 false a7),(V.int .i64 a8),(V.int .i64 a9)]),(V.lst 3 false a10)] []) fun z1=>
 if(!(getB (headD (tail (getT z1.1)) V.bot)))=true then
 some ((V.lst 5 false []),[])
 else
 if(a11==(0:Int))=true then
 Option.bind (call 82 [(V.lst 5 false a0),(V.agg [(V.int .i64 (getI (headD (tail (tail (tail (V.cells (headD (getT z1.1) V.bot))))) V.bot))),(V.int .i64 (getI (headD (tail (tail (tail (tail (V.cells (headD (getT z1.1) V.bot)))))) V.bot)))])] []) fun z2=>
 some ((V.lst 5 false (getL z2.1)),[])
 else
 if(a11==(5:Int))=true then
 Option.bind (call 82 [(V.lst 5 false a0),(V.agg [(V.int .i64 (getI (headD (tail (V.cells (headD (getT z1.1) V.bot))) V.bot))),(V.int .i64 (getI (headD (tail (tail (V.cells (headD (getT z1.1) V.bot)))) V.bot)))])] []) fun z2=>
 some ((V.lst 5 false (getL z2.1)),[])
 else
 Option.bind (if((getI (headD (V.cells (headD (getT z1.1) V.bot)) V.bot))==(2:Int))=true then
 some (decide (((length (getL (headD (tail (tail (tail (tail (tail (V.cells (headD (getT z1.1) V.bot))))))) V.bot)):Nat):Int)>(0:Int)))
 else
 some false) fun y2=>
 if y2=true then
 chk (decide (0≤(0:Int))) (chk (decide ((0:Int)<((length (getL (headD (tail (tail (tail (tail (tail (V.cells (headD (getT z1.1) V.bot))))))) V.bot)):Nat):Int))) (Option.bind (call 81 [(V.lst 5 false a0),(V.agg [(V.int .i64 (getI (headD (V.cells (getD (getL (headD (tail (tail (tail (tail (tail (V.cells (headD (getT z1.1) V.bot))))))) V.bot)) (Int.toNat (0:Int)) V.bot)) V.bot))),(V.int .i64 (getI (headD (tail (V.cells (getD (getL (headD (tail (tail (tail (tail (tail (V.cells (headD (getT z1.1) V.bot))))))) V.bot)) (Int.toNat (0:Int)) V.bot))) V.bot))),(V.int .i64 (getI (headD (tail (tail (V.cells (getD (getL (headD (tail (tail (tail (tail (tail (V.cells (headD (getT z1.1) V.bot))))))) V.bot)) (Int.toNat (0:Int)) V.bot)))) V.bot))),(V.int .i64 (getI (headD (tail (tail (tail (V.cells (getD (getL (headD (tail (tail (tail (tail (tail (V.cells (headD (getT z1.1) V.bot))))))) V.bot)) (Int.toNat (0:Int)) V.bot))))) V.bot))),(V.int .i64 (getI (headD (tail (tail (tail (tail (V.cells (getD (getL (headD (tail (tail (tail (tail (tail (V.cells (headD (getT z1.1) V.bot))))))) V.bot)) (Int.toNat (0:Int)) V.bot)))))) V.bot))),(V.lst 36 false (getL (headD (tail (tail (tail (tail (tail (V.cells (getD (getL (headD (tail (tail (tail (tail (tail (V.cells (headD (getT z1.1) V.bot))))))) V.bot)) (Int.toNat (0:Int)) V.bot))))))) V.bot))),(V.lst 32 false (getL (headD (tail (tail (tail (tail (tail (tail (V.cells (getD (getL (headD (tail (tail (tail (tail (tail (V.cells (headD (getT z1.1) V.bot))))))) V.bot)) (Int.toNat (0:Int)) V.bot)))))))) V.bot))),(V.int .i64 (getI (headD (tail (tail (tail (tail (tail (tail (tail (V.cells (getD (getL (headD (tail (tail (tail (tail (tail (V.cells (headD (getT z1.1) V.bot))))))) V.bot)) (Int.toNat (0:Int)) V.bot))))))))) V.bot))),(V.int .i64 (getI (headD (tail (tail (tail (tail (tail (tail (tail (tail (V.cells (getD (getL (headD (tail (tail (tail (tail (tail (V.cells (headD (getT z1.1) V.bot))))))) V.bot)) (Int.toNat (0:Int)) V.bot)))))))))) V.bot)))]),(V.agg [(V.lst 3 false a10),(V.int .i64 a11),(V.lst 9 false a12),(V.bool a13),(V.int .i64 a14),(V.int .i64 a15)])] []) fun z3=>
 some ((V.lst 5 false (getL z3.1)),[])))
 else
 some ((V.lst 5 false []),[])
def A40 (a0:List V) (a1:Int) (a2:Int) (a3:Int) (a4:Int) (a5:Int) (a6:List V) (a7:List V) (a8:Int) (a9:Int) (a10:List V) (a11:Int) (a12:List V) (a13:Bool) (a14:Int) (a15:Int):List V:=[V.lst 5 false a0,V.agg [V.int IntKind.i64 a1,V.int IntKind.i64 a2,V.int IntKind.i64 a3,V.int IntKind.i64 a4,V.int IntKind.i64 a5,V.lst 36 false a6,V.lst 32 false a7,V.int IntKind.i64 a8,V.int IntKind.i64 a9],V.agg [V.lst 3 false a10,V.int IntKind.i64 a11,V.lst 9 false a12,V.bool a13,V.int IntKind.i64 a14,V.int IntKind.i64 a15]]
theorem E40 (a0:List V) (a1:Int) (a2:Int) (a3:Int) (a4:Int) (a5:Int) (a6:List V) (a7:List V) (a8:Int) (a9:Int) (a10:List V) (a11:Int) (a12:List V) (a13:Bool) (a14:Int) (a15:Int):GO 40 Tryz.f40 (A40 a0 a1 a2 a3 a4 a5 a6 a7 a8 a9 a10 a11 a12 a13 a14 a15) [] call icall again=T40 call a0 a1 a2 a3 a4 a5 a6 a7 a8 a9 a10 a11 a12 a13 a14 a15:=by kernel_rfl
theorem C40 (k:Nat) (a0:List V) (a1:Int) (a2:Int) (a3:Int) (a4:Int) (a5:Int) (a6:List V) (a7:List V) (a8:Int) (a9:Int) (a10:List V) (a11:Int) (a12:List V) (a13:Bool) (a14:Int) (a15:Int):aA cfg (k+1) 40 (A40 a0 a1 a2 a3 a4 a5 a6 a7 a8 a9 a10 a11 a12 a13 a14 a15) []=T40 (aA cfg k) a0 a1 a2 a3 a4 a5 a6 a7 a8 a9 a10 a11 a12 a13 a14 a15:=
 (show aA cfg (k+1) 40 (A40 a0 a1 a2 a3 a4 a5 a6 a7 a8 a9 a10 a11 a12 a13 a14 a15) []=GO 40 Tryz.f40 (A40 a0 a1 a2 a3 a4 a5 a6 a7 a8 a9 a10 a11 a12 a13 a14 a15) [] (aA cfg k) (aE cfg (aA cfg k) 20) (RN 40 Tryz.f40 [] (aA cfg k) (aE cfg (aA cfg k) 20) k)by kernel_rfl).trans (E40 _ _ _ a0 a1 a2 a3 a4 a5 a6 a7 a8 a9 a10 a11 a12 a13 a14 a15)
theorem M40 (a0:List V) (a1:Int) (a2:Int) (a3:Int) (a4:Int) (a5:Int) (a6:List V) (a7:List V) (a8:Int) (a9:Int) (a10:List V) (a11:Int) (a12:List V) (a13:Bool) (a14:Int) (a15:Int) {r:V×List Ob} (h:Evt (fun k n=>T40 (aA cfg k) a0 a1 a2 a3 a4 a5 a6 a7 a8 a9 a10 a11 a12 a13 a14 a15) r):Ret 40 [V.lst 5 false a0,V.agg [V.int IntKind.i64 a1,V.int IntKind.i64 a2,V.int IntKind.i64 a3,V.int IntKind.i64 a4,V.int IntKind.i64 a5,V.lst 36 false a6,V.lst 32 false a7,V.int IntKind.i64 a8,V.int IntKind.i64 a9],V.agg [V.lst 3 false a10,V.int IntKind.i64 a11,V.lst 9 false a12,V.bool a13,V.int IntKind.i64 a14,V.int IntKind.i64 a15]] [] r:=aS (g:=fun k n=>T40 (aA cfg k) a0 a1 a2 a3 a4 a5 a6 a7 a8 a9 a10 a11 a12 a13 a14 a15) (fun k=>C40 k a0 a1 a2 a3 a4 a5 a6 a7 a8 a9 a10 a11 a12 a13 a14 a15) h
def T19 (call:FuncId→Fun) (a0:List V) (a1:Int) (a2:Int) (a3:Int) (a4:Int) (a5:Int) (a6:List V) (a7:List V) (a8:Int) (a9:Int) (a10:List V) (a11:Int) (a12:List V) (a13:Bool) (a14:Int) (a15:Int):Option (V×List Ob):=
 Option.bind (call 40 [(V.lst 5 false a0),(V.agg [(V.int .i64 a1),(V.int .i64 a2),(V.int .i64 a3),(V.int .i64 a4),(V.int .i64 a5),(V.lst 36 false a6),(V.lst 32 false a7),(V.int .i64 a8),(V.int .i64 a9)]),(V.agg [(V.lst 3 false a10),(V.int .i64 a11),(V.lst 9 false a12),(V.bool a13),(V.int .i64 a14),(V.int .i64 a15)])] []) fun z0=>
 if a13=true then
 Option.bind (call 41 [(V.lst 5 false (getL z0.1)),(V.int .i64 a14),(V.int .i64 a15)] []) fun z1=>
 some ((V.lst 5 false (getL z1.1)),[])
 else
 some ((V.lst 5 false (getL z0.1)),[])
def A19 (a0:List V) (a1:Int) (a2:Int) (a3:Int) (a4:Int) (a5:Int) (a6:List V) (a7:List V) (a8:Int) (a9:Int) (a10:List V) (a11:Int) (a12:List V) (a13:Bool) (a14:Int) (a15:Int):List V:=[V.lst 5 false a0,V.agg [V.int IntKind.i64 a1,V.int IntKind.i64 a2,V.int IntKind.i64 a3,V.int IntKind.i64 a4,V.int IntKind.i64 a5,V.lst 36 false a6,V.lst 32 false a7,V.int IntKind.i64 a8,V.int IntKind.i64 a9],V.agg [V.lst 3 false a10,V.int IntKind.i64 a11,V.lst 9 false a12,V.bool a13,V.int IntKind.i64 a14,V.int IntKind.i64 a15]]
theorem E19 (a0:List V) (a1:Int) (a2:Int) (a3:Int) (a4:Int) (a5:Int) (a6:List V) (a7:List V) (a8:Int) (a9:Int) (a10:List V) (a11:Int) (a12:List V) (a13:Bool) (a14:Int) (a15:Int):GO 19 Tryz.f19 (A19 a0 a1 a2 a3 a4 a5 a6 a7 a8 a9 a10 a11 a12 a13 a14 a15) [] call icall again=T19 call a0 a1 a2 a3 a4 a5 a6 a7 a8 a9 a10 a11 a12 a13 a14 a15:=by kernel_rfl
theorem C19 (k:Nat) (a0:List V) (a1:Int) (a2:Int) (a3:Int) (a4:Int) (a5:Int) (a6:List V) (a7:List V) (a8:Int) (a9:Int) (a10:List V) (a11:Int) (a12:List V) (a13:Bool) (a14:Int) (a15:Int):aA cfg (k+1) 19 (A19 a0 a1 a2 a3 a4 a5 a6 a7 a8 a9 a10 a11 a12 a13 a14 a15) []=T19 (aA cfg k) a0 a1 a2 a3 a4 a5 a6 a7 a8 a9 a10 a11 a12 a13 a14 a15:=
 (show aA cfg (k+1) 19 (A19 a0 a1 a2 a3 a4 a5 a6 a7 a8 a9 a10 a11 a12 a13 a14 a15) []=GO 19 Tryz.f19 (A19 a0 a1 a2 a3 a4 a5 a6 a7 a8 a9 a10 a11 a12 a13 a14 a15) [] (aA cfg k) (aE cfg (aA cfg k) 20) (RN 19 Tryz.f19 [] (aA cfg k) (aE cfg (aA cfg k) 20) k)by kernel_rfl).trans (E19 _ _ _ a0 a1 a2 a3 a4 a5 a6 a7 a8 a9 a10 a11 a12 a13 a14 a15)
theorem M19 (a0:List V) (a1:Int) (a2:Int) (a3:Int) (a4:Int) (a5:Int) (a6:List V) (a7:List V) (a8:Int) (a9:Int) (a10:List V) (a11:Int) (a12:List V) (a13:Bool) (a14:Int) (a15:Int) {r:V×List Ob} (h:Evt (fun k n=>T19 (aA cfg k) a0 a1 a2 a3 a4 a5 a6 a7 a8 a9 a10 a11 a12 a13 a14 a15) r):Ret 19 [V.lst 5 false a0,V.agg [V.int IntKind.i64 a1,V.int IntKind.i64 a2,V.int IntKind.i64 a3,V.int IntKind.i64 a4,V.int IntKind.i64 a5,V.lst 36 false a6,V.lst 32 false a7,V.int IntKind.i64 a8,V.int IntKind.i64 a9],V.agg [V.lst 3 false a10,V.int IntKind.i64 a11,V.lst 9 false a12,V.bool a13,V.int IntKind.i64 a14,V.int IntKind.i64 a15]] [] r:=aS (g:=fun k n=>T19 (aA cfg k) a0 a1 a2 a3 a4 a5 a6 a7 a8 a9 a10 a11 a12 a13 a14 a15) (fun k=>C19 k a0 a1 a2 a3 a4 a5 a6 a7 a8 a9 a10 a11 a12 a13 a14 a15) h
def T41 (call:FuncId→Fun) (a0:List V) (a1:Int) (a2:Int):Option (V×List Ob):=
 Option.bind (if(decide (a1<(0:Int)))=false then
 if(decide (a1>((length a0:Nat):Int)))=false then
 some (decide (a2<(1:Int)))
 else
 some true
 else
 some true) fun y0=>
 if y0=true then
 some ((V.lst 5 false []),[])
 else
 chk (decide (0≤(IntKind.wrap .i64 (a1+(if(IntKind.wrap .i64 (((length a0:Nat):Int) - a1))<a2 then(IntKind.wrap .i64 (((length a0:Nat):Int) - a1))else a2))))) (chk (decide ((IntKind.wrap .i64 (a1+(if(IntKind.wrap .i64 (((length a0:Nat):Int) - a1))<a2 then(IntKind.wrap .i64 (((length a0:Nat):Int) - a1))else a2)))≤((length a0:Nat):Int))) (chk (decide (0≤a1)) (chk (decide (a1≤(IntKind.wrap .i64 (a1+(if(IntKind.wrap .i64 (((length a0:Nat):Int) - a1))<a2 then(IntKind.wrap .i64 (((length a0:Nat):Int) - a1))else a2))))) (Option.bind (call 75 [(V.lst 5 false (drop (Int.toNat a1) (take (Int.toNat (IntKind.wrap .i64 (a1+(if(IntKind.wrap .i64 (((length a0:Nat):Int) - a1))<a2 then(IntKind.wrap .i64 (((length a0:Nat):Int) - a1))else a2)))) a0)))] []) fun z1=>
 some ((V.lst 5 false (getL z1.1)),[])))))
def A41 (a0:List V) (a1:Int) (a2:Int):List V:=[V.lst 5 false a0,V.int IntKind.i64 a1,V.int IntKind.i64 a2]
theorem E41 (a0:List V) (a1:Int) (a2:Int):GO 41 Tryz.f41 (A41 a0 a1 a2) [] call icall again=T41 call a0 a1 a2:=by kernel_rfl
theorem C41 (k:Nat) (a0:List V) (a1:Int) (a2:Int):aA cfg (k+1) 41 (A41 a0 a1 a2) []=T41 (aA cfg k) a0 a1 a2:=
 (show aA cfg (k+1) 41 (A41 a0 a1 a2) []=GO 41 Tryz.f41 (A41 a0 a1 a2) [] (aA cfg k) (aE cfg (aA cfg k) 20) (RN 41 Tryz.f41 [] (aA cfg k) (aE cfg (aA cfg k) 20) k)by kernel_rfl).trans (E41 _ _ _ a0 a1 a2)
theorem M41 (a0:List V) (a1:Int) (a2:Int) {r:V×List Ob} (h:Evt (fun k n=>T41 (aA cfg k) a0 a1 a2) r):Ret 41 [V.lst 5 false a0,V.int IntKind.i64 a1,V.int IntKind.i64 a2] [] r:=aS (g:=fun k n=>T41 (aA cfg k) a0 a1 a2) (fun k=>C41 k a0 a1 a2) h
def II (call:FuncId→Fun) (a0:Int) (a1:Int):Option (V×List Ob):=
 Option.bind (if(decide (a0≥a1))=true then
 some (decide (a0≤(4294967295:Int)))
 else
 some false) fun y0=>
 some ((V.bool y0),[])
def Kp (a0:Int) (a1:Int):List V:=[V.int IntKind.i64 a0,V.int IntKind.i64 a1]
theorem QR (a0:Int) (a1:Int):GO 117 Tryz.f117 (Kp a0 a1) [] call icall again=II call a0 a1:=by kernel_rfl
theorem QS (k:Nat) (a0:Int) (a1:Int):aA cfg (k+1) 117 (Kp a0 a1) []=II (aA cfg k) a0 a1:=
 (show aA cfg (k+1) 117 (Kp a0 a1) []=GO 117 Tryz.f117 (Kp a0 a1) [] (aA cfg k) (aE cfg (aA cfg k) 20) (RN 117 Tryz.f117 [] (aA cfg k) (aE cfg (aA cfg k) 20) k)by kernel_rfl).trans (QR _ _ _ a0 a1)
theorem QT (a0:Int) (a1:Int) {r:V×List Ob} (h:Evt (fun k n=>II (aA cfg k) a0 a1) r):Ret 117 [V.int IntKind.i64 a0,V.int IntKind.i64 a1] [] r:=aS (g:=fun k n=>II (aA cfg k) a0 a1) (fun k=>QS k a0 a1) h
def zR (call:FuncId→Fun) (ag0:List UInt8→Int→Int→Option (V×List Ob)) (s0:List UInt8) (i1:Int) (i2:Int):Option (V×List Ob):=
 if(decide (i2<i1))=true then
 Option.bind (chk (decide (0≤i2)) (chk (decide (i2<((length s0:Nat):Int))) (if(decide (((UInt8.toNat (getD s0 (Int.toNat i2) 0):Nat):Int)<(32:Int)))=false then
 chk (decide (0≤i2)) (chk (decide (i2<((length s0:Nat):Int))) (some (decide (((UInt8.toNat (getD s0 (Int.toNat i2) 0):Nat):Int)≥(127:Int)))))
 else
 some true))) fun y0=>
 if y0=true then
 some ((V.bool false),[])
 else
 (ag0 (s0) (i1) ((IntKind.wrap .i64 (i2+(1:Int)))))
 else
 some ((V.bool true),[])
def IJ (call:FuncId→Fun) (ag0:List UInt8→Int→Int→Option (V×List Ob)) (a0:List UInt8):Option (V×List Ob):=
 (ag0 (a0) (((length a0:Nat):Int)) ((0:Int)))
def Kq (a0:List UInt8):List V:=[V.str a0]
def uT (s0:List UInt8) (i1:Int) (i2:Int):St:=⟨[(V.str s0),V.bot,V.bot,V.bot,V.bot,(V.int IntKind.i64 i1),(V.int IntKind.i64 i2)]++List.replicate 13 V.bot,[]⟩
theorem My (s0:List UInt8) (i1:Int) (i2:Int):
 RM 118 Tryz.f118 [] call icall again (aK Tryz.f118 0) (uT s0 i1 i2)=zR call (fun s0 i1 i2=>again (aK Tryz.f118 0) (uT s0 i1 i2)) s0 i1 i2:=by kernel_rfl
theorem QU (a0:List UInt8):GO 118 Tryz.f118 (Kq a0) [] call icall again=IJ call (fun s0 i1 i2=>again (aK Tryz.f118 0) (uT s0 i1 i2)) a0:=by kernel_rfl
def Ap (call:FuncId→Fun):Nat→(List UInt8→Int→Int→Option (V×List Ob))
 |0=>fun _ _ _=>none
 |n+1=>zR call (Ap call n)
theorem OG (call:FuncId→Fun) (icall:aQ (V×List Ob)):∀n,(∀(s0:List UInt8) (i1:Int) (i2:Int),RN 118 Tryz.f118 [] call icall n (aK Tryz.f118 0) (uT s0 i1 i2)=(Ap call n) s0 i1 i2)
 |0=>fun s0 i1 i2=>rfl
 |n+1=>by
  have ih:=OG call icall n
  exact fun s0 i1 i2=>(My call icall (RN 118 Tryz.f118 [] call icall n) s0 i1 i2).trans (by rw[show(fun s0 i1 i2=>RN 118 Tryz.f118 [] call icall n (aK Tryz.f118 0) (uT s0 i1 i2))=(Ap call n)from(funext fun s0=>funext fun i1=>funext fun i2=>ih s0 i1 i2)];rfl)
theorem QV (k:Nat) (a0:List UInt8):aA cfg (k+1) 118 (Kq a0) []=IJ (aA cfg k) (Ap (aA cfg k) k) a0:=by
 have ih:=OG (aA cfg k) (aE cfg (aA cfg k) 20) k
 refine(show aA cfg (k+1) 118 (Kq a0) []=GO 118 Tryz.f118 (Kq a0) [] (aA cfg k) (aE cfg (aA cfg k) 20) (RN 118 Tryz.f118 [] (aA cfg k) (aE cfg (aA cfg k) 20) k)by kernel_rfl).trans ((QU _ _ _ a0).trans ?_)
 rw[show(fun s0 i1 i2=>RN 118 Tryz.f118 [] (aA cfg k) (aE cfg (aA cfg k) 20) k (aK Tryz.f118 0) (uT s0 i1 i2))=(Ap (aA cfg k) k)from(funext fun s0=>funext fun i1=>funext fun i2=>ih s0 i1 i2)]
theorem QW (a0:List UInt8) {r:V×List Ob} (h:Evt (fun k n=>IJ (aA cfg k) (Ap (aA cfg k) n) a0) r):Ret 118 [V.str a0] [] r:=aS (g:=fun k n=>IJ (aA cfg k) (Ap (aA cfg k) n) a0) (fun k=>QV k a0) h
theorem IK (s0:List UInt8) (i1:Int) (i2:Int) {r:V×List Ob} (h:Evt (fun k n=>zR (aA cfg k) (Ap (aA cfg k) n) s0 i1 i2) r):Evt (fun k n=>(Ap (aA cfg k) n) s0 i1 i2) r:=aV (fun k n=>rfl) h
def IL (call:FuncId→Fun) (a0:List V) (a1:Int) (a2:List V) (a3:Bool) (a4:Int) (a5:Int):Option (V×List Ob):=
 Option.bind (if(a1==(2:Int))=false then
 some (a1==(3:Int))
 else
 some true) fun y0=>
 some ((V.bool y0),[])
def Kr (a0:List V) (a1:Int) (a2:List V) (a3:Bool) (a4:Int) (a5:Int):List V:=[V.agg [V.lst 3 false a0,V.int IntKind.i64 a1,V.lst 9 false a2,V.bool a3,V.int IntKind.i64 a4,V.int IntKind.i64 a5]]
theorem QX (a0:List V) (a1:Int) (a2:List V) (a3:Bool) (a4:Int) (a5:Int):GO 119 Tryz.f119 (Kr a0 a1 a2 a3 a4 a5) [] call icall again=IL call a0 a1 a2 a3 a4 a5:=by kernel_rfl
theorem QY (k:Nat) (a0:List V) (a1:Int) (a2:List V) (a3:Bool) (a4:Int) (a5:Int):aA cfg (k+1) 119 (Kr a0 a1 a2 a3 a4 a5) []=IL (aA cfg k) a0 a1 a2 a3 a4 a5:=
 (show aA cfg (k+1) 119 (Kr a0 a1 a2 a3 a4 a5) []=GO 119 Tryz.f119 (Kr a0 a1 a2 a3 a4 a5) [] (aA cfg k) (aE cfg (aA cfg k) 20) (RN 119 Tryz.f119 [] (aA cfg k) (aE cfg (aA cfg k) 20) k)by kernel_rfl).trans (QX _ _ _ a0 a1 a2 a3 a4 a5)
theorem QZ (a0:List V) (a1:Int) (a2:List V) (a3:Bool) (a4:Int) (a5:Int) {r:V×List Ob} (h:Evt (fun k n=>IL (aA cfg k) a0 a1 a2 a3 a4 a5) r):Ret 119 [V.agg [V.lst 3 false a0,V.int IntKind.i64 a1,V.lst 9 false a2,V.bool a3,V.int IntKind.i64 a4,V.int IntKind.i64 a5]] [] r:=aS (g:=fun k n=>IL (aA cfg k) a0 a1 a2 a3 a4 a5) (fun k=>QY k a0 a1 a2 a3 a4 a5) h
def zS (call:FuncId→Fun) (ag0:List V→List V→Bool→List V→List V→Int→Int→Option (V×List Ob)) (l0:List V) (l1:List V) (b2:Bool) (l3:List V) (l4:List V) (i5:Int) (i6:Int):Option (V×List Ob):=
 if(decide (i6<i5))=true then
 chk (decide (0≤i6)) (chk (decide (i6<((length l4:Nat):Int))) (Option.bind (call 143 [(V.lst 9 false l1),(V.clo (Fn.func 144) [] [(V.ref 0 0)])] [(Ob.cells [(V.str (getS (headD (V.cells (getD l4 (Int.toNat i6) V.bot)) V.bot))),(V.int .i64 (getI (headD (tail (V.cells (getD l4 (Int.toNat i6) V.bot))) V.bot))),(V.int .i64 (getI (headD (tail (tail (V.cells (getD l4 (Int.toNat i6) V.bot)))) V.bot))),(V.int .i64 (getI (headD (tail (tail (tail (V.cells (getD l4 (Int.toNat i6) V.bot))))) V.bot)))])]) fun z0=>
 if((getB z0.1)==b2)=false then
 Option.bind (call 74 [(V.agg [(V.int .i64 (getI (headD (tail (Ob.getC (headD z0.2 Ob.dead))) V.bot))),(V.int .i64 (getI (headD (tail (tail (tail (Ob.getC (headD z0.2 Ob.dead))))) V.bot)))]),(V.int .i64 ((length l0:Nat):Int))] []) fun z1=>
 if(!(getB z1.1))=true then
 (ag0 (l0) (l1) (b2) (l3) (l4) (i5) ((IntKind.wrap .i64 (i6+(1:Int)))))
 else
 chk (decide (0≤(getI (headD (tail (tail (tail (Ob.getC (headD z0.2 Ob.dead))))) V.bot)))) (chk (decide ((getI (headD (tail (tail (tail (Ob.getC (headD z0.2 Ob.dead))))) V.bot))≤((length l0:Nat):Int))) (chk (decide (0≤(getI (headD (tail (Ob.getC (headD z0.2 Ob.dead))) V.bot)))) (chk (decide ((getI (headD (tail (Ob.getC (headD z0.2 Ob.dead))) V.bot))≤(getI (headD (tail (tail (tail (Ob.getC (headD z0.2 Ob.dead))))) V.bot)))) (chk (bI l3 (drop (Int.toNat (getI (headD (tail (Ob.getC (headD z0.2 Ob.dead))) V.bot))) (take (Int.toNat (getI (headD (tail (tail (tail (Ob.getC (headD z0.2 Ob.dead))))) V.bot))) l0)) 2) (Option.bind (if((getI (headD (tail (tail (tail (Ob.getC (headD z0.2 Ob.dead))))) V.bot))==(getI (headD (tail (Ob.getC (headD z0.2 Ob.dead))) V.bot)))=false then
 chk (decide (0≤(IntKind.wrap .i64 ((getI (headD (tail (tail (tail (Ob.getC (headD z0.2 Ob.dead))))) V.bot)) - (1:Int))))) (chk (decide ((IntKind.wrap .i64 ((getI (headD (tail (tail (tail (Ob.getC (headD z0.2 Ob.dead))))) V.bot)) - (1:Int)))<((length l0:Nat):Int))) (some ((getI (getD l0 (Int.toNat (IntKind.wrap .i64 ((getI (headD (tail (tail (tail (Ob.getC (headD z0.2 Ob.dead))))) V.bot)) - (1:Int)))) V.bot)) != (10:Int))))
 else
 some true) fun y2=>
 if y2=true then
 chk (fQ (l3++(drop (Int.toNat (getI (headD (tail (Ob.getC (headD z0.2 Ob.dead))) V.bot))) (take (Int.toNat (getI (headD (tail (tail (tail (Ob.getC (headD z0.2 Ob.dead))))) V.bot))) l0))) [13,10] 2) ((ag0 (l0) (l1) (b2) (((l3++(drop (Int.toNat (getI (headD (tail (Ob.getC (headD z0.2 Ob.dead))) V.bot))) (take (Int.toNat (getI (headD (tail (tail (tail (Ob.getC (headD z0.2 Ob.dead))))) V.bot))) l0)))++(ofBytes [13,10]))) (l4) (i5) ((IntKind.wrap .i64 (i6+(1:Int))))))
 else
 (ag0 (l0) (l1) (b2) ((l3++(drop (Int.toNat (getI (headD (tail (Ob.getC (headD z0.2 Ob.dead))) V.bot))) (take (Int.toNat (getI (headD (tail (tail (tail (Ob.getC (headD z0.2 Ob.dead))))) V.bot))) l0)))) (l4) (i5) ((IntKind.wrap .i64 (i6+(1:Int))))))))))
 else
 (ag0 (l0) (l1) (b2) (l3) (l4) (i5) ((IntKind.wrap .i64 (i6+(1:Int)))))))
 else
 chk (fQ l3 [13,10] 2) (some ((V.lst 5 false (l3++(ofBytes [13,10]))),[]))
def IM (call:FuncId→Fun) (ag0:List V→List V→Bool→List V→List V→Int→Int→Option (V×List Ob)) (a0:List V) (a1:List V) (a2:List V) (a3:Bool):Option (V×List Ob):=
 (ag0 (a0) (a2) (a3) ([]) (a1) (((length a1:Nat):Int)) ((0:Int)))
def Ks (a0:List V) (a1:List V) (a2:List V) (a3:Bool):List V:=[V.lst 5 false a0,V.lst 91 false a1,V.lst 9 false a2,V.bool a3]
def uU (l0:List V) (l1:List V) (b2:Bool) (l3:List V) (l4:List V) (i5:Int) (i6:Int):St:=⟨[(V.lst 5 false l0),V.bot,(V.lst 9 false l1),(V.bool b2),V.bot,V.bot,V.bot,V.bot,V.bot,(V.lst 5 true l3),V.bot,V.bot,V.bot,(V.lst 91 false l4),(V.int IntKind.i64 i5),(V.int IntKind.i64 i6)]++List.replicate 47 V.bot,[]⟩
theorem Mz (l0:List V) (l1:List V) (b2:Bool) (l3:List V) (l4:List V) (i5:Int) (i6:Int):
 RM 120 Tryz.f120 [] call icall again (aK Tryz.f120 0) (uU l0 l1 b2 l3 l4 i5 i6)=zS call (fun l0 l1 b2 l3 l4 i5 i6=>again (aK Tryz.f120 0) (uU l0 l1 b2 l3 l4 i5 i6)) l0 l1 b2 l3 l4 i5 i6:=by kernel_rfl
theorem Q0 (a0:List V) (a1:List V) (a2:List V) (a3:Bool):GO 120 Tryz.f120 (Ks a0 a1 a2 a3) [] call icall again=IM call (fun l0 l1 b2 l3 l4 i5 i6=>again (aK Tryz.f120 0) (uU l0 l1 b2 l3 l4 i5 i6)) a0 a1 a2 a3:=by kernel_rfl
def Aq (call:FuncId→Fun):Nat→(List V→List V→Bool→List V→List V→Int→Int→Option (V×List Ob))
 |0=>fun _ _ _ _ _ _ _=>none
 |n+1=>zS call (Aq call n)
theorem OH (call:FuncId→Fun) (icall:aQ (V×List Ob)):∀n,(∀(l0:List V) (l1:List V) (b2:Bool) (l3:List V) (l4:List V) (i5:Int) (i6:Int),RN 120 Tryz.f120 [] call icall n (aK Tryz.f120 0) (uU l0 l1 b2 l3 l4 i5 i6)=(Aq call n) l0 l1 b2 l3 l4 i5 i6)
 |0=>fun l0 l1 b2 l3 l4 i5 i6=>rfl
 |n+1=>by
  have ih:=OH call icall n
  exact fun l0 l1 b2 l3 l4 i5 i6=>(Mz call icall (RN 120 Tryz.f120 [] call icall n) l0 l1 b2 l3 l4 i5 i6).trans (by rw[show(fun l0 l1 b2 l3 l4 i5 i6=>RN 120 Tryz.f120 [] call icall n (aK Tryz.f120 0) (uU l0 l1 b2 l3 l4 i5 i6))=(Aq call n)from(funext fun l0=>funext fun l1=>funext fun b2=>funext fun l3=>funext fun l4=>funext fun i5=>funext fun i6=>ih l0 l1 b2 l3 l4 i5 i6)];rfl)
theorem Q1 (k:Nat) (a0:List V) (a1:List V) (a2:List V) (a3:Bool):aA cfg (k+1) 120 (Ks a0 a1 a2 a3) []=IM (aA cfg k) (Aq (aA cfg k) k) a0 a1 a2 a3:=by
 have ih:=OH (aA cfg k) (aE cfg (aA cfg k) 20) k
 refine(show aA cfg (k+1) 120 (Ks a0 a1 a2 a3) []=GO 120 Tryz.f120 (Ks a0 a1 a2 a3) [] (aA cfg k) (aE cfg (aA cfg k) 20) (RN 120 Tryz.f120 [] (aA cfg k) (aE cfg (aA cfg k) 20) k)by kernel_rfl).trans ((Q0 _ _ _ a0 a1 a2 a3).trans ?_)
 rw[show(fun l0 l1 b2 l3 l4 i5 i6=>RN 120 Tryz.f120 [] (aA cfg k) (aE cfg (aA cfg k) 20) k (aK Tryz.f120 0) (uU l0 l1 b2 l3 l4 i5 i6))=(Aq (aA cfg k) k)from(funext fun l0=>funext fun l1=>funext fun b2=>funext fun l3=>funext fun l4=>funext fun i5=>funext fun i6=>ih l0 l1 b2 l3 l4 i5 i6)]
theorem Q2 (a0:List V) (a1:List V) (a2:List V) (a3:Bool) {r:V×List Ob} (h:Evt (fun k n=>IM (aA cfg k) (Aq (aA cfg k) n) a0 a1 a2 a3) r):Ret 120 [V.lst 5 false a0,V.lst 91 false a1,V.lst 9 false a2,V.bool a3] [] r:=aS (g:=fun k n=>IM (aA cfg k) (Aq (aA cfg k) n) a0 a1 a2 a3) (fun k=>Q1 k a0 a1 a2 a3) h
theorem IN (l0:List V) (l1:List V) (b2:Bool) (l3:List V) (l4:List V) (i5:Int) (i6:Int) {r:V×List Ob} (h:Evt (fun k n=>zS (aA cfg k) (Aq (aA cfg k) n) l0 l1 b2 l3 l4 i5 i6) r):Evt (fun k n=>(Aq (aA cfg k) n) l0 l1 b2 l3 l4 i5 i6) r:=aV (fun k n=>rfl) h
def IO (call:FuncId→Fun) (a0:List V) (a1:List UInt8) (a2:Int) (a3:Int) (a4:Int):Option (V×List Ob):=
 Option.bind (call 161 [(V.lst 9 false a0),(V.clo (Fn.func 144) [] [(V.ref 0 0)])] [(Ob.cells [(V.str a1),(V.int .i64 a2),(V.int .i64 a3),(V.int .i64 a4)])]) fun z0=>
 some ((V.bool (decide ((getI z0.1)≥(0:Int)))),[(Ob.cells [(V.str (getS (headD (Ob.getC (headD z0.2 Ob.dead)) V.bot))),(V.int .i64 (getI (headD (tail (Ob.getC (headD z0.2 Ob.dead))) V.bot))),(V.int .i64 (getI (headD (tail (tail (Ob.getC (headD z0.2 Ob.dead)))) V.bot))),(V.int .i64 (getI (headD (tail (tail (tail (Ob.getC (headD z0.2 Ob.dead))))) V.bot)))])])
def IP (a1:List UInt8) (a2:Int) (a3:Int) (a4:Int):List Ob:=[Ob.cells [V.str a1,V.int IntKind.i64 a2,V.int IntKind.i64 a3,V.int IntKind.i64 a4]]
def Kt (a0:List V):List V:=[V.lst 9 false a0,V.clo (Fn.func 144) [] [V.ref 0 0]]
theorem Q3 (a0:List V) (a1:List UInt8) (a2:Int) (a3:Int) (a4:Int):GO 143 Tryz.f143 (Kt a0) (IP a1 a2 a3 a4) call icall again=IO call a0 a1 a2 a3 a4:=by kernel_rfl
theorem Q4 (k:Nat) (a0:List V) (a1:List UInt8) (a2:Int) (a3:Int) (a4:Int):aA cfg (k+1) 143 (Kt a0) (IP a1 a2 a3 a4)=IO (aA cfg k) a0 a1 a2 a3 a4:=
 (show aA cfg (k+1) 143 (Kt a0) (IP a1 a2 a3 a4)=GO 143 Tryz.f143 (Kt a0) (IP a1 a2 a3 a4) (aA cfg k) (aE cfg (aA cfg k) 20) (RN 143 Tryz.f143 (IP a1 a2 a3 a4) (aA cfg k) (aE cfg (aA cfg k) 20) k)by kernel_rfl).trans (Q3 _ _ _ a0 a1 a2 a3 a4)
theorem Q5 (a0:List V) (a1:List UInt8) (a2:Int) (a3:Int) (a4:Int) {r:V×List Ob} (h:Evt (fun k n=>IO (aA cfg k) a0 a1 a2 a3 a4) r):Ret 143 [V.lst 9 false a0,V.clo (Fn.func 144) [] [V.ref 0 0]] [Ob.cells [V.str a1,V.int IntKind.i64 a2,V.int IntKind.i64 a3,V.int IntKind.i64 a4]] r:=aS (g:=fun k n=>IO (aA cfg k) a0 a1 a2 a3 a4) (fun k=>Q4 k a0 a1 a2 a3 a4) h
def IQ (call:FuncId→Fun) (a0:List UInt8) (a1:List UInt8) (a2:Int) (a3:Int) (a4:Int):Option (V×List Ob):=
 Option.bind (call 69 [(V.str a1),(V.str a0)] []) fun z0=>
 some ((V.bool (getB z0.1)),[(Ob.cells [(V.str a1),(V.int .i64 a2),(V.int .i64 a3),(V.int .i64 a4)])])
def IR (a1:List UInt8) (a2:Int) (a3:Int) (a4:Int):List Ob:=[Ob.cells [V.str a1,V.int IntKind.i64 a2,V.int IntKind.i64 a3,V.int IntKind.i64 a4]]
def Ku (a0:List UInt8):List V:=[V.str a0,V.ref 0 0]
theorem Q6 (a0:List UInt8) (a1:List UInt8) (a2:Int) (a3:Int) (a4:Int):GO 144 Tryz.f144 (Ku a0) (IR a1 a2 a3 a4) call icall again=IQ call a0 a1 a2 a3 a4:=by kernel_rfl
theorem Q7 (k:Nat) (a0:List UInt8) (a1:List UInt8) (a2:Int) (a3:Int) (a4:Int):aA cfg (k+1) 144 (Ku a0) (IR a1 a2 a3 a4)=IQ (aA cfg k) a0 a1 a2 a3 a4:=
 (show aA cfg (k+1) 144 (Ku a0) (IR a1 a2 a3 a4)=GO 144 Tryz.f144 (Ku a0) (IR a1 a2 a3 a4) (aA cfg k) (aE cfg (aA cfg k) 20) (RN 144 Tryz.f144 (IR a1 a2 a3 a4) (aA cfg k) (aE cfg (aA cfg k) 20) k)by kernel_rfl).trans (Q6 _ _ _ a0 a1 a2 a3 a4)
theorem Q8 (a0:List UInt8) (a1:List UInt8) (a2:Int) (a3:Int) (a4:Int) {r:V×List Ob} (h:Evt (fun k n=>IQ (aA cfg k) a0 a1 a2 a3 a4) r):Ret 144 [V.str a0,V.ref 0 0] [Ob.cells [V.str a1,V.int IntKind.i64 a2,V.int IntKind.i64 a3,V.int IntKind.i64 a4]] r:=aS (g:=fun k n=>IQ (aA cfg k) a0 a1 a2 a3 a4) (fun k=>Q7 k a0 a1 a2 a3 a4) h
def zT (call:FuncId→Fun) (ag0:List V→Int→Int→List UInt8→Int→Int→Int→Option (V×List Ob)) (l0:List V) (i1:Int) (i2:Int) (s3:List UInt8) (i4:Int) (i5:Int) (i6:Int):Option (V×List Ob):=
 if(decide (i2<i1))=true then
 chk (decide (0≤i2)) (chk (decide (i2<((length l0:Nat):Int))) (Option.bind (call 144 [(V.str (getS (getD l0 (Int.toNat i2) V.bot))),(V.ref 0 0)] [(Ob.cells [(V.str s3),(V.int .i64 i4),(V.int .i64 i5),(V.int .i64 i6)])]) fun z0=>
 if(getB z0.1)=true then
 some ((V.int .i64 i2),[(Ob.cells [(V.str (getS (headD (Ob.getC (headD z0.2 Ob.dead)) V.bot))),(V.int .i64 (getI (headD (tail (Ob.getC (headD z0.2 Ob.dead))) V.bot))),(V.int .i64 (getI (headD (tail (tail (Ob.getC (headD z0.2 Ob.dead)))) V.bot))),(V.int .i64 (getI (headD (tail (tail (tail (Ob.getC (headD z0.2 Ob.dead))))) V.bot)))])])
 else
 (ag0 (l0) (i1) ((IntKind.wrap .i64 (i2+(1:Int)))) ((getS (headD (Ob.getC (headD z0.2 Ob.dead)) V.bot))) ((getI (headD (tail (Ob.getC (headD z0.2 Ob.dead))) V.bot))) ((getI (headD (tail (tail (Ob.getC (headD z0.2 Ob.dead)))) V.bot))) ((getI (headD (tail (tail (tail (Ob.getC (headD z0.2 Ob.dead))))) V.bot))))))
 else
 some ((V.int .i64 (-1:Int)),[(Ob.cells [(V.str s3),(V.int .i64 i4),(V.int .i64 i5),(V.int .i64 i6)])])
def IS (call:FuncId→Fun) (ag0:List V→Int→Int→List UInt8→Int→Int→Int→Option (V×List Ob)) (a0:List V) (a1:List UInt8) (a2:Int) (a3:Int) (a4:Int):Option (V×List Ob):=
 (ag0 (a0) (((length a0:Nat):Int)) ((0:Int)) (a1) (a2) (a3) (a4))
def Ar (a1:List UInt8) (a2:Int) (a3:Int) (a4:Int):List Ob:=[Ob.cells [V.str a1,V.int IntKind.i64 a2,V.int IntKind.i64 a3,V.int IntKind.i64 a4]]
def Kv (a0:List V):List V:=[V.lst 9 false a0,V.clo (Fn.func 144) [] [V.ref 0 0]]
def uV (l0:List V) (i1:Int) (i2:Int) (s3:List UInt8) (i4:Int) (i5:Int) (i6:Int):St:=⟨[(V.lst 9 false l0),(V.clo (Fn.func 144) [] [(V.ref 0 0)]),V.bot,V.bot,V.bot,V.bot,V.bot,(V.int IntKind.i64 i1),(V.int IntKind.i64 i2)]++List.replicate 10 V.bot,[(Ob.cells [(V.str s3),(V.int IntKind.i64 i4),(V.int IntKind.i64 i5),(V.int IntKind.i64 i6)])]⟩
theorem MA (a1:List UInt8) (a2:Int) (a3:Int) (a4:Int) (l0:List V) (i1:Int) (i2:Int) (s3:List UInt8) (i4:Int) (i5:Int) (i6:Int):
 RM 161 Tryz.f161 (Ar a1 a2 a3 a4) call icall again (aK Tryz.f161 0) (uV l0 i1 i2 s3 i4 i5 i6)=zT call (fun l0 i1 i2 s3 i4 i5 i6=>again (aK Tryz.f161 0) (uV l0 i1 i2 s3 i4 i5 i6)) l0 i1 i2 s3 i4 i5 i6:=by kernel_rfl
theorem Q9 (a0:List V) (a1:List UInt8) (a2:Int) (a3:Int) (a4:Int):GO 161 Tryz.f161 (Kv a0) (Ar a1 a2 a3 a4) call icall again=IS call (fun l0 i1 i2 s3 i4 i5 i6=>again (aK Tryz.f161 0) (uV l0 i1 i2 s3 i4 i5 i6)) a0 a1 a2 a3 a4:=by kernel_rfl
def As (call:FuncId→Fun):Nat→(List V→Int→Int→List UInt8→Int→Int→Int→Option (V×List Ob))
 |0=>fun _ _ _ _ _ _ _=>none
 |n+1=>zT call (As call n)
theorem OI (call:FuncId→Fun) (icall:aQ (V×List Ob)) (a1:List UInt8) (a2:Int) (a3:Int) (a4:Int):∀n,(∀(l0:List V) (i1:Int) (i2:Int) (s3:List UInt8) (i4:Int) (i5:Int) (i6:Int),RN 161 Tryz.f161 (Ar a1 a2 a3 a4) call icall n (aK Tryz.f161 0) (uV l0 i1 i2 s3 i4 i5 i6)=(As call n) l0 i1 i2 s3 i4 i5 i6)
 |0=>fun l0 i1 i2 s3 i4 i5 i6=>rfl
 |n+1=>by
  have ih:=OI call icall a1 a2 a3 a4 n
  exact fun l0 i1 i2 s3 i4 i5 i6=>(MA call icall (RN 161 Tryz.f161 (Ar a1 a2 a3 a4) call icall n) a1 a2 a3 a4 l0 i1 i2 s3 i4 i5 i6).trans (by rw[show(fun l0 i1 i2 s3 i4 i5 i6=>RN 161 Tryz.f161 (Ar a1 a2 a3 a4) call icall n (aK Tryz.f161 0) (uV l0 i1 i2 s3 i4 i5 i6))=(As call n)from(funext fun l0=>funext fun i1=>funext fun i2=>funext fun s3=>funext fun i4=>funext fun i5=>funext fun i6=>ih l0 i1 i2 s3 i4 i5 i6)];rfl)
theorem Ra (k:Nat) (a0:List V) (a1:List UInt8) (a2:Int) (a3:Int) (a4:Int):aA cfg (k+1) 161 (Kv a0) (Ar a1 a2 a3 a4)=IS (aA cfg k) (As (aA cfg k) k) a0 a1 a2 a3 a4:=by
 have ih:=OI (aA cfg k) (aE cfg (aA cfg k) 20) a1 a2 a3 a4 k
 refine(show aA cfg (k+1) 161 (Kv a0) (Ar a1 a2 a3 a4)=GO 161 Tryz.f161 (Kv a0) (Ar a1 a2 a3 a4) (aA cfg k) (aE cfg (aA cfg k) 20) (RN 161 Tryz.f161 (Ar a1 a2 a3 a4) (aA cfg k) (aE cfg (aA cfg k) 20) k)by kernel_rfl).trans ((Q9 _ _ _ a0 a1 a2 a3 a4).trans ?_)
 rw[show(fun l0 i1 i2 s3 i4 i5 i6=>RN 161 Tryz.f161 (Ar a1 a2 a3 a4) (aA cfg k) (aE cfg (aA cfg k) 20) k (aK Tryz.f161 0) (uV l0 i1 i2 s3 i4 i5 i6))=(As (aA cfg k) k)from(funext fun l0=>funext fun i1=>funext fun i2=>funext fun s3=>funext fun i4=>funext fun i5=>funext fun i6=>ih l0 i1 i2 s3 i4 i5 i6)]
theorem Rb (a0:List V) (a1:List UInt8) (a2:Int) (a3:Int) (a4:Int) {r:V×List Ob} (h:Evt (fun k n=>IS (aA cfg k) (As (aA cfg k) n) a0 a1 a2 a3 a4) r):Ret 161 [V.lst 9 false a0,V.clo (Fn.func 144) [] [V.ref 0 0]] [Ob.cells [V.str a1,V.int IntKind.i64 a2,V.int IntKind.i64 a3,V.int IntKind.i64 a4]] r:=aS (g:=fun k n=>IS (aA cfg k) (As (aA cfg k) n) a0 a1 a2 a3 a4) (fun k=>Ra k a0 a1 a2 a3 a4) h
theorem IT (l0:List V) (i1:Int) (i2:Int) (s3:List UInt8) (i4:Int) (i5:Int) (i6:Int) {r:V×List Ob} (h:Evt (fun k n=>zT (aA cfg k) (As (aA cfg k) n) l0 i1 i2 s3 i4 i5 i6) r):Evt (fun k n=>(As (aA cfg k) n) l0 i1 i2 s3 i4 i5 i6) r:=aV (fun k n=>rfl) h
end Go.Proofs.YtdoaoaicdimbeaaGreatDoor
end
section
namespace Go.Proofs.YtdoaoaicdimbeaaGreatDoor
open Go.Ev Go
theorem IU (b:Bs) (hb:b.length≤1000000000):Ret 75 [.lst 5 false (ofBytes b)] [] (.lst 5 false (ofBytes b),[]):=by
 refine iR (h:=yH) (by kernel_rfl) ?_
 have h1:=lF b
 have h2:(ofBytes b).length<1099511627776:=by rw[aH];omega
 simp only[yH,h1,h2,decide_true,Bool.and_self,if_true]
def fF (b:Bs) (x y:Nat):Bs:=if x≤y∧y≤b.length then lE b x y else[]
theorem wM (b:Bs) (x y:Nat):List.drop x (List.take y (ofBytes b))=ofBytes (lE b x y):=by simp[ofBytes,lE,List.map_drop,List.map_take]
theorem mY (b:Bs) (x y:Nat):(lE b x y).length≤b.length:=by unfold lE;rw[List.length_drop,List.length_take];omega
theorem lZ (b:Bs) (x y:Nat):(fF b x y).length≤b.length:=by
 unfold fF
 split
 ·exact mY b x y
 ·simp
theorem DL (b:Bs) (hb:b.length≤1000000) (x y:Nat):Ret 82 [.lst 5 false (ofBytes b), .agg [.int .i64 (x:Nat), .int .i64 (y:Nat)]] [] (.lst 5 false (ofBytes (fF b x y)),[]):=by
 refine M82 (ofBytes b) (x:Nat) (y:Nat) ?_
 simp only[T82,aH]
 refine aD (Fg (x:Nat) (y:Nat) (b.length:Nat)) ?_
 simp only[aY]
 unfold fF
 by_cases h:x≤y∧y≤b.length
 ·have h1:(0:Int)≤(x:Nat)∧((x:Nat):Int)≤(y:Nat)∧((y:Nat):Int)≤(b.length:Nat):=by omega
  have h2:(0:Int)≤(y:Nat):=by omega
  have hl:=mY b x y
  rw[if_pos h]
  simp only[decide_eq_true h1,Bool.not_true,Bool.false_eq_true,if_false,aI h2,aI h1.2.2,aI h1.1,aI h1.2.1,Int.toNat_natCast,wM]
  refine aD (IU (lE b x y) (by omega)) ?_
  simp only[aW]
  exact aC _
 ·have h1:¬((0:Int)≤(x:Nat)∧((x:Nat):Int)≤(y:Nat)∧((y:Nat):Int)≤(b.length:Nat)):=by omega
  rw[if_neg h]
  simp only[decide_eq_false h1,Bool.not_false,if_true]
  exact aC _
theorem EQ (n l:Int):Ret 117 [.int .i64 n, .int .i64 l] [] (.bool (decide (l≤n∧n≤4294967295)),[]):=by
 refine QT n l ?_
 simp only[II]
 refine cG (v:=decide (l≤n∧n≤4294967295)) ?_ (aC _)
 by_cases h1:l≤n
 ·by_cases h2:n≤4294967295<;>simp[h1,h2]
 ·have:¬(n≥l):=h1
  simp only[this,h1,decide_false,Bool.false_eq_true,if_false,false_and]
def prB (c:UInt8):Bool:=decide (32≤c.toNat∧c.toNat<127)
theorem Fu (s:Bs) (hs:s.length≤1000000):∀(m i:Nat),s.length - i=m→i≤s.length→
  Evt (fun k j=>Ap (aA cfg k) j s (s.length:Nat) (i:Nat)) (.bool ((s.drop i).all prB),[])
 |0,i,h,hi=>by
  refine IK s (s.length:Nat) (i:Nat) ?_
  have h1:¬(((i:Nat):Int)<((s.length:Nat):Int)):=by omega
  rw[List.drop_eq_nil_of_le (by omega)]
  simp only[zR,h1,decide_false,Bool.false_eq_true,if_false]
  exact aC _
 |m+1,i,h,hi=>by
  have hlt:i<s.length:=by omega
  refine IK s (s.length:Nat) (i:Nat) ?_
  have h1:(((i:Nat):Int)<((s.length:Nat):Int)):=by omega
  have h2:(0:Int)≤(i:Nat):=by omega
  have hw:IntKind.wrap .i64 (((i:Nat):Int)+1)=((i+1:Nat):Int):=by rw[wrap64 (by omega) (by omega)];omega
  rw[drop_at hlt,List.all_cons]
  simp only[zR,h1,decide_true,if_true,aI h2,bX,Int.toNat_natCast,getD_at hlt,hw]
  by_cases q1:((s[i].toNat:Nat):Int)<32
  ·have hp:prB s[i]=false:=by unfold prB;exact decide_eq_false (by omega)
   simp only[q1,decide_true,Bool.true_eq_false,if_false,bS,if_true,hp,Bool.false_and]
   exact aC _
  ·by_cases q2:((s[i].toNat:Nat):Int)≥127
   ·have hp:prB s[i]=false:=by unfold prB;exact decide_eq_false (by omega)
    simp only[q1,q2,decide_true,decide_false,if_true,bS,hp,Bool.false_and]
    exact aC _
   ·have hp:prB s[i]=true:=by unfold prB;exact decide_eq_true (by omega)
    simp only[q1,q2,decide_false,if_true,bS,Bool.false_eq_true,if_false,hp,Bool.true_and]
    exact Fu s hs m (i+1) (by omega) (by omega)
theorem MB (s:Bs) (hs:s.length≤1000000):Ret 118 [.str s] [] (.bool (s.all prB),[]):=by
 refine QW s ?_
 simp only[IJ]
 have:=Fu s hs s.length 0 (by omega) (by omega)
 rw[List.drop_zero]at this
 exact this
structure Sp where
 path:List Int
 what:Int
 names:List Bs
 cut:Bool
 fr:Int
 many:Int
def dQ (n:Int):V:= .int .i64 n
def Bl (s:Sp):V:= .agg [.lst 3 false (s.path.map dQ), .int .i64 s.what, .lst 9 false (s.names.map V.str), .bool s.cut, .int .i64 s.fr, .int .i64 s.many]
def inB (l n:Int):Bool:=decide (l≤n∧n≤4294967295)
def checkF (s:Sp):Bool:=
 decide (s.path.length≤64∧0≤s.what∧s.what≤5∧(s.what=5→0<s.path.length))&&s.path.all (inB 1)&&s.names.all (fun n=>n.all prB)&&
 (if s.what=2∨s.what=3 then decide (1≤s.names.length∧s.names.length≤100)else decide (s.names.length=0))&&
 (if s.cut then inB 0 s.fr&&inB 1 s.many else decide (s.fr=0∧s.many=0))
theorem MC (s:Sp):Ret 119 [Bl s] [] (.bool (decide (s.what=2∨s.what=3)),[]):=by
 refine QZ (s.path.map dQ) s.what (s.names.map V.str) s.cut s.fr s.many ?_
 simp only[IL]
 refine cG (v:=decide (s.what=2∨s.what=3)) ?_ (aC _)
 by_cases h1:s.what=2
 ·simp[h1]
 ·by_cases h2:s.what=3
  ·simp[h2]
  ·simp[h1,h2]
theorem Gk (s:Sp) (b0:Bool) (i:Int) (hi:i=(s.names.length:Nat)):
  Evt (fun k j=>(L80 (aA cfg k) j).2 b0 (s.names.map V.str) (s.names.length:Nat) i (s.path.map dQ) s.what (s.names.map V.str) s.cut s.fr s.many)
   (.int .i64 (if b0&&(if s.what=2∨s.what=3 then decide (1≤s.names.length∧s.names.length≤100)else decide (s.names.length=0))&&(if s.cut then inB 0 s.fr&&inB 1 s.many else decide (s.fr=0∧s.many=0))then 0 else 1),[]):=by
 subst hi
 refine Lf b0 (s.names.map V.str) (s.names.length:Nat) (s.names.length:Nat) (s.path.map dQ) s.what (s.names.map V.str) s.cut s.fr s.many ?_
 have h1:¬(((s.names.length:Nat):Int)<((s.names.length:Nat):Int)):=by omega
 simp only[DK,h1,decide_false,Bool.false_eq_true,if_false,List.length_map]
 refine aD (MC s) ?_
 simp only[aY]
 have hfin:∀y:Bool,Evt (fun k j=>if s.cut=true then
    if y=true then
     Option.bind (aA cfg k 117 [(V.int .i64 s.fr),(V.int .i64 (0:Int))] []) fun z2=>
     if(V.getB z2.1)=true then
      Option.bind (aA cfg k 117 [(V.int .i64 s.many),(V.int .i64 (1:Int))] []) fun z3=>
      if(!(V.getB z3.1))=true then some ((V.int .i64 (1:Int)),[])else some ((V.int .i64 (0:Int)),[])
     else if(!false)=true then some ((V.int .i64 (1:Int)),[])else some ((V.int .i64 (0:Int)),[])
    else if(!false)=true then some ((V.int .i64 (1:Int)),[])else some ((V.int .i64 (0:Int)),[])
   else
    Option.bind (if y=true then if(s.fr==(0:Int))=true then some (s.many==(0:Int))else some false else some false) fun y2=>
    if(!y2)=true then some ((V.int .i64 (1:Int)),[])else some ((V.int .i64 (0:Int)),[]))
   (V.int .i64 (if y&&(if s.cut then inB 0 s.fr&&inB 1 s.many else decide (s.fr=0∧s.many=0))then 0 else 1),([]:List Ob)):=by
  intro y
  cases hc:s.cut with
  |true=>
   cases y with
   |true=>
    simp only[if_true]
    refine aD (EQ s.fr 0) ?_
    simp only[aY]
    unfold inB
    by_cases k1:0≤s.fr∧s.fr≤4294967295
    ·simp only[decide_eq_true k1,if_true,Bool.true_and]
     refine aD (EQ s.many 1) ?_
     simp only[aY]
     by_cases k2:1≤s.many∧s.many≤4294967295
     ·simp only[decide_eq_true k2,Bool.not_true,Bool.false_eq_true,if_false,if_true];exact aC _
     ·simp only[decide_eq_false k2,Bool.not_false,if_true,Bool.false_eq_true,if_false];exact aC _
    ·simp only[decide_eq_false k1,Bool.false_eq_true,if_false,Bool.not_false,if_true,Bool.false_and,Bool.and_false];exact aC _
   |false=>simp only[if_true,Bool.false_eq_true,if_false,Bool.not_false,Bool.false_and];exact aC _
  |false=>
   simp only[Bool.false_eq_true,if_false]
   refine cG (v:=y&&decide (s.fr=0∧s.many=0)) ?_ ?_
   ·cases y with
    |false=>simp
    |true=>
     by_cases k1:s.fr=0
     ·by_cases k2:s.many=0<;>simp[k1,k2]
     ·simp[k1]
   ·cases hy:(y&&decide (s.fr=0∧s.many=0))with
    |true=>simp only[Bool.not_true,Bool.false_eq_true,if_false,if_true];exact aC _
    |false=>simp only[Bool.not_false,if_true,Bool.false_eq_true,if_false];exact aC _
 by_cases hw:s.what=2∨s.what=3
 ·simp only[decide_eq_true hw,if_true,if_pos hw]
  refine cG (v:=b0&&decide (1≤s.names.length∧s.names.length≤100)) ?_ (hfin _)
  cases b0 with
  |false=>simp
  |true=>
   by_cases k1:1≤s.names.length
   ·have k1' :((s.names.length:Nat):Int)≥1:=by omega
    by_cases k2:s.names.length≤100
    ·have k2' :((s.names.length:Nat):Int)≤100:=by omega
     simp only[k1,k2,k1',k2',decide_true,if_true,and_self,Bool.and_self]
    ·have k2' :¬(((s.names.length:Nat):Int)≤100):=by omega
     simp only[k1,k2,k1',k2',decide_true,decide_false,if_true,and_false,Bool.and_false]
   ·have k1' :¬(((s.names.length:Nat):Int)≥1):=by omega
    simp only[k1,k1',decide_false,Bool.false_eq_true,if_false,if_true,false_and,Bool.and_false]
 ·simp only[decide_eq_false hw,Bool.false_eq_true,if_false,if_neg hw]
  refine cG (v:=b0&&decide (s.names.length=0)) ?_ (hfin _)
  cases b0 with
  |false=>simp
  |true=>
   have:(((s.names.length:Nat):Int)==(0:Int))=decide (s.names.length=0):=by
    by_cases k:s.names.length=0
    ·rw[k];rfl
    ·have:¬(((s.names.length:Nat):Int)=0):=by omega
     simp only[k,decide_false,beq_eq_false_iff_ne,ne_eq,this,not_false_eq_true]
   simp only[this,if_true,Bool.true_and]
theorem zU (s:Sp) (hn:s.names.length≤1000000) (hv:∀n∈s.names,n.length≤1000000):∀(m i:Nat) (b0:Bool),s.names.length - i=m→i≤s.names.length→
  Evt (fun k j=>(L80 (aA cfg k) j).2 b0 (s.names.map V.str) (s.names.length:Nat) (i:Nat) (s.path.map dQ) s.what (s.names.map V.str) s.cut s.fr s.many)
   (.int .i64 (if b0&&(s.names.drop i).all (fun n=>n.all prB)&&(if s.what=2∨s.what=3 then decide (1≤s.names.length∧s.names.length≤100)else decide (s.names.length=0))&&(if s.cut then inB 0 s.fr&&inB 1 s.many else decide (s.fr=0∧s.many=0))then 0 else 1),[])
 |0,i,b0,h,hi=>by
  rw[List.drop_eq_nil_of_le (by omega),List.all_nil,Bool.and_true]
  exact Gk s b0 (i:Nat) (by omega)
 |m+1,i,b0,h,hi=>by
  have hlt:i<s.names.length:=by omega
  refine Lf b0 (s.names.map V.str) (s.names.length:Nat) (i:Nat) (s.path.map dQ) s.what (s.names.map V.str) s.cut s.fr s.many ?_
  have h1:(((i:Nat):Int)<((s.names.length:Nat):Int)):=by omega
  have h2:(0:Int)≤(i:Nat):=by omega
  have hw:IntKind.wrap .i64 (((i:Nat):Int)+1)=((i+1:Nat):Int):=by rw[wrap64 (by omega) (by omega)];omega
  have hg:(s.names.map V.str).getD i .bot= .str s.names[i]:=by simp[List.getD,hlt]
  have hd:s.names.drop i=s.names[i]::s.names.drop (i+1):=List.drop_eq_getElem_cons hlt
  rw[hd,List.all_cons]
  simp only[DK,h1,decide_true,if_true,aI h2,List.length_map,bX,Int.toNat_natCast,hg,fN,hw]
  cases b0 with
  |true=>
   simp only[if_true]
   refine aD (MB s.names[i] (hv _ (List.getElem_mem hlt))) ?_
   simp only[aY]
   have:=zU s hn hv m (i+1) (s.names[i].all prB) (by omega) (by omega)
   rw[Bool.true_and]
   exact this
  |false=>
   simp only[Bool.false_eq_true,if_false]
   have:=zU s hn hv m (i+1) false (by omega) (by omega)
   simpa only[Bool.false_and]using this
theorem zV (s:Sp) (hn:s.names.length≤1000000) (hv:∀n∈s.names,n.length≤1000000) (hp:s.path.length≤1000000):∀(m i:Nat) (b0:Bool),s.path.length - i=m→i≤s.path.length→
  Evt (fun k j=>(L80 (aA cfg k) j).1 b0 (s.path.map dQ) (s.path.length:Nat) (i:Nat) (s.path.map dQ) s.what (s.names.map V.str) s.cut s.fr s.many)
   (.int .i64 (if b0&&(s.path.drop i).all (inB 1)&&s.names.all (fun n=>n.all prB)&&(if s.what=2∨s.what=3 then decide (1≤s.names.length∧s.names.length≤100)else decide (s.names.length=0))&&(if s.cut then inB 0 s.fr&&inB 1 s.many else decide (s.fr=0∧s.many=0))then 0 else 1),[])
 |0,i,b0,h,hi=>by
  refine Le b0 (s.path.map dQ) (s.path.length:Nat) (i:Nat) (s.path.map dQ) s.what (s.names.map V.str) s.cut s.fr s.many ?_
  have h1:¬(((i:Nat):Int)<((s.path.length:Nat):Int)):=by omega
  rw[List.drop_eq_nil_of_le (by omega),List.all_nil,Bool.and_true]
  simp only[DJ,h1,decide_false,Bool.false_eq_true,if_false,List.length_map]
  exact zU s hn hv s.names.length 0 b0 (by omega) (by omega)
 |m+1,i,b0,h,hi=>by
  have hlt:i<s.path.length:=by omega
  refine Le b0 (s.path.map dQ) (s.path.length:Nat) (i:Nat) (s.path.map dQ) s.what (s.names.map V.str) s.cut s.fr s.many ?_
  have h1:(((i:Nat):Int)<((s.path.length:Nat):Int)):=by omega
  have h2:(0:Int)≤(i:Nat):=by omega
  have hw:IntKind.wrap .i64 (((i:Nat):Int)+1)=((i+1:Nat):Int):=by rw[wrap64 (by omega) (by omega)];omega
  have hg:(s.path.map dQ).getD i .bot= .int .i64 s.path[i]:=by simp[List.getD,hlt,dQ]
  have hd:s.path.drop i=s.path[i]::s.path.drop (i+1):=List.drop_eq_getElem_cons hlt
  rw[hd,List.all_cons]
  simp only[DJ,h1,decide_true,if_true,aI h2,List.length_map,bX,Int.toNat_natCast,hg,bF,hw]
  cases b0 with
  |true=>
   simp only[if_true]
   refine aD (EQ s.path[i] 1) ?_
   simp only[aY]
   have:=zV s hn hv hp m (i+1) (inB 1 s.path[i]) (by omega) (by omega)
   rw[Bool.true_and]
   exact this
  |false=>
   simp only[Bool.false_eq_true,if_false]
   have:=zV s hn hv hp m (i+1) false (by omega) (by omega)
   simpa only[Bool.false_and]using this
theorem OJ (s:Sp) (hn:s.names.length≤1000000) (hv:∀n∈s.names,n.length≤1000000) (hp:s.path.length≤1000000):Ret 80 [Bl s] [] (.int .i64 (if checkF s then 0 else 1),[]):=by
 refine M80 (s.path.map dQ) s.what (s.names.map V.str) s.cut s.fr s.many ?_
 simp only[T80,List.length_map]
 refine cG (v:=decide (s.path.length≤64∧0≤s.what∧s.what≤5∧(s.what=5→0<s.path.length))) ?_ ?_
 ·by_cases k1:s.path.length≤64
  ·have k1' :((s.path.length:Nat):Int)≤64:=by omega
   by_cases k2:0≤s.what
   ·have k2' :s.what≥0:=k2
    by_cases k3:s.what≤5
    ·by_cases k4:s.what=5
     ·have k5:decide (((s.path.length:Nat):Int)>0)=decide (0<s.path.length):=by
       by_cases k:0<s.path.length
       ·have:((s.path.length:Nat):Int)>0:=by omega
        simp only[k,this,decide_true]
       ·have:¬(((s.path.length:Nat):Int)>0):=by omega
        simp only[k,this,decide_false]
      simp[k1,k1',k4,k5]
     ·have k4' :(s.what != 5)=true:=by simp[k4]
      simp[k1,k1',k2,k2',k3,k4,k4']
    ·simp[k1,k1',k2,k2',k3]
   ·have k2' :¬(s.what≥0):=k2
    simp[k1,k1',k2,k2']
  ·have k1' :¬(((s.path.length:Nat):Int)≤64):=by omega
   simp only[k1,k1',decide_false,Bool.false_eq_true,if_false,false_and]
 ·have:=zV s hn hv hp s.path.length 0 (decide (s.path.length≤64∧0≤s.what∧s.what≤5∧(s.what=5→0<s.path.length))) (by omega) (by omega)
  rw[List.drop_zero]at this
  exact this
end Go.Proofs.YtdoaoaicdimbeaaGreatDoor
end
section
namespace Go.Proofs.YtdoaoaicdimbeaaGreatDoor
open Go.Ev Go
def ER (names:List Bs) (x:Bs):Bool:=names.any fun n=>low x==low n
def ES (x:Bs):List Bs→Option Nat
 |[]=>none
 |n::r=>if low x==low n then some 0 else(ES x r).map (· +1)
theorem DN (x:Bs):∀l:List Bs,decide (lG (ES x l)≥0)=ER l x
 |[]=>rfl
 |n::r=>by
  have ih:=DN x r
  unfold ER at ih ⊢
  rw[ES,List.any_cons]
  cases h:(low x==low n)with
  |true=>simp[lG]
  |false=>
   simp only[Bool.false_eq_true,if_false,Bool.false_or]
   rw[←ih]
   cases ES x r with
   |none=>rfl
   |some k=>simp only[Option.map_some,lG];simp;omega
theorem MD (n x:Bs) (p q r:Int) (hn:n.length≤1000000) (hx:x.length≤1000000):
  Ret 144 [.str n, .ref 0 0] [.cells [.str x, .int .i64 p, .int .i64 q, .int .i64 r]] (.bool (low x==low n),[.cells [.str x, .int .i64 p, .int .i64 q, .int .i64 r]]):=by
 refine Q8 n x p q r ?_
 simp only[IQ]
 refine aD (HU x n (by omega) (by omega)) ?_
 exact aC _
theorem Fv (x:Bs) (hx:x.length≤1000000) (p q r:Int) (l:List Bs) (hl:l.length≤1000000) (hv:∀n∈l,n.length≤1000000):∀(m i:Nat),l.length - i=m→i≤l.length→
  Evt (fun k j=>As (aA cfg k) j (l.map V.str) (l.length:Nat) (i:Nat) x p q r) (.int .i64 (lG ((ES x (l.drop i)).map (· +i))),[.cells [.str x, .int .i64 p, .int .i64 q, .int .i64 r]])
 |0,i,h,hi=>by
  refine IT (l.map V.str) (l.length:Nat) (i:Nat) x p q r ?_
  have h1:¬(((i:Nat):Int)<((l.length:Nat):Int)):=by omega
  rw[List.drop_eq_nil_of_le (by omega)]
  simp only[zT,h1,decide_false,Bool.false_eq_true,if_false]
  exact aC _
 |m+1,i,h,hi=>by
  have hlt:i<l.length:=by omega
  refine IT (l.map V.str) (l.length:Nat) (i:Nat) x p q r ?_
  have h1:(((i:Nat):Int)<((l.length:Nat):Int)):=by omega
  have h2:(0:Int)≤(i:Nat):=by omega
  have hw:IntKind.wrap .i64 (((i:Nat):Int)+1)=((i+1:Nat):Int):=by rw[wrap64 (by omega) (by omega)];omega
  have hg:(l.map V.str).getD i .bot= .str l[i]:=by simp[List.getD,hlt]
  have hd:l.drop i=l[i]::l.drop (i+1):=List.drop_eq_getElem_cons hlt
  rw[hd,ES]
  simp only[zT,h1,decide_true,if_true,aI h2,List.length_map,bX,Int.toNat_natCast,hg,fN,hw]
  refine aD (MD l[i] x p q r (hv _ (List.getElem_mem hlt)) hx) ?_
  simp only[aY,Ob.getC,List.headD_cons,List.tail_cons,fN,bF]
  cases hs:(low x==low l[i])with
  |true=>
   simp only[if_true,Option.map_some,Nat.zero_add,lG]
   exact aC _
  |false=>
   simp only[Bool.false_eq_true,if_false]
   have:=Fv x hx p q r l hl hv m (i+1) (by omega) (by omega)
   rw[Option.map_map]
   have he:((fun y:Nat=>y+i) ∘ fun y=>y+1)=fun y=>y+(i+1):=by funext y;simp only[Function.comp];omega
   rw[he]
   exact this
theorem ME (x:Bs) (hx:x.length≤1000000) (p q r:Int) (l:List Bs) (hl:l.length≤1000000) (hv:∀n∈l,n.length≤1000000):
  Ret 143 [.lst 9 false (l.map V.str), .clo (Fn.func 144) [] [.ref 0 0]] [.cells [.str x, .int .i64 p, .int .i64 q, .int .i64 r]] (.bool (ER l x),[.cells [.str x, .int .i64 p, .int .i64 q, .int .i64 r]]):=by
 refine Q5 (l.map V.str) x p q r ?_
 simp only[IO]
 have h109:Ret 161 [.lst 9 false (l.map V.str), .clo (Fn.func 144) [] [.ref 0 0]] [.cells [.str x, .int .i64 p, .int .i64 q, .int .i64 r]] (.int .i64 (lG (ES x l)),[.cells [.str x, .int .i64 p, .int .i64 q, .int .i64 r]]):=by
  refine Rb (l.map V.str) x p q r ?_
  simp only[IS,List.length_map]
  have:=Fv x hx p q r l hl hv l.length 0 (by omega) (by omega)
  simpa using this
 refine aD h109 ?_
 simp only[bF,Ob.getC,List.headD_cons,List.tail_cons,fN]
 rw[←DN x l]
 exact aC _
def stepS (b:Bs) (names:List Bs) (but:Bool) (out:Bs) (f:Fd):Bs:=
 if ER names f.1=but then out else if f.2.1≤f.2.2.2∧f.2.2.2≤b.length then
  out++lE b f.2.1 f.2.2.2++(if f.2.2.2=f.2.1∨b.getD (f.2.2.2 - 1) 0≠10 then[13,10]else[])
 else out
def DO (b:Bs) (l:List Fd) (names:List Bs) (but:Bool):Bs:=l.foldl (stepS b names but) []++[13,10]
theorem Bm (b:Bs) (names:List Bs) (but:Bool) (out:Bs) (f:Fd):(stepS b names but out f).length≤out.length+b.length+2:=by
 have:=mY b f.2.1 f.2.2.2
 unfold stepS
 split
 ·omega
 ·split
  ·split
   ·simp only[List.length_append,List.length_cons,List.length_nil];omega
   ·simp only[List.length_append,List.length_nil];omega
  ·omega
theorem Fw (b:Bs) (hb:b.length≤100000) (names:List Bs) (hn:names.length≤1000000) (hv:∀n∈names,n.length≤1000000) (but:Bool) (l:List Fd) (hl:l.length≤100000) (hf:∀f∈l,f.1.length≤1000000∧f.2.2.2≤1000000):∀(m i:Nat) (out:Bs),l.length - i=m→i≤l.length→out.length≤i*100002→
  Evt (fun k j=>Aq (aA cfg k) j (ofBytes b) (names.map V.str) but (ofBytes out) (l.map fdV) (l.length:Nat) (i:Nat)) (.lst 5 false (ofBytes ((l.drop i).foldl (stepS b names but) out++[13,10])),[])
 |0,i,out,h,hi,ho=>by
  refine IN (ofBytes b) (names.map V.str) but (ofBytes out) (l.map fdV) (l.length:Nat) (i:Nat) ?_
  have h1:¬(((i:Nat):Int)<((l.length:Nat):Int)):=by omega
  have hm:i*100002≤100000*100002:=Nat.mul_le_mul_right _ (by omega)
  have c1:fQ (ofBytes out) [13,10] 2=true:=by
   have:(out.length+2)*2≤70368744177664:=by omega
   simp only[fQ,aH,List.length_cons,List.length_nil]
   exact decide_eq_true this
  rw[List.drop_eq_nil_of_le (by omega),List.foldl_nil]
  simp only[zS,h1,decide_false,Bool.false_eq_true,if_false,cJ c1,oW]
  exact aC _
 |m+1,i,out,h,hi,ho=>by
  have hlt:i<l.length:=by omega
  refine IN (ofBytes b) (names.map V.str) but (ofBytes out) (l.map fdV) (l.length:Nat) (i:Nat) ?_
  have h1:(((i:Nat):Int)<((l.length:Nat):Int)):=by omega
  have h2:(0:Int)≤(i:Nat):=by omega
  have hw:IntKind.wrap .i64 (((i:Nat):Int)+1)=((i+1:Nat):Int):=by rw[wrap64 (by omega) (by omega)];omega
  have hm:i*100002≤100000*100002:=Nat.mul_le_mul_right _ (by omega)
  have hd:l.drop i=l[i]::l.drop (i+1):=List.drop_eq_getElem_cons hlt
  have hg:=wJ hlt
  obtain⟨f1,f4⟩:=hf _ (List.getElem_mem hlt)
  have hsl:=Bm b names but out l[i]
  have hnext:=Fw b hb names hn hv but l hl hf m (i+1) (stepS b names but out l[i]) (by omega) (by omega) (by omega)
  rw[hd,List.foldl_cons]
  generalize l[i]=f at*
  obtain⟨x,p,q,r⟩:=f
  simp only at f1 f4
  simp only[zS,h1,decide_true,if_true,aI h2,List.length_map,bX,Int.toNat_natCast,hg,fdV,Bi,List.headD_cons,List.tail_cons,fN,bF,hw,aH]
  refine aD (ME x f1 (p:Nat) (q:Nat) (r:Nat) names hn hv) ?_
  dsimp+instances only[aY,Ob.getC,List.headD_cons,List.tail_cons,bF]
  by_cases hin:ER names x=but
  ·have e1:(ER names x==but)=true:=by simp[hin]
   have e2:stepS b names but out (x,p,q,r)=out:=by unfold stepS;rw[if_pos hin]
   simp only[e1,Bool.true_eq_false,if_false]
   rw[e2]at hnext ⊢
   exact hnext
  ·have e1:(ER names x==but)=false:=by simp[hin]
   simp only[e1,if_true]
   refine aD (Fg (p:Nat) (r:Nat) (b.length:Nat)) ?_
   simp only[aY]
   by_cases hwi:p≤r∧r≤b.length
   ·have k1:(0:Int)≤(p:Nat)∧((p:Nat):Int)≤(r:Nat)∧((r:Nat):Int)≤(b.length:Nat):=by omega
    have k2:(0:Int)≤(r:Nat):=by omega
    have c1:bI (ofBytes out) (ofBytes (lE b p r)) 2=true:=eC (by have:=mY b p r;rw[aH,aH];omega)
    have c2:fQ (ofBytes (out++lE b p r)) [13,10] 2=true:=by
     have hs:=mY b p r
     have:((out++lE b p r).length+2)*2≤70368744177664:=by rw[List.length_append];omega
     simp only[fQ,aH,List.length_cons,List.length_nil]
     exact decide_eq_true this
    simp only[decide_eq_true k1,Bool.not_true,Bool.false_eq_true,if_false,aI k2,aI k1.2.2,aI k1.1,aI k1.2.1,Int.toNat_natCast,wM,cJ c1,oW]
    refine cG (v:=decide (r=p∨b.getD (r - 1) 0≠10)) ?_ ?_
    ·by_cases hrp:r=p
     ·subst hrp;simp
     ·have g1:(((r:Nat):Int)==((p:Nat):Int))=false:=by
       have:¬(((r:Nat):Int)=((p:Nat):Int)):=by omega
       simpa using this
      obtain⟨z,rfl⟩:∃z,r=z+1:=⟨r - 1,by omega⟩
      have hwz:IntKind.wrap .i64 (((z+1:Nat):Int) - 1)=((z:Nat):Int):=by rw[wrap64 (by omega) (by omega)];omega
      have hzl:z<b.length:=by omega
      have g2:(0:Int)≤(z:Nat):=by omega
      have g3:((z:Nat):Int)<((b.length:Nat):Int):=by omega
      have g4:(((b[z].toNat:Nat):Int) != (10:Int))=decide (b[z]≠10):=by
       by_cases hc:b[z]=10
       ·rw[hc];rfl
       ·have:¬(((b[z].toNat:Nat):Int)=10):=fun e=>hc (UInt8.toNat_inj.1 (show b[z].toNat=10 by omega))
        simp[hc,this]
      simp only[g1,if_true,hwz,aI g2,aI g3,Int.toNat_natCast,kV hzl,bF,g4,hrp,false_or,Nat.add_sub_cancel,getD_at hzl]
    ·have e2:stepS b names but out (x,p,q,r)=out++lE b p r++(if r=p∨b.getD (r - 1) 0≠10 then[13,10]else[]):=by
      unfold stepS;rw[if_neg hin,if_pos hwi]
     by_cases hnl:r=p∨b.getD (r - 1) 0≠10
     ·rw[e2,if_pos hnl]at hnext ⊢
      simp only[decide_eq_true hnl,if_true,cJ c2]
      exact hnext
     ·rw[e2,if_neg hnl,List.append_nil]at hnext ⊢
      simp only[decide_eq_false hnl,Bool.false_eq_true,if_false]
      exact hnext
   ·have k1:¬((0:Int)≤(p:Nat)∧((p:Nat):Int)≤(r:Nat)∧((r:Nat):Int)≤(b.length:Nat)):=by omega
    have e2:stepS b names but out (x,p,q,r)=out:=by unfold stepS;rw[if_neg hin,if_neg hwi]
    simp only[decide_eq_false k1,Bool.not_false,if_true]
    rw[e2]at hnext ⊢
    exact hnext
theorem IV (b:Bs) (hb:b.length≤100000) (names:List Bs) (hn:names.length≤1000000) (hv:∀n∈names,n.length≤1000000) (but:Bool) (l:List Fd) (hl:l.length≤100000) (hf:∀f∈l,f.1.length≤1000000∧f.2.2.2≤1000000):
  Ret 120 [.lst 5 false (ofBytes b), .lst 91 false (l.map fdV), .lst 9 false (names.map V.str), .bool but] [] (.lst 5 false (ofBytes (DO b l names but)),[]):=by
 refine Q2 (ofBytes b) (l.map fdV) (names.map V.str) but ?_
 simp only[IM,List.length_map]
 have:=Fw b hb names hn hv but l hl hf l.length 0 [] (by omega) (by omega) (by simp)
 rw[List.drop_zero]at this
 exact this
end Go.Proofs.YtdoaoaicdimbeaaGreatDoor
end
section
namespace Go.Proofs.YtdoaoaicdimbeaaGreatDoor
open Go.Ev Go
def fG (p:Pt) (n:Int):Option Pt:=if p.kd=1 then(if n<1∨(p.ks.length:Int)<n then none else some (p.ks.getD (n.toNat - 1) oV))else if n=1 then some p else none
def Bn (o:Option Pt):V:= .tup [partV (o.getD oV), .bool o.isSome]
theorem told_none:Bn none= .tup [.agg [.int .i64 0, .int .i64 0, .int .i64 0, .int .i64 0, .int .i64 0, .lst 36 false [], .lst 32 false [], .int .i64 0, .int .i64 0], .bool false]:=by
 unfold Bn oV
 rw[show(none:Option Pt).getD (dZ 0 0 0)=dZ 0 0 0 from rfl,Iv];rfl
theorem gC (p:Pt):Bn (some p)= .tup [partV p, .bool true]:=rfl
theorem IW (p:Pt) (hc:cntF p≤1000000) (n:Int):Ret 76 [partV p, .int .i64 n] [] (Bn (fG p n),[]):=by
 have hkl:=DG p.ks
 have hk:=EP p
 rw[←cX p]
 refine M76 (p.kd:Nat) (p.hd.1:Nat) (p.hd.2:Nat) (p.bd.1:Nat) (p.bd.2:Nat) (p.ks.map partV) (p.cs.map cutV) (p.en.1:Nat) (p.en.2:Nat) n ?_
 simp only[T76,List.length_map]
 unfold fG
 by_cases hk1:p.kd=1
 ·have g1:(((p.kd:Nat):Int)==(1:Int))=true:=by rw[hk1];rfl
  rw[if_pos hk1]
  simp only[g1,if_true]
  by_cases hn:n<1∨(p.ks.length:Int)<n
  ·rw[if_pos hn,told_none]
   refine cG (v:=true) ?_ ?_
   ·by_cases h1:n<1
    ·simp[h1]
    ·have h2:n>((p.ks.length:Nat):Int):=by omega
     simp[h1,h2]
   ·simp only[if_true];exact aC _
  ·rw[if_neg hn]
   have e1:¬(n<1):=by omega
   have e2:¬(n>((p.ks.length:Nat):Int)):=by omega
   obtain⟨N,rfl⟩:∃N:Nat,n=((N+1:Nat):Int):=⟨n.toNat - 1,by omega⟩
   have hlt:N<p.ks.length:=by omega
   have hw:IntKind.wrap .i64 (((N+1:Nat):Int) - 1)=((N:Nat):Int):=by rw[wrap64 (by omega) (by omega)];omega
   have h2:(0:Int)≤(N:Nat):=by omega
   have h3:((N:Nat):Int)<((p.ks.length:Nat):Int):=by omega
   refine cG (v:=false) ?_ ?_
   ·simp only[e1,e2,decide_false,if_true]
   ·simp only[Bool.false_eq_true,if_false,hw,aI h2,aI h3,Int.toNat_natCast,Cb hlt,jA,Nat.add_sub_cancel,gC]
    exact aC _
 ·have g1:(((p.kd:Nat):Int)==(1:Int))=false:=by
   have:¬(((p.kd:Nat):Int)=1):=by omega
   simpa using this
  rw[if_neg hk1]
  simp only[g1,Bool.false_eq_true,if_false,cX]
  by_cases hn:n=1
  ·have g2:(n==(1:Int))=true:=by simp[hn]
   rw[if_pos hn,gC]
   simp only[g2,if_true]
   exact aC _
  ·have g2:(n==(1:Int))=false:=by simp[hn]
   rw[if_neg hn,told_none]
   simp only[g2,Bool.false_eq_true,if_false]
   exact aC _
def sM (p:Pt):Option Pt:=if p.kd=2∧0<p.ks.length then some (p.ks.getD 0 oV)else if p.kd=1 then some p else none
def DR:Pt→List Int→Option Pt
 |p,[]=>some p
 |p,n::r=>match sM p with
  |none=>none
  |some q=>match fG q n with
   |none=>none
   |some q' =>DR q' r
def vV (p:Pt):List Int→Option Pt
 |[]=>none
 |n::r=>match fG p n with
  |none=>none
  |some q=>DR q r
theorem uW {p q:Pt} {n:Int} (h:fG p n=some q):cntF q≤cntF p:=by
 unfold fG at h
 split at h
 ·split at h
  ·cases h
  ·rename_i hn
   cases h
   have:=Cc (getD_mem (l:=p.ks) (i:=n.toNat - 1) (by omega))
   rw[EP p];omega
 ·split at h
  ·cases h;omega
  ·cases h
theorem IX {p q:Pt} (h:sM p=some q):cntF q≤cntF p:=by
 unfold sM at h
 split at h
 ·rename_i hk
  cases h
  have:=Cc (getD_mem (l:=p.ks) (i:=0) hk.2)
  rw[EP p];omega
 ·split at h
  ·cases h;omega
  ·cases h
noncomputable def LA (call:FuncId→Go.Ev.Fun) (j:Nat) (is:Bool) (path:List Int) (i:Int) (p:Pt):Option (V×List Ob):=
 L38 call j is (path.map dQ) (path.length:Nat) i (p.kd:Nat) (p.hd.1:Nat) (p.hd.2:Nat) (p.bd.1:Nat) (p.bd.2:Nat) (p.ks.map partV) (p.cs.map cutV) (p.en.1:Nat) (p.en.2:Nat) 0 0 0 0 0 [] [] 0 0
theorem Gl {l:List Int} {i:Nat} (h:i<l.length):(l.map dQ).getD i .bot= .int .i64 l[i]:=by simp[List.getD,h,dQ]
theorem ET (path:List Int) (hpl:path.length≤1000000):∀(m i:Nat) (p:Pt),path.length - i=m→i≤path.length→0<i→cntF p≤1000000→
  Evt (fun k j=>LA (aA cfg k) j true path (i:Nat) p) (Bn (DR p (path.drop i)),[])
 |0,i,p,h,hi,h0,hc=>by
  refine IH true (path.map dQ) (path.length:Nat) (i:Nat) (p.kd:Nat) (p.hd.1:Nat) (p.hd.2:Nat) (p.bd.1:Nat) (p.bd.2:Nat) (p.ks.map partV) (p.cs.map cutV) (p.en.1:Nat) (p.en.2:Nat) 0 0 0 0 0 [] [] 0 0 ?_
  have h1:¬(((i:Nat):Int)<((path.length:Nat):Int)):=by omega
  rw[List.drop_eq_nil_of_le (by omega),DR,gC]
  simp only[zQ,h1,decide_false,Bool.false_eq_true,if_false,Bool.not_true,cX]
  exact aC _
 |m+1,i,p,h,hi,h0,hc=>by
  have hlt:i<path.length:=by omega
  refine IH true (path.map dQ) (path.length:Nat) (i:Nat) (p.kd:Nat) (p.hd.1:Nat) (p.hd.2:Nat) (p.bd.1:Nat) (p.bd.2:Nat) (p.ks.map partV) (p.cs.map cutV) (p.en.1:Nat) (p.en.2:Nat) 0 0 0 0 0 [] [] 0 0 ?_
  have h1:(((i:Nat):Int)<((path.length:Nat):Int)):=by omega
  have h2:(0:Int)≤(i:Nat):=by omega
  have h3:((i:Nat):Int)>0:=by omega
  have hw:IntKind.wrap .i64 (((i:Nat):Int)+1)=((i+1:Nat):Int):=by rw[wrap64 (by omega) (by omega)];omega
  have hd:path.drop i=path[i]::path.drop (i+1):=List.drop_eq_getElem_cons hlt
  rw[hd,DR]
  simp only[zQ,h1,decide_true,if_true,aI h2,List.length_map,bX,h3,Int.toNat_natCast,Gl hlt,bF,hw,cX]
  by_cases hk:p.kd=2∧0<p.ks.length
  ·have g1:(((p.kd:Nat):Int)==(2:Int))=true:=by rw[hk.1];rfl
   have g2:((p.ks.length:Nat):Int)>0:=by omega
   have g3:(0:Int)<((p.ks.length:Nat):Int):=by omega
   have hs:sM p=some (p.ks.getD 0 oV):=by unfold sM;rw[if_pos hk]
   have hsc:=IX hs
   refine cG (v:=true) (by simp only[g1,g2,if_true,decide_true]) ?_
   simp only[if_true,aI (Int.le_refl 0),aI g3,Int.toNat_zero,Cb hk.2,jA,hs]
   refine aD (IW (p.ks.getD 0 oV) (by omega) path[i]) ?_
   cases hbl:fG (p.ks.getD 0 oV) path[i]with
   |none=>
    simp only[told_none,bN,List.headD_cons,List.tail_cons,aY,Bool.not_false,if_true]
    exact aC _
   |some q=>
    have hqc:=uW hbl
    simp only[gC,bN,List.headD_cons,List.tail_cons,aY,Bool.not_true,Bool.false_eq_true,if_false,kL,bF,aW]
    exact ET path hpl m (i+1) q (by omega) (by omega) (by omega) (by omega)
  ·refine cG (v:=false) ?_ ?_
   ·by_cases g:p.kd=2
    ·have g1:(((p.kd:Nat):Int)==(2:Int))=true:=by rw[g];rfl
     have g2:¬(((p.ks.length:Nat):Int)>0):=by omega
     simp only[g1,g2,if_true,decide_false]
    ·have g1:(((p.kd:Nat):Int)==(2:Int))=false:=by
      have:¬(((p.kd:Nat):Int)=2):=by omega
      simpa using this
     simp only[g1,Bool.false_eq_true,if_false]
   ·simp only[Bool.false_eq_true,if_false]
    by_cases hk1:p.kd=1
    ·have g1:(((p.kd:Nat):Int) != (1:Int))=false:=by rw[hk1];rfl
     have hs:sM p=some p:=by unfold sM;rw[if_neg hk,if_pos hk1]
     simp only[g1,Bool.false_eq_true,if_false,hs]
     refine aD (IW p hc path[i]) ?_
     cases hbl:fG p path[i]with
     |none=>
      simp only[told_none,bN,List.headD_cons,List.tail_cons,aY,Bool.not_false,if_true]
      exact aC _
     |some q=>
      have hqc:=uW hbl
      simp only[gC,bN,List.headD_cons,List.tail_cons,aY,Bool.not_true,Bool.false_eq_true,if_false,kL,bF,aW]
      exact ET path hpl m (i+1) q (by omega) (by omega) (by omega) (by omega)
    ·have g1:(((p.kd:Nat):Int) != (1:Int))=true:=by
      have:¬(((p.kd:Nat):Int)=1):=by omega
      simpa using this
     have hs:sM p=none:=by unfold sM;rw[if_neg hk,if_neg hk1]
     simp only[g1,if_true,Bool.not_false,hs,told_none]
     exact aC _
theorem Lg (p:Pt) (hc:cntF p≤1000000) (path:List Int) (hpl:path.length≤1000000):Ret 38 [partV p, .lst 3 false (path.map dQ)] [] (Bn (vV p path),[]):=by
 rw[←cX p]
 refine M38 (p.kd:Nat) (p.hd.1:Nat) (p.hd.2:Nat) (p.bd.1:Nat) (p.bd.2:Nat) (p.ks.map partV) (p.cs.map cutV) (p.en.1:Nat) (p.en.2:Nat) (path.map dQ) ?_
 simp only[T38,List.length_map]
 refine IH false (path.map dQ) (path.length:Nat) 0 (p.kd:Nat) (p.hd.1:Nat) (p.hd.2:Nat) (p.bd.1:Nat) (p.bd.2:Nat) (p.ks.map partV) (p.cs.map cutV) (p.en.1:Nat) (p.en.2:Nat) 0 0 0 0 0 [] [] 0 0 ?_
 cases path with
 |nil=>
  have h1:¬((0:Int)<((([]:List Int).length:Nat):Int)):=by simp
  rw[vV,told_none]
  simp only[zQ,h1,decide_false,Bool.false_eq_true,if_false,Bool.not_false,if_true]
  exact aC _
 |cons n r=>
  have h1:((0:Int)<(((n::r).length:Nat):Int)):=by simp only[List.length_cons];omega
  have h3:¬((0:Int)>0):=by omega
  have hw:IntKind.wrap .i64 ((0:Int)+1)=((0+1:Nat):Int):=by rw[wrap64 (by omega) (by omega)];rfl
  have hg:((n::r).map dQ).getD 0 .bot= .int .i64 n:=rfl
  rw[vV]
  simp only[zQ,h1,decide_true,if_true,aI (Int.le_refl 0),List.length_map,bX,h3,decide_false,Bool.false_eq_true,if_false,Int.toNat_zero,hg,bF,hw,cX]
  refine aD (IW p hc n) ?_
  cases hbl:fG p n with
  |none=>
   simp only[told_none,bN,List.headD_cons,List.tail_cons,aY,Bool.not_false,if_true]
   exact aC _
  |some q=>
   have hqc:=uW hbl
   simp only[gC,bN,List.headD_cons,List.tail_cons,aY,Bool.not_true,Bool.false_eq_true,if_false,kL,bF,aW]
   exact ET (n::r) hpl r.length 1 q (by simp) (by simp) (by omega) (by omega)
def mA (b:Bs) (p:Pt) (s:Sp):Bs:=
 if s.what=0 then fF b p.hd.1 p.bd.2 else if s.what=1 then fF b p.hd.1 p.hd.2 else if s.what=4 then fF b p.bd.1 p.bd.2 else
 if s.what=3 then DO b (dP b (p.hd.1:Nat) (p.hd.2:Nat)).1 s.names true else if s.what=2 then DO b (dP b (p.hd.1:Nat) (p.hd.2:Nat)).1 s.names false else[]
def DT (b:Bs) (p:Pt) (s:Sp):Bs:=
 if checkF s then(if s.path.length=0 then mA b p s else match vV p s.path with
  |none=>[]
  |some q=>if s.what=0 then fF b q.bd.1 q.bd.2 else if s.what=5 then fF b q.hd.1 q.hd.2 else if q.kd=2∧0<q.ks.length then mA b (q.ks.getD 0 oV) s else[])
 else[]
def MF (o:Bs) (fr many:Int):Bs:=if fr<0∨(o.length:Int)<fr∨many<1 then[]else lE o fr.toNat (fr.toNat+min many.toNat (o.length - fr.toNat))
def Fz (b:Bs) (p:Pt) (s:Sp):Bs:=if s.cut then MF (DT b p s) s.fr s.many else DT b p s
def Kw (s:Sp):Prop:=s.names.length≤1000000∧(∀n∈s.names,n.length≤1000000)∧s.path.length≤1000000
theorem FA (x y:Int):(x==y)=decide (x=y):=by by_cases h:x=y<;>simp[h]
theorem Lh (b:Bs) (hb:b.length≤100000) (p:Pt) (s:Sp) (hs:Kw s):Ret 81 [.lst 5 false (ofBytes b),partV p,Bl s] [] (.lst 5 false (ofBytes (mA b p s)),[]):=by
 rw[←cX p]
 refine M81 (ofBytes b) (p.kd:Nat) (p.hd.1:Nat) (p.hd.2:Nat) (p.bd.1:Nat) (p.bd.2:Nat) (p.ks.map partV) (p.cs.map cutV) (p.en.1:Nat) (p.en.2:Nat) (s.path.map dQ) s.what (s.names.map V.str) s.cut s.fr s.many ?_
 obtain⟨k1,k2⟩:=sK b (p.hd.1:Nat) (p.hd.2:Nat)
 have k3:=IG b p.hd.1 p.hd.2
 simp only[T81,FA]
 unfold mA
 by_cases w0:s.what=0
 ·simp only[w0,decide_true,if_true]
  refine aD (DL b (by omega) _ _) ?_
  simp only[aW];exact aC _
 by_cases w1:s.what=1
 ·simp only[w0,w1,decide_true,decide_false,Bool.false_eq_true,if_true,if_false]
  refine aD (DL b (by omega) _ _) ?_
  simp only[aW];exact aC _
 by_cases w4:s.what=4
 ·simp only[w0,w1,w4,decide_true,decide_false,Bool.false_eq_true,if_true,if_false]
  refine aD (DL b (by omega) _ _) ?_
  simp only[aW];exact aC _
 by_cases w3:s.what=3
 ·simp only[w0,w1,w4,w3,decide_true,decide_false,Bool.false_eq_true,if_true,if_false]
  refine aD (Du b (by omega) (p.hd.1:Nat) (p.hd.2:Nat)) ?_
  simp only[bN,List.headD_cons,aW]
  refine aD (IV b hb s.names hs.1 hs.2.1 true _ (by omega) (fun f hf=>⟨by have:=k1 f hf;omega,by have:=k3 f hf;omega⟩)) ?_
  simp only[aW];exact aC _
 by_cases w2:s.what=2
 ·simp only[w0,w1,w4,w3,w2,decide_true,decide_false,Bool.false_eq_true,if_true,if_false]
  refine aD (Du b (by omega) (p.hd.1:Nat) (p.hd.2:Nat)) ?_
  simp only[bN,List.headD_cons,aW]
  refine aD (IV b hb s.names hs.1 hs.2.1 false _ (by omega) (fun f hf=>⟨by have:=k1 f hf;omega,by have:=k3 f hf;omega⟩)) ?_
  simp only[aW];exact aC _
 ·simp only[w0,w1,w4,w3,w2,decide_false,Bool.false_eq_true,if_false]
  exact aC _
theorem DU (s:Sp):V.agg [.lst 3 false (s.path.map dQ), .int .i64 s.what, .lst 9 false (s.names.map V.str), .bool s.cut, .int .i64 s.fr, .int .i64 s.many]=Bl s:=rfl
theorem OK (b:Bs) (hb:b.length≤100000) (p:Pt) (hc:cntF p≤1000000) (s:Sp) (hs:Kw s):Ret 40 [.lst 5 false (ofBytes b),partV p,Bl s] [] (.lst 5 false (ofBytes (DT b p s)),[]):=by
 rw[←cX p]
 refine M40 (ofBytes b) (p.kd:Nat) (p.hd.1:Nat) (p.hd.2:Nat) (p.bd.1:Nat) (p.bd.2:Nat) (p.ks.map partV) (p.cs.map cutV) (p.en.1:Nat) (p.en.2:Nat) (s.path.map dQ) s.what (s.names.map V.str) s.cut s.fr s.many ?_
 simp only[T40,cX,DU,List.length_map]
 refine aD (OJ s hs.1 hs.2.1 hs.2.2) ?_
 unfold DT
 cases hck:checkF s with
 |false=>
  have g:((1:Int) != (0:Int))=true:=rfl
  simp only[Bool.false_eq_true,if_false,bF,g,if_true]
  exact aC _
 |true=>
  have g:((0:Int) != (0:Int))=false:=rfl
  simp only[if_true,bF,g,Bool.false_eq_true,if_false]
  by_cases hp0:s.path.length=0
  ·have g1:(((s.path.length:Nat):Int)==(0:Int))=true:=by rw[hp0];rfl
   simp only[g1,if_true,if_pos hp0]
   refine aD (Lh b hb p s hs) ?_
   simp only[aW];exact aC _
  ·have g1:(((s.path.length:Nat):Int)==(0:Int))=false:=by
    have:¬(((s.path.length:Nat):Int)=0):=by omega
    simpa using this
   simp only[g1,Bool.false_eq_true,if_false,if_neg hp0]
   refine aD (Lg p hc s.path hs.2.2) ?_
   cases hf:vV p s.path with
   |none=>
    simp only[told_none,bN,List.headD_cons,List.tail_cons,aY,Bool.not_false,if_true]
    exact aC _
   |some q=>
    simp only[gC,bN,List.headD_cons,List.tail_cons,aY,Bool.not_true,Bool.false_eq_true,if_false,kL,bF,aW,FA,List.length_map]
    by_cases w0:s.what=0
    ·simp only[w0,decide_true,if_true]
     refine aD (DL b (by omega) _ _) ?_
     simp only[aW];exact aC _
    by_cases w5:s.what=5
    ·simp only[w0,w5,decide_true,decide_false,Bool.false_eq_true,if_true,if_false]
     refine aD (DL b (by omega) _ _) ?_
     simp only[aW];exact aC _
    ·simp only[w0,w5,decide_false,Bool.false_eq_true,if_false]
     by_cases hk:q.kd=2∧0<q.ks.length
     ·have g2:((q.ks.length:Nat):Int)>0:=by omega
      have g3:(0:Int)<((q.ks.length:Nat):Int):=by omega
      have g4:(((q.kd:Nat):Int)=2):=by omega
      rw[if_pos hk]
      refine cG (v:=true) (by simp only[g4,g2,if_true,decide_true]) ?_
      simp only[if_true,aI (Int.le_refl 0),aI g3,Int.toNat_zero,Cb hk.2,jA]
      refine aD (Lh b hb _ s hs) ?_
      simp only[aW];exact aC _
     ·rw[if_neg hk]
      refine cG (v:=false) ?_ ?_
      ·by_cases g:q.kd=2
       ·have g1:(((q.kd:Nat):Int)=2):=by omega
        have g2:¬(((q.ks.length:Nat):Int)>0):=by omega
        simp only[g1,g2,if_true,decide_true,decide_false]
       ·have g1:¬(((q.kd:Nat):Int)=2):=by omega
        simp only[g1,decide_false,Bool.false_eq_true,if_false]
      ·simp only[Bool.false_eq_true,if_false]
       exact aC _
theorem OL (o:Bs) (ho:o.length≤1000000000) (fr many:Int):Ret 41 [.lst 5 false (ofBytes o), .int .i64 fr, .int .i64 many] [] (.lst 5 false (ofBytes (MF o fr many)),[]):=by
 refine M41 (ofBytes o) fr many ?_
 simp only[T41,aH]
 unfold MF
 by_cases h:fr<0∨(o.length:Int)<fr∨many<1
 ·rw[if_pos h]
  refine cG (v:=true) ?_ ?_
  ·by_cases h1:fr<0
   ·simp[h1]
   ·by_cases h2:fr>((o.length:Nat):Int)
    ·simp[h1,h2]
    ·have h3:many<1:=by omega
     simp[h1,h2,h3]
  ·simp only[if_true];exact aC _
 ·rw[if_neg h]
  have e1:¬(fr<0):=by omega
  have e2:¬(fr>((o.length:Nat):Int)):=by omega
  have e3:¬(many<1):=by omega
  obtain⟨F,rfl⟩:∃F:Nat,fr=F:=⟨fr.toNat,by omega⟩
  obtain⟨M,rfl⟩:∃M:Nat,many=M:=⟨many.toNat,by omega⟩
  have hw1:IntKind.wrap .i64 (((o.length:Nat):Int) - ((F:Nat):Int))=((o.length - F:Nat):Int):=by rw[wrap64 (by omega) (by omega)];omega
  have hmin:(if((o.length - F:Nat):Int)<((M:Nat):Int)then((o.length - F:Nat):Int)else((M:Nat):Int))=((min M (o.length - F):Nat):Int):=by split<;>omega
  have hw2:IntKind.wrap .i64 (((F:Nat):Int)+((min M (o.length - F):Nat):Int))=((F+min M (o.length - F):Nat):Int):=by rw[wrap64 (by omega) (by omega)];omega
  have k1:(0:Int)≤((F+min M (o.length - F):Nat):Int):=by omega
  have k2:((F+min M (o.length - F):Nat):Int)≤((o.length:Nat):Int):=by omega
  have k3:(0:Int)≤((F:Nat):Int):=by omega
  have k4:((F:Nat):Int)≤((F+min M (o.length - F):Nat):Int):=by omega
  refine cG (v:=false) (by simp only[e1,e2,e3,decide_false,if_true]) ?_
  simp only[Bool.false_eq_true,if_false,hw1,hmin,hw2,aI k1,aI k2,aI k3,aI k4,Int.toNat_natCast,wM]
  refine aD (IU _ (by have:=mY o F (F+min M (o.length - F));omega)) ?_
  simp only[aW];exact aC _
theorem vW (b:Bs) (p:Pt) (s:Sp):(mA b p s).length≤b.length+(b.length+2)*b.length+2:=by
 have hsome:∀but,(DO b (dP b (p.hd.1:Nat) (p.hd.2:Nat)).1 s.names but).length≤(b.length+2)*b.length+2:=by
  intro but
  obtain⟨_,k2⟩:=sK b (p.hd.1:Nat) (p.hd.2:Nat)
  have hf:∀(l:List Fd) (out:Bs),(l.foldl (stepS b s.names but) out).length≤out.length+(b.length+2)*l.length:=by
   intro l
   induction l with
   |nil=>intro out;simp
   |cons f r ih=>
    intro out
    have h1:=ih (stepS b s.names but out f)
    have h2:=Bm b s.names but out f
    rw[List.foldl_cons,List.length_cons,Nat.mul_add,Nat.mul_one]
    omega
  have h1:=hf (dP b (p.hd.1:Nat) (p.hd.2:Nat)).1 []
  have h2:(b.length+2)* (dP b (p.hd.1:Nat) (p.hd.2:Nat)).1.length≤(b.length+2)*b.length:=Nat.mul_le_mul_left _ k2
  unfold DO
  rw[List.length_append]
  simp only[List.length_nil,List.length_cons]at h1 ⊢
  omega
 unfold mA
 split
 ·have:=lZ b p.hd.1 p.bd.2;omega
 split
 ·have:=lZ b p.hd.1 p.hd.2;omega
 split
 ·have:=lZ b p.bd.1 p.bd.2;omega
 split
 ·have:=hsome true;omega
 split
 ·have:=hsome false;omega
 ·simp
theorem Kx (b:Bs) (p:Pt) (s:Sp):(DT b p s).length≤b.length+(b.length+2)*b.length+2:=by
 unfold DT
 split
 ·split
  ·exact vW b p s
  ·split
   ·simp
   ·rename_i q _
    split
    ·have:=lZ b q.bd.1 q.bd.2;omega
    split
    ·have:=lZ b q.hd.1 q.hd.2;omega
    split
    ·exact vW b _ s
    ·simp
 ·simp
theorem OM (b:Bs) (hb:b.length≤3000) (p:Pt) (hc:cntF p≤1000000) (s:Sp) (hs:Kw s):Ret 19 [.lst 5 false (ofBytes b),partV p,Bl s] [] (.lst 5 false (ofBytes (Fz b p s)),[]):=by
 have hle:=Kx b p s
 have hle2:(b.length+2)*b.length≤3002*3000:=Nat.mul_le_mul (by omega) hb
 rw[←cX p]
 refine M19 (ofBytes b) (p.kd:Nat) (p.hd.1:Nat) (p.hd.2:Nat) (p.bd.1:Nat) (p.bd.2:Nat) (p.ks.map partV) (p.cs.map cutV) (p.en.1:Nat) (p.en.2:Nat) (s.path.map dQ) s.what (s.names.map V.str) s.cut s.fr s.many ?_
 simp only[T19,cX,DU]
 refine aD (OK b (by omega) p hc s hs) ?_
 simp only[aW]
 unfold Fz
 cases s.cut with
 |true=>
  simp only[if_true]
  refine aD (OL (DT b p s) (by omega) s.fr s.many) ?_
  simp only[aW];exact aC _
 |false=>
  simp only[Bool.false_eq_true,if_false]
  exact aC _
end Go.Proofs.YtdoaoaicdimbeaaGreatDoor
end
section
namespace Go.Proofs.YtdoaoaicdimbeaaGreatDoor
open Go.Ev Go
def mkS (path:List Int) (w:Int):Sp:=⟨path,w,[],false,0,0⟩
theorem MG {path:List Int} {w:Int} (h:path.length≤1000000):Kw (mkS path w):=⟨by simp[mkS],by simp[mkS],h⟩
theorem Gm {n w:Int} (hw:w=0∨w=5) (hn:1≤n∧n≤4294967295):checkF (mkS [n] w)=true:=by
 have hi:inB 1 n=true:=decide_eq_true hn
 rcases hw with rfl|rfl<;>simp[checkF,mkS,hi]
theorem DV (p:Pt) (n:Int):vV p [n]=fG p n:=by
 rw[vV]
 cases fG p n with
 |none=>rfl
 |some q=>rfl
theorem Gn (b:Bs) (p:Pt) {n:Int} (hn:1≤n∧n≤4294967295):Fz b p (mkS [n] 0)=match fG p n with|none=>[]|some q=>fF b q.bd.1 q.bd.2:=by
 unfold Fz DT
 rw[if_neg (by simp[mkS]),if_pos (Gm (.inl rfl) hn),if_neg (by simp[mkS])]
 show(match vV p [n]with|none=>[]|some q=>_)=_
 rw[DV]
 cases fG p n with
 |none=>rfl
 |some q=>rfl
end Go.Proofs.YtdoaoaicdimbeaaGreatDoor
end
section
namespace Go.Proofs.YtdoaoaicdimbeaaGreatDoor
open Go.Ev Go
open List (headD tail getD length drop take)
open V (getI getL getT getS getB)
set_option maxRecDepth 100000
variable (call : FuncId → Fun) (icall : aQ (V × List Ob)) (again : List It → St → Option (V × List Ob))
def T39 (call:FuncId→Fun) (a0:List V) (a1:Int) (a2:Int) (a3:Int) (a4:Int) (a5:Int) (a6:List V) (a7:List V) (a8:Int) (a9:Int):Option (V×List Ob):=
 Option.bind (call 37 [(V.lst 5 false a0),(V.agg [(V.int .i64 a4),(V.int .i64 a5)])] []) fun z0=>
 Option.bind (call 36 [(V.lst 5 false a0),(V.agg [(V.int .i64 a1),(V.int .i64 a2),(V.int .i64 a3),(V.int .i64 a4),(V.int .i64 a5),(V.lst 36 false a6),(V.lst 32 false a7),(V.int .i64 a8),(V.int .i64 a9)])] []) fun z1=>
 if(a1==(1:Int))=true then
 Option.bind (call 77 [(V.lst 9 false [(V.str [55,98,105,116]),(V.str [56,98,105,116]),(V.str [98,105,110,97,114,121])]),(V.str [98,105,110,97,114,121])] []) fun z2=>
 if(getB z2.1)=true then
 some ((V.tup [(V.lst 5 false (getL z0.1)),(V.bool true)]),[])
 else
 if(sEq [98,105,110,97,114,121] [98,97,115,101,54,52])=true then
 if(!true)=true then
 some ((V.tup [(V.lst 5 false []),(V.bool false)]),[])
 else
 Option.bind (call 78 [(V.lst 5 false (getL z0.1))] []) fun z3=>
 some ((V.tup [(V.lst 5 false (getL (headD (getT z3.1) V.bot))),(V.bool (getB (headD (tail (getT z3.1)) V.bot)))]),[])
 else
 if(sEq [98,105,110,97,114,121] [113,117,111,116,101,100,45,112,114,105,110,116,97,98,108,101])=true then
 if(!true)=true then
 some ((V.tup [(V.lst 5 false []),(V.bool false)]),[])
 else
 Option.bind (call 79 [(V.lst 5 false (getL z0.1))] []) fun z3=>
 some ((V.tup [(V.lst 5 false (getL (headD (getT z3.1) V.bot))),(V.bool (getB (headD (tail (getT z3.1)) V.bot)))]),[])
 else
 if(!false)=true then
 some ((V.tup [(V.lst 5 false []),(V.bool false)]),[])
 else
 none
 else
 Option.bind (call 77 [(V.lst 9 false [(V.str [55,98,105,116]),(V.str [56,98,105,116]),(V.str [98,105,110,97,114,121])]),(V.str (getS z1.1))] []) fun z2=>
 if(getB z2.1)=true then
 some ((V.tup [(V.lst 5 false (getL z0.1)),(V.bool true)]),[])
 else
 if(sEq (getS z1.1) [98,97,115,101,54,52])=true then
 if(!true)=true then
 some ((V.tup [(V.lst 5 false []),(V.bool false)]),[])
 else
 Option.bind (call 78 [(V.lst 5 false (getL z0.1))] []) fun z3=>
 some ((V.tup [(V.lst 5 false (getL (headD (getT z3.1) V.bot))),(V.bool (getB (headD (tail (getT z3.1)) V.bot)))]),[])
 else
 if(sEq (getS z1.1) [113,117,111,116,101,100,45,112,114,105,110,116,97,98,108,101])=true then
 if(!true)=true then
 some ((V.tup [(V.lst 5 false []),(V.bool false)]),[])
 else
 Option.bind (call 79 [(V.lst 5 false (getL z0.1))] []) fun z3=>
 some ((V.tup [(V.lst 5 false (getL (headD (getT z3.1) V.bot))),(V.bool (getB (headD (tail (getT z3.1)) V.bot)))]),[])
 else
 if(!false)=true then
 some ((V.tup [(V.lst 5 false []),(V.bool false)]),[])
 else
 none
def A39 (a0:List V) (a1:Int) (a2:Int) (a3:Int) (a4:Int) (a5:Int) (a6:List V) (a7:List V) (a8:Int) (a9:Int):List V:=[V.lst 5 false a0,V.agg [V.int IntKind.i64 a1,V.int IntKind.i64 a2,V.int IntKind.i64 a3,V.int IntKind.i64 a4,V.int IntKind.i64 a5,V.lst 36 false a6,V.lst 32 false a7,V.int IntKind.i64 a8,V.int IntKind.i64 a9]]
theorem E39 (a0:List V) (a1:Int) (a2:Int) (a3:Int) (a4:Int) (a5:Int) (a6:List V) (a7:List V) (a8:Int) (a9:Int):GO 39 Tryz.f39 (A39 a0 a1 a2 a3 a4 a5 a6 a7 a8 a9) [] call icall again=T39 call a0 a1 a2 a3 a4 a5 a6 a7 a8 a9:=by kernel_rfl
theorem C39 (k:Nat) (a0:List V) (a1:Int) (a2:Int) (a3:Int) (a4:Int) (a5:Int) (a6:List V) (a7:List V) (a8:Int) (a9:Int):aA cfg (k+1) 39 (A39 a0 a1 a2 a3 a4 a5 a6 a7 a8 a9) []=T39 (aA cfg k) a0 a1 a2 a3 a4 a5 a6 a7 a8 a9:=
 (show aA cfg (k+1) 39 (A39 a0 a1 a2 a3 a4 a5 a6 a7 a8 a9) []=GO 39 Tryz.f39 (A39 a0 a1 a2 a3 a4 a5 a6 a7 a8 a9) [] (aA cfg k) (aE cfg (aA cfg k) 20) (RN 39 Tryz.f39 [] (aA cfg k) (aE cfg (aA cfg k) 20) k)by kernel_rfl).trans (E39 _ _ _ a0 a1 a2 a3 a4 a5 a6 a7 a8 a9)
theorem M39 (a0:List V) (a1:Int) (a2:Int) (a3:Int) (a4:Int) (a5:Int) (a6:List V) (a7:List V) (a8:Int) (a9:Int) {r:V×List Ob} (h:Evt (fun k n=>T39 (aA cfg k) a0 a1 a2 a3 a4 a5 a6 a7 a8 a9) r):Ret 39 [V.lst 5 false a0,V.agg [V.int IntKind.i64 a1,V.int IntKind.i64 a2,V.int IntKind.i64 a3,V.int IntKind.i64 a4,V.int IntKind.i64 a5,V.lst 36 false a6,V.lst 32 false a7,V.int IntKind.i64 a8,V.int IntKind.i64 a9]] [] r:=aS (g:=fun k n=>T39 (aA cfg k) a0 a1 a2 a3 a4 a5 a6 a7 a8 a9) (fun k=>C39 k a0 a1 a2 a3 a4 a5 a6 a7 a8 a9) h
end Go.Proofs.YtdoaoaicdimbeaaGreatDoor
end
section
namespace Go.Proofs.YtdoaoaicdimbeaaGreatDoor
open Go.Ev Go
theorem ON (b:Bs) (hb:b.length≤1000000) (x y:Nat):Ret 37 [.lst 5 false (ofBytes b), .agg [.int .i64 (x:Nat), .int .i64 (y:Nat)]] [] (.lst 5 false (ofBytes (fF b x y)),[]):=by
 refine M37 (ofBytes b) (x:Nat) (y:Nat) ?_
 simp only[T37,aH]
 refine aD (Fg (x:Nat) (y:Nat) (b.length:Nat)) ?_
 simp only[aY]
 unfold fF
 by_cases h:x≤y∧y≤b.length
 ·have h1:(0:Int)≤(x:Nat)∧((x:Nat):Int)≤(y:Nat)∧((y:Nat):Int)≤(b.length:Nat):=by omega
  have h2:(0:Int)≤(y:Nat):=by omega
  have hl:=mY b x y
  rw[if_pos h]
  simp only[decide_eq_true h1,Bool.not_true,Bool.false_eq_true,if_false,aI h2,aI h1.2.2,aI h1.1,aI h1.2.1,Int.toNat_natCast,wM]
  refine aD (IU (lE b x y) (by omega)) ?_
  simp only[aW]
  exact aC _
 ·have h1:¬((0:Int)≤(x:Nat)∧((x:Nat):Int)≤(y:Nat)∧((y:Nat):Int)≤(b.length:Nat)):=by omega
  rw[if_neg h]
  simp only[decide_eq_false h1,Bool.not_false,if_true]
  exact aC _
theorem mZ {f:FuncId} {args:List V} {objs:List Ob} {r:V×List Ob} (K:Nat) (h:∀m,aA cfg (m+K) f args objs=some r):Ret f args objs r:=
 ⟨K,fun k hk=>by obtain⟨m,rfl⟩:∃m,k=m+K:=⟨k - K,by omega⟩;exact h m⟩
set_option maxRecDepth 100000 in
theorem OO:Ret 16 [] [] (.bool true,[]):=mZ 200 fun m=>by kernel_rfl
end Go.Proofs.YtdoaoaicdimbeaaGreatDoor
end
section
namespace Go.Proofs.YtdoaoaicdimbeaaGreatDoor
open Go.Ev Go
open List (headD tail getD length drop take)
open V (getI getL getT getS getB)
set_option maxRecDepth 100000
variable (call : FuncId → Fun) (icall : aQ (V × List Ob)) (again : List It → St → Option (V × List Ob))
def DW (call:FuncId→Fun) (ag0:List V→List V→Int→Int→Option (V×List Ob)) (l0:List V) (l1:List V) (i2:Int) (i3:Int):Option (V×List Ob):=
 if(decide (i3<i2))=true then
 chk (decide (0≤i3)) (chk (decide (i3<((length l1:Nat):Int))) (Option.bind (if(decide ((getI (getD l1 (Int.toNat i3) V.bot))≥(33:Int)))=true then
 if(decide ((getI (getD l1 (Int.toNat i3) V.bot))≤(126:Int)))=true then
 some ((getI (getD l1 (Int.toNat i3) V.bot)) != (61:Int))
 else
 some false
 else
 some false) fun y0=>
 if y0=true then
 chk (bI l0 [(V.int .u8 (getI (getD l1 (Int.toNat i3) V.bot)))] 2) ((ag0 ((l0++[(V.int .u8 (getI (getD l1 (Int.toNat i3) V.bot)))])) (l1) (i2) ((IntKind.wrap .i64 (i3+(1:Int))))))
 else
 chk (decide (0≤(4:Int))) (chk (decide (0≤(Int.fdiv (getI (getD l1 (Int.toNat i3) V.bot)) (2 ^ min (Int.toNat (4:Int)) (IntKind.bits .u8))))) (chk (decide ((Int.fdiv (getI (getD l1 (Int.toNat i3) V.bot)) (2 ^ min (Int.toNat (4:Int)) (IntKind.bits .u8)))<((length [48,49,50,51,52,53,54,55,56,57,65,66,67,68,69,70]:Nat):Int))) (chk (decide (0≤(bits BinOp.and .u8 (getI (getD l1 (Int.toNat i3) V.bot)) (15:Int)))) (chk (decide ((bits BinOp.and .u8 (getI (getD l1 (Int.toNat i3) V.bot)) (15:Int))<((length [48,49,50,51,52,53,54,55,56,57,65,66,67,68,69,70]:Nat):Int))) (chk (bI l0 [(V.int .u8 61),(V.int .u8 ((UInt8.toNat (getD [48,49,50,51,52,53,54,55,56,57,65,66,67,68,69,70] (Int.toNat (Int.fdiv (getI (getD l1 (Int.toNat i3) V.bot)) (2 ^ min (Int.toNat (4:Int)) (IntKind.bits .u8)))) 0):Nat):Int)),(V.int .u8 ((UInt8.toNat (getD [48,49,50,51,52,53,54,55,56,57,65,66,67,68,69,70] (Int.toNat (bits BinOp.and .u8 (getI (getD l1 (Int.toNat i3) V.bot)) (15:Int))) 0):Nat):Int))] 2) ((ag0 ((l0++[(V.int .u8 61),(V.int .u8 ((UInt8.toNat (getD [48,49,50,51,52,53,54,55,56,57,65,66,67,68,69,70] (Int.toNat (Int.fdiv (getI (getD l1 (Int.toNat i3) V.bot)) (2 ^ min (Int.toNat (4:Int)) (IntKind.bits .u8)))) 0):Nat):Int)),(V.int .u8 ((UInt8.toNat (getD [48,49,50,51,52,53,54,55,56,57,65,66,67,68,69,70] (Int.toNat (bits BinOp.and .u8 (getI (getD l1 (Int.toNat i3) V.bot)) (15:Int))) 0):Nat):Int))])) (l1) (i2) ((IntKind.wrap .i64 (i3+(1:Int)))))))))))))
 else
 some ((V.lst 5 false l0),[])
def T21 (call:FuncId→Fun) (ag0:List V→List V→Int→Int→Option (V×List Ob)) (a0:List V):Option (V×List Ob):=
 (ag0 ([]) (a0) (((length a0:Nat):Int)) ((0:Int)))
def A21 (a0:List V):List V:=[V.lst 5 false a0]
def Bo (l0:List V) (l1:List V) (i2:Int) (i3:Int):St:=⟨[V.bot,V.bot,V.bot,(V.lst 5 true l0),V.bot,V.bot,(V.lst 5 false l1),(V.int IntKind.i64 i2),(V.int IntKind.i64 i3)]++List.replicate 28 V.bot,[]⟩
theorem OP (l0:List V) (l1:List V) (i2:Int) (i3:Int):
 RM 21 Tryz.f21 [] call icall again (aK Tryz.f21 0) (Bo l0 l1 i2 i3)=DW call (fun l0 l1 i2 i3=>again (aK Tryz.f21 0) (Bo l0 l1 i2 i3)) l0 l1 i2 i3:=by kernel_rfl
theorem E21 (a0:List V):GO 21 Tryz.f21 (A21 a0) [] call icall again=T21 call (fun l0 l1 i2 i3=>again (aK Tryz.f21 0) (Bo l0 l1 i2 i3)) a0:=by kernel_rfl
def L21 (call:FuncId→Fun):Nat→(List V→List V→Int→Int→Option (V×List Ob))
 |0=>fun _ _ _ _=>none
 |n+1=>DW call (L21 call n)
theorem R21 (call:FuncId→Fun) (icall:aQ (V×List Ob)):∀n,(∀(l0:List V) (l1:List V) (i2:Int) (i3:Int),RN 21 Tryz.f21 [] call icall n (aK Tryz.f21 0) (Bo l0 l1 i2 i3)=(L21 call n) l0 l1 i2 i3)
 |0=>fun l0 l1 i2 i3=>rfl
 |n+1=>by
  have ih:=R21 call icall n
  exact fun l0 l1 i2 i3=>(OP call icall (RN 21 Tryz.f21 [] call icall n) l0 l1 i2 i3).trans (by rw[show(fun l0 l1 i2 i3=>RN 21 Tryz.f21 [] call icall n (aK Tryz.f21 0) (Bo l0 l1 i2 i3))=(L21 call n)from(funext fun l0=>funext fun l1=>funext fun i2=>funext fun i3=>ih l0 l1 i2 i3)];rfl)
theorem C21 (k:Nat) (a0:List V):aA cfg (k+1) 21 (A21 a0) []=T21 (aA cfg k) (L21 (aA cfg k) k) a0:=by
 have ih:=R21 (aA cfg k) (aE cfg (aA cfg k) 20) k
 refine(show aA cfg (k+1) 21 (A21 a0) []=GO 21 Tryz.f21 (A21 a0) [] (aA cfg k) (aE cfg (aA cfg k) 20) (RN 21 Tryz.f21 [] (aA cfg k) (aE cfg (aA cfg k) 20) k)by kernel_rfl).trans ((E21 _ _ _ a0).trans ?_)
 rw[show(fun l0 l1 i2 i3=>RN 21 Tryz.f21 [] (aA cfg k) (aE cfg (aA cfg k) 20) k (aK Tryz.f21 0) (Bo l0 l1 i2 i3))=(L21 (aA cfg k) k)from(funext fun l0=>funext fun l1=>funext fun i2=>funext fun i3=>ih l0 l1 i2 i3)]
theorem M21 (a0:List V) {r:V×List Ob} (h:Evt (fun k n=>T21 (aA cfg k) (L21 (aA cfg k) n) a0) r):Ret 21 [V.lst 5 false a0] [] r:=aS (g:=fun k n=>T21 (aA cfg k) (L21 (aA cfg k) n) a0) (fun k=>C21 k a0) h
theorem Li (l0:List V) (l1:List V) (i2:Int) (i3:Int) {r:V×List Ob} (h:Evt (fun k n=>DW (aA cfg k) (L21 (aA cfg k) n) l0 l1 i2 i3) r):Evt (fun k n=>(L21 (aA cfg k) n) l0 l1 i2 i3) r:=aV (fun k n=>rfl) h
def DX (call:FuncId→Fun) (ag0:List V→List V→Option (V×List Ob)) (l0:List V) (l1:List V):Option (V×List Ob):=
 if(decide (((length l0:Nat):Int)>(0:Int)))=true then
 chk (decide (0≤(4:Int))) (chk (decide ((4:Int)≤((length l0:Nat):Int))) (chk (decide (0≤(0:Int))) (chk (decide ((0:Int)≤(4:Int))) (Option.bind (call 114 [(V.lst 5 false (drop (Int.toNat (0:Int)) (take (Int.toNat (4:Int)) l0))),(V.bool (((length l0:Nat):Int)==(4:Int)))] []) fun z0=>
 if(!(getB (headD (tail (getT z0.1)) V.bot)))=true then
 some ((V.tup [(V.lst 5 false []),(V.bool false)]),[])
 else
 chk (bI l1 (getL (headD (getT z0.1) V.bot)) 2) (chk (decide (0≤(4:Int))) (chk (decide ((4:Int)≤((length l0:Nat):Int))) ((ag0 ((drop (Int.toNat (4:Int)) l0)) ((l1++(getL (headD (getT z0.1) V.bot))))))))))))
 else
 some ((V.tup [(V.lst 5 false l1),(V.bool true)]),[])
def T78 (call:FuncId→Fun) (ag0:List V→List V→Option (V×List Ob)) (a0:List V):Option (V×List Ob):=
 Option.bind (call 113 [(V.lst 5 false a0)] []) fun z0=>
 chk ((4:Int) != 0) (if((Int.tmod ((length (getL z0.1):Nat):Int) (4:Int)) != (0:Int))=true then
 some ((V.tup [(V.lst 5 false []),(V.bool false)]),[])
 else
 (ag0 ((getL z0.1)) ([])))
def A78 (a0:List V):List V:=[V.lst 5 false a0]
def Bp (l0:List V) (l1:List V):St:=⟨[(V.lst 5 false l0),V.bot,V.bot,V.bot,(V.lst 5 true l1)]++List.replicate 28 V.bot,[]⟩
theorem OQ (l0:List V) (l1:List V):
 RM 78 Tryz.f78 [] call icall again (aK Tryz.f78 0) (Bp l0 l1)=DX call (fun l0 l1=>again (aK Tryz.f78 0) (Bp l0 l1)) l0 l1:=by kernel_rfl
theorem E78 (a0:List V):GO 78 Tryz.f78 (A78 a0) [] call icall again=T78 call (fun l0 l1=>again (aK Tryz.f78 0) (Bp l0 l1)) a0:=by kernel_rfl
def L78 (call:FuncId→Fun):Nat→(List V→List V→Option (V×List Ob))
 |0=>fun _ _=>none
 |n+1=>DX call (L78 call n)
theorem R78 (call:FuncId→Fun) (icall:aQ (V×List Ob)):∀n,(∀(l0:List V) (l1:List V),RN 78 Tryz.f78 [] call icall n (aK Tryz.f78 0) (Bp l0 l1)=(L78 call n) l0 l1)
 |0=>fun l0 l1=>rfl
 |n+1=>by
  have ih:=R78 call icall n
  exact fun l0 l1=>(OQ call icall (RN 78 Tryz.f78 [] call icall n) l0 l1).trans (by rw[show(fun l0 l1=>RN 78 Tryz.f78 [] call icall n (aK Tryz.f78 0) (Bp l0 l1))=(L78 call n)from(funext fun l0=>funext fun l1=>ih l0 l1)];rfl)
theorem C78 (k:Nat) (a0:List V):aA cfg (k+1) 78 (A78 a0) []=T78 (aA cfg k) (L78 (aA cfg k) k) a0:=by
 have ih:=R78 (aA cfg k) (aE cfg (aA cfg k) 20) k
 refine(show aA cfg (k+1) 78 (A78 a0) []=GO 78 Tryz.f78 (A78 a0) [] (aA cfg k) (aE cfg (aA cfg k) 20) (RN 78 Tryz.f78 [] (aA cfg k) (aE cfg (aA cfg k) 20) k)by kernel_rfl).trans ((E78 _ _ _ a0).trans ?_)
 rw[show(fun l0 l1=>RN 78 Tryz.f78 [] (aA cfg k) (aE cfg (aA cfg k) 20) k (aK Tryz.f78 0) (Bp l0 l1))=(L78 (aA cfg k) k)from(funext fun l0=>funext fun l1=>ih l0 l1)]
theorem M78 (a0:List V) {r:V×List Ob} (h:Evt (fun k n=>T78 (aA cfg k) (L78 (aA cfg k) n) a0) r):Ret 78 [V.lst 5 false a0] [] r:=aS (g:=fun k n=>T78 (aA cfg k) (L78 (aA cfg k) n) a0) (fun k=>C78 k a0) h
theorem Lj (l0:List V) (l1:List V) {r:V×List Ob} (h:Evt (fun k n=>DX (aA cfg k) (L78 (aA cfg k) n) l0 l1) r):Evt (fun k n=>(L78 (aA cfg k) n) l0 l1) r:=aV (fun k n=>rfl) h
def uX (call:FuncId→Fun) (ag0:List V→List V→Int→Option (V×List Ob)) (l0:List V) (l1:List V) (i2:Int):Option (V×List Ob):=
 if(decide (i2<((length l0:Nat):Int)))=true then
 chk (decide (0≤i2)) (chk (decide (i2<((length l0:Nat):Int))) (if((getI (getD l0 (Int.toNat i2) V.bot))==(61:Int))=true then
 if(decide ((IntKind.wrap .i64 (i2+(2:Int)))≥((length l0:Nat):Int)))=true then
 some ((V.tup [(V.lst 5 false []),(V.bool false)]),[])
 else
 chk (decide (0≤(IntKind.wrap .i64 (i2+(1:Int))))) (chk (decide ((IntKind.wrap .i64 (i2+(1:Int)))<((length l0:Nat):Int))) (Option.bind (call 142 [(V.int .u8 (getI (getD l0 (Int.toNat (IntKind.wrap .i64 (i2+(1:Int)))) V.bot)))] []) fun z0=>
 chk (decide (0≤(IntKind.wrap .i64 (i2+(2:Int))))) (chk (decide ((IntKind.wrap .i64 (i2+(2:Int)))<((length l0:Nat):Int))) (Option.bind (call 142 [(V.int .u8 (getI (getD l0 (Int.toNat (IntKind.wrap .i64 (i2+(2:Int)))) V.bot)))] []) fun z1=>
 Option.bind (if(!(getB (headD (tail (getT z0.1)) V.bot)))=false then
 some (!(getB (headD (tail (getT z1.1)) V.bot)))
 else
 some true) fun y2=>
 if y2=true then
 some ((V.tup [(V.lst 5 false []),(V.bool false)]),[])
 else
 chk (decide (0≤(4:Int))) (chk (bI l1 [(V.int .u8 (bits BinOp.or .u8 (IntKind.wrap .u8 ((getI (headD (getT z0.1) V.bot))*2 ^ min (Int.toNat (4:Int)) (IntKind.bits .u8))) (getI (headD (getT z1.1) V.bot))))] 2) ((ag0 (l0) ((l1++[(V.int .u8 (bits BinOp.or .u8 (IntKind.wrap .u8 ((getI (headD (getT z0.1) V.bot))*2 ^ min (Int.toNat (4:Int)) (IntKind.bits .u8))) (getI (headD (getT z1.1) V.bot))))])) ((IntKind.wrap .i64 ((IntKind.wrap .i64 (i2+(2:Int)))+(1:Int)))))))))))
 else
 Option.bind (if((getI (getD l0 (Int.toNat i2) V.bot))==(32:Int))=false then
 if((getI (getD l0 (Int.toNat i2) V.bot))==(9:Int))=false then
 if(decide ((getI (getD l0 (Int.toNat i2) V.bot))≥(33:Int)))=true then
 some (decide ((getI (getD l0 (Int.toNat i2) V.bot))≤(126:Int)))
 else
 some false
 else
 some true
 else
 some true) fun y0=>
 if y0=true then
 chk (bI l1 [(V.int .u8 (getI (getD l0 (Int.toNat i2) V.bot)))] 2) ((ag0 (l0) ((l1++[(V.int .u8 (getI (getD l0 (Int.toNat i2) V.bot)))])) ((IntKind.wrap .i64 (i2+(1:Int))))))
 else
 some ((V.tup [(V.lst 5 false []),(V.bool false)]),[])))
 else
 some ((V.tup [(V.lst 5 false l1),(V.bool true)]),[])
def IY (call:FuncId→Fun) (ag0:List V→List V→Int→Option (V×List Ob)) (a0:List V):Option (V×List Ob):=
 (ag0 (a0) ([]) ((0:Int)))
def Ky (a0:List V):List V:=[V.lst 5 false a0]
def uY (l0:List V) (l1:List V) (i2:Int):St:=⟨[(V.lst 5 false l0),V.bot,V.bot,V.bot,(V.lst 5 true l1),(V.int IntKind.i64 i2)]++List.replicate 76 V.bot,[]⟩
theorem MH (l0:List V) (l1:List V) (i2:Int):
 RM 116 Tryz.f116 [] call icall again (aK Tryz.f116 0) (uY l0 l1 i2)=uX call (fun l0 l1 i2=>again (aK Tryz.f116 0) (uY l0 l1 i2)) l0 l1 i2:=by kernel_rfl
theorem Rc (a0:List V):GO 116 Tryz.f116 (Ky a0) [] call icall again=IY call (fun l0 l1 i2=>again (aK Tryz.f116 0) (uY l0 l1 i2)) a0:=by kernel_rfl
def Au (call:FuncId→Fun):Nat→(List V→List V→Int→Option (V×List Ob))
 |0=>fun _ _ _=>none
 |n+1=>uX call (Au call n)
theorem OR (call:FuncId→Fun) (icall:aQ (V×List Ob)):∀n,(∀(l0:List V) (l1:List V) (i2:Int),RN 116 Tryz.f116 [] call icall n (aK Tryz.f116 0) (uY l0 l1 i2)=(Au call n) l0 l1 i2)
 |0=>fun l0 l1 i2=>rfl
 |n+1=>by
  have ih:=OR call icall n
  exact fun l0 l1 i2=>(MH call icall (RN 116 Tryz.f116 [] call icall n) l0 l1 i2).trans (by rw[show(fun l0 l1 i2=>RN 116 Tryz.f116 [] call icall n (aK Tryz.f116 0) (uY l0 l1 i2))=(Au call n)from(funext fun l0=>funext fun l1=>funext fun i2=>ih l0 l1 i2)];rfl)
theorem Re (k:Nat) (a0:List V):aA cfg (k+1) 116 (Ky a0) []=IY (aA cfg k) (Au (aA cfg k) k) a0:=by
 have ih:=OR (aA cfg k) (aE cfg (aA cfg k) 20) k
 refine(show aA cfg (k+1) 116 (Ky a0) []=GO 116 Tryz.f116 (Ky a0) [] (aA cfg k) (aE cfg (aA cfg k) 20) (RN 116 Tryz.f116 [] (aA cfg k) (aE cfg (aA cfg k) 20) k)by kernel_rfl).trans ((Rc _ _ _ a0).trans ?_)
 rw[show(fun l0 l1 i2=>RN 116 Tryz.f116 [] (aA cfg k) (aE cfg (aA cfg k) 20) k (aK Tryz.f116 0) (uY l0 l1 i2))=(Au (aA cfg k) k)from(funext fun l0=>funext fun l1=>funext fun i2=>ih l0 l1 i2)]
theorem Rf (a0:List V) {r:V×List Ob} (h:Evt (fun k n=>IY (aA cfg k) (Au (aA cfg k) n) a0) r):Ret 116 [V.lst 5 false a0] [] r:=aS (g:=fun k n=>IY (aA cfg k) (Au (aA cfg k) n) a0) (fun k=>Re k a0) h
theorem IZ (l0:List V) (l1:List V) (i2:Int) {r:V×List Ob} (h:Evt (fun k n=>uX (aA cfg k) (Au (aA cfg k) n) l0 l1 i2) r):Evt (fun k n=>(Au (aA cfg k) n) l0 l1 i2) r:=aV (fun k n=>rfl) h
def DY (call:FuncId→Fun) (ag0:List V→List V→Option (V×List Ob)) (l0:List V) (l1:List V):Option (V×List Ob):=
 if(decide (((length l0:Nat):Int)>(0:Int)))=true then
 Option.bind (call 115 [(V.lst 5 false l0)] []) fun z0=>
 Option.bind (if(decide ((IntKind.wrap .i64 (((length (getL (headD (getT z0.1) V.bot)):Nat):Int) - (1:Int)))≥(0:Int)))=true then
 chk (decide (0≤(IntKind.wrap .i64 (((length (getL (headD (getT z0.1) V.bot)):Nat):Int) - (1:Int))))) (chk (decide ((IntKind.wrap .i64 (((length (getL (headD (getT z0.1) V.bot)):Nat):Int) - (1:Int)))<((length (getL (headD (getT z0.1) V.bot)):Nat):Int))) (some ((getI (getD (getL (headD (getT z0.1) V.bot)) (Int.toNat (IntKind.wrap .i64 (((length (getL (headD (getT z0.1) V.bot)):Nat):Int) - (1:Int)))) V.bot))==(61:Int))))
 else
 some false) fun y1=>
 if y1=true then
 chk (decide (0≤(IntKind.wrap .i64 (((length (getL (headD (getT z0.1) V.bot)):Nat):Int) - (1:Int))))) (chk (decide ((IntKind.wrap .i64 (((length (getL (headD (getT z0.1) V.bot)):Nat):Int) - (1:Int)))≤((length (getL (headD (getT z0.1) V.bot)):Nat):Int))) (chk (decide (0≤(0:Int))) (chk (decide ((0:Int)≤(IntKind.wrap .i64 (((length (getL (headD (getT z0.1) V.bot)):Nat):Int) - (1:Int))))) (Option.bind (call 116 [(V.lst 5 false (drop (Int.toNat (0:Int)) (take (Int.toNat (IntKind.wrap .i64 (((length (getL (headD (getT z0.1) V.bot)):Nat):Int) - (1:Int)))) (getL (headD (getT z0.1) V.bot)))))] []) fun z2=>
 if(!(getB (headD (tail (getT z2.1)) V.bot)))=true then
 some ((V.tup [(V.lst 5 false []),(V.bool false)]),[])
 else
 chk (bI l1 (getL (headD (getT z2.1) V.bot)) 2) (chk (bI (l1++(getL (headD (getT z2.1) V.bot))) [] 2) ((ag0 ((getL (headD (tail (tail (getT z0.1))) V.bot))) (((l1++(getL (headD (getT z2.1) V.bot)))++[])))))))))
 else
 Option.bind (call 116 [(V.lst 5 false (getL (headD (getT z0.1) V.bot)))] []) fun z2=>
 if(!(getB (headD (tail (getT z2.1)) V.bot)))=true then
 some ((V.tup [(V.lst 5 false []),(V.bool false)]),[])
 else
 chk (bI l1 (getL (headD (getT z2.1) V.bot)) 2) (chk (bI (l1++(getL (headD (getT z2.1) V.bot))) (getL (headD (tail (getT z0.1)) V.bot)) 2) ((ag0 ((getL (headD (tail (tail (getT z0.1))) V.bot))) (((l1++(getL (headD (getT z2.1) V.bot)))++(getL (headD (tail (getT z0.1)) V.bot)))))))
 else
 some ((V.tup [(V.lst 5 false l1),(V.bool true)]),[])
def T79 (call:FuncId→Fun) (ag0:List V→List V→Option (V×List Ob)) (a0:List V):Option (V×List Ob):=
 (ag0 (a0) ([]))
def A79 (a0:List V):List V:=[V.lst 5 false a0]
def Bq (l0:List V) (l1:List V):St:=⟨[(V.lst 5 false l0),V.bot,V.bot,V.bot,(V.lst 5 true l1)]++List.replicate 44 V.bot,[]⟩
theorem OS (l0:List V) (l1:List V):
 RM 79 Tryz.f79 [] call icall again (aK Tryz.f79 0) (Bq l0 l1)=DY call (fun l0 l1=>again (aK Tryz.f79 0) (Bq l0 l1)) l0 l1:=by kernel_rfl
theorem E79 (a0:List V):GO 79 Tryz.f79 (A79 a0) [] call icall again=T79 call (fun l0 l1=>again (aK Tryz.f79 0) (Bq l0 l1)) a0:=by kernel_rfl
def L79 (call:FuncId→Fun):Nat→(List V→List V→Option (V×List Ob))
 |0=>fun _ _=>none
 |n+1=>DY call (L79 call n)
theorem R79 (call:FuncId→Fun) (icall:aQ (V×List Ob)):∀n,(∀(l0:List V) (l1:List V),RN 79 Tryz.f79 [] call icall n (aK Tryz.f79 0) (Bq l0 l1)=(L79 call n) l0 l1)
 |0=>fun l0 l1=>rfl
 |n+1=>by
  have ih:=R79 call icall n
  exact fun l0 l1=>(OS call icall (RN 79 Tryz.f79 [] call icall n) l0 l1).trans (by rw[show(fun l0 l1=>RN 79 Tryz.f79 [] call icall n (aK Tryz.f79 0) (Bq l0 l1))=(L79 call n)from(funext fun l0=>funext fun l1=>ih l0 l1)];rfl)
theorem C79 (k:Nat) (a0:List V):aA cfg (k+1) 79 (A79 a0) []=T79 (aA cfg k) (L79 (aA cfg k) k) a0:=by
 have ih:=R79 (aA cfg k) (aE cfg (aA cfg k) 20) k
 refine(show aA cfg (k+1) 79 (A79 a0) []=GO 79 Tryz.f79 (A79 a0) [] (aA cfg k) (aE cfg (aA cfg k) 20) (RN 79 Tryz.f79 [] (aA cfg k) (aE cfg (aA cfg k) 20) k)by kernel_rfl).trans ((E79 _ _ _ a0).trans ?_)
 rw[show(fun l0 l1=>RN 79 Tryz.f79 [] (aA cfg k) (aE cfg (aA cfg k) 20) k (aK Tryz.f79 0) (Bq l0 l1))=(L79 (aA cfg k) k)from(funext fun l0=>funext fun l1=>ih l0 l1)]
theorem M79 (a0:List V) {r:V×List Ob} (h:Evt (fun k n=>T79 (aA cfg k) (L79 (aA cfg k) n) a0) r):Ret 79 [V.lst 5 false a0] [] r:=aS (g:=fun k n=>T79 (aA cfg k) (L79 (aA cfg k) n) a0) (fun k=>C79 k a0) h
theorem Lk (l0:List V) (l1:List V) {r:V×List Ob} (h:Evt (fun k n=>DY (aA cfg k) (L79 (aA cfg k) n) l0 l1) r):Evt (fun k n=>(L79 (aA cfg k) n) l0 l1) r:=aV (fun k n=>rfl) h
def zW (call:FuncId→Fun) (ag0:List V→Int→Option (V×List Ob)) (ag1:List V→Int→List V→List V→Option (V×List Ob)) (l0:List V) (i1:Int):Option (V×List Ob):=
 Option.bind (if(decide (i1<((length l0:Nat):Int)))=true then
 chk (decide (0≤i1)) (chk (decide (i1<((length l0:Nat):Int))) (some ((getI (getD l0 (Int.toNat i1) V.bot)) != (10:Int))))
 else
 some false) fun y0=>
 if y0=true then
 (ag0 (l0) ((IntKind.wrap .i64 (i1+(1:Int)))))
 else
 Option.bind (if(decide (i1<((length l0:Nat):Int)))=true then
 if(decide (i1>(0:Int)))=true then
 chk (decide (0≤(IntKind.wrap .i64 (i1 - (1:Int))))) (chk (decide ((IntKind.wrap .i64 (i1 - (1:Int)))<((length l0:Nat):Int))) (some ((getI (getD l0 (Int.toNat (IntKind.wrap .i64 (i1 - (1:Int)))) V.bot))==(13:Int))))
 else
 some false
 else
 some false) fun y1=>
 if y1=true then
 chk (decide (0≤(IntKind.wrap .i64 (i1 - (1:Int))))) (chk (decide ((IntKind.wrap .i64 (i1 - (1:Int)))≤((length l0:Nat):Int))) (chk (decide (0≤(0:Int))) (chk (decide ((0:Int)≤(IntKind.wrap .i64 (i1 - (1:Int))))) (chk (decide (0≤(if((length l0:Nat):Int)<(IntKind.wrap .i64 (i1+(1:Int)))then((length l0:Nat):Int)else(IntKind.wrap .i64 (i1+(1:Int)))))) (chk (decide ((if((length l0:Nat):Int)<(IntKind.wrap .i64 (i1+(1:Int)))then((length l0:Nat):Int)else(IntKind.wrap .i64 (i1+(1:Int))))≤((length l0:Nat):Int))) (chk (decide (0≤(IntKind.wrap .i64 (i1 - (1:Int))))) (chk (decide ((IntKind.wrap .i64 (i1 - (1:Int)))≤(if((length l0:Nat):Int)<(IntKind.wrap .i64 (i1+(1:Int)))then((length l0:Nat):Int)else(IntKind.wrap .i64 (i1+(1:Int)))))) ((ag1 (l0) ((if((length l0:Nat):Int)<(IntKind.wrap .i64 (i1+(1:Int)))then((length l0:Nat):Int)else(IntKind.wrap .i64 (i1+(1:Int))))) ((drop (Int.toNat (0:Int)) (take (Int.toNat (IntKind.wrap .i64 (i1 - (1:Int)))) l0))) ((drop (Int.toNat (IntKind.wrap .i64 (i1 - (1:Int)))) (take (Int.toNat (if((length l0:Nat):Int)<(IntKind.wrap .i64 (i1+(1:Int)))then((length l0:Nat):Int)else(IntKind.wrap .i64 (i1+(1:Int))))) l0))))))))))))
 else
 chk (decide (0≤i1)) (chk (decide (i1≤((length l0:Nat):Int))) (chk (decide (0≤(0:Int))) (chk (decide ((0:Int)≤i1)) (chk (decide (0≤(if((length l0:Nat):Int)<(IntKind.wrap .i64 (i1+(1:Int)))then((length l0:Nat):Int)else(IntKind.wrap .i64 (i1+(1:Int)))))) (chk (decide ((if((length l0:Nat):Int)<(IntKind.wrap .i64 (i1+(1:Int)))then((length l0:Nat):Int)else(IntKind.wrap .i64 (i1+(1:Int))))≤((length l0:Nat):Int))) (chk (decide (0≤i1)) (chk (decide (i1≤(if((length l0:Nat):Int)<(IntKind.wrap .i64 (i1+(1:Int)))then((length l0:Nat):Int)else(IntKind.wrap .i64 (i1+(1:Int)))))) ((ag1 (l0) ((if((length l0:Nat):Int)<(IntKind.wrap .i64 (i1+(1:Int)))then((length l0:Nat):Int)else(IntKind.wrap .i64 (i1+(1:Int))))) ((drop (Int.toNat (0:Int)) (take (Int.toNat i1) l0))) ((drop (Int.toNat i1) (take (Int.toNat (if((length l0:Nat):Int)<(IntKind.wrap .i64 (i1+(1:Int)))then((length l0:Nat):Int)else(IntKind.wrap .i64 (i1+(1:Int))))) l0))))))))))))
def Cd (call:FuncId→Fun) (ag0:List V→Int→Option (V×List Ob)) (ag1:List V→Int→List V→List V→Option (V×List Ob)) (l0:List V) (i1:Int) (l2:List V) (l3:List V):Option (V×List Ob):=
 if(decide (((length l2:Nat):Int)>(0:Int)))=true then
 chk (decide (0≤(IntKind.wrap .i64 (((length l2:Nat):Int) - (1:Int))))) (chk (decide ((IntKind.wrap .i64 (((length l2:Nat):Int) - (1:Int)))<((length l2:Nat):Int))) (if((getI (getD l2 (Int.toNat (IntKind.wrap .i64 (((length l2:Nat):Int) - (1:Int)))) V.bot))==(32:Int))=true then
 chk (decide (0≤(IntKind.wrap .i64 (((length l2:Nat):Int) - (1:Int))))) (chk (decide ((IntKind.wrap .i64 (((length l2:Nat):Int) - (1:Int)))≤((length l2:Nat):Int))) (chk (decide (0≤(0:Int))) (chk (decide ((0:Int)≤(IntKind.wrap .i64 (((length l2:Nat):Int) - (1:Int))))) ((ag1 (l0) (i1) ((drop (Int.toNat (0:Int)) (take (Int.toNat (IntKind.wrap .i64 (((length l2:Nat):Int) - (1:Int)))) l2))) (l3))))))
 else
 if((getI (getD l2 (Int.toNat (IntKind.wrap .i64 (((length l2:Nat):Int) - (1:Int)))) V.bot))==(9:Int))=true then
 chk (decide (0≤(IntKind.wrap .i64 (((length l2:Nat):Int) - (1:Int))))) (chk (decide ((IntKind.wrap .i64 (((length l2:Nat):Int) - (1:Int)))≤((length l2:Nat):Int))) (chk (decide (0≤(0:Int))) (chk (decide ((0:Int)≤(IntKind.wrap .i64 (((length l2:Nat):Int) - (1:Int))))) ((ag1 (l0) (i1) ((drop (Int.toNat (0:Int)) (take (Int.toNat (IntKind.wrap .i64 (((length l2:Nat):Int) - (1:Int)))) l2))) (l3))))))
 else
 chk (decide (0≤i1)) (chk (decide (i1≤((length l0:Nat):Int))) (some ((V.tup [(V.lst 5 false l2),(V.lst 5 false l3),(V.lst 5 false (drop (Int.toNat i1) l0))]),[])))))
 else
 chk (decide (0≤i1)) (chk (decide (i1≤((length l0:Nat):Int))) (some ((V.tup [(V.lst 5 false l2),(V.lst 5 false l3),(V.lst 5 false (drop (Int.toNat i1) l0))]),[])))
def I0 (call:FuncId→Fun) (ag0:List V→Int→Option (V×List Ob)) (ag1:List V→Int→List V→List V→Option (V×List Ob)) (a0:List V):Option (V×List Ob):=
 (ag0 (a0) ((0:Int)))
def Kz (a0:List V):List V:=[V.lst 5 false a0]
def oY (l0:List V) (i1:Int):St:=⟨[(V.lst 5 false l0),V.bot,V.bot,V.bot,V.bot,(V.int IntKind.i64 i1)]++List.replicate 68 V.bot,[]⟩
def oZ (l0:List V) (i1:Int) (l2:List V) (l3:List V):St:=⟨[(V.lst 5 false l0),V.bot,V.bot,V.bot,V.bot,V.bot,(V.int IntKind.i64 i1),(V.lst 5 false l2),(V.lst 5 false l3)]++List.replicate 65 V.bot,[]⟩
theorem MI (l0:List V) (i1:Int):
 RM 115 Tryz.f115 [] call icall again (aK Tryz.f115 0) (oY l0 i1)=zW call (fun l0 i1=>again (aK Tryz.f115 0) (oY l0 i1)) (fun l0 i1 l2 l3=>again (aK Tryz.f115 1) (oZ l0 i1 l2 l3)) l0 i1:=by kernel_rfl
theorem MJ (l0:List V) (i1:Int) (l2:List V) (l3:List V):
 RM 115 Tryz.f115 [] call icall again (aK Tryz.f115 1) (oZ l0 i1 l2 l3)=Cd call (fun l0 i1=>again (aK Tryz.f115 0) (oY l0 i1)) (fun l0 i1 l2 l3=>again (aK Tryz.f115 1) (oZ l0 i1 l2 l3)) l0 i1 l2 l3:=by kernel_rfl
theorem Rh (a0:List V):GO 115 Tryz.f115 (Kz a0) [] call icall again=I0 call (fun l0 i1=>again (aK Tryz.f115 0) (oY l0 i1)) (fun l0 i1 l2 l3=>again (aK Tryz.f115 1) (oZ l0 i1 l2 l3)) a0:=by kernel_rfl
def jJ (call:FuncId→Fun):Nat→(List V→Int→Option (V×List Ob))×(List V→Int→List V→List V→Option (V×List Ob))
 |0=>⟨fun _ _=>none,fun _ _ _ _=>none⟩
 |n+1=>⟨zW call (jJ call n).1 (jJ call n).2,Cd call (jJ call n).1 (jJ call n).2⟩
theorem OT (call:FuncId→Fun) (icall:aQ (V×List Ob)):∀n,(∀(l0:List V) (i1:Int),RN 115 Tryz.f115 [] call icall n (aK Tryz.f115 0) (oY l0 i1)=(jJ call n).1 l0 i1)∧(∀(l0:List V) (i1:Int) (l2:List V) (l3:List V),RN 115 Tryz.f115 [] call icall n (aK Tryz.f115 1) (oZ l0 i1 l2 l3)=(jJ call n).2 l0 i1 l2 l3)
 |0=>⟨fun l0 i1=>rfl,fun l0 i1 l2 l3=>rfl⟩
 |n+1=>by
  have ih:=OT call icall n
  exact⟨fun l0 i1=>(MI call icall (RN 115 Tryz.f115 [] call icall n) l0 i1).trans (by rw[show(fun l0 i1=>RN 115 Tryz.f115 [] call icall n (aK Tryz.f115 0) (oY l0 i1))=(jJ call n).1 from(funext fun l0=>funext fun i1=>ih.1 l0 i1),show(fun l0 i1 l2 l3=>RN 115 Tryz.f115 [] call icall n (aK Tryz.f115 1) (oZ l0 i1 l2 l3))=(jJ call n).2 from(funext fun l0=>funext fun i1=>funext fun l2=>funext fun l3=>ih.2 l0 i1 l2 l3)];rfl),
   fun l0 i1 l2 l3=>(MJ call icall (RN 115 Tryz.f115 [] call icall n) l0 i1 l2 l3).trans (by rw[show(fun l0 i1=>RN 115 Tryz.f115 [] call icall n (aK Tryz.f115 0) (oY l0 i1))=(jJ call n).1 from(funext fun l0=>funext fun i1=>ih.1 l0 i1),show(fun l0 i1 l2 l3=>RN 115 Tryz.f115 [] call icall n (aK Tryz.f115 1) (oZ l0 i1 l2 l3))=(jJ call n).2 from(funext fun l0=>funext fun i1=>funext fun l2=>funext fun l3=>ih.2 l0 i1 l2 l3)];rfl)⟩
theorem Ri (k:Nat) (a0:List V):aA cfg (k+1) 115 (Kz a0) []=I0 (aA cfg k) (jJ (aA cfg k) k).1 (jJ (aA cfg k) k).2 a0:=by
 have ih:=OT (aA cfg k) (aE cfg (aA cfg k) 20) k
 refine(show aA cfg (k+1) 115 (Kz a0) []=GO 115 Tryz.f115 (Kz a0) [] (aA cfg k) (aE cfg (aA cfg k) 20) (RN 115 Tryz.f115 [] (aA cfg k) (aE cfg (aA cfg k) 20) k)by kernel_rfl).trans ((Rh _ _ _ a0).trans ?_)
 rw[show(fun l0 i1=>RN 115 Tryz.f115 [] (aA cfg k) (aE cfg (aA cfg k) 20) k (aK Tryz.f115 0) (oY l0 i1))=(jJ (aA cfg k) k).1 from(funext fun l0=>funext fun i1=>ih.1 l0 i1),show(fun l0 i1 l2 l3=>RN 115 Tryz.f115 [] (aA cfg k) (aE cfg (aA cfg k) 20) k (aK Tryz.f115 1) (oZ l0 i1 l2 l3))=(jJ (aA cfg k) k).2 from(funext fun l0=>funext fun i1=>funext fun l2=>funext fun l3=>ih.2 l0 i1 l2 l3)]
theorem Rj (a0:List V) {r:V×List Ob} (h:Evt (fun k n=>I0 (aA cfg k) (jJ (aA cfg k) n).1 (jJ (aA cfg k) n).2 a0) r):Ret 115 [V.lst 5 false a0] [] r:=aS (g:=fun k n=>I0 (aA cfg k) (jJ (aA cfg k) n).1 (jJ (aA cfg k) n).2 a0) (fun k=>Ri k a0) h
theorem I1 (l0:List V) (i1:Int) {r:V×List Ob} (h:Evt (fun k n=>zW (aA cfg k) (jJ (aA cfg k) n).1 (jJ (aA cfg k) n).2 l0 i1) r):Evt (fun k n=>(jJ (aA cfg k) n).1 l0 i1) r:=aV (fun k n=>rfl) h
theorem MK (l0:List V) (i1:Int) (l2:List V) (l3:List V) {r:V×List Ob} (h:Evt (fun k n=>Cd (aA cfg k) (jJ (aA cfg k) n).1 (jJ (aA cfg k) n).2 l0 i1 l2 l3) r):Evt (fun k n=>(jJ (aA cfg k) n).2 l0 i1 l2 l3) r:=aV (fun k n=>rfl) h
end Go.Proofs.YtdoaoaicdimbeaaGreatDoor
end
section
namespace Go.Proofs.YtdoaoaicdimbeaaGreatDoor
open Go.Ev Go
theorem uZ (pre:Bs) (c:UInt8) (q:Bs):List.getD (ofBytes (pre++c::q)) pre.length V.bot= .int .u8 (c.toNat:Nat):=by
 rw[kV (by simp)]
 simp
theorem KA (pre:Bs) (a c:UInt8) (q:Bs):List.getD (ofBytes (pre++a::c::q)) (pre.length+1) V.bot= .int .u8 (c.toNat:Nat):=by
 have e:pre++a::c::q=(pre++[a])++c::q:=by simp
 have e2:pre.length+1=(pre++[a]).length:=by simp
 rw[e,e2];exact uZ _ _ _
theorem KB (pre:Bs) (a b c:UInt8) (q:Bs):List.getD (ofBytes (pre++a::b::c::q)) (pre.length+2) V.bot= .int .u8 (c.toNat:Nat):=by
 have e:pre++a::b::c::q=(pre++[a,b])++c::q:=by simp
 have e2:pre.length+2=(pre++[a,b]).length:=by simp
 rw[e,e2];exact uZ _ _ _
theorem jB (a b:Bs):ofBytes a++ofBytes b=ofBytes (a++b):=by simp[ofBytes]
theorem wq {n:Nat} (h:n≤1000000):IntKind.wrap .i64 (((n:Nat):Int)+1)=((n+1:Nat):Int):=by rw[wrap64 (by omega) (by omega)];omega
theorem wq2 {n:Nat} (h:n≤1000000):IntKind.wrap .i64 (((n:Nat):Int)+2)=((n+2:Nat):Int):=by rw[wrap64 (by omega) (by omega)];omega
theorem OU:∀c:UInt8,(if(decide (((c.toNat:Nat):Int)≥(33:Int)))=true then if(decide (((c.toNat:Nat):Int)≤(126:Int)))=true then some (((c.toNat:Nat):Int) != (61:Int))else some false else some false)=some (Gj c):=fB (by decide+kernel)
theorem OV:∀c:UInt8,Int.fdiv ((c.toNat:Nat):Int) (2 ^ min (Int.toNat (4:Int)) (IntKind.bits IntKind.u8))=((c.toNat / 16:Nat):Int):=fB (by decide+kernel)
theorem OW:∀c:UInt8,bits BinOp.and IntKind.u8 ((c.toNat:Nat):Int) (15:Int)=((c.toNat % 16:Nat):Int):=fB (by decide+kernel)
theorem OX:∀c:UInt8,bits BinOp.or IntKind.u8 (IntKind.wrap IntKind.u8 (((c.toNat / 16:Nat):Int)*2 ^ min (Int.toNat (4:Int)) (IntKind.bits IntKind.u8))) ((c.toNat % 16:Nat):Int)=((c.toNat:Nat):Int):=fB (by decide+kernel)
theorem OY:∀c:UInt8,Gj c=true→(((c.toNat:Nat):Int)==(61:Int))=false∧(if(((c.toNat:Nat):Int)==(32:Int))=false then if(((c.toNat:Nat):Int)==(9:Int))=false then if(decide (((c.toNat:Nat):Int)≥(33:Int)))=true then some (decide (((c.toNat:Nat):Int)≤(126:Int)))else some false else some true else some true)=some true:=fB (by decide+kernel)
theorem I2:∀c:UInt8,qpT c=true→(((c.toNat:Nat):Int) != (10:Int))=true∧(((c.toNat:Nat):Int)==(32:Int))=false∧(((c.toNat:Nat):Int)==(9:Int))=false:=fB (by decide+kernel)
theorem EU (c:UInt8):c.toNat / 16<16∧c.toNat % 16<16:=by have:=c.toNat_lt;omega
theorem I3 (v:Nat) (h:v<16):Ret 142 [.int .u8 ((rM v).toNat:Nat)] [] (.tup [.int .u8 (v:Nat), .bool true],[]):=by
 obtain rfl|rfl|rfl|rfl|rfl|rfl|rfl|rfl|rfl|rfl|rfl|rfl|rfl|rfl|rfl|rfl:v=0∨v=1∨v=2∨v=3∨v=4∨v=5∨v=6∨v=7∨v=8∨v=9∨v=10∨v=11∨v=12∨v=13∨v=14∨v=15:=by omega
 all_goals exact mZ 5 fun m=>by kernel_rfl
def qpB (b:Bs):Bs:=b.flatMap qpF
theorem ML (c:UInt8):(qpF c).length≤3:=by unfold qpF;split<;>simp
theorem zX:∀b:Bs,(qpB b).length≤3*b.length
 |[]=>by simp[qpB]
 |c::r=>by
  have h1:=ML c
  have h2:=zX r
  simp only[qpB,List.flatMap_cons,List.length_append,List.length_cons]at h2 ⊢;omega
theorem I4 (b:Bs) (hb:b.length≤1000):∀(v pre:Bs),b=pre++v→
  Evt (fun k j=>L21 (aA cfg k) j (ofBytes (qpB pre)) (ofBytes b) (b.length:Nat) (pre.length:Nat)) (.lst 5 false (ofBytes (qpB b)),[])
 |[],pre,h=>by
  refine Li (ofBytes (qpB pre)) (ofBytes b) (b.length:Nat) (pre.length:Nat) ?_
  rw[List.append_nil]at h
  subst h
  have h1:¬((b.length:Int)<(b.length:Int)):=by omega
  simp only[DW,h1,decide_false,Bool.false_eq_true,if_false]
  exact aC _
 |c::v,pre,h=>by
  refine Li (ofBytes (qpB pre)) (ofBytes b) (b.length:Nat) (pre.length:Nat) ?_
  have hl:b.length=pre.length+(v.length+1):=by rw[h];simp
  have h1:((pre.length:Int)<(b.length:Int)):=by omega
  have h2:(0:Int)≤(pre.length:Nat):=by omega
  have g:List.getD (ofBytes b) pre.length V.bot= .int .u8 (c.toNat:Nat):=by rw[h];exact uZ _ _ _
  have hle:=zX pre
  have ih:=I4 b hb v (pre++[c]) (by rw[h];simp)
  have e1:(pre++[c]).length=pre.length+1:=by simp
  have e2:qpB (pre++[c])=qpB pre++qpF c:=by simp[qpB]
  rw[e1,e2]at ih
  obtain⟨x1,x2⟩:=EU c
  have x3:(0:Int)≤((c.toNat / 16:Nat):Int):=by omega
  have x4:((c.toNat / 16:Nat):Int)<((List.length [48,49,50,51,52,53,54,55,56,57,65,66,67,68,69,70]:Nat):Int):=by simp only[List.length_cons,List.length_nil];omega
  have x5:(0:Int)≤((c.toNat % 16:Nat):Int):=by omega
  have x6:((c.toNat % 16:Nat):Int)<((List.length [48,49,50,51,52,53,54,55,56,57,65,66,67,68,69,70]:Nat):Int):=by simp only[List.length_cons,List.length_nil];omega
  have ap1:∀n:Int,bI (ofBytes (qpB pre)) [V.int IntKind.u8 n] 2=true:=fun n=>eC (by rw[aH];simp only[List.length_cons,List.length_nil];omega)
  have ap3:∀n m q:Int,bI (ofBytes (qpB pre)) [V.int IntKind.u8 n,V.int IntKind.u8 m,V.int IntKind.u8 q] 2=true:=fun n m q=>eC (by rw[aH];simp only[List.length_cons,List.length_nil];omega)
  simp only[DW,h1,decide_true,if_true,aI h2,aH,bX,Int.toNat_natCast,g,wq (show pre.length≤1000000 by omega)]
  dsimp+instances only[bF]
  refine cG (v:=Gj c) (OU c) ?_
  cases hc:Gj c with
  |true=>
   have e3:qpF c=[c]:=by unfold qpF;rw[if_pos hc]
   rw[e3]at ih
   simp only[if_true,cJ (ap1 _),dC]
   exact ih
  |false=>
   have e3:qpF c=[61,rM (c.toNat / 16),rM (c.toNat % 16)]:=by unfold qpF;rw[if_neg (by rw[hc];decide)]
   rw[e3,←jB]at ih
   simp only[Bool.false_eq_true,if_false,aI (show(0:Int)≤4 by omega),OV,OW,aI x3,aI x4,aI x5,aI x6,Int.toNat_natCast,cJ (ap3 _ _ _)]
   exact ih
theorem OZ (b:Bs) (hb:b.length≤1000):Ret 21 [.lst 5 false (ofBytes b)] [] (.lst 5 false (ofBytes (qpB b)),[]):=by
 refine M21 (ofBytes b) ?_
 simp only[T21,aH]
 exact I4 b hb b [] rfl
theorem Ce (b:Bs) (hb:b.length≤1000) (S:Bs) (hS:S.length≤3000):∀(v pre out:Bs),S=pre++qpB v→b=out++v→
  Evt (fun k j=>Au (aA cfg k) j (ofBytes S) (ofBytes out) (pre.length:Nat)) (.tup [.lst 5 false (ofBytes b), .bool true],[])
 |[],pre,out,h,ho=>by
  refine IZ (ofBytes S) (ofBytes out) (pre.length:Nat) ?_
  rw[List.append_nil]at ho
  have h0:S.length=pre.length:=by rw[h];simp[qpB]
  have h1:¬((pre.length:Int)<(S.length:Int)):=by omega
  subst ho
  simp only[uX,aH,h1,decide_false,Bool.false_eq_true,if_false]
  exact aC _
 |c::v,pre,out,h,ho=>by
  refine IZ (ofBytes S) (ofBytes out) (pre.length:Nat) ?_
  have hol:out.length≤1000:=by rw[ho]at hb;simp at hb;omega
  have hq:qpB (c::v)=qpF c++qpB v:=by simp[qpB]
  rw[hq]at h
  have h2:(0:Int)≤(pre.length:Nat):=by omega
  have ap1:∀n:Int,bI (ofBytes out) [V.int IntKind.u8 n] 2=true:=fun n=>eC (by rw[aH];simp only[List.length_cons,List.length_nil];omega)
  cases hc:Gj c with
  |true=>
   have e3:qpF c=[c]:=by unfold qpF;rw[if_pos hc]
   rw[e3]at h
   obtain⟨r1,r2⟩:=OY c hc
   have hl:pre.length+1≤S.length:=by rw[h];simp
   have h1:((pre.length:Int)<(S.length:Int)):=by omega
   have g:List.getD (ofBytes S) pre.length V.bot= .int .u8 (c.toNat:Nat):=by rw[h];exact uZ _ _ _
   have ih:=Ce b hb S hS v (pre++[c]) (out++[c]) (by rw[h];simp) (by rw[ho];simp)
   have e1:(pre++[c]).length=pre.length+1:=by simp
   rw[e1]at ih
   simp only[uX,aH,h1,decide_true,if_true,aI h2,bX,Int.toNat_natCast,g,wq (show pre.length≤1000000 by omega)]
   dsimp+instances only[bF]
   simp only[r1,Bool.false_eq_true,if_false]
   refine cG (v:=true) r2 ?_
   simp only[if_true,cJ (ap1 _),dC]
   exact ih
  |false=>
   have e3:qpF c=[61,rM (c.toNat / 16),rM (c.toNat % 16)]:=by unfold qpF;rw[if_neg (by rw[hc];decide)]
   rw[e3]at h
   obtain⟨x1,x2⟩:=EU c
   have hl:pre.length+3≤S.length:=by rw[h];simp
   have h1:((pre.length:Int)<(S.length:Int)):=by omega
   have h3:¬(((pre.length+2:Nat):Int)≥(S.length:Int)):=by omega
   have h4:(0:Int)≤((pre.length+1:Nat):Int):=by omega
   have h5:((pre.length+1:Nat):Int)<(S.length:Int):=by omega
   have h6:(0:Int)≤((pre.length+2:Nat):Int):=by omega
   have h7:((pre.length+2:Nat):Int)<(S.length:Int):=by omega
   have g:List.getD (ofBytes S) pre.length V.bot= .int .u8 ((61:UInt8).toNat:Nat):=by rw[h];exact uZ _ _ _
   have g1:List.getD (ofBytes S) (pre.length+1) V.bot= .int .u8 ((rM (c.toNat / 16)).toNat:Nat):=by rw[h];exact KA _ _ _ _
   have g2:List.getD (ofBytes S) (pre.length+2) V.bot= .int .u8 ((rM (c.toNat % 16)).toNat:Nat):=by rw[h];exact KB _ _ _ _ _
   have e61:((((61:UInt8).toNat:Nat):Int)==(61:Int))=true:=rfl
   have ih:=Ce b hb S hS v (pre++[61,rM (c.toNat / 16),rM (c.toNat % 16)]) (out++[c]) (by rw[h];simp) (by rw[ho];simp)
   have e1:(pre++[61,rM (c.toNat / 16),rM (c.toNat % 16)]).length=pre.length+2+1:=by simp
   rw[e1]at ih
   simp only[uX,aH,h1,decide_true,if_true,aI h2,bX,Int.toNat_natCast,g,wq (show pre.length≤1000000 by omega),wq2 (show pre.length≤1000000 by omega),wq (show pre.length+2≤1000000 by omega),g1,g2]
   dsimp+instances only[bF]
   simp only[e61,if_true,h3,decide_false,Bool.false_eq_true,if_false,aI h4,aI h5]
   refine aD (I3 _ x1) ?_
   simp only[aI h6,aI h7]
   refine aD (I3 _ x2) ?_
   dsimp+instances only[bN,List.headD_cons,List.tail_cons,aY,bF]
   refine cG (v:=false) rfl ?_
   simp only[Bool.false_eq_true,if_false,aI (show(0:Int)≤4 by omega),OX,cJ (ap1 _),dC]
   exact ih
theorem MM (b:Bs) (hb:b.length≤1000):Ret 116 [.lst 5 false (ofBytes (qpB b))] [] (.tup [.lst 5 false (ofBytes b), .bool true],[]):=by
 have:=zX b
 refine Rf (ofBytes (qpB b)) ?_
 simp only[IY]
 exact Ce b hb (qpB b) (by omega) b [] [] rfl rfl
theorem O0 (b:Bs):(qpB b).all qpT=true:=by
 rw[List.all_eq_true]
 intro c hc
 obtain⟨x,_,hx⟩:=List.mem_flatMap.1 hc
 exact List.all_eq_true.1 (Mq x) c hx
theorem FB (S:Bs) (hS:S.length≤3000) (hT:S.all qpT=true):∀(m i:Nat),S.length - i=m→i≤S.length→
  Evt (fun k j=>(jJ (aA cfg k) j).1 (ofBytes S) (i:Nat)) (.tup [.lst 5 false (ofBytes S), .lst 5 false (ofBytes []), .lst 5 false (ofBytes [])],[])
 |0,i,h,hi=>by
  have:i=S.length:=by omega
  subst this
  refine I1 (ofBytes S) (S.length:Nat) ?_
  have h1:¬((S.length:Int)<(S.length:Int)):=by omega
  have h2:(0:Int)≤(S.length:Nat):=by omega
  have hm:(if((S.length:Nat):Int)<(((S.length+1:Nat)):Int)then((S.length:Nat):Int)else((S.length+1:Nat):Int))=((S.length:Nat):Int):=if_pos (by omega)
  have e1:List.drop (Int.toNat 0) (List.take S.length (ofBytes S))=ofBytes S:=by rw[List.take_of_length_le (by rw[aH];omega)];rfl
  have e2:List.drop S.length (List.take S.length (ofBytes S))=ofBytes []:=by rw[List.drop_eq_nil_of_le (by simp[aH])];rfl
  have e3:List.drop S.length (ofBytes S)=ofBytes []:=by rw[List.drop_eq_nil_of_le (by simp[aH])];rfl
  simp only[zW,aH,h1,decide_false,Bool.false_eq_true,if_false,bS,wq (show S.length≤1000000 by omega),hm,aI h2,aI (show(0:Int)≤0 by omega),aI (Int.le_refl ((S.length:Nat):Int)),Int.toNat_natCast,e1,e2]
  refine MK (ofBytes S) (S.length:Nat) (ofBytes S) (ofBytes []) ?_
  simp only[Cd,aH,aI h2,aI (Int.le_refl ((S.length:Nat):Int)),Int.toNat_natCast,e3]
  by_cases h0:S.length=0
  ·have h3:¬(((S.length:Nat):Int)>0):=by omega
   simp only[h3,decide_false,Bool.false_eq_true,if_false]
   exact aC _
  ·have h3:(((S.length:Nat):Int)>0):=by omega
   have hw:IntKind.wrap .i64 (((S.length:Nat):Int) - 1)=((S.length - 1:Nat):Int):=by rw[wrap64 (by omega) (by omega)];omega
   have h4:(0:Int)≤((S.length - 1:Nat):Int):=by omega
   have h5:((S.length - 1:Nat):Int)<((S.length:Nat):Int):=by omega
   have hlt:S.length - 1<S.length:=by omega
   obtain⟨_,n32,n9⟩:=I2 S[S.length - 1] (List.all_eq_true.1 hT _ (List.getElem_mem hlt))
   simp only[h3,decide_true,if_true,hw,aI h4,aI h5,Int.toNat_natCast,kV hlt]
   dsimp+instances only[bF]
   simp only[n32,n9,Bool.false_eq_true,if_false]
   exact aC _
 |m+1,i,h,hi=>by
  have hlt:i<S.length:=by omega
  refine I1 (ofBytes S) (i:Nat) ?_
  have h1:((i:Int)<(S.length:Int)):=by omega
  have h2:(0:Int)≤(i:Nat):=by omega
  obtain⟨n10,_,_⟩:=I2 S[i] (List.all_eq_true.1 hT _ (List.getElem_mem hlt))
  simp only[zW,aH,h1,decide_true,if_true,aI h2,bX,Int.toNat_natCast,kV hlt]
  dsimp+instances only[bF]
  refine cG (v:=true) (congrArg some n10) ?_
  simp only[if_true,wq (show i≤1000000 by omega)]
  exact FB S hS hT m (i+1) (by omega) (by omega)
theorem MN (S:Bs) (hS:S.length≤3000) (hT:S.all qpT=true):Ret 115 [.lst 5 false (ofBytes S)] [] (.tup [.lst 5 false (ofBytes S), .lst 5 false (ofBytes []), .lst 5 false (ofBytes [])],[]):=by
 refine Rj (ofBytes S) ?_
 simp only[I0]
 exact FB S hS hT S.length 0 (by omega) (by omega)
theorem I5:∀(b:Bs) (c:UInt8),(qpB b).getLast? =some c→c≠61:=by
 have hx:∀v:Nat,v<16→rM v≠61:=by
  have:∀v:Fin 16,rM v.val≠61:=by decide+kernel
  exact fun v h=>this ⟨v,h⟩
 have h1:∀(x c:UInt8),(qpF x).getLast? =some c→c≠61:=by
  intro x c h
  unfold qpF at h
  split at h
  ·rename_i hq
   simp at h
   subst h
   intro e
   subst e
   exact absurd hq (by decide)
  ·simp at h
   subst h
   exact hx _ (EU x).2
 intro b
 induction b with
 |nil=>intro c h;simp[qpB]at h
 |cons x r ih=>
  intro c h
  have e:qpB (x::r)=qpF x++qpB r:=by simp[qpB]
  rw[e,List.getLast?_append]at h
  cases hr:(qpB r).getLast? with
  |none=>rw[hr]at h;exact h1 x c (by simpa using h)
  |some d=>rw[hr]at h;simp at h;subst h;exact ih d hr
theorem O1 (b:Bs) (hb:b.length≤1000):Ret 79 [.lst 5 false (ofBytes (qpB b))] [] (.tup [.lst 5 false (ofBytes b), .bool true],[]):=by
 have hle:=zX b
 refine M79 (ofBytes (qpB b)) ?_
 simp only[T79]
 have fin:Evt (fun k j=>L79 (aA cfg k) j (ofBytes []) (ofBytes b)) (.tup [.lst 5 false (ofBytes b), .bool true],[]):=by
  refine Lk (ofBytes []) (ofBytes b) ?_
  have h1:¬((((ofBytes []).length:Nat):Int)>0):=by simp[ofBytes]
  simp only[DY,h1,decide_false,Bool.false_eq_true,if_false]
  exact aC _
 by_cases h0:(qpB b).length=0
 ·have hb0:b=[]:=by
   cases b with
   |nil=>rfl
   |cons c r=>
    exfalso
    have e:qpB (c::r)=qpF c++qpB r:=by simp[qpB]
    rw[e,List.length_append]at h0
    have:(qpF c).length≠0:=by unfold qpF;split<;>simp
    omega
  subst hb0
  exact fin
 ·refine Lk (ofBytes (qpB b)) [] ?_
  have h1:(((qpB b).length:Nat):Int)>0:=by omega
  have hw:IntKind.wrap .i64 ((((qpB b).length:Nat):Int) - 1)=(((qpB b).length - 1:Nat):Int):=by rw[wrap64 (by omega) (by omega)];omega
  have h2:(((qpB b).length - 1:Nat):Int)≥0:=by omega
  have h3:(0:Int)≤(((qpB b).length - 1:Nat):Int):=by omega
  have h4:(((qpB b).length - 1:Nat):Int)<(((qpB b).length:Nat):Int):=by omega
  have hlt:(qpB b).length - 1<(qpB b).length:=by omega
  have n61:((((qpB b)[(qpB b).length - 1].toNat:Nat):Int)==(61:Int))=false:=by
   have hg:(qpB b).getLast? =some (qpB b)[(qpB b).length - 1]:=by rw[List.getLast?_eq_getElem?,List.getElem?_eq_getElem hlt]
   exact(eH _ 61 (by omega)).trans (by simpa using I5 b _ hg)
  have ap1:bI [] (ofBytes b) 2=true:=eC (by rw[aH];simp only[List.length_nil];omega)
  have ap2:bI ([]++ofBytes b) (ofBytes []) 2=true:=eC (by rw[List.nil_append,aH,aH];simp only[List.length_nil];omega)
  have e0:([]++ofBytes b)++ofBytes []=ofBytes b:=by simp[ofBytes]
  simp only[DY,aH,h1,decide_true,if_true]
  refine aD (MN (qpB b) (by omega) (O0 b)) ?_
  dsimp+instances only[bN,List.headD_cons,List.tail_cons,aW]
  simp only[aH,hw,h2,decide_true,if_true,aI h3,aI h4,Int.toNat_natCast,kV hlt]
  dsimp+instances only[bF]
  refine cG (v:=false) (congrArg some n61) ?_
  simp only[Bool.false_eq_true,if_false]
  refine aD (MM b hb) ?_
  dsimp+instances only[bN,List.headD_cons,List.tail_cons,aW,aY]
  simp only[Bool.not_true,Bool.false_eq_true,if_false,cJ ap1,cJ ap2,e0]
  exact fin
end Go.Proofs.YtdoaoaicdimbeaaGreatDoor
end
section
namespace Go.Proofs.YtdoaoaicdimbeaaGreatDoor
open Go.Ev Go
theorem Ll (c:UInt8) (st:Bs×Nat) (w:Nat) (h1:st.1.length≤100000) (h2:st.2≤100000):
  Ret 42 [.int .u8 (c.toNat:Nat), .ref 0 0, .ref 1 0, .ref 2 0] [.cells [.lst 5 true (ofBytes st.1)], .cells [.int .i64 (st.2:Nat)], .cells [.int .i64 (w:Nat)]]
   (.tup [],[.cells [.lst 5 true (ofBytes (putS w st c).1)], .cells [.int .i64 ((putS w st c).2:Nat)], .cells [.int .i64 (w:Nat)]]):=by
 refine⟨1,fun k hk=>?_⟩
 obtain⟨j,rfl⟩:∃j,k=j+1:=⟨k - 1,by omega⟩
 rw[bbC]
 have ap1:bI (ofBytes st.1) [V.int IntKind.u8 (c.toNat:Nat)] 2=true:=eC (by rw[aH];simp only[List.length_cons,List.length_nil];omega)
 have ap2:bI (ofBytes (st.1++[c])) [V.int IntKind.u8 13,V.int IntKind.u8 10] 2=true:=eC (by rw[aH];simp only[List.length_append,List.length_cons,List.length_nil];omega)
 unfold bbT putS
 simp only[cJ ap1,dC,cJ ap2,wq (show st.2≤1000000 by omega)]
 by_cases h:st.2+1=w
 ·have e:(((st.2+1:Nat):Int)==((w:Nat):Int))=true:=by rw[h];simp
  have e2:ofBytes (st.1++[c])++[V.int IntKind.u8 13,V.int IntKind.u8 10]=ofBytes (st.1++[c,13,10]):=by simp[ofBytes]
  rw[if_pos e,if_pos h,e2]
  rfl
 ·have e:(((st.2+1:Nat):Int)==((w:Nat):Int))=false:=by
   have:¬((st.2+1:Nat):Int)=((w:Nat):Int):=by omega
   simpa using this
  rw[if_neg (by rw[e];decide),if_neg h]
theorem MO:∀v:Nat,v<64→V.getI (List.getD Mr v V.bot)=(((fE v).toNat:Nat):Int):=by
 have:∀v:Fin 64,V.getI (List.getD Mr v.val V.bot)=(((fE v.val).toNat:Nat):Int):=by decide+kernel
 exact fun v h=>this ⟨v,h⟩
theorem O2 (x j:Nat) (hx:x≤16777215) (hj:j<4):Io ((x:Nat):Int) ((j:Nat):Int)=((x / 2 ^ (6* (3 - j)) % 64:Nat):Int)∧0≤IntKind.wrap IntKind.i64 ((6:Int)* (IntKind.wrap IntKind.i64 ((3:Int) - ((j:Nat):Int)))):=by
 have key:∀(m:Nat) (M:Nat),(2:Int) ^ min m (IntKind.bits IntKind.i64)=((M:Nat):Int)→x / M≤1073741824→bits BinOp.and IntKind.i64 (Int.fdiv ((x:Nat):Int) (2 ^ min m (IntKind.bits IntKind.i64))) (63:Int)=((x / M % 64:Nat):Int):=by
  intro m M e h
  rw[e,zK,Ov h]
 unfold Io
 obtain rfl|rfl|rfl|rfl:j=0∨j=1∨j=2∨j=3:=by omega
 ·exact⟨key 18 262144 rfl (by omega),by decide⟩
 ·exact⟨key 12 4096 rfl (by omega),by decide⟩
 ·exact⟨key 6 64 rfl (by omega),by decide⟩
 ·exact⟨key 0 1 rfl (by omega),by decide⟩
theorem O3 (b l:List V) (col w:Int) {r:V×List Ob} (h:Evt (fun k n=>Ir (fun m=>(beL (aA cfg k) n).2.1 m 0 0 b l col w) b l col w) r):Evt (fun k n=>(beL (aA cfg k) n).1 b l col w) r:=aV (fun _ _=>rfl) h
theorem O4 (n x j:Int) (b l:List V) (col w:Int) {r:V×List Ob} (h:Evt (fun k q=>Iq (fun x j=>(beL (aA cfg k) q).2.1 n x j b l col w) ((beL (aA cfg k) q).2.2 n x 0 b l col w) n x j b) r):Evt (fun k q=>(beL (aA cfg k) q).2.1 n x j b l col w) r:=aV (fun _ _=>rfl) h
theorem O5 (n x j:Int) (b l:List V) (col w:Int) {r:V×List Ob} (h:Evt (fun k q=>Ip (aA cfg k) (fun j l col w=>(beL (aA cfg k) q).2.2 n x j b l col w) (fun b l col w=>(beL (aA cfg k) q).1 b l col w) n x j b l col w) r):Evt (fun k q=>(beL (aA cfg k) q).2.2 n x j b l col w) r:=aV (fun _ _=>rfl) h
theorem Cf (g:Bs) (hg1:1≤g.length) (hg3:g.length≤3) (b:List V) (w:Nat) (st:Bs×Nat) (h1:st.1.length≤100000) (h2:st.2≤100000) (j:Nat) (hj:j<4) {r:V×List Ob}
  (h:Evt (fun k n=>(beL (aA cfg k) n).2.2 (g.length:Nat) (bY g:Nat) ((j+1:Nat):Int) b (ofBytes (putS w st ((cB g).getD j 0)).1) ((putS w st ((cB g).getD j 0)).2:Nat) (w:Nat)) r):
  Evt (fun k n=>(beL (aA cfg k) n).2.2 (g.length:Nat) (bY g:Nat) (j:Nat) b (ofBytes st.1) (st.2:Nat) (w:Nat)) r:=by
 refine O5 _ _ _ _ _ _ _ ?_
 have hx:=Fl g
 have a1:((j:Nat):Int)<4:=by omega
 rw[wK g hg1 hg3 j hj]at h
 simp only[Ip,Im,a1,decide_true,if_true,wq (show j≤1000000 by omega)]
 by_cases hp:j>g.length
 ·have a2:((j:Nat):Int)>((g.length:Nat):Int):=by omega
  rw[if_pos hp]at h
  simp only[a2,decide_true,if_true]
  refine aD (Ll 61 st w h1 h2) ?_
  simp only[List.headD_cons,List.tail_cons,Ob.getC,V.getL,V.getI]
  exact h
 ·have a2:¬(((j:Nat):Int)>((g.length:Nat):Int)):=by omega
  obtain⟨i1,i2⟩:=O2 (bY g) j hx hj
  have i3:(0:Int)≤((bY g / 2 ^ (6* (3 - j)) % 64:Nat):Int):=by omega
  have i4:((bY g / 2 ^ (6* (3 - j)) % 64:Nat):Int)<((64:Nat):Int):=by omega
  rw[if_neg hp]at h
  simp only[a2,decide_false,Bool.false_eq_true,if_false,aI i2,i1,aI i3,aI i4,Int.toNat_natCast,MO (bY g / 2 ^ (6* (3 - j)) % 64) (by omega)]
  refine aD (Ll _ st w h1 h2) ?_
  simp only[List.headD_cons,List.tail_cons,Ob.getC,V.getL,V.getI]
  exact h
theorem nA (g q:Bs) (hg3:g.length≤3) (x j:Nat) (hx:x≤65535) (hj:j<3) (l:List V) (col w:Int) {r:V×List Ob}
  (h:Evt (fun k n=>(beL (aA cfg k) n).2.1 (g.length:Nat) ((x*256+(if j<g.length then(g.getD j 0).toNat else 0):Nat):Int) ((j+1:Nat):Int) (ofBytes (g++q)) l col w) r):
  Evt (fun k n=>(beL (aA cfg k) n).2.1 (g.length:Nat) (x:Nat) (j:Nat) (ofBytes (g++q)) l col w) r:=by
 refine O4 _ _ _ _ _ _ _ ?_
 have a1:((j:Nat):Int)<3:=by omega
 have a2:(0:Int)≤((j:Nat):Int):=by omega
 simp only[Iq,a1,decide_true,if_true,aI (show(0:Int)≤8 by omega),wq (show j≤1000000 by omega),QD (show x≤16777216 by omega),aH]
 by_cases hp:j<g.length
 ·have a3:((j:Nat):Int)<((g.length:Nat):Int):=by omega
  have hlt:j<(g++q).length:=by rw[List.length_append];omega
  have a4:((j:Nat):Int)<(((g++q).length:Nat):Int):=by omega
  have hc:(g++q)[j]=g.getD j 0:=by rw[List.getElem_append_left hp];simp[List.getD,hp]
  have hb:=(g.getD j 0).toNat_lt
  have w8:IntKind.wrap IntKind.i64 (((g.getD j 0).toNat:Nat):Int)=(((g.getD j 0).toNat:Nat):Int):=wrap64 (by omega) (by omega)
  rw[if_pos hp]at h
  simp only[a3,decide_true,if_true,aI a2,aI a4,Int.toNat_natCast,kV hlt,hc]
  dsimp+instances only[bF]
  simp only[w8,or8 (show x≤16777216 by omega) hb]
  exact h
 ·have a3:¬(((j:Nat):Int)<((g.length:Nat):Int)):=by omega
  rw[if_neg hp,Nat.add_zero]at h
  simp only[a3,decide_false,Bool.false_eq_true,if_false]
  exact h
theorem O6 (g q:Bs) (hg1:1≤g.length) (hg3:g.length≤3) (l:List V) (col w:Int) {r:V×List Ob}
  (h:Evt (fun k n=>(beL (aA cfg k) n).2.2 (g.length:Nat) (bY g:Nat) 0 (ofBytes (g++q)) l col w) r):
  Evt (fun k n=>(beL (aA cfg k) n).2.1 (g.length:Nat) 0 0 (ofBytes (g++q)) l col w) r:=by
 have h3:Evt (fun k n=>(beL (aA cfg k) n).2.1 (g.length:Nat) (bY g:Nat) ((3:Nat):Int) (ofBytes (g++q)) l col w) r:=by
  refine O4 _ _ _ _ _ _ _ ?_
  have a1:¬(((3:Nat):Int)<3):=by omega
  simp only[Iq,a1,decide_false,Bool.false_eq_true,if_false]
  exact h
 have hb:∀c:UInt8,c.toNat<256:=fun c=>c.toNat_lt
 match g,hg1,hg3,h3 with
 |[a],_,_,h3=>
  have:=hb a
  refine nA [a] q (by simp) 0 0 (by omega) (by omega) l col w ?_
  refine nA [a] q (by simp) _ 1 (by simp;omega) (by omega) l col w ?_
  refine nA [a] q (by simp) _ 2 (by simp;omega) (by omega) l col w ?_
  simpa[bY]using h3
 |[a,b],_,_,h3=>
  have:=hb a
  have:=hb b
  refine nA [a,b] q (by simp) 0 0 (by omega) (by omega) l col w ?_
  refine nA [a,b] q (by simp) _ 1 (by simp;omega) (by omega) l col w ?_
  refine nA [a,b] q (by simp) _ 2 (by simp;omega) (by omega) l col w ?_
  simpa[bY]using h3
 |[a,b,c],_,_,h3=>
  have:=hb a
  have:=hb b
  have:=hb c
  refine nA [a,b,c] q (by simp) 0 0 (by omega) (by omega) l col w ?_
  refine nA [a,b,c] q (by simp) _ 1 (by simp;omega) (by omega) l col w ?_
  refine nA [a,b,c] q (by simp) _ 2 (by simp;omega) (by omega) l col w ?_
  simpa[bY]using h3
def I6 (w:Nat) (s:Bs×Nat):Bs:=if 0<w∧0<s.2 then s.1++[13,10]else s.1
theorem I7 (w:Nat):∀(n:Nat) (b:Bs) (st:Bs×Nat),b.length≤n→st.1.length+12*n≤50000→st.2+4*n≤50000→
  Evt (fun k m=>(beL (aA cfg k) m).1 (ofBytes b) (ofBytes st.1) (st.2:Nat) (w:Nat)) (.lst 5 false (ofBytes (I6 w (encS w n st b))),[]):=by
 have fin:∀(st:Bs×Nat),st.1.length≤50000→Evt (fun k m=>(beL (aA cfg k) m).1 (ofBytes []) (ofBytes st.1) (st.2:Nat) (w:Nat)) (.lst 5 false (ofBytes (I6 w st)),[]):=by
  intro st hst
  refine O3 _ _ _ _ ?_
  have a1:¬((((ofBytes []).length:Nat):Int)>0):=by simp[ofBytes]
  have ap2:bI (ofBytes st.1) [V.int IntKind.u8 13,V.int IntKind.u8 10] 2=true:=eC (by rw[aH];simp only[List.length_cons,List.length_nil];omega)
  have e2:ofBytes st.1++[V.int IntKind.u8 13,V.int IntKind.u8 10]=ofBytes (st.1++[13,10]):=by simp[ofBytes]
  simp only[Ir,a1,decide_false,Bool.false_eq_true,if_false,cJ ap2,e2]
  by_cases h1:0<w
  ·have b1:((w:Nat):Int)>0:=by omega
   by_cases h2:0<st.2
   ·have b2:((st.2:Nat):Int)>0:=by omega
    have ew:I6 w st=st.1++[13,10]:=if_pos ⟨h1,h2⟩
    rw[ew]
    simp only[b1,b2,decide_true,if_true,bS]
    exact aC _
   ·have b2:¬(((st.2:Nat):Int)>0):=by omega
    have ew:I6 w st=st.1:=if_neg (fun h=>h2 h.2)
    rw[ew]
    simp only[b1,b2,decide_true,decide_false,if_true,bS,Bool.false_eq_true,if_false]
    exact aC _
  ·have b1:¬(((w:Nat):Int)>0):=by omega
   have ew:I6 w st=st.1:=if_neg (fun h=>h1 h.1)
   rw[ew]
   simp only[b1,decide_false,bS,Bool.false_eq_true,if_false]
   exact aC _
 intro n
 induction n with
 |zero=>
  intro b st hb h1 h2
  have:b=[]:=List.eq_nil_of_length_eq_zero (by omega)
  subst this
  exact fin st (by omega)
 |succ n ih=>
  intro b st hb h1 h2
  rw[show encS w (n+1) st b=if b=[]then st else encS w n ((cB (b.take 3)).foldl (putS w) st) (b.drop 3)from rfl]
  by_cases h0:b=[]
  ·rw[if_pos h0];subst h0;exact fin st (by omega)
  ·rw[if_neg h0]
   have hp:=List.length_pos_iff.2 h0
   have eb:b.take 3++b.drop 3=b:=List.take_append_drop 3 b
   have hg1:1≤(b.take 3).length:=by rw[List.length_take];omega
   have hg3:(b.take 3).length≤3:=by rw[List.length_take];omega
   have hgl:(b.take 3).length≤b.length:=by rw[List.length_take];omega
   have hdl:(b.drop 3).length≤n:=by rw[List.length_drop];omega
   have hdr:List.drop (b.take 3).length (ofBytes b)=ofBytes (b.drop 3):=by
    have e1:ofBytes b=ofBytes (b.take 3)++ofBytes (b.drop 3):=by rw[jB,eb]
    have e2:(b.take 3).length=(ofBytes (b.take 3)).length:=(aH _).symm
    rw[e1,e2,List.drop_left]
   have hpl:=wL w (cB (b.take 3)) st
   have h4:(cB (b.take 3)).length=4:=rfl
   have ih:=ih (b.drop 3) ((cB (b.take 3)).foldl (putS w) st) hdl (by omega) (by omega)
   have ef:(cB (b.take 3)).foldl (putS w) st=putS w (putS w (putS w (putS w st ((cB (b.take 3)).getD 0 0)) ((cB (b.take 3)).getD 1 0)) ((cB (b.take 3)).getD 2 0)) ((cB (b.take 3)).getD 3 0):=rfl
   refine O3 _ _ _ _ ?_
   have a1:(((b.length:Nat):Int)>0):=by omega
   have em:(if(3:Int)<((b.length:Nat):Int)then(3:Int)else((b.length:Nat):Int))=(((b.take 3).length:Nat):Int):=by
    rw[List.length_take]
    split<;>omega
   simp only[Ir,aH,a1,decide_true,if_true,em]
   conv=>enter [1,k,j];rw[show ofBytes b=ofBytes (b.take 3++b.drop 3)by rw[eb]]
   refine O6 (b.take 3) (b.drop 3) hg1 hg3 _ _ _ ?_
   rw[eb]
   have q0:=B7 w st ((cB (b.take 3)).getD 0 0)
   have q1:=B7 w (putS w st ((cB (b.take 3)).getD 0 0)) ((cB (b.take 3)).getD 1 0)
   have q2:=B7 w (putS w (putS w st ((cB (b.take 3)).getD 0 0)) ((cB (b.take 3)).getD 1 0)) ((cB (b.take 3)).getD 2 0)
   refine Cf (b.take 3) hg1 hg3 (ofBytes b) w st (by omega) (by omega) 0 (by omega) ?_
   refine Cf (b.take 3) hg1 hg3 (ofBytes b) w _ (by omega) (by omega) 1 (by omega) ?_
   refine Cf (b.take 3) hg1 hg3 (ofBytes b) w _ (by omega) (by omega) 2 (by omega) ?_
   refine Cf (b.take 3) hg1 hg3 (ofBytes b) w _ (by omega) (by omega) 3 (by omega) ?_
   rw[ef]at ih ⊢
   refine O5 _ _ _ _ _ _ _ ?_
   have c1:¬(((3+1:Nat):Int)<4):=by omega
   have c2:(0:Int)≤(((b.take 3).length:Nat):Int):=by omega
   have c3:(((b.take 3).length:Nat):Int)≤((b.length:Nat):Int):=by omega
   simp only[Ip,c1,decide_false,Bool.false_eq_true,if_false,aI c2,aH,aI c3,Int.toNat_natCast,hdr]
   exact ih
theorem O7 (b:Bs) (hb:b.length≤1000) (w:Nat):Ret 20 [.lst 5 false (ofBytes b), .int .i64 (w:Nat)] [] (.lst 5 false (ofBytes (zL w b)),[]):=by
 refine M20 (ofBytes b) (w:Nat) ?_
 exact I7 w b.length b ([],0) (Nat.le_refl _) (by simp only[List.length_nil];omega) (by simp only;omega)
end Go.Proofs.YtdoaoaicdimbeaaGreatDoor
end
section
namespace Go.Proofs.YtdoaoaicdimbeaaGreatDoor
open Go.Ev Go
theorem MP (v:Nat) (h:v<64):Ret 141 [.int .u8 ((fE v).toNat:Nat)] [] (.int .i64 (v:Nat),[]):=by
 have key:∀v:Fin 64,(((fE v.val).toNat≥65∧(fE v.val).toNat≤90∧v.val=(fE v.val).toNat - 65)∨((fE v.val).toNat≥97∧(fE v.val).toNat≤122∧v.val=(fE v.val).toNat - 97+26)∨
   ((fE v.val).toNat≥48∧(fE v.val).toNat≤57∧v.val=(fE v.val).toNat - 48+52)∨((fE v.val).toNat=43∧v.val=62)∨((fE v.val).toNat=47∧v.val=63)):=by decide+kernel
 have hk:=key ⟨v,h⟩
 simp only at hk
 refine QQ ((fE v).toNat:Nat) ?_
 generalize(fE v).toNat=c at hk
 simp only[IB]
 rcases hk with⟨h1,h2,h3⟩|⟨h1,h2,h3⟩|⟨h1,h2,h3⟩|⟨h1,h3⟩|⟨h1,h3⟩
 ·have a1:((c:Nat):Int)≥65:=by omega
  have a2:((c:Nat):Int)≤90:=by omega
  have w1:IntKind.wrap .u8 (((c:Nat):Int) - 65)=((v:Nat):Int):=by rw[vO (by omega) (by omega)];omega
  have w2:IntKind.wrap .i64 ((v:Nat):Int)=((v:Nat):Int):=wrap64 (by omega) (by omega)
  simp only[a1,a2,decide_true,if_true,bS,w1,w2]
  exact aC _
 ·have a1:((c:Nat):Int)≥65:=by omega
  have a2:¬(((c:Nat):Int)≤90):=by omega
  have a3:((c:Nat):Int)≥97:=by omega
  have a4:((c:Nat):Int)≤122:=by omega
  have w1:IntKind.wrap .u8 (((c:Nat):Int) - 97)=((c - 97:Nat):Int):=by rw[vO (by omega) (by omega)];omega
  have w2:IntKind.wrap .i64 ((c - 97:Nat):Int)=((c - 97:Nat):Int):=wrap64 (by omega) (by omega)
  have w3:IntKind.wrap .i64 (((c - 97:Nat):Int)+26)=((v:Nat):Int):=by rw[wrap64 (by omega) (by omega)];omega
  simp only[a1,a2,a3,a4,decide_true,decide_false,Bool.false_eq_true,if_false,if_true,bS,w1,w2,w3]
  exact aC _
 ·have a1:¬(((c:Nat):Int)≥65):=by omega
  have a3:¬(((c:Nat):Int)≥97):=by omega
  have a5:((c:Nat):Int)≥48:=by omega
  have a6:((c:Nat):Int)≤57:=by omega
  have w1:IntKind.wrap .u8 (((c:Nat):Int) - 48)=((c - 48:Nat):Int):=by rw[vO (by omega) (by omega)];omega
  have w2:IntKind.wrap .i64 ((c - 48:Nat):Int)=((c - 48:Nat):Int):=wrap64 (by omega) (by omega)
  have w3:IntKind.wrap .i64 (((c - 48:Nat):Int)+52)=((v:Nat):Int):=by rw[wrap64 (by omega) (by omega)];omega
  simp only[a1,a3,a5,a6,decide_true,decide_false,Bool.false_eq_true,if_false,if_true,bS,w1,w2,w3]
  exact aC _
 ·subst h1 h3
  exact aC _
 ·subst h1 h3
  exact aC _
theorem KC:∀c:UInt8,wsB c=((((c.toNat:Nat):Int)==(32:Int))||(((c.toNat:Nat):Int)==(9:Int))||(((c.toNat:Nat):Int)==(13:Int))||(((c.toNat:Nat):Int)==(10:Int))):=fB (by decide+kernel)
theorem FC (s:Bs) (hs:s.length≤100000):∀(v pre:Bs),s=pre++v→
  Evt (fun k j=>Ao (aA cfg k) j (ofBytes (eX pre)) (ofBytes s) (s.length:Nat) (pre.length:Nat)) (.lst 5 false (ofBytes (eX s)),[])
 |[],pre,h=>by
  refine Iy (ofBytes (eX pre)) (ofBytes s) (s.length:Nat) (pre.length:Nat) ?_
  rw[List.append_nil]at h
  subst h
  have h1:¬((s.length:Int)<(s.length:Int)):=by omega
  simp only[zO,h1,decide_false,Bool.false_eq_true,if_false]
  exact aC _
 |c::v,pre,h=>by
  refine Iy (ofBytes (eX pre)) (ofBytes s) (s.length:Nat) (pre.length:Nat) ?_
  have hl:s.length=pre.length+(v.length+1):=by rw[h];simp
  have h1:((pre.length:Int)<(s.length:Int)):=by omega
  have h2:(0:Int)≤(pre.length:Nat):=by omega
  have g:List.getD (ofBytes s) pre.length V.bot= .int .u8 (c.toNat:Nat):=by rw[h];exact uZ _ _ _
  have hle:(eX pre).length≤pre.length:=List.length_filter_le _ _
  have ih:=FC s hs v (pre++[c]) (by rw[h];simp)
  have e1:(pre++[c]).length=pre.length+1:=by simp
  have ap1:∀n:Int,bI (ofBytes (eX pre)) [V.int IntKind.u8 n] 2=true:=fun n=>eC (by rw[aH];simp only[List.length_cons,List.length_nil];omega)
  have e2:eX (pre++[c])=if wsB c=true then eX pre else eX pre++[c]:=by
   cases hc:wsB c<;>simp[eX,List.filter_append,hc]
  rw[e1,e2]at ih
  have hw:=KC c
  simp only[zO,h1,decide_true,if_true,aI h2,aH,bX,Int.toNat_natCast,g,wq (show pre.length≤1000000 by omega)]
  dsimp+instances only[bF]
  cases q1:(((c.toNat:Nat):Int)==(32:Int))with
  |true=>rw[q1]at hw;rw[if_pos (by rw[hw];rfl)]at ih;simp only[if_true];exact ih
  |false=>
   cases q2:(((c.toNat:Nat):Int)==(9:Int))with
   |true=>rw[q1,q2]at hw;rw[if_pos (by rw[hw];rfl)]at ih;simp only[Bool.false_eq_true,if_false,if_true];exact ih
   |false=>
    cases q3:(((c.toNat:Nat):Int)==(13:Int))with
    |true=>rw[q1,q2,q3]at hw;rw[if_pos (by rw[hw];rfl)]at ih;simp only[Bool.false_eq_true,if_false,if_true];exact ih
    |false=>
     cases q4:(((c.toNat:Nat):Int)==(10:Int))with
     |true=>rw[q1,q2,q3,q4]at hw;rw[if_pos (by rw[hw];rfl)]at ih;simp only[Bool.false_eq_true,if_false,if_true];exact ih
     |false=>
      rw[q1,q2,q3,q4]at hw
      rw[if_neg (by rw[hw];decide)]at ih
      simp only[Bool.false_eq_true,if_false,cJ (ap1 _),dC]
      exact ih
theorem MQ (s:Bs) (hs:s.length≤100000):Ret 113 [.lst 5 false (ofBytes s)] [] (.lst 5 false (ofBytes (eX s)),[]):=by
 refine QK (ofBytes s) ?_
 simp only[Ix,aH]
 exact FC s hs s [] rfl
theorem Cg (L:Bs) (hL:L.length=4) (n x j v:Nat) (hj:j<4) (hx:x≤16777216) (hn:n≤4) (hv:j<n→L.getD j 0=fE v∧v<64) (hv0:¬j<n→v=0) {r:V×List Ob}
  (h:Evt (fun k q=>(fD (aA cfg k) q).2 (ofBytes L) (n:Nat) ((x*64+v:Nat):Int) ((j+1:Nat):Int)) r):
  Evt (fun k q=>(fD (aA cfg k) q).2 (ofBytes L) (n:Nat) (x:Nat) (j:Nat)) r:=by
 refine IA (ofBytes L) (n:Nat) (x:Nat) (j:Nat) ?_
 have a1:((j:Nat):Int)<4:=by omega
 have a2:(0:Int)≤((j:Nat):Int):=by omega
 have hlt:j<L.length:=by omega
 have a3:((j:Nat):Int)<((L.length:Nat):Int):=by omega
 simp only[uS,a1,decide_true,if_true,aI (show(0:Int)≤6 by omega),QC hx,wq (show j≤1000000 by omega)]
 by_cases hjn:j<n
 ·obtain⟨e1,e2⟩:=hv hjn
  have a4:¬(((j:Nat):Int)≥((n:Nat):Int)):=by omega
  have eg:L[j]=fE v:=by rw[←e1];simp[List.getD,hlt]
  have a5:¬(((v:Nat):Int)<0):=by omega
  simp only[a4,decide_false,Bool.false_eq_true,if_false,aI a2,aH,aI a3,Int.toNat_natCast,kV hlt,eg]
  dsimp+instances only[bF]
  refine aD (MP v e2) ?_
  simp only[bF,a5,decide_false,Bool.false_eq_true,if_false,or6 hx e2]
  exact h
 ·have a4:((j:Nat):Int)≥((n:Nat):Int):=by omega
  have e0:=hv0 hjn
  subst e0
  simp only[a4,decide_true,if_true]
  exact h
theorem wu8 (n:Nat):IntKind.wrap .u8 ((n:Nat):Int)=(((UInt8.ofNat n).toNat:Nat):Int):=by
 rw[IntKind.wrap_u8']
 simp
theorem O8 (L:Bs) (n x:Nat) (hn2:2≤n) (hn4:n≤4) (hx:x≤16777215) (hm:x % 2 ^ (8* (4 - n))=0):
  Evt (fun k q=>(fD (aA cfg k) q).2 (ofBytes L) (n:Nat) (x:Nat) ((4:Nat):Int)) (.tup [.lst 5 false (ofBytes ([UInt8.ofNat (x / 65536),UInt8.ofNat (x / 256),UInt8.ofNat x].take (n - 1))), .bool true],[]):=by
 refine IA (ofBytes L) (n:Nat) (x:Nat) ((4:Nat):Int) ?_
 have a1:¬(((4:Nat):Int)<4):=by omega
 have f16:Int.fdiv ((x:Nat):Int) (2 ^ min (Int.toNat (16:Int)) (IntKind.bits IntKind.i64))=((x / 65536:Nat):Int):=zK x 65536
 have f8:Int.fdiv ((x:Nat):Int) (2 ^ min (Int.toNat (8:Int)) (IntKind.bits IntKind.i64))=((x / 256:Nat):Int):=zK x 256
 have key:∀(m M:Nat),m<1073741824→x % (m+1)=0→(m+1=2 ^ M)→bits BinOp.and IntKind.i64 ((x:Nat):Int) ((m:Nat):Int)=0:=by
  intro m M h1 h2 h3
  rw[DC (by omega) (by omega),show m=2 ^ M - 1 by omega,Nat.and_two_pow_sub_one_eq_mod,←h3,h2]
  rfl
 have hw1:IntKind.wrap IntKind.i64 (((n:Nat):Int) - 1)=((n - 1:Nat):Int):=by rw[wrap64 (by omega) (by omega)];omega
 have hlen:((List.length [(V.int IntKind.u8 (((UInt8.ofNat (x / 65536)).toNat:Nat):Int)),(V.int IntKind.u8 (((UInt8.ofNat (x / 256)).toNat:Nat):Int)),(V.int IntKind.u8 (((UInt8.ofNat x).toNat:Nat):Int))]:Nat):Int)=3:=rfl
 have b1:(0:Int)≤((n - 1:Nat):Int):=by omega
 have b2:((n - 1:Nat):Int)≤3:=by omega
 have hz:(((0:Int)) != (0:Int))=false:=rfl
 have eo:List.drop (Int.toNat 0) (List.take (n - 1) [(V.int IntKind.u8 (((UInt8.ofNat (x / 65536)).toNat:Nat):Int)),(V.int IntKind.u8 (((UInt8.ofNat (x / 256)).toNat:Nat):Int)),(V.int IntKind.u8 (((UInt8.ofNat x).toNat:Nat):Int))])=ofBytes ([UInt8.ofNat (x / 65536),UInt8.ofNat (x / 256),UInt8.ofNat x].take (n - 1)):=by
  simp[ofBytes,List.map_take]
 have mk:∀m:Nat,bits BinOp.and IntKind.i64 ((x:Nat):Int) ((m:Nat):Int)=0→((IntKind.wrap IntKind.i64 ((IntKind.wrap IntKind.i64 ((1:Int)*2 ^ min (Int.toNat (IntKind.wrap IntKind.i64 ((8:Int)* (IntKind.wrap IntKind.i64 ((4:Int) - ((n:Nat):Int)))))) (IntKind.bits IntKind.i64))) - (1:Int)))=((m:Nat):Int))→
   (0:Int)≤IntKind.wrap IntKind.i64 ((8:Int)* (IntKind.wrap IntKind.i64 ((4:Int) - ((n:Nat):Int))))→
   Evt (fun k q=>uS (aA cfg k) (fD (aA cfg k) q).1 (fD (aA cfg k) q).2 (ofBytes L) (n:Nat) (x:Nat) ((4:Nat):Int)) (.tup [.lst 5 false (ofBytes ([UInt8.ofNat (x / 65536),UInt8.ofNat (x / 256),UInt8.ofNat x].take (n - 1))), .bool true],[]):=by
  intro m h1 h2 h3
  simp only[uS,a1,decide_false,Bool.false_eq_true,if_false,aI (show(0:Int)≤16 by omega),aI (show(0:Int)≤8 by omega),aI h3,h2,h1,hz,hw1,f16,f8,wu8,aI b1,hlen,aI b2,aI (show(0:Int)≤0 by omega),Int.toNat_natCast,eo]
  exact aC _
 obtain rfl|rfl|rfl:n=2∨n=3∨n=4:=by omega
 ·exact mk 65535 (key 65535 16 (by omega) hm rfl) (by decide+kernel) (by decide+kernel)
 ·exact mk 255 (key 255 8 (by omega) hm rfl) (by decide+kernel) (by decide+kernel)
 ·exact mk 0 (key 0 0 (by omega) (Nat.mod_one x) rfl) (by decide+kernel) (by decide+kernel)
theorem I8 (g:Bs) (h1:1≤g.length) (h3:g.length≤3):Evt (fun k q=>(fD (aA cfg k) q).2 (ofBytes (cB g)) ((g.length+1:Nat):Int) ((0:Nat):Int) ((0:Nat):Int)) (.tup [.lst 5 false (ofBytes g), .bool true],[]):=by
 have hX:=Fl g
 have fin:Evt (fun k q=>(fD (aA cfg k) q).2 (ofBytes (cB g)) ((g.length+1:Nat):Int) ((bY g:Nat):Int) ((4:Nat):Int)) (.tup [.lst 5 false (ofBytes g), .bool true],[]):=by
  have hm:bY g % 2 ^ (8* (4 - (g.length+1)))=0:=by
   match g,h1,h3 with
   |[a],_,_=>simp only[bY,List.length_cons,List.length_nil];omega
   |[a,b],_,_=>simp only[bY,List.length_cons,List.length_nil];omega
   |[a,b,c],_,_=>simp only[bY,List.length_cons,List.length_nil];omega
  have ho:[UInt8.ofNat (bY g / 65536),UInt8.ofNat (bY g / 256),UInt8.ofNat (bY g)].take (g.length+1 - 1)=g:=by
   have u:∀(n:Nat) (c:UInt8),n % 256=c.toNat→UInt8.ofNat n=c:=fun n c h=>UInt8.toNat_inj.1 (by simpa using h)
   match g,h1,h3 with
   |[a],_,_=>
    have:=a.toNat_lt
    have e1:=u (bY [a] / 65536) a (by simp only[bY];omega)
    simp[e1]
   |[a,b],_,_=>
    have:=a.toNat_lt
    have:=b.toNat_lt
    have e1:=u (bY [a,b] / 65536) a (by simp only[bY];omega)
    have e2:=u (bY [a,b] / 256) b (by simp only[bY];omega)
    simp[e1,e2]
   |[a,b,c],_,_=>
    have:=a.toNat_lt
    have:=b.toNat_lt
    have:=c.toNat_lt
    have e1:=u (bY [a,b,c] / 65536) a (by simp only[bY];omega)
    have e2:=u (bY [a,b,c] / 256) b (by simp only[bY];omega)
    have e3:=u (bY [a,b,c]) c (by simp only[bY];omega)
    simp[e1,e2,e3]
  have:=O8 (cB g) (g.length+1) (bY g) (by omega) (by omega) hX hm
  rw[ho]at this
  exact this
 have hv2:g.length=1→bY g / 64 % 64=0:=fun h=>by
  match g,h with
  |[a],_=>simp only[bY];omega
 have hv3:g.length≤2→bY g % 64=0:=fun h=>by
  match g,h1,h with
  |[a],_,_=>simp only[bY];omega
  |[a,b],_,_=>simp only[bY];omega
 have ga:∀j,j<4→j<g.length+1→(cB g).getD j 0=fE (bY g / 2 ^ (6* (3 - j)) % 64):=fun j hj hn=>by rw[wK g h1 h3 j hj,if_neg (by omega)]
 refine Cg (cB g) rfl (g.length+1) 0 0 (bY g / 262144 % 64) (by omega) (by omega) (by omega) (fun h=>⟨ga 0 (by omega) h,by omega⟩) (fun h=>absurd (show 0<g.length+1 by omega) h) ?_
 refine Cg (cB g) rfl (g.length+1) _ 1 (bY g / 4096 % 64) (by omega) (by omega) (by omega) (fun h=>⟨ga 1 (by omega) h,by omega⟩) (fun h=>absurd (show 1<g.length+1 by omega) h) ?_
 refine Cg (cB g) rfl (g.length+1) _ 2 (bY g / 64 % 64) (by omega) (by omega) (by omega) (fun h=>⟨ga 2 (by omega) h,by omega⟩) (fun h=>hv2 (by omega)) ?_
 refine Cg (cB g) rfl (g.length+1) _ 3 (bY g % 64) (by omega) (by omega) (by omega) (fun h=>⟨by rw[ga 3 (by omega) h];rw[show 2 ^ (6* (3 - 3))=1 from rfl,Nat.div_one],by omega⟩) (fun h=>hv3 (by omega)) ?_
 rw[show(((0*64+bY g / 262144 % 64)*64+bY g / 4096 % 64)*64+bY g / 64 % 64)*64+bY g % 64=bY g by omega]
 exact fin
theorem DZ (L:Bs) (hL:L.length=4) (n:Nat) (hn2:2≤n) (hn4:n≤4) (last:Bool) (r:V×List Ob) (c:Bool) (hc:c=(last&&decide (2<n)&&(L.getD (n - 1) 0==61)))
  (h:Evt (fun k q=>if c=true then(fD (aA cfg k) q).1 (ofBytes L) last ((n - 1:Nat):Int)else(fD (aA cfg k) q).2 (ofBytes L) (n:Nat) 0 0) r):
  Evt (fun k q=>(fD (aA cfg k) q).1 (ofBytes L) last (n:Nat)) r:=by
 refine Mw (ofBytes L) last (n:Nat) ?_
 have hw1:IntKind.wrap IntKind.i64 (((n:Nat):Int) - 1)=((n - 1:Nat):Int):=by rw[wrap64 (by omega) (by omega)];omega
 have b1:(0:Int)≤((n - 1:Nat):Int):=by omega
 have hlt:n - 1<L.length:=by omega
 have b2:((n - 1:Nat):Int)<((L.length:Nat):Int):=by omega
 have eg:L.getD (n - 1) 0=L[n - 1]:=by simp[List.getD,hlt]
 have e61:(((L[n - 1].toNat:Nat):Int)==(61:Int))=(L[n - 1]==61):=eH _ 61 (by omega)
 simp only[Ca,hw1]
 refine cG (v:=c) ?_ h
 rw[hc,eg]
 cases last with
 |false=>simp
 |true=>
  by_cases h2:2<n
  ·have a1:((n:Nat):Int)>2:=by omega
   simp only[if_true,a1,decide_true,aI b1,aH,aI b2,Int.toNat_natCast,kV hlt,h2,Bool.true_and]
   exact congrArg some e61
  ·have a1:¬(((n:Nat):Int)>2):=by omega
   simp only[if_true,a1,decide_false,Bool.false_eq_true,if_false,h2,Bool.and_false,Bool.false_and]
theorem MR (g:Bs) (h1:1≤g.length) (h3:g.length≤3) (last:Bool) (hl:g.length<3→last=true):
  Ret 114 [.lst 5 false (ofBytes (cB g)), .bool last] [] (.tup [.lst 5 false (ofBytes g), .bool true],[]):=by
 refine QN (ofBytes (cB g)) last ?_
 simp only[Iz]
 have main:=I8 g h1 h3
 have np:∀v:Nat,(fE (v % 64)==61)=false:=fun v=>by simpa using(sL (v % 64) (by omega)).2
 have p3:(cB g).getD 3 0=if 3>g.length then 61 else fE (bY g / 2 ^ (6* (3 - 3)) % 64):=wK g h1 h3 3 (by omega)
 have p2:(cB g).getD 2 0=if 2>g.length then 61 else fE (bY g / 2 ^ (6* (3 - 2)) % 64):=wK g h1 h3 2 (by omega)
 by_cases e3:g.length=3
 ·rw[e3]at main
  rw[if_neg (by omega)]at p3
  refine DZ (cB g) rfl 4 (by omega) (by omega) last _ false ?_ ?_
  ·show false=(last&&decide (2<4)&&((cB g).getD 3 0==61))
   rw[p3,np,Bool.and_false]
  ·simp only[Bool.false_eq_true,if_false]
   exact main
 ·have hlast:=hl (by omega)
  subst hlast
  rw[if_pos (by omega)]at p3
  refine DZ (cB g) rfl 4 (by omega) (by omega) true _ true ?_ ?_
  ·show true=(true&&decide (2<4)&&((cB g).getD 3 0==61))
   rw[p3];rfl
  ·simp only[if_true]
   by_cases e2:g.length=2
   ·rw[e2]at main
    rw[if_neg (by omega)]at p2
    refine DZ (cB g) rfl 3 (by omega) (by omega) true _ false ?_ ?_
    ·show false=(true&&decide (2<3)&&((cB g).getD 2 0==61))
     rw[p2,np,Bool.and_false]
    ·simp only[Bool.false_eq_true,if_false]
     exact main
   ·have e1:g.length=1:=by omega
    rw[e1]at main
    rw[if_pos (by omega)]at p2
    refine DZ (cB g) rfl 3 (by omega) (by omega) true _ true ?_ ?_
    ·show true=(true&&decide (2<3)&&((cB g).getD 2 0==61))
     rw[p2];rfl
    ·simp only[if_true]
     refine DZ (cB g) rfl 2 (by omega) (by omega) true _ false ?_ ?_
     ·rfl
     ·simp only[Bool.false_eq_true,if_false]
      exact main
theorem zY:∀(n:Nat) (b:Bs),(iZ n b).length % 4=0∧(iZ n b).length≤4*n
 |0,b=>by simp[iZ]
 |n+1,b=>by
  rw[iZ]
  split
  ·simp
  ·have:=zY n (b.drop 3)
   have h4:(cB (b.take 3)).length=4:=rfl
   rw[List.length_append];omega
theorem I9:∀(n:Nat) (b:Bs),b.length≤n→(iZ n b=[]↔b=[])
 |0,b,h=>by
  have:b=[]:=List.eq_nil_of_length_eq_zero (by omega)
  simp[this,iZ]
 |n+1,b,_=>by
  rw[iZ]
  split
  ·rename_i h;simp[h]
  ·rename_i h;simp[h,cB]
theorem MS:∀(n:Nat) (b out:Bs),b.length≤n→n≤1000→out.length+b.length≤1000→
  Evt (fun k q=>L78 (aA cfg k) q (ofBytes (iZ n b)) (ofBytes out)) (.tup [.lst 5 false (ofBytes (out++b)), .bool true],[]):=by
 have fin:∀out:Bs,Evt (fun k q=>L78 (aA cfg k) q (ofBytes []) (ofBytes out)) (.tup [.lst 5 false (ofBytes (out++[])), .bool true],[]):=by
  intro out
  refine Lj (ofBytes []) (ofBytes out) ?_
  have a1:¬((((ofBytes []).length:Nat):Int)>0):=by simp[ofBytes]
  simp only[DX,a1,decide_false,Bool.false_eq_true,if_false,List.append_nil]
  exact aC _
 intro n
 induction n with
 |zero=>
  intro b out hb _ _
  have:b=[]:=List.eq_nil_of_length_eq_zero (by omega)
  subst this
  exact fin out
 |succ n ih=>
  intro b out hb hn ho
  rw[iZ]
  by_cases h0:b=[]
  ·rw[if_pos h0];subst h0;exact fin out
  ·rw[if_neg h0]
   have hp:=List.length_pos_iff.2 h0
   have hg1:1≤(b.take 3).length:=by rw[List.length_take];omega
   have hg3:(b.take 3).length≤3:=by rw[List.length_take];omega
   have hdl:(b.drop 3).length≤n:=by rw[List.length_drop];omega
   have h4:(cB (b.take 3)).length=4:=rfl
   have hal:=zY n (b.drop 3)
   have hS:(cB (b.take 3)++iZ n (b.drop 3)).length=4+(iZ n (b.drop 3)).length:=by rw[List.length_append,h4]
   have eb:b.take 3++b.drop 3=b:=List.take_append_drop 3 b
   have hlen:(b.take 3).length+(b.drop 3).length=b.length:=by rw[←List.length_append,eb]
   have ih:=ih (b.drop 3) (out++b.take 3) hdl (by omega) (by rw[List.length_append];omega)
   rw[List.append_assoc,eb]at ih
   have ap:bI (ofBytes out) (ofBytes (b.take 3)) 2=true:=eC (by rw[aH,aH];omega)
   refine Lj (ofBytes (cB (b.take 3)++iZ n (b.drop 3))) (ofBytes out) ?_
   have a1:(((cB (b.take 3)++iZ n (b.drop 3)).length:Nat):Int)>0:=by omega
   have a2:(4:Int)≤(((cB (b.take 3)++iZ n (b.drop 3)).length:Nat):Int):=by omega
   have et:List.drop (Int.toNat 0) (List.take (Int.toNat 4) (ofBytes (cB (b.take 3)++iZ n (b.drop 3))))=ofBytes (cB (b.take 3)):=by
    rw[←jB]
    have:(ofBytes (cB (b.take 3))).length=Int.toNat 4:=by rw[aH];rfl
    rw[←this,List.take_left];rfl
   have ed:List.drop (Int.toNat 4) (ofBytes (cB (b.take 3)++iZ n (b.drop 3)))=ofBytes (iZ n (b.drop 3)):=by
    rw[←jB]
    have:(ofBytes (cB (b.take 3))).length=Int.toNat 4:=by rw[aH];rfl
    rw[←this,List.drop_left]
   have hlast:(b.take 3).length<3→((((cB (b.take 3)++iZ n (b.drop 3)).length:Nat):Int)==(4:Int))=true:=by
    intro h
    have hd:b.drop 3=[]:=by
     rw[List.length_take]at h
     exact List.drop_eq_nil_of_le (by omega)
    have:iZ n (b.drop 3)=[]:=(I9 n _ hdl).2 hd
    rw[this]
    rfl
   simp only[DX,aH,a1,decide_true,if_true,aI (show(0:Int)≤4 by omega),aI a2,aI (show(0:Int)≤0 by omega),et,ed]
   refine aD (MR (b.take 3) hg1 hg3 _ hlast) ?_
   dsimp+instances only[bN,List.headD_cons,List.tail_cons,aW,aY]
   simp only[Bool.not_true,Bool.false_eq_true,if_false,cJ ap,jB]
   exact ih
theorem KD (w:Nat) (b:Bs):(zL w b).length≤12*b.length+2:=by
 have:=(Il w b.length ([],0) b).1
 unfold zL
 split
 ·simp only[List.length_append,List.length_cons,List.length_nil]at this ⊢;omega
 ·simp only[List.length_nil]at this;omega
theorem O9 (w:Nat) (b:Bs) (hb:b.length≤1000):Ret 78 [.lst 5 false (ofBytes (zL w b))] [] (.tup [.lst 5 false (ofBytes b), .bool true],[]):=by
 have hle:=KD w b
 refine M78 (ofBytes (zL w b)) ?_
 simp only[T78]
 refine aD (MQ (zL w b) (by omega)) ?_
 rw[Gi]
 obtain⟨h4,_⟩:=zY b.length b
 have e:((Int.tmod (((iZ b.length b).length:Nat):Int) (4:Int)) != (0:Int))=false:=by
  rw[Int.tmod_eq_emod_of_nonneg (by omega)]
  have:(((iZ b.length b).length:Nat):Int) % 4=0:=by omega
  rw[this];rfl
 have e4:((4:Int) != 0)=true:=rfl
 dsimp+instances only[aW]
 simp only[aH,e4,bX,e,Bool.false_eq_true,if_false]
 exact MS b.length b [] (Nat.le_refl _) hb (by simpa using hb)
end Go.Proofs.YtdoaoaicdimbeaaGreatDoor
end
section
namespace Go.Proofs.YtdoaoaicdimbeaaGreatDoor
open Go.Ev Go
open List (headD tail getD length drop take)
open V (getI getL getT getS getB)
set_option maxRecDepth 100000
variable (call : FuncId → Fun) (icall : aQ (V × List Ob)) (again : List It → St → Option (V × List Ob))
def wN:List V:=[V.str [98,97,115,101,54,52],V.str [81,117,111,116,101,100,45,80,114,105,110,116,97,98,108,101],V.str [56,98,105,116],V.str [120,45,110,111,110,101],V.str [98,97,115,101,54,52]]
def bkH:List UInt8:=[67,111,110,116,101,110,116,45,84,114,97,110,115,102,101,114,45,69,110,99,111,100,105,110,103,58,32]
def bkR (b:List V) (how:Int) (nm s:List UInt8):Option (V×List Ob):=
 chk (dS bkH nm) (chk (dS (bkH++nm) [13,10,13,10]) (chk (dS ((bkH++nm)++[13,10,13,10]) s) (
 Option.bind (call 14 [V.lst 5 false (ofBytes (((bkH++nm)++[13,10,13,10])++s))] []) fun z1=>
 Option.bind (call 17 [V.lst 5 false (ofBytes (((bkH++nm)++[13,10,13,10])++s)),V.agg [V.int IntKind.i64 (getI (headD (V.cells (headD (getT z1.1) V.bot)) V.bot)),V.int IntKind.i64 (getI (headD (tail (V.cells (headD (getT z1.1) V.bot))) V.bot)),V.int IntKind.i64 (getI (headD (tail (tail (V.cells (headD (getT z1.1) V.bot)))) V.bot)),V.int IntKind.i64 (getI (headD (tail (tail (tail (V.cells (headD (getT z1.1) V.bot))))) V.bot)),V.int IntKind.i64 (getI (headD (tail (tail (tail (tail (V.cells (headD (getT z1.1) V.bot)))))) V.bot)),V.lst 36 false (getL (headD (tail (tail (tail (tail (tail (V.cells (headD (getT z1.1) V.bot))))))) V.bot)),V.lst 32 false (getL (headD (tail (tail (tail (tail (tail (tail (V.cells (headD (getT z1.1) V.bot)))))))) V.bot)),V.int IntKind.i64 (getI (headD (tail (tail (tail (tail (tail (tail (tail (V.cells (headD (getT z1.1) V.bot))))))))) V.bot)),V.int IntKind.i64 (getI (headD (tail (tail (tail (tail (tail (tail (tail (tail (V.cells (headD (getT z1.1) V.bot)))))))))) V.bot))],V.lst 3 false [V.int .i64 1]] []) fun z2=>
 if((getI (headD (tail (getT z1.1)) V.bot)) != (0:Int))=true then some ((V.bool false),[])
 else chk ((5:Int) != 0) (if(decide ((Int.tmod how (5:Int))>(2:Int)))=true then
   Option.bind (if((getI (headD (tail (getT z2.1)) V.bot))==(22:Int))=true then some (((length (getL (headD (getT z2.1) V.bot)):Nat):Int)==(0:Int))else some false) fun y0=>some ((V.bool y0),[])
  else
   Option.bind (call 19 [V.lst 5 false (ofBytes (((bkH++nm)++[13,10,13,10])++s)),V.agg [V.int IntKind.i64 (getI (headD (V.cells (headD (getT z1.1) V.bot)) V.bot)),V.int IntKind.i64 (getI (headD (tail (V.cells (headD (getT z1.1) V.bot))) V.bot)),V.int IntKind.i64 (getI (headD (tail (tail (V.cells (headD (getT z1.1) V.bot)))) V.bot)),V.int IntKind.i64 (getI (headD (tail (tail (tail (V.cells (headD (getT z1.1) V.bot))))) V.bot)),V.int IntKind.i64 (getI (headD (tail (tail (tail (tail (V.cells (headD (getT z1.1) V.bot)))))) V.bot)),V.lst 36 false (getL (headD (tail (tail (tail (tail (tail (V.cells (headD (getT z1.1) V.bot))))))) V.bot)),V.lst 32 false (getL (headD (tail (tail (tail (tail (tail (tail (V.cells (headD (getT z1.1) V.bot)))))))) V.bot)),V.int IntKind.i64 (getI (headD (tail (tail (tail (tail (tail (tail (tail (V.cells (headD (getT z1.1) V.bot))))))))) V.bot)),V.int IntKind.i64 (getI (headD (tail (tail (tail (tail (tail (tail (tail (tail (V.cells (headD (getT z1.1) V.bot)))))))))) V.bot))],V.agg [V.lst 3 false [V.int .i64 1],V.int .i64 0,V.lst 9 false [],V.bool false,V.int .i64 0,V.int .i64 0]] []) fun z3=>
   if((getI (headD (tail (getT z2.1)) V.bot))==(0:Int))=true then
    if(sEq (bytesOf (getL (headD (getT z2.1) V.bot))) (bytesOf b))=true then some ((V.bool (sEq (bytesOf (getL z3.1)) s)),[])else some ((V.bool false),[])
   else some ((V.bool false),[])))))
def bkT (b:List V) (how width:Int):Option (V×List Ob):=
 Option.bind (call 16 [] []) fun z0=>if(!(getB z0.1))=true then some ((V.bool false),[])else
 if(decide (((length b:Nat):Int)>(300:Int)))=true then some ((V.bool true),[])else
 chk ((5:Int) != 0) (chk (decide (0≤(Int.tmod how (5:Int)))) (chk (decide ((Int.tmod how (5:Int))<((5:Nat):Int))) (chk ((5:Int) != 0) (
  if((Int.tmod how (5:Int))==(0:Int))=true then
   Option.bind (call 20 [V.lst 5 false b,V.int .i64 (IntKind.wrap IntKind.i64 width)] []) fun z1=>bkR call b how (getS (getD wN (Int.toNat (Int.tmod how (5:Int))) V.bot)) (bytesOf (getL z1.1))
  else if((Int.tmod how (5:Int))==(1:Int))=true then
   Option.bind (call 21 [V.lst 5 false b] []) fun z1=>bkR call b how (getS (getD wN (Int.toNat (Int.tmod how (5:Int))) V.bot)) (bytesOf (getL z1.1))
  else if((Int.tmod how (5:Int))==(4:Int))=true then bkR call b how (getS (getD wN (Int.toNat (Int.tmod how (5:Int))) V.bot)) [65]
  else bkR call b how (getS (getD wN (Int.toNat (Int.tmod how (5:Int))) V.bot)) (bytesOf b)))))
theorem bkC (b:List V) (how width:Int):GO 6 Tryz.f6 [V.lst 5 false b,V.int .u8 how,V.int .u8 width] [] call icall again=bkT call b how width:=by kernel_rfl
theorem M6 (b:List V) (how width:Int) {res:V×List Ob} (h:Evt (fun k _=>bkT (aA cfg k) b how width) res):Ret 6 [V.lst 5 false b,V.int .u8 how,V.int .u8 width] [] res:=by
 refine aS (g:=fun k _=>bkT (aA cfg k) b how width) (fun k=>?_) h
 refine(show aA cfg (k+1) 6 [V.lst 5 false b,V.int .u8 how,V.int .u8 width] []=GO 6 Tryz.f6 [V.lst 5 false b,V.int .u8 how,V.int .u8 width] [] (aA cfg k) (aE cfg (aA cfg k) 20) (RN 6 Tryz.f6 [] (aA cfg k) (aE cfg (aA cfg k) 20) k)by kernel_rfl).trans ?_
 rw[bkC]
end Go.Proofs.YtdoaoaicdimbeaaGreatDoor
end
section
namespace Go.Proofs.YtdoaoaicdimbeaaGreatDoor
open Go.Ev Go
def cO:List (Bs×Bs)→Bs
 |[]=>[]
 |f::r=>(f.1++58::f.2)++13::10::cO r
def FOk (f:Bs×Bs):Prop:=f.1≠[]∧f.1.all qB=true∧(∀c∈f.1,c≠58)∧∀c∈f.2,c≠10
def pA:Nat→List (Bs×Bs)→List Fd
 |_,[]=>[]
 |a,f::r=>(f.1,a,a+(f.1.length+1),a+(f.1.length+f.2.length+3))::pA (a+(f.1.length+f.2.length+3)) r
def qC:Nat→List (Bs×Bs)→List Ln
 |_,[]=>[]
 |a,f::r=>(a,a+(f.1.length+f.2.length+1),a+(f.1.length+f.2.length+3))::qC (a+(f.1.length+f.2.length+3)) r
theorem Ja (f:Bs×Bs) (r:List (Bs×Bs)):(cO (f::r)).length=f.1.length+f.2.length+3+(cO r).length:=by
 simp only[cO,List.length_append,List.length_cons];omega
theorem EV {c:UInt8} (h:qB c=true):eU c=false∧c≠10:=by
 have key:∀c:UInt8,qB c=true→eU c=false∧c≠10:=fB (p:=fun c=>qB c=true→eU c=false∧c≠10) (by decide+kernel)
 exact key c h
theorem vA (a:Nat) (w q:Bs) (hw:∀c∈w,c≠10):bQ a (w++13::10::q)=(a,a+w.length,a+(w.length+2))::bQ (a+(w.length+2)) q:=by
 have hk:Lib.indexByte (w++13::10::q) 10=((w.length+1:Nat):Int):=by
  refine jQ ?_ fun j hj=>?_
  ·rw[List.getElem?_append_right (by omega),Nat.add_sub_cancel_left];rfl
  ·by_cases hjw:j<w.length
   ·rw[List.getElem?_append_left hjw,List.getElem?_eq_getElem hjw]
    intro e
    exact hw w[j] (List.getElem_mem hjw) (Option.some.inj e)
   ·have:j=w.length:=by omega
    subst this
    rw[List.getElem?_append_right (Nat.le_refl _),Nat.sub_self]
    simp
 have h0:¬(((w.length+1:Nat):Int)<0):=by omega
 have h13:(w++13::10::q)[w.length+1 - 1]? =some 13:=by
  rw[Nat.add_sub_cancel,List.getElem?_append_right (Nat.le_refl _),Nat.sub_self];rfl
 have hd:(w++13::10::q).drop (w.length+1+1)=q:=by
  rw[show w.length+1+1=w.length+2 by omega,List.drop_append]
  simp
 rw[vM a _ (by simp),hk,if_neg h0]
 simp only[Int.toNat_natCast]
 rw[if_pos ⟨by omega,h13⟩,hd]
 rw[show w.length+1 - 1=w.length by omega,show a+(w.length+1)+1=a+(w.length+2)by omega]
theorem Br:∀(l:List (Bs×Bs)) (a:Nat) (q:Bs),(∀f∈l,FOk f)→bQ a (cO l++q)=qC a l++bQ (a+(cO l).length) q
 |[],a,q,_=>by simp[cO,qC]
 |f::r,a,q,h=>by
  obtain⟨h1,h2,h3,h4⟩:=h f (by simp)
  have hw:∀c∈f.1++58::f.2,c≠10:=by
   intro c hc
   rw[List.mem_append,List.mem_cons]at hc
   rcases hc with hc|rfl|hc
   ·exact(EV (List.all_eq_true.1 h2 c hc)).2
   ·decide
   ·exact h4 c hc
  have e:cO (f::r)++q=(f.1++58::f.2)++13::10::(cO r++q):=by simp[cO]
  have el:(f.1++58::f.2).length=f.1.length+f.2.length+1:=by simp only[List.length_append,List.length_cons];omega
  rw[e,vA a _ _ hw,Br r _ q (fun x hx=>h x (by simp[hx])),qC,Ja,el]
  rw[show a+(f.1.length+f.2.length+1+2)=a+(f.1.length+f.2.length+3)by omega,List.cons_append,show a+(f.1.length+f.2.length+3+(cO r).length)=a+(f.1.length+f.2.length+3)+(cO r).length by omega]
theorem D1 (pre w post:Bs) (z:Nat):bO (pre++(w++post)) (pre.length,pre.length+w.length,z)=w:=by
 unfold bO
 rw[if_pos ⟨by simp,by simp⟩]
 simp only[lE]
 rw[List.take_append,List.take_of_length_le (by omega),Nat.add_sub_cancel_left,List.take_left,List.drop_left]
theorem Gp {s:Bs}:∀{n:Nat},(∀j,j<n→eU (s.getD j 0)=false)→iV s n=n
 |0,_=>rfl
 |n+1,h=>by rw[iV,h n (by omega)];rfl
theorem Gq {f:Bs×Bs} (h:FOk f):eE (f.1++58::f.2)=some (f.1,f.1.length+1):=by
 obtain⟨h1,h2,h3,h4⟩:=h
 have hk:Lib.indexByte (f.1++58::f.2) 58=((f.1.length:Nat):Int):=by
  refine jQ ?_ fun j hj=>?_
  ·rw[List.getElem?_append_right (Nat.le_refl _),Nat.sub_self];rfl
  ·rw[List.getElem?_append_left hj,List.getElem?_eq_getElem hj]
   intro e
   exact h3 f.1[j] (List.getElem_mem hj) (Option.some.inj e)
 have hb:iV (f.1++58::f.2) f.1.length=f.1.length:=Gp fun j hj=>by
  have:(f.1++58::f.2).getD j 0=f.1[j]:=by simp[List.getD,List.getElem?_append_left hj,hj]
  rw[this]
  exact(EV (List.all_eq_true.1 h2 _ (List.getElem_mem hj))).1
 have h0:¬(((f.1.length:Nat):Int)<0):=by omega
 have hp:0<f.1.length:=List.length_pos_iff.2 h1
 unfold eE
 rw[hk,if_neg h0]
 simp only[Int.toNat_natCast,hb,List.take_left,h2,Bool.true_and,decide_eq_true hp,if_true]
theorem Jb {f:Bs×Bs} (h:FOk f):zC (f.1++58::f.2)=false:=by
 obtain⟨h1,h2,_⟩:=h
 cases hf:f.1 with
 |nil=>exact absurd hf h1
 |cons c r=>
  rw[hf,List.all_cons,Bool.and_eq_true]at h2
  exact(EV h2.1).1
theorem D2 (b:Bs):∀(l:List (Bs×Bs)) (pre post:Bs) (st:List Fd×Bool),b=pre++(cO l++post)→(∀f∈l,FOk f)→
  ((qC pre.length l).foldl (eW b) st).1=st.1++pA pre.length l
 |[],pre,post,st,_,_=>by simp[qC,pA]
 |f::r,pre,post,st,hb,h=>by
  have ho:=h f (by simp)
  have e:b=(pre++((f.1++58::f.2)++[13,10]))++(cO r++post):=by rw[hb];simp[cO]
  have e2:b=pre++((f.1++58::f.2)++(13::10::(cO r++post))):=by rw[hb];simp[cO]
  have el:(f.1++58::f.2).length=f.1.length+f.2.length+1:=by simp only[List.length_append,List.length_cons];omega
  have el2:(pre++((f.1++58::f.2)++[13,10])).length=pre.length+(f.1.length+f.2.length+3):=by simp only[List.length_append,List.length_cons,List.length_nil];omega
  have ht:bO b (pre.length,pre.length+(f.1.length+f.2.length+1),pre.length+(f.1.length+f.2.length+3))=f.1++58::f.2:=by
   rw[e2,←el];exact D1 _ _ _ _
  have hs:eW b st (pre.length,pre.length+(f.1.length+f.2.length+1),pre.length+(f.1.length+f.2.length+3))=(st.1++[(f.1,pre.length,pre.length+(f.1.length+1),pre.length+(f.1.length+f.2.length+3))],true):=by
   unfold eW
   rw[ht,Jb ho,Gq ho]
   rfl
  rw[qC,List.foldl_cons,hs]
  have ih:=D2 b r (pre++((f.1++58::f.2)++[13,10])) post (st.1++[(f.1,pre.length,pre.length+(f.1.length+1),pre.length+(f.1.length+f.2.length+3))],true) e (fun x hx=>h x (by simp[hx]))
  rw[el2]at ih
  rw[ih,pA]
  simp
theorem Bt:∀(l:List (Bs×Bs)) (a:Nat) (r:List Ln),(∀f∈l,FOk f)→eD (qC a l++r)=(eD r).map (· +l.length)
 |[],a,r,_=>by simp[qC]
 |f::l,a,r,h=>by
  obtain⟨h1,_⟩:=h f (by simp)
  have hp:0<f.1.length:=List.length_pos_iff.2 h1
  rw[qC,List.cons_append,eD,if_neg (by simp only;omega),Bt l _ r (fun x hx=>h x (by simp[hx]))]
  cases eD r with
  |none=>rfl
  |some k=>simp only[Option.map_some,List.length_cons];congr 1
theorem vX:∀(l:List (Bs×Bs)) (a:Nat),(qC a l).length=l.length
 |[],_=>rfl
 |f::l,a=>by rw[qC,List.length_cons,vX l];rfl
theorem KE (pre nm v post:Bs) (hv:∀c∈v,c≠10) (x y:Nat):iW (pre++(v++13::10::post)) (nm,x,pre.length,pre.length+(v.length+2))=trimF v:=by
 have hl:aU (pre.length:Nat) ((pre.length+(v.length+2):Nat):Int) (pre++(v++13::10::post))=[(pre.length,pre.length+v.length,pre.length+(v.length+2))]:=by
  unfold aU
  rw[if_pos ⟨by omega,by omega,by simp only[List.length_append,List.length_cons];omega⟩]
  have h1:=vA pre.length v [] hv
  have h2:bQ (pre.length+(v.length+2)) []=[]:=by simp[bQ,eT]
  rw[h2]at h1
  simp only[Int.toNat_natCast]
  have e:List.drop pre.length (List.take (pre.length+(v.length+2)) (pre++(v++13::10::post)))=v++13::10::[]:=by
   rw[List.take_append,List.take_of_length_le (by omega),Nat.add_sub_cancel_left,List.drop_left,List.take_append,List.take_of_length_le (by omega),Nat.add_sub_cancel_left]
   rfl
  rw[e,h1]
 unfold iW
 simp only
 rw[hl,List.flatMap_cons,List.flatMap_nil,List.append_nil]
 have:=D1 pre v (13::10::post) (pre.length+(v.length+2))
 rw[this]
end Go.Proofs.YtdoaoaicdimbeaaGreatDoor
end
section
namespace Go.Proofs.YtdoaoaicdimbeaaGreatDoor
open Go.Ev Go
theorem FD (w:Nat):∀(n:Nat) (st:Bs×Nat) (b:Bs),(encS w n st b).1.length≤st.1.length+(if b=[]then 0 else 4*b.length+8)
 |0,st,b=>by rw[encS];omega
 |n+1,st,b=>by
  rw[encS]
  by_cases h:b=[]
  ·rw[if_pos h,if_pos h];omega
  ·rw[if_neg h,if_neg h]
   have h1:=FD w n ((cB (b.take 3)).foldl (putS w) st) (b.drop 3)
   have h2:=(wL w (cB (b.take 3)) st).1
   have h3:(cB (b.take 3)).length=4:=rfl
   have hp:=List.length_pos_iff.2 h
   have hd:(b.drop 3).length=b.length - 3:=List.length_drop
   by_cases h4:b.drop 3=[]
   ·rw[if_pos h4]at h1;omega
   ·rw[if_neg h4]at h1
    have:=List.length_pos_iff.2 h4
    omega
theorem Jc (w:Nat) (b:Bs):(zL w b).length≤4*b.length+10:=by
 have h:=FD w b.length ([],0) b
 simp only[List.length_nil,Nat.zero_add]at h
 have h2:(if b=[]then 0 else 4*b.length+8)≤4*b.length+8:=by split<;>omega
 unfold zL
 split
 ·simp only[List.length_append,List.length_cons,List.length_nil];omega
 ·omega
theorem D3 (l:List (Bs×Bs)) (h:∀f∈l,FOk f) (t:Bs) (to:Nat) (hto:to=(cO l).length+2∨to=(cO l).length+2+t.length):
  dP (cO l++13::10::t) ((0:Nat):Int) ((to:Nat):Int)=(pA 0 l,(((cO l).length+2:Nat):Int)):=by
 obtain⟨t',ht⟩:∃t',(cO l++13::10::t).take to=cO l++13::10::t' :=by
  rcases hto with rfl|rfl
  ·exact⟨[],by rw[List.take_append,List.take_of_length_le (by omega),Nat.add_sub_cancel_left];rfl⟩
  ·exact⟨t,by rw[List.take_of_length_le];simp only[List.length_append,List.length_cons];omega⟩
 have hl:aU ((0:Nat):Int) ((to:Nat):Int) (cO l++13::10::t)=qC 0 l++((cO l).length,(cO l).length,(cO l).length+2)::bQ ((cO l).length+2) t' :=by
  unfold aU
  rw[if_pos ⟨by omega,by omega,by simp only[List.length_append,List.length_cons];omega⟩]
  have h1:=vA ((cO l).length) [] t' (by simp)
  simp only[List.nil_append,List.length_nil,Nat.zero_add,Nat.add_zero]at h1
  simp only[Int.toNat_natCast,List.drop_zero]
  rw[ht,Br l 0 _ h,Nat.zero_add,h1]
 unfold dP
 rw[hl,if_neg (by simp),Bt l 0 _ h]
 have he:eD (((cO l).length,(cO l).length,(cO l).length+2)::bQ ((cO l).length+2) t')=some 0:=by rw[eD,if_pos rfl]
 rw[he]
 simp only[Option.map_some,Nat.zero_add]
 have hlen:=vX l 0
 have htk:(qC 0 l++((cO l).length,(cO l).length,(cO l).length+2)::bQ ((cO l).length+2) t').take l.length=qC 0 l:=by rw[←hlen,List.take_left]
 have hg:(qC 0 l++((cO l).length,(cO l).length,(cO l).length+2)::bQ ((cO l).length+2) t').getD l.length (0,0,0)=((cO l).length,(cO l).length,(cO l).length+2):=by
  rw[←hlen];simp[List.getD]
 rw[htk,hg]
 have hf:=D2 (cO l++13::10::t) l [] (13::10::t) ([],false) rfl h
 rw[List.length_nil,List.nil_append]at hf
 rw[hf]
def jL:Bs:=[67,111,110,116,101,110,116,45,84,114,97,110,115,102,101,114,45,69,110,99,111,100,105,110,103]
def bkM (nm s:Bs):Bs:=((bkH++nm)++[13,10,13,10])++s
def bkL (nm:Bs):List (Bs×Bs):=[(jL,32::nm)]
def Av (nm:Bs):Prop:=(∀c∈nm,c≠10)∧trimF (32::nm)=nm∧nm≠[]∧nm.length≤20
theorem Ch (nm s:Bs):bkM nm s=cO (bkL nm)++13::10::s:=by
 have e:bkH=jL++[58,32]:=rfl
 simp[bkM,bkL,cO,e]
theorem Jd {nm:Bs} (h:Av nm):∀f∈bkL nm,FOk f:=by
 intro f hf
 simp only[bkL,List.mem_cons,List.not_mem_nil,or_false]at hf
 subst hf
 refine⟨show jL≠[]by decide,show jL.all qB=true by decide,show∀c∈jL,c≠58 by decide,fun c hc=>?_⟩
 rcases List.mem_cons.1 hc with rfl|hc
 ·decide
 ·exact h.1 c hc
def kN (nm:Bs):Nat:=(cO (bkL nm)).length+2
theorem Ci (nm s:Bs):(bkM nm s).length=kN nm+s.length:=by
 rw[Ch];simp only[kN,List.length_append,List.length_cons];omega
theorem KF {nm:Bs} (h:Av nm):kN nm≤60:=by
 have:=h.2.2.2
 have e:jL.length=25:=rfl
 simp only[kN,bkL,cO,List.length_append,List.length_cons,List.length_nil];omega
theorem Je (nm s:Bs) (h:Av nm):gW (bkM nm s) (pA 0 (bkL nm)) DI=nm∧gW (bkM nm s) (pA 0 (bkL nm)) ctB=[]:=by
 have e:bkM nm s=(jL++[58])++((32::nm)++13::10::(13::10::s)):=by
  have e:bkH=jL++[58,32]:=rfl
  simp[bkM,e]
 have hv:∀c∈((32:UInt8)::nm),c≠10:=fun c hc=>by
  rcases List.mem_cons.1 hc with rfl|hc
  ·decide
  ·exact h.1 c hc
 refine⟨?_,?_⟩
 ·unfold gW
  rw[bkL,pA,jI,if_pos (show low jL=low DI by decide)]
  have hb:=KE (jL++[58]) jL (32::nm) (13::10::s) hv 0 0
  rw[h.2.1,←e]at hb
  have e2:(jL++[58]).length=0+(jL.length+1):=by simp
  rw[e2]at hb
  have e3:0+(jL.length+1)+((32::nm).length+2)=0+(jL.length+(32::nm).length+3):=by omega
  rw[e3]at hb
  exact hb
 ·unfold gW
  rw[bkL,pA,jI,if_neg (show¬low jL=low ctB by decide)]
  rfl
theorem KG (nm s:Bs) (h:Av nm):fV (bkM nm s) 32 0 (bkM nm s).length false 1=(dZ 0 (kN nm) (bkM nm s).length,1):=by
 have hh:=D3 (bkL nm) (Jd h) s (bkM nm s).length (.inr (Ci nm s))
 rw[←Ch]at hh
 have hk:nG (bkM nm s) (pA 0 (bkL nm)) false=([116,101,120,116],[112,108,97,105,110],[]):=by
  unfold nG
  rw[(Je nm s h).2,show rJ [] true=none by decide+kernel]
  rfl
 rw[Mx (bkM nm s) 31 0 (bkM nm s).length false 1 (at_:=kN nm) (by rw[hh]) (by rw[hh,Int.toNat_natCast];rfl) hk rfl rfl]
 rw[if_neg (fun h=>absurd h.1 (by decide)),if_neg (fun h=>absurd h.1 (by decide))]
theorem MU (nm s:Bs) (h:Av nm):ID (bkM nm s) (dZ 0 (kN nm) (bkM nm s).length)=nm.map dB:=by
 have hh:=D3 (bkL nm) (Jd h) s (kN nm) (.inl rfl)
 rw[←Ch]at hh
 have hd:hdL (bkM nm s) (dZ 0 (kN nm) (bkM nm s).length)=pA 0 (bkL nm):=by
  unfold hdL
  show(dP (bkM nm s) ((0:Nat):Int) ((kN nm:Nat):Int)).1=_
  rw[hh]
 unfold ID
 rw[hd,(Je nm s h).1,if_neg (by simpa using h.2.2.1)]
theorem FG (nm s:Bs):fF (bkM nm s) (kN nm) (bkM nm s).length=s:=by
 unfold fF
 rw[if_pos ⟨by rw[Ci];omega,Nat.le_refl _⟩]
 unfold lE
 rw[List.take_length,Ch]
 have:cO (bkL nm)++13::10::s=(cO (bkL nm)++[13,10])++s:=by simp
 rw[this]
 have:kN nm=(cO (bkL nm)++[13,10]).length:=by simp[kN]
 rw[this,List.drop_left]
theorem Gr (b:Bs) (hb:b.length≤3000) (q:Pt) (hk:q.kd=0) (how body c:Bs) (ok in_:Bool) (he:ID b q=how) (hbd:fF b q.bd.1 q.bd.2=body)
  (hc:Ret 77 [.lst 9 false [.str [55,98,105,116], .str [56,98,105,116], .str [98,105,110,97,114,121]], .str how] [] (.bool in_,[]))
  (hin:in_=true→c=body∧ok=true)
  (h64:in_=false→how=[98,97,115,101,54,52]→Ret 78 [.lst 5 false (ofBytes body)] [] (.tup [.lst 5 false (ofBytes c), .bool ok],[]))
  (hqp:in_=false→how=[113,117,111,116,101,100,45,112,114,105,110,116,97,98,108,101]→Ret 79 [.lst 5 false (ofBytes body)] [] (.tup [.lst 5 false (ofBytes c), .bool ok],[]))
  (hno:in_=false→how≠[98,97,115,101,54,52]→how≠[113,117,111,116,101,100,45,112,114,105,110,116,97,98,108,101]→c=[]∧ok=false):
  Ret 39 [.lst 5 false (ofBytes b),partV q] [] (.tup [.lst 5 false (ofBytes c), .bool ok],[]):=by
 have hs:=ON b (by omega) q.bd.1 q.bd.2
 have hE:=OC b hb q
 rw[hbd]at hs
 rw[he]at hE
 rw[←cX q]at hE ⊢
 refine M39 (ofBytes b) (q.kd:Nat) (q.hd.1:Nat) (q.hd.2:Nat) (q.bd.1:Nat) (q.bd.2:Nat) (q.ks.map partV) (q.cs.map cutV) (q.en.1:Nat) (q.en.2:Nat) ?_
 have k1:(((q.kd:Nat):Int)==1)=false:=by rw[hk];rfl
 simp only[T39]
 refine aD hs ?_
 refine aD hE ?_
 simp only[k1,Bool.false_eq_true,if_false,fN]
 refine aD hc ?_
 cases in_ with
 |true=>
  obtain⟨e1,e2⟩:=hin rfl
  subst e1 e2
  simp only[aY,if_true,aW]
  exact aC _
 |false=>
  simp only[aY,Bool.false_eq_true,if_false]
  by_cases h6:how=[98,97,115,101,54,52]
  ·have z:sEq how [98,97,115,101,54,52]=true:=Ft h6
   simp only[z,if_true,Bool.not_true,Bool.false_eq_true,if_false,aW]
   refine aD (h64 rfl h6) ?_
   simp only[bN,List.headD_cons,List.tail_cons,aW,aY]
   exact aC _
  ·have z:sEq how [98,97,115,101,54,52]=false:=IC h6
   by_cases h7:how=[113,117,111,116,101,100,45,112,114,105,110,116,97,98,108,101]
   ·have z7:sEq how [113,117,111,116,101,100,45,112,114,105,110,116,97,98,108,101]=true:=Ft h7
    simp only[z,z7,if_true,Bool.not_true,Bool.false_eq_true,if_false,aW]
    refine aD (hqp rfl h7) ?_
    simp only[bN,List.headD_cons,List.tail_cons,aW,aY]
    exact aC _
   ·have z7:sEq how [113,117,111,116,101,100,45,112,114,105,110,116,97,98,108,101]=false:=IC h7
    obtain⟨e1,e2⟩:=hno rfl h6 h7
    subst e1 e2
    simp only[z,z7,Bool.not_false,if_true,Bool.false_eq_true,if_false]
    exact aC _
theorem Jf (b:Bs) (p:Pt) (hc:cntF p≤1000000) (hk:p.kd=0) (c:Bs) (ok:Bool) (hb1:Ret 39 [.lst 5 false (ofBytes b),partV p] [] (.tup [.lst 5 false (ofBytes c), .bool ok],[])):
  Ret 17 [.lst 5 false (ofBytes b),partV p, .lst 3 false [.int .i64 1]] [] (.tup [.lst 5 false (ofBytes (if ok=true then c else[])), .int .i64 (if ok=true then 0 else 22)],[]):=by
 have hfd:=Lg p hc [1] (by simp)
 have hf:fG p 1=some p:=by unfold fG;rw[if_neg (by omega),if_pos rfl]
 rw[DV,hf]at hfd
 rw[←cX p]at hfd ⊢
 refine M17 (ofBytes b) (p.kd:Nat) (p.hd.1:Nat) (p.hd.2:Nat) (p.bd.1:Nat) (p.bd.2:Nat) (p.ks.map partV) (p.cs.map cutV) (p.en.1:Nat) (p.en.2:Nat) [.int .i64 1] ?_
 have k1:(((([V.int .i64 1].length:Nat)):Int)==0)=false:=rfl
 simp only[T17,k1,Bool.false_eq_true,if_false]
 refine aD hfd ?_
 simp only[gC,bN,List.headD_cons,List.tail_cons,aY,Bool.not_true,Bool.false_eq_true,if_false,jA]
 refine aD hb1 ?_
 cases ok with
 |true=>
  simp only[bN,List.headD_cons,List.tail_cons,aY,Bool.not_true,Bool.false_eq_true,if_false,aW,if_true]
  exact aC _
 |false=>
  simp only[bN,List.headD_cons,List.tail_cons,aY,Bool.not_false,if_true,Bool.false_eq_true,if_false]
  exact aC _
theorem sN (b:Bs) (how:Int) (nm s how' c:Bs) (ok in_:Bool) (hnm:Av nm) (hs:s.length≤2900) (he:nm.map dB=how')
  (hc:Ret 77 [.lst 9 false [.str [55,98,105,116], .str [56,98,105,116], .str [98,105,110,97,114,121]], .str how'] [] (.bool in_,[]))
  (hin:in_=true→c=s∧ok=true)
  (h64:in_=false→how' =[98,97,115,101,54,52]→Ret 78 [.lst 5 false (ofBytes s)] [] (.tup [.lst 5 false (ofBytes c), .bool ok],[]))
  (hqp:in_=false→how' =[113,117,111,116,101,100,45,112,114,105,110,116,97,98,108,101]→Ret 79 [.lst 5 false (ofBytes s)] [] (.tup [.lst 5 false (ofBytes c), .bool ok],[]))
  (hno:in_=false→how'≠[98,97,115,101,54,52]→how'≠[113,117,111,116,101,100,45,112,114,105,110,116,97,98,108,101]→c=[]∧ok=false)
  (h2:(Int.tmod how 5>2)↔ok=false) (hcb:ok=true→c=b):Evt (fun k _=>bkR (aA cfg k) (ofBytes b) how nm s) (.bool true,[]):=by
 have hat:=KF hnm
 have hml:=Ci nm s
 have hH:bkH.length=27:=rfl
 have hnl:=hnm.2.2.2
 have c1:dS bkH nm=true:=lC (by omega)
 have c2:dS (bkH++nm) [13,10,13,10]=true:=lC (by simp only[List.length_append,List.length_cons,List.length_nil];omega)
 have c3:dS ((bkH++nm)++[13,10,13,10]) s=true:=lC (by simp only[List.length_append,List.length_cons,List.length_nil];omega)
 have hP:=Oz (bkM nm s) (by omega)
 rw[KG nm s hnm]at hP
 have hbare:=Gr (bkM nm s) (by omega) (dZ 0 (kN nm) (bkM nm s).length) rfl how' s c ok in_ ((MU nm s hnm).trans he) (FG nm s) hc hin h64 hqp hno
 have hG:=Jf (bkM nm s) (dZ 0 (kN nm) (bkM nm s).length) (by unfold dZ;rw[cntF,An];omega) rfl c ok hbare
 have hF:=OM (bkM nm s) (by omega) (dZ 0 (kN nm) (bkM nm s).length) (by unfold dZ;rw[cntF,An];omega) (mkS [1] 0) (MG (by simp))
 have hbl:fG (dZ 0 (kN nm) (bkM nm s).length) 1=some (dZ 0 (kN nm) (bkM nm s).length):=rfl
 rw[Gn _ _ (by omega),hbl]at hF
 have hbb:=FG nm s
 have hF' :Ret 19 [.lst 5 false (ofBytes (bkM nm s)),partV (dZ 0 (kN nm) (bkM nm s).length), .agg [.lst 3 false [.int .i64 1], .int .i64 0, .lst 9 false [], .bool false, .int .i64 0, .int .i64 0]] [] (.lst 5 false (ofBytes s),[]):=by
  have e:fF (bkM nm s) (dZ 0 (kN nm) (bkM nm s).length).bd.1 (dZ 0 (kN nm) (bkM nm s).length).bd.2=s:=hbb
  simp only[e]at hF
  exact hF
 generalize dZ 0 (kN nm) (bkM nm s).length=T at*
 have e5:((5:Int) != 0)=true:=rfl
 have z0:((0:Int) != 0)=false:=rfl
 have z00:((0:Int)==0)=true:=rfl
 have z22:((22:Int)==22)=true:=rfl
 simp only[bkR,cJ c1,cJ c2,cJ c3]
 refine aD hP ?_
 simp only[bN,List.headD_cons,jA,kL,List.tail_cons,bF,aW,cX]
 refine aD hG ?_
 simp only[bN,List.headD_cons,List.tail_cons,bF,aW,z0,Bool.false_eq_true,if_false,e5,bX]
 cases ok with
 |false=>
  have h3:=h2.2 rfl
  simp only[h3,decide_true,if_true,Bool.false_eq_true,if_false,z22,aH,List.length_nil]
  exact aC _
 |true=>
  have h3:¬(Int.tmod how 5>2):=fun h=>by have:=h2.1 h;cases this
  have hcb:=hcb rfl
  subst hcb
  simp only[h3,decide_false,Bool.false_eq_true,if_false,if_true]
  refine aD hF' ?_
  simp only[aW,bP,Ft rfl,z00,if_true]
  exact aC _
theorem jC (s:Bs) (in_:Bool) (h:s=[98,97,115,101,54,52]∧in_=false∨s=[113,117,111,116,101,100,45,112,114,105,110,116,97,98,108,101]∧in_=false∨s=[56,98,105,116]∧in_=true∨s=[120,45,110,111,110,101]∧in_=false):
  Ret 77 [.lst 9 false [.str [55,98,105,116], .str [56,98,105,116], .str [98,105,110,97,114,121]], .str s] [] (.bool in_,[]):=by
 rcases h with⟨rfl,rfl⟩|⟨rfl,rfl⟩|⟨rfl,rfl⟩|⟨rfl,rfl⟩
 ·exact mZ 20 fun m=>by kernel_rfl
 ·exact mZ 20 fun m=>by kernel_rfl
 ·exact mZ 20 fun m=>by kernel_rfl
 ·exact mZ 20 fun m=>by kernel_rfl
theorem Rk:Ret 78 [.lst 5 false (ofBytes [65])] [] (.tup [.lst 5 false (ofBytes []), .bool false],[]):=mZ 20 fun m=>by kernel_rfl
theorem Pa (b:Bs) (how width:Nat) (hh:how<256) (hw:width<256):Ret 6 [.lst 5 false (ofBytes b), .int .u8 (how:Nat), .int .u8 (width:Nat)] [] (.bool true,[]):=by
 refine M6 (ofBytes b) (how:Nat) (width:Nat) ?_
 simp only[bkT]
 refine aD OO ?_
 simp only[aY,Bool.not_true,Bool.false_eq_true,if_false,aH]
 by_cases hb:b.length≤300
 ·have h1:¬(((b.length:Nat):Int)>300):=by omega
  have e5:((5:Int) != 0)=true:=rfl
  have tm:Int.tmod ((how:Nat):Int) 5=((how % 5:Nat):Int):=by rw[Int.tmod_eq_emod_of_nonneg (by omega)];omega
  have t1:(0:Int)≤((how % 5:Nat):Int):=by omega
  have t2:((how % 5:Nat):Int)<((5:Nat):Int):=by omega
  have ww:IntKind.wrap IntKind.i64 ((width:Nat):Int)=((width:Nat):Int):=wrap64 (by omega) (by omega)
  have bl1:=Jc width b
  have bl2:=zX b
  have dec1:=O9 width b (by omega)
  have dec2:=O1 b (by omega)
  have n64:Av [98,97,115,101,54,52]:=⟨by decide,by decide+kernel,by decide,by decide⟩
  have nqp:Av [81,117,111,116,101,100,45,80,114,105,110,116,97,98,108,101]:=⟨by decide,by decide+kernel,by decide,by decide⟩
  have n8:Av [56,98,105,116]:=⟨by decide,by decide+kernel,by decide,by decide⟩
  have nx:Av [120,45,110,111,110,101]:=⟨by decide,by decide+kernel,by decide,by decide⟩
  simp only[h1,decide_false,Bool.false_eq_true,if_false,e5,bX,tm,aI t1,aI t2,ww,Int.toNat_natCast]
  obtain h|h|h|h|h:how % 5=0∨how % 5=1∨how % 5=2∨how % 5=3∨how % 5=4:=by omega
  ·rw[h]
   have z:(((0:Nat):Int)==(0:Int))=true:=rfl
   simp only[z,if_true]
   refine aD (O7 b (by omega) width) ?_
   simp only[aW,bP]
   exact sN b (how:Nat) [98,97,115,101,54,52] (zL width b) [98,97,115,101,54,52] b true false n64 (by omega) (by decide+kernel) (jC _ _ (by simp)) (fun h=>by cases h) (fun _ _=>dec1) (fun _ h=>absurd h (by decide)) (fun _ h=>absurd rfl h)
    (by rw[tm,h];decide) (fun _=>rfl)
  ·rw[h]
   have z:(((1:Nat):Int)==(0:Int))=false:=rfl
   have z1:(((1:Nat):Int)==(1:Int))=true:=rfl
   simp only[z,z1,Bool.false_eq_true,if_false,if_true]
   refine aD (OZ b (by omega)) ?_
   simp only[aW,bP]
   exact sN b (how:Nat) [81,117,111,116,101,100,45,80,114,105,110,116,97,98,108,101] (qpB b) [113,117,111,116,101,100,45,112,114,105,110,116,97,98,108,101] b true false nqp (by omega) (by decide+kernel) (jC _ _ (by simp)) (fun h=>by cases h) (fun _ h=>absurd h (by decide)) (fun _ _=>dec2) (fun _ _ h=>absurd rfl h)
    (by rw[tm,h];decide) (fun _=>rfl)
  ·rw[h]
   have z:(((2:Nat):Int)==(0:Int))=false:=rfl
   have z1:(((2:Nat):Int)==(1:Int))=false:=rfl
   have z4:(((2:Nat):Int)==(4:Int))=false:=rfl
   simp only[z,z1,z4,Bool.false_eq_true,if_false,bP]
   exact sN b (how:Nat) [56,98,105,116] b [56,98,105,116] b true true n8 (by omega) (by decide+kernel) (jC _ _ (by simp)) (fun _=>⟨rfl,rfl⟩) (fun h=>by cases h) (fun h=>by cases h) (fun h=>by cases h)
    (by rw[tm,h];decide) (fun _=>rfl)
  ·rw[h]
   have z:(((3:Nat):Int)==(0:Int))=false:=rfl
   have z1:(((3:Nat):Int)==(1:Int))=false:=rfl
   have z4:(((3:Nat):Int)==(4:Int))=false:=rfl
   simp only[z,z1,z4,Bool.false_eq_true,if_false,bP]
   exact sN b (how:Nat) [120,45,110,111,110,101] b [120,45,110,111,110,101] [] false false nx (by omega) (by decide+kernel) (jC _ _ (by simp)) (fun h=>by cases h) (fun _ h=>absurd h (by decide)) (fun _ h=>absurd h (by decide)) (fun _ _ _=>⟨rfl,rfl⟩)
    (by rw[tm,h];decide) (fun h=>by cases h)
  ·rw[h]
   have z:(((4:Nat):Int)==(0:Int))=false:=rfl
   have z1:(((4:Nat):Int)==(1:Int))=false:=rfl
   have z4:(((4:Nat):Int)==(4:Int))=true:=rfl
   simp only[z,z1,z4,Bool.false_eq_true,if_false,if_true]
   exact sN b (how:Nat) [98,97,115,101,54,52] [65] [98,97,115,101,54,52] [] false false n64 (by simp) (by decide+kernel) (jC _ _ (by simp)) (fun h=>by cases h) (fun _ _=>Rk) (fun _ h=>absurd h (by decide)) (fun _ h=>absurd rfl h)
    (by rw[tm,h];decide) (fun h=>by cases h)
 ·have h1:(((b.length:Nat):Int)>300):=by omega
  simp only[h1,decide_true,if_true]
  exact aC _
theorem Rl (b:Bs) (how:Int) (h1:0≤how∧how<256) (width:Int) (h2:0≤width∧width<256):Ret 6 [.lst 5 false (ofBytes b), .int .u8 how, .int .u8 width] [] (.bool true,[]):=by
 obtain⟨n,rfl⟩:=Int.eq_ofNat_of_zero_le h1.1
 obtain⟨m,rfl⟩:=Int.eq_ofNat_of_zero_le h2.1
 exact Pa b n m (by omega) (by omega)
end Go.Proofs.YtdoaoaicdimbeaaGreatDoor
end
section
namespace Go.Proofs.YtdoaoaicdimbeaaGreatDoor
open Go.ChangeShapes Go.WideShapes Go.ChangeAt Go.RowKit Go.Ev
theorem cells5:Tryz.prog.cellsOf 5=1:=by kernel_rfl
theorem Jg:aF cfg 5=1:=by kernel_rfl
theorem Pb (n:Int):bZ cfg 5 (.int .u8 n)=true:=by kernel_rfl
theorem KH (zs:List Int):flat (zs.map (Value.int .u8))=zs.map (Value.int .u8):=by
 induction zs with
 |nil=>rfl
 |cons z zs ih=>simp only[flat,List.map_cons,List.flatMap_cons,Value.cells]at ih ⊢;rw[ih];rfl
theorem D4 {P:Program} {w:World} {r:Reach} {base:Nat} {t e:TypeId} {a:Addr} {len cap:Nat} (ht:P.underlying t=some (.slice e)) (h:Value.okWide P w r base t (.slice (some a) len cap)):a.block<w.heap.size:=by
 simp only[Value.okWide,ht,Cell.okWide,Cell.ok]at h
 obtain⟨_,_,_,_,row,cells,hs,_⟩:=h
 unfold World.shape? at hs
 by_cases hb:a.block<w.heap.size
 ·exact hb
 ·rw[Array.getElem?_eq_none (by omega)]at hs
  simp at hs
set_option maxRecDepth 100000 in
theorem Jh {H:Type} {enc:TypeId×Value→H} {W:World} {base:Nat} {v:Value} {d:DataW H} {p:List MemPlace} (hval:Value.okWide Tryz.prog W .any base 40 v)
  (h:DataW.Trod enc Tryz.prog W 0 (fun _=>true) true 40 v d p):
  ∃vs:List UInt8,Rep cfg W (lW W) [] (.lst 5 false (ofBytes vs)) v∧
   ∀W',Kept W W'→∀sp:Nat→Bool,(∀x∈p,sp x.block=true)→DataW.Trod enc Tryz.prog W' 0 sp true 40 v d p:=by
 obtain⟨a1,len,cap,rfl⟩:=okWide_slice Tryz.underlying40 hval
 obtain⟨fuel,hf⟩:=h
 rcases open_ints Tryz.underlying40 Tryz.underlying5 cells5 hf with⟨hcs,hx⟩|⟨a,len',cap',zs,hcs,_,hl,hm,hz,hx,hcell,hwz⟩
 ·simp[Value.cells]at hcs
  obtain⟨rfl,rfl,rfl⟩:=hcs
  simp only[Prod.mk.injEq]at hx
  obtain⟨rfl,rfl⟩:=hx
  refine⟨[],?_,fun W' _ sp _=>shut_slice_nil Tryz.underlying40⟩
  exact Rep.lst 5 false [] none 0 [] rfl (fun i v x h=>by simp at h) (fun v h=>by cases h) (fun x h=>by cases h) (by rw[Jg];omega) (Nat.le_refl _) ⟨fun _=>rfl,fun p h=>by cases h⟩ (fun p h=>by cases h)
 ·simp[Value.cells]at hcs
  obtain⟨rfl,rfl,rfl⟩:=hcs
  simp only[Prod.mk.injEq]at hx
  obtain⟨rfl,rfl⟩:=hx
  have hblk:a.block<W.heap.size:=D4 Tryz.underlying40 hval
  have hsn:some a=none→cap=0:=fun h=>by cases h
  have hsb:∀p,some a=some p→p.block<W.heap.size:=fun p hp=>by cases hp;exact hblk
  simp only[if_true]at hz
  have hrng:∀n∈zs,0≤n∧n<256:=fun n hn=>by have:=bounds_u8 (hwz n hn);omega
  refine⟨(zs.take len).map fun n=>UInt8.ofNat n.toNat,?_,fun W' hk sp hsp=>?_⟩
  ·have hxs:ofBytes ((zs.take len).map fun n=>UInt8.ofNat n.toNat)=(zs.take len).map (V.int .u8):=by
    unfold ofBytes
    rw[List.map_map]
    refine List.map_congr_left fun n hn=>?_
    have:=hrng n (List.mem_of_mem_take hn)
    simp only[Function.comp,UInt8.toNat_ofNat']
    congr 1
    omega
   have hlen:(ofBytes ((zs.take len).map fun n=>UInt8.ofNat n.toNat)).length=len:=by rw[hxs];simp;omega
   have:=Rep.lst (c:=cfg) (w:=W) (G:=lW W) (μ:=[]) 5 false (ofBytes ((zs.take len).map fun n=>UInt8.ofNat n.toNat)) (some a) cap ((zs.take len).map (Value.int .u8)) (by rw[hlen];simp;omega) (fun i v x hv hx=>by
     rw[hxs]at hv
     obtain⟨n,h1,rfl⟩:=bM hv
     obtain⟨n',h2,rfl⟩:=bM hx
     rw[h1]at h2;cases h2
     exact .int _ _) (fun v hv=>by
     rw[hxs]at hv
     obtain⟨n,_,rfl⟩:=List.mem_map.1 hv
     exact Pb n) (fun x hx=>by
     obtain⟨n,_,rfl⟩:=List.mem_map.1 hx
     rw[Jg];rfl) (by rw[Jg];omega) (by rw[hlen];exact hl) ⟨hsn,hsb⟩ (fun p hp hne=>by
     cases hp
     have hl0:0<len:=by
      rcases Nat.eq_zero_or_pos len with h0|h0
      ·exact absurd (List.eq_nil_of_length_eq_zero (hlen.trans h0)) hne
      ·exact h0
     obtain⟨ab,ao,spot⟩:=a
     have hspot:spot=none:=by simpa[Addr.add]using World.cell?_spot (hcell 0 (by omega))
     subst hspot
     refine⟨rfl,?_⟩
     rw[KH]
     refine xX fun j x hj=>?_
     have hjl:=(List.getElem?_eq_some_iff.1 hj).1
     rw[List.length_map,List.length_take]at hjl
     have hjl:j<len∧j<zs.length:=by omega
     have hc:=hcell j (by omega)
     rw[Addr.add_lit]at hc
     rw[hc]
     rw[List.getElem?_map,List.getElem?_take,if_pos hjl.1,List.getElem?_eq_getElem hjl.2]at hj
     simp at hj
     rw[←hj];simp[List.getD,hjl.2])
   rw[hlen]at this
   exact this
  ·have hzl:zs.length=(if sp a.block then cap else len):=by
    rcases Nat.eq_zero_or_pos zs.length with h0|h0
    ·split<;>omega
    ·have:sp a.block=true:=hsp (.cell a.block (a.off+0)) (by simp only[MemPlace.row,List.mem_map,List.mem_range];exact⟨0,h0,rfl⟩)
     rw[if_pos this];exact hz
   exact⟨2,shut_ints 0 Tryz.underlying40 Tryz.underlying5 cells5 (Nat.zero_le _) hl hm hzl (fun i hi=>hk.cell _ _ (hcell i hi)) hwz⟩
end Go.Proofs.YtdoaoaicdimbeaaGreatDoor
end
section
namespace Go.Proofs.YtdoaoaicdimbeaaGreatDoor
open Go.ChangeShapes Go.WideShapes Go.ChangeAt Go.RowKit Go.Ev
def MV:List Int:=[65,66,67,68,69,70,71,72,73,74,75,76,77,78,79,80,81,82,83,84,85,86,87,88,89,90,97,98,99,100,101,102,103,104,105,106,107,108,109,110,111,112,113,114,115,116,117,118,119,120,121,122,48,49,50,51,52,53,54,55,56,57,43,47]
theorem gTab : Tryz.prog.globalNamed "letterbox/b64.letters" = some 0 := by kernel_rfl
theorem Ji:(Tryz.prog.globals[0]?).map (·.type)=some 108:=by kernel_rfl
theorem KI:Tryz.prog.cellsOf 108=64:=by kernel_rfl
theorem MW {W : World} (h : laidMetH Tryz.prog Rows.binaryBackRow.laid W) : Lib.TabIs Tryz.prog W "letterbox/b64.letters" .u8 MV :=
 Lib.tabIs_of_head gTab Ji Tryz.underlying108 Tryz.underlying5 cells5 KI h
theorem KJ {W:World} (h:laidMetH Tryz.prog Rows.binaryBackRow.laid W):∀g k zs,cfg.glob g=some (k,zs)→qV W (lW W) g 0 (zs.map (Value.int k)):=by
 have hT:=MW h
 intro g k zs hg
 have hg' :Hf g=some (k,zs):=hg
 unfold Hf at hg'
 split at hg'
 ·rename_i e
  subst e
  have e2:(IntKind.u8,MV)=(k,zs):=Option.some.inj hg'
  cases e2
  refine xX fun j x hj=>?_
  rw[List.getElem?_map]at hj
  obtain⟨z,hz,rfl⟩:=Option.map_eq_some_iff.1 hj
  have hlt:=(List.getElem?_eq_some_iff.1 hz).1
  have:=hT.cell gTab j hlt
  have ez:MV.getD j 0=z:=by simp[List.getD,hz]
  rw[ez]at this
  rw[Nat.zero_add]
  exact this
 ·cases hg'
end Go.Proofs.YtdoaoaicdimbeaaGreatDoor
end
