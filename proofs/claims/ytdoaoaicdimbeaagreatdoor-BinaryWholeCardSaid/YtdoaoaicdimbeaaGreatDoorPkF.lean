/- Lemmas for the claim, merged: the plain reading of the program's functions, its soundness, and what they compute. -/
import Derived.Test.YtdoaoaicdimbeaaGreatDoorPkE
import Derived.KernelRfl
import Derived.ChangeSlices
set_option linter.all false
set_option linter.unusedVariables false
set_option linter.unusedSimpArgs false
section
namespace Go.Proofs.YtdoaoaicdimbeaaGreatDoor
open Go.Ev Go
open List (headD tail getD length drop take)
open V (getI getL getT getS getB)
set_option maxRecDepth 100000
variable (call : FuncId → Fun) (icall : aQ (V × List Ob)) (again : List It → St → Option (V × List Ob))
def T82 (call:FuncId→Fun) (a0:List V) (a1:Int) (a2:Int):Option (V×List Ob):=
 Option.bind (call 74 [(V.agg [(V.int .i64 a1),(V.int .i64 a2)]),(V.int .i64 ((length a0:Nat):Int))] []) fun z0=>
 if(!(getB z0.1))=true then
 some ((V.lst 5 false []),[])
 else
 chk (decide (0≤a2)) (chk (decide (a2≤((length a0:Nat):Int))) (chk (decide (0≤a1)) (chk (decide (a1≤a2)) (Option.bind (call 75 [(V.lst 5 false (drop (Int.toNat a1) (take (Int.toNat a2) a0)))] []) fun z1=>
 some ((V.lst 5 false (getL z1.1)),[])))))
def A82 (a0:List V) (a1:Int) (a2:Int):List V:=[V.lst 5 false a0,V.agg [V.int IntKind.i64 a1,V.int IntKind.i64 a2]]
theorem E82 (a0:List V) (a1:Int) (a2:Int):GO 82 Tryz.f82 (A82 a0 a1 a2) [] call icall again=T82 call a0 a1 a2:=by kernel_rfl
theorem C82 (k:Nat) (a0:List V) (a1:Int) (a2:Int):aA cfg (k+1) 82 (A82 a0 a1 a2) []=T82 (aA cfg k) a0 a1 a2:=
 (show aA cfg (k+1) 82 (A82 a0 a1 a2) []=GO 82 Tryz.f82 (A82 a0 a1 a2) [] (aA cfg k) (aF cfg (aA cfg k) 20) (RN 82 Tryz.f82 [] (aA cfg k) (aF cfg (aA cfg k) 20) k)by kernel_rfl).trans (E82 _ _ _ a0 a1 a2)
theorem M82 (a0:List V) (a1:Int) (a2:Int) {r:V×List Ob} (h:Evt (fun k n=>T82 (aA cfg k) a0 a1 a2) r):Ret 82 [V.lst 5 false a0,V.agg [V.int IntKind.i64 a1,V.int IntKind.i64 a2]] [] r:=aR (g:=fun k n=>T82 (aA cfg k) a0 a1 a2) (fun k=>C82 k a0 a1 a2) h
def T76 (call:FuncId→Fun) (a0:Int) (a1:Int) (a2:Int) (a3:Int) (a4:Int) (a5:List V) (a6:List V) (a7:Int) (a8:Int) (a9:Int):Option (V×List Ob):=
 if(a0==(1:Int))=true then
 Option.bind (if(decide (a9<(1:Int)))=false then
 some (decide (a9>((length a5:Nat):Int)))
 else
 some true) fun y0=>
 if y0=true then
 some ((V.tup [(V.agg [(V.int .i64 0),(V.int .i64 0),(V.int .i64 0),(V.int .i64 0),(V.int .i64 0),(V.lst 36 false []),(V.lst 32 false []),(V.int .i64 0),(V.int .i64 0)]),(V.bool false)]),[])
 else
 chk (decide (0≤(IntKind.wrap .i64 (a9 - (1:Int))))) (chk (decide ((IntKind.wrap .i64 (a9 - (1:Int)))<((length a5:Nat):Int))) (some ((V.tup [(V.agg [(V.int .i64 (getI (headD (V.cells (getD a5 (Int.toNat (IntKind.wrap .i64 (a9 - (1:Int)))) V.bot)) V.bot))),(V.int .i64 (getI (headD (tail (V.cells (getD a5 (Int.toNat (IntKind.wrap .i64 (a9 - (1:Int)))) V.bot))) V.bot))),(V.int .i64 (getI (headD (tail (tail (V.cells (getD a5 (Int.toNat (IntKind.wrap .i64 (a9 - (1:Int)))) V.bot)))) V.bot))),(V.int .i64 (getI (headD (tail (tail (tail (V.cells (getD a5 (Int.toNat (IntKind.wrap .i64 (a9 - (1:Int)))) V.bot))))) V.bot))),(V.int .i64 (getI (headD (tail (tail (tail (tail (V.cells (getD a5 (Int.toNat (IntKind.wrap .i64 (a9 - (1:Int)))) V.bot)))))) V.bot))),(V.lst 36 false (getL (headD (tail (tail (tail (tail (tail (V.cells (getD a5 (Int.toNat (IntKind.wrap .i64 (a9 - (1:Int)))) V.bot))))))) V.bot))),(V.lst 32 false (getL (headD (tail (tail (tail (tail (tail (tail (V.cells (getD a5 (Int.toNat (IntKind.wrap .i64 (a9 - (1:Int)))) V.bot)))))))) V.bot))),(V.int .i64 (getI (headD (tail (tail (tail (tail (tail (tail (tail (V.cells (getD a5 (Int.toNat (IntKind.wrap .i64 (a9 - (1:Int)))) V.bot))))))))) V.bot))),(V.int .i64 (getI (headD (tail (tail (tail (tail (tail (tail (tail (tail (V.cells (getD a5 (Int.toNat (IntKind.wrap .i64 (a9 - (1:Int)))) V.bot)))))))))) V.bot)))]),(V.bool true)]),[])))
 else
 if(a9==(1:Int))=true then
 some ((V.tup [(V.agg [(V.int .i64 a0),(V.int .i64 a1),(V.int .i64 a2),(V.int .i64 a3),(V.int .i64 a4),(V.lst 36 false a5),(V.lst 32 false a6),(V.int .i64 a7),(V.int .i64 a8)]),(V.bool true)]),[])
 else
 some ((V.tup [(V.agg [(V.int .i64 0),(V.int .i64 0),(V.int .i64 0),(V.int .i64 0),(V.int .i64 0),(V.lst 36 false []),(V.lst 32 false []),(V.int .i64 0),(V.int .i64 0)]),(V.bool false)]),[])
def A76 (a0:Int) (a1:Int) (a2:Int) (a3:Int) (a4:Int) (a5:List V) (a6:List V) (a7:Int) (a8:Int) (a9:Int):List V:=[V.agg [V.int IntKind.i64 a0,V.int IntKind.i64 a1,V.int IntKind.i64 a2,V.int IntKind.i64 a3,V.int IntKind.i64 a4,V.lst 36 false a5,V.lst 32 false a6,V.int IntKind.i64 a7,V.int IntKind.i64 a8],V.int IntKind.i64 a9]
theorem E76 (a0:Int) (a1:Int) (a2:Int) (a3:Int) (a4:Int) (a5:List V) (a6:List V) (a7:Int) (a8:Int) (a9:Int):GO 76 Tryz.f76 (A76 a0 a1 a2 a3 a4 a5 a6 a7 a8 a9) [] call icall again=T76 call a0 a1 a2 a3 a4 a5 a6 a7 a8 a9:=by kernel_rfl
theorem C76 (k:Nat) (a0:Int) (a1:Int) (a2:Int) (a3:Int) (a4:Int) (a5:List V) (a6:List V) (a7:Int) (a8:Int) (a9:Int):aA cfg (k+1) 76 (A76 a0 a1 a2 a3 a4 a5 a6 a7 a8 a9) []=T76 (aA cfg k) a0 a1 a2 a3 a4 a5 a6 a7 a8 a9:=
 (show aA cfg (k+1) 76 (A76 a0 a1 a2 a3 a4 a5 a6 a7 a8 a9) []=GO 76 Tryz.f76 (A76 a0 a1 a2 a3 a4 a5 a6 a7 a8 a9) [] (aA cfg k) (aF cfg (aA cfg k) 20) (RN 76 Tryz.f76 [] (aA cfg k) (aF cfg (aA cfg k) 20) k)by kernel_rfl).trans (E76 _ _ _ a0 a1 a2 a3 a4 a5 a6 a7 a8 a9)
theorem M76 (a0:Int) (a1:Int) (a2:Int) (a3:Int) (a4:Int) (a5:List V) (a6:List V) (a7:Int) (a8:Int) (a9:Int) {r:V×List Ob} (h:Evt (fun k n=>T76 (aA cfg k) a0 a1 a2 a3 a4 a5 a6 a7 a8 a9) r):Ret 76 [V.agg [V.int IntKind.i64 a0,V.int IntKind.i64 a1,V.int IntKind.i64 a2,V.int IntKind.i64 a3,V.int IntKind.i64 a4,V.lst 36 false a5,V.lst 32 false a6,V.int IntKind.i64 a7,V.int IntKind.i64 a8],V.int IntKind.i64 a9] [] r:=aR (g:=fun k n=>T76 (aA cfg k) a0 a1 a2 a3 a4 a5 a6 a7 a8 a9) (fun k=>C76 k a0 a1 a2 a3 a4 a5 a6 a7 a8 a9) h
def yE (call:FuncId→Fun) (ag0:Bool→List V→Int→Int→Int→Int→Int→Int→Int→List V→List V→Int→Int→Int→Int→Int→Int→Int→List V→List V→Int→Int→Option (V×List Ob)) (b0:Bool) (l1:List V) (i2:Int) (i3:Int) (i4:Int) (i5:Int) (i6:Int) (i7:Int) (i8:Int) (l9:List V) (l10:List V) (i11:Int) (i12:Int) (i13:Int) (i14:Int) (i15:Int) (i16:Int) (i17:Int) (l18:List V) (l19:List V) (i20:Int) (i21:Int):Option (V×List Ob):=
 if(decide (i3<i2))=true then
 chk (decide (0≤i3)) (chk (decide (i3<((length l1:Nat):Int))) (if(decide (i3>(0:Int)))=true then
 Option.bind (if(i4==(2:Int))=true then
 some (decide (((length l9:Nat):Int)>(0:Int)))
 else
 some false) fun y0=>
 if y0=true then
 chk (decide (0≤(0:Int))) (chk (decide ((0:Int)<((length l9:Nat):Int))) (Option.bind (call 76 [(V.agg [(V.int .i64 (getI (headD (V.cells (getD l9 (Int.toNat (0:Int)) V.bot)) V.bot))),(V.int .i64 (getI (headD (tail (V.cells (getD l9 (Int.toNat (0:Int)) V.bot))) V.bot))),(V.int .i64 (getI (headD (tail (tail (V.cells (getD l9 (Int.toNat (0:Int)) V.bot)))) V.bot))),(V.int .i64 (getI (headD (tail (tail (tail (V.cells (getD l9 (Int.toNat (0:Int)) V.bot))))) V.bot))),(V.int .i64 (getI (headD (tail (tail (tail (tail (V.cells (getD l9 (Int.toNat (0:Int)) V.bot)))))) V.bot))),(V.lst 36 false (getL (headD (tail (tail (tail (tail (tail (V.cells (getD l9 (Int.toNat (0:Int)) V.bot))))))) V.bot))),(V.lst 32 false (getL (headD (tail (tail (tail (tail (tail (tail (V.cells (getD l9 (Int.toNat (0:Int)) V.bot)))))))) V.bot))),(V.int .i64 (getI (headD (tail (tail (tail (tail (tail (tail (tail (V.cells (getD l9 (Int.toNat (0:Int)) V.bot))))))))) V.bot))),(V.int .i64 (getI (headD (tail (tail (tail (tail (tail (tail (tail (tail (V.cells (getD l9 (Int.toNat (0:Int)) V.bot)))))))))) V.bot)))]),(V.int .i64 (getI (getD l1 (Int.toNat i3) V.bot)))] []) fun z1=>
 if(!(getB (headD (tail (getT z1.1)) V.bot)))=true then
 if(!(getB (headD (tail (getT z1.1)) V.bot)))=true then
 some ((V.tup [(V.agg [(V.int .i64 0),(V.int .i64 0),(V.int .i64 0),(V.int .i64 0),(V.int .i64 0),(V.lst 36 false []),(V.lst 32 false []),(V.int .i64 0),(V.int .i64 0)]),(V.bool false)]),[])
 else
 some ((V.tup [(V.agg [(V.int .i64 (getI (headD (V.cells (headD (getT z1.1) V.bot)) V.bot))),(V.int .i64 (getI (headD (tail (V.cells (headD (getT z1.1) V.bot))) V.bot))),(V.int .i64 (getI (headD (tail (tail (V.cells (headD (getT z1.1) V.bot)))) V.bot))),(V.int .i64 (getI (headD (tail (tail (tail (V.cells (headD (getT z1.1) V.bot))))) V.bot))),(V.int .i64 (getI (headD (tail (tail (tail (tail (V.cells (headD (getT z1.1) V.bot)))))) V.bot))),(V.lst 36 false (getL (headD (tail (tail (tail (tail (tail (V.cells (headD (getT z1.1) V.bot))))))) V.bot))),(V.lst 32 false (getL (headD (tail (tail (tail (tail (tail (tail (V.cells (headD (getT z1.1) V.bot)))))))) V.bot))),(V.int .i64 (getI (headD (tail (tail (tail (tail (tail (tail (tail (V.cells (headD (getT z1.1) V.bot))))))))) V.bot))),(V.int .i64 (getI (headD (tail (tail (tail (tail (tail (tail (tail (tail (V.cells (headD (getT z1.1) V.bot)))))))))) V.bot)))]),(V.bool true)]),[])
 else
 (ag0 ((getB (headD (tail (getT z1.1)) V.bot))) (l1) (i2) ((IntKind.wrap .i64 (i3+(1:Int)))) ((getI (headD (V.cells (headD (getT z1.1) V.bot)) V.bot))) ((getI (headD (tail (V.cells (headD (getT z1.1) V.bot))) V.bot))) ((getI (headD (tail (tail (V.cells (headD (getT z1.1) V.bot)))) V.bot))) ((getI (headD (tail (tail (tail (V.cells (headD (getT z1.1) V.bot))))) V.bot))) ((getI (headD (tail (tail (tail (tail (V.cells (headD (getT z1.1) V.bot)))))) V.bot))) ((getL (headD (tail (tail (tail (tail (tail (V.cells (headD (getT z1.1) V.bot))))))) V.bot))) ((getL (headD (tail (tail (tail (tail (tail (tail (V.cells (headD (getT z1.1) V.bot)))))))) V.bot))) ((getI (headD (tail (tail (tail (tail (tail (tail (tail (V.cells (headD (getT z1.1) V.bot))))))))) V.bot))) ((getI (headD (tail (tail (tail (tail (tail (tail (tail (tail (V.cells (headD (getT z1.1) V.bot)))))))))) V.bot))) (i13) (i14) (i15) (i16) (i17) (l18) (l19) (i20) (i21))))
 else
 if(i4 != (1:Int))=true then
 if(!false)=true then
 some ((V.tup [(V.agg [(V.int .i64 0),(V.int .i64 0),(V.int .i64 0),(V.int .i64 0),(V.int .i64 0),(V.lst 36 false []),(V.lst 32 false []),(V.int .i64 0),(V.int .i64 0)]),(V.bool false)]),[])
 else
 some ((V.tup [(V.agg [(V.int .i64 i4),(V.int .i64 i5),(V.int .i64 i6),(V.int .i64 i7),(V.int .i64 i8),(V.lst 36 false l9),(V.lst 32 false l10),(V.int .i64 i11),(V.int .i64 i12)]),(V.bool true)]),[])
 else
 Option.bind (call 76 [(V.agg [(V.int .i64 i4),(V.int .i64 i5),(V.int .i64 i6),(V.int .i64 i7),(V.int .i64 i8),(V.lst 36 false l9),(V.lst 32 false l10),(V.int .i64 i11),(V.int .i64 i12)]),(V.int .i64 (getI (getD l1 (Int.toNat i3) V.bot)))] []) fun z1=>
 if(!(getB (headD (tail (getT z1.1)) V.bot)))=true then
 if(!(getB (headD (tail (getT z1.1)) V.bot)))=true then
 some ((V.tup [(V.agg [(V.int .i64 0),(V.int .i64 0),(V.int .i64 0),(V.int .i64 0),(V.int .i64 0),(V.lst 36 false []),(V.lst 32 false []),(V.int .i64 0),(V.int .i64 0)]),(V.bool false)]),[])
 else
 some ((V.tup [(V.agg [(V.int .i64 (getI (headD (V.cells (headD (getT z1.1) V.bot)) V.bot))),(V.int .i64 (getI (headD (tail (V.cells (headD (getT z1.1) V.bot))) V.bot))),(V.int .i64 (getI (headD (tail (tail (V.cells (headD (getT z1.1) V.bot)))) V.bot))),(V.int .i64 (getI (headD (tail (tail (tail (V.cells (headD (getT z1.1) V.bot))))) V.bot))),(V.int .i64 (getI (headD (tail (tail (tail (tail (V.cells (headD (getT z1.1) V.bot)))))) V.bot))),(V.lst 36 false (getL (headD (tail (tail (tail (tail (tail (V.cells (headD (getT z1.1) V.bot))))))) V.bot))),(V.lst 32 false (getL (headD (tail (tail (tail (tail (tail (tail (V.cells (headD (getT z1.1) V.bot)))))))) V.bot))),(V.int .i64 (getI (headD (tail (tail (tail (tail (tail (tail (tail (V.cells (headD (getT z1.1) V.bot))))))))) V.bot))),(V.int .i64 (getI (headD (tail (tail (tail (tail (tail (tail (tail (tail (V.cells (headD (getT z1.1) V.bot)))))))))) V.bot)))]),(V.bool true)]),[])
 else
 (ag0 ((getB (headD (tail (getT z1.1)) V.bot))) (l1) (i2) ((IntKind.wrap .i64 (i3+(1:Int)))) ((getI (headD (V.cells (headD (getT z1.1) V.bot)) V.bot))) ((getI (headD (tail (V.cells (headD (getT z1.1) V.bot))) V.bot))) ((getI (headD (tail (tail (V.cells (headD (getT z1.1) V.bot)))) V.bot))) ((getI (headD (tail (tail (tail (V.cells (headD (getT z1.1) V.bot))))) V.bot))) ((getI (headD (tail (tail (tail (tail (V.cells (headD (getT z1.1) V.bot)))))) V.bot))) ((getL (headD (tail (tail (tail (tail (tail (V.cells (headD (getT z1.1) V.bot))))))) V.bot))) ((getL (headD (tail (tail (tail (tail (tail (tail (V.cells (headD (getT z1.1) V.bot)))))))) V.bot))) ((getI (headD (tail (tail (tail (tail (tail (tail (tail (V.cells (headD (getT z1.1) V.bot))))))))) V.bot))) ((getI (headD (tail (tail (tail (tail (tail (tail (tail (tail (V.cells (headD (getT z1.1) V.bot)))))))))) V.bot))) (i13) (i14) (i15) (i16) (i17) (l18) (l19) (i20) (i21))
 else
 Option.bind (call 76 [(V.agg [(V.int .i64 i4),(V.int .i64 i5),(V.int .i64 i6),(V.int .i64 i7),(V.int .i64 i8),(V.lst 36 false l9),(V.lst 32 false l10),(V.int .i64 i11),(V.int .i64 i12)]),(V.int .i64 (getI (getD l1 (Int.toNat i3) V.bot)))] []) fun z0=>
 if(!(getB (headD (tail (getT z0.1)) V.bot)))=true then
 if(!(getB (headD (tail (getT z0.1)) V.bot)))=true then
 some ((V.tup [(V.agg [(V.int .i64 0),(V.int .i64 0),(V.int .i64 0),(V.int .i64 0),(V.int .i64 0),(V.lst 36 false []),(V.lst 32 false []),(V.int .i64 0),(V.int .i64 0)]),(V.bool false)]),[])
 else
 some ((V.tup [(V.agg [(V.int .i64 (getI (headD (V.cells (headD (getT z0.1) V.bot)) V.bot))),(V.int .i64 (getI (headD (tail (V.cells (headD (getT z0.1) V.bot))) V.bot))),(V.int .i64 (getI (headD (tail (tail (V.cells (headD (getT z0.1) V.bot)))) V.bot))),(V.int .i64 (getI (headD (tail (tail (tail (V.cells (headD (getT z0.1) V.bot))))) V.bot))),(V.int .i64 (getI (headD (tail (tail (tail (tail (V.cells (headD (getT z0.1) V.bot)))))) V.bot))),(V.lst 36 false (getL (headD (tail (tail (tail (tail (tail (V.cells (headD (getT z0.1) V.bot))))))) V.bot))),(V.lst 32 false (getL (headD (tail (tail (tail (tail (tail (tail (V.cells (headD (getT z0.1) V.bot)))))))) V.bot))),(V.int .i64 (getI (headD (tail (tail (tail (tail (tail (tail (tail (V.cells (headD (getT z0.1) V.bot))))))))) V.bot))),(V.int .i64 (getI (headD (tail (tail (tail (tail (tail (tail (tail (tail (V.cells (headD (getT z0.1) V.bot)))))))))) V.bot)))]),(V.bool true)]),[])
 else
 (ag0 ((getB (headD (tail (getT z0.1)) V.bot))) (l1) (i2) ((IntKind.wrap .i64 (i3+(1:Int)))) ((getI (headD (V.cells (headD (getT z0.1) V.bot)) V.bot))) ((getI (headD (tail (V.cells (headD (getT z0.1) V.bot))) V.bot))) ((getI (headD (tail (tail (V.cells (headD (getT z0.1) V.bot)))) V.bot))) ((getI (headD (tail (tail (tail (V.cells (headD (getT z0.1) V.bot))))) V.bot))) ((getI (headD (tail (tail (tail (tail (V.cells (headD (getT z0.1) V.bot)))))) V.bot))) ((getL (headD (tail (tail (tail (tail (tail (V.cells (headD (getT z0.1) V.bot))))))) V.bot))) ((getL (headD (tail (tail (tail (tail (tail (tail (V.cells (headD (getT z0.1) V.bot)))))))) V.bot))) ((getI (headD (tail (tail (tail (tail (tail (tail (tail (V.cells (headD (getT z0.1) V.bot))))))))) V.bot))) ((getI (headD (tail (tail (tail (tail (tail (tail (tail (tail (V.cells (headD (getT z0.1) V.bot)))))))))) V.bot))) (i13) (i14) (i15) (i16) (i17) (l18) (l19) (i20) (i21))))
 else
 if(!b0)=true then
 some ((V.tup [(V.agg [(V.int .i64 0),(V.int .i64 0),(V.int .i64 0),(V.int .i64 0),(V.int .i64 0),(V.lst 36 false []),(V.lst 32 false []),(V.int .i64 0),(V.int .i64 0)]),(V.bool false)]),[])
 else
 some ((V.tup [(V.agg [(V.int .i64 i4),(V.int .i64 i5),(V.int .i64 i6),(V.int .i64 i7),(V.int .i64 i8),(V.lst 36 false l9),(V.lst 32 false l10),(V.int .i64 i11),(V.int .i64 i12)]),(V.bool true)]),[])
def T38 (call:FuncId→Fun) (ag0:Bool→List V→Int→Int→Int→Int→Int→Int→Int→List V→List V→Int→Int→Int→Int→Int→Int→Int→List V→List V→Int→Int→Option (V×List Ob)) (a0:Int) (a1:Int) (a2:Int) (a3:Int) (a4:Int) (a5:List V) (a6:List V) (a7:Int) (a8:Int) (a9:List V):Option (V×List Ob):=
 (ag0 (false) (a9) (((length a9:Nat):Int)) ((0:Int)) (a0) (a1) (a2) (a3) (a4) (a5) (a6) (a7) (a8) ((0:Int)) ((0:Int)) ((0:Int)) ((0:Int)) ((0:Int)) ([]) ([]) ((0:Int)) ((0:Int)))
def A38 (a0:Int) (a1:Int) (a2:Int) (a3:Int) (a4:Int) (a5:List V) (a6:List V) (a7:Int) (a8:Int) (a9:List V):List V:=[V.agg [V.int IntKind.i64 a0,V.int IntKind.i64 a1,V.int IntKind.i64 a2,V.int IntKind.i64 a3,V.int IntKind.i64 a4,V.lst 36 false a5,V.lst 32 false a6,V.int IntKind.i64 a7,V.int IntKind.i64 a8],V.lst 3 false a9]
def AA (b0:Bool) (l1:List V) (i2:Int) (i3:Int) (i4:Int) (i5:Int) (i6:Int) (i7:Int) (i8:Int) (l9:List V) (l10:List V) (i11:Int) (i12:Int) (i13:Int) (i14:Int) (i15:Int) (i16:Int) (i17:Int) (l18:List V) (l19:List V) (i20:Int) (i21:Int):St:=⟨[V.bot,V.bot,(V.ref 0 0),V.bot,(V.ref 1 0),V.bot,(V.bool b0),V.bot,V.bot,(V.lst 3 false l1),(V.int IntKind.i64 i2),(V.int IntKind.i64 i3)]++List.replicate 37 V.bot,[(Ob.cells [(V.int IntKind.i64 i4),(V.int IntKind.i64 i5),(V.int IntKind.i64 i6),(V.int IntKind.i64 i7),(V.int IntKind.i64 i8),(V.lst 36 false l9),(V.lst 32 false l10),(V.int IntKind.i64 i11),(V.int IntKind.i64 i12)]),(Ob.cells [(V.int IntKind.i64 i13),(V.int IntKind.i64 i14),(V.int IntKind.i64 i15),(V.int IntKind.i64 i16),(V.int IntKind.i64 i17),(V.lst 36 true l18),(V.lst 32 true l19),(V.int IntKind.i64 i20),(V.int IntKind.i64 i21)])]⟩
theorem Me (b0:Bool) (l1:List V) (i2:Int) (i3:Int) (i4:Int) (i5:Int) (i6:Int) (i7:Int) (i8:Int) (l9:List V) (l10:List V) (i11:Int) (i12:Int) (i13:Int) (i14:Int) (i15:Int) (i16:Int) (i17:Int) (l18:List V) (l19:List V) (i20:Int) (i21:Int):
 RM 38 Tryz.f38 [] call icall again (aJ Tryz.f38 0) (AA b0 l1 i2 i3 i4 i5 i6 i7 i8 l9 l10 i11 i12 i13 i14 i15 i16 i17 l18 l19 i20 i21)=yE call (fun b0 l1 i2 i3 i4 i5 i6 i7 i8 l9 l10 i11 i12 i13 i14 i15 i16 i17 l18 l19 i20 i21=>again (aJ Tryz.f38 0) (AA b0 l1 i2 i3 i4 i5 i6 i7 i8 l9 l10 i11 i12 i13 i14 i15 i16 i17 l18 l19 i20 i21)) b0 l1 i2 i3 i4 i5 i6 i7 i8 l9 l10 i11 i12 i13 i14 i15 i16 i17 l18 l19 i20 i21:=by kernel_rfl
theorem E38 (a0:Int) (a1:Int) (a2:Int) (a3:Int) (a4:Int) (a5:List V) (a6:List V) (a7:Int) (a8:Int) (a9:List V):GO 38 Tryz.f38 (A38 a0 a1 a2 a3 a4 a5 a6 a7 a8 a9) [] call icall again=T38 call (fun b0 l1 i2 i3 i4 i5 i6 i7 i8 l9 l10 i11 i12 i13 i14 i15 i16 i17 l18 l19 i20 i21=>again (aJ Tryz.f38 0) (AA b0 l1 i2 i3 i4 i5 i6 i7 i8 l9 l10 i11 i12 i13 i14 i15 i16 i17 l18 l19 i20 i21)) a0 a1 a2 a3 a4 a5 a6 a7 a8 a9:=by kernel_rfl
def L38 (call:FuncId→Fun):Nat→(Bool→List V→Int→Int→Int→Int→Int→Int→Int→List V→List V→Int→Int→Int→Int→Int→Int→Int→List V→List V→Int→Int→Option (V×List Ob))
 |0=>fun _ _ _ _ _ _ _ _ _ _ _ _ _ _ _ _ _ _ _ _ _ _=>none
 |n+1=>yE call (L38 call n)
theorem R38 (call:FuncId→Fun) (icall:aQ (V×List Ob)):∀n,(∀(b0:Bool) (l1:List V) (i2:Int) (i3:Int) (i4:Int) (i5:Int) (i6:Int) (i7:Int) (i8:Int) (l9:List V) (l10:List V) (i11:Int) (i12:Int) (i13:Int) (i14:Int) (i15:Int) (i16:Int) (i17:Int) (l18:List V) (l19:List V) (i20:Int) (i21:Int),RN 38 Tryz.f38 [] call icall n (aJ Tryz.f38 0) (AA b0 l1 i2 i3 i4 i5 i6 i7 i8 l9 l10 i11 i12 i13 i14 i15 i16 i17 l18 l19 i20 i21)=(L38 call n) b0 l1 i2 i3 i4 i5 i6 i7 i8 l9 l10 i11 i12 i13 i14 i15 i16 i17 l18 l19 i20 i21)
 |0=>fun b0 l1 i2 i3 i4 i5 i6 i7 i8 l9 l10 i11 i12 i13 i14 i15 i16 i17 l18 l19 i20 i21=>rfl
 |n+1=>by
  have ih:=R38 call icall n
  exact fun b0 l1 i2 i3 i4 i5 i6 i7 i8 l9 l10 i11 i12 i13 i14 i15 i16 i17 l18 l19 i20 i21=>(Me call icall (RN 38 Tryz.f38 [] call icall n) b0 l1 i2 i3 i4 i5 i6 i7 i8 l9 l10 i11 i12 i13 i14 i15 i16 i17 l18 l19 i20 i21).trans (by rw[show(fun b0 l1 i2 i3 i4 i5 i6 i7 i8 l9 l10 i11 i12 i13 i14 i15 i16 i17 l18 l19 i20 i21=>RN 38 Tryz.f38 [] call icall n (aJ Tryz.f38 0) (AA b0 l1 i2 i3 i4 i5 i6 i7 i8 l9 l10 i11 i12 i13 i14 i15 i16 i17 l18 l19 i20 i21))=(L38 call n)from(funext fun b0=>funext fun l1=>funext fun i2=>funext fun i3=>funext fun i4=>funext fun i5=>funext fun i6=>funext fun i7=>funext fun i8=>funext fun l9=>funext fun l10=>funext fun i11=>funext fun i12=>funext fun i13=>funext fun i14=>funext fun i15=>funext fun i16=>funext fun i17=>funext fun l18=>funext fun l19=>funext fun i20=>funext fun i21=>ih b0 l1 i2 i3 i4 i5 i6 i7 i8 l9 l10 i11 i12 i13 i14 i15 i16 i17 l18 l19 i20 i21)];rfl)
theorem C38 (k:Nat) (a0:Int) (a1:Int) (a2:Int) (a3:Int) (a4:Int) (a5:List V) (a6:List V) (a7:Int) (a8:Int) (a9:List V):aA cfg (k+1) 38 (A38 a0 a1 a2 a3 a4 a5 a6 a7 a8 a9) []=T38 (aA cfg k) (L38 (aA cfg k) k) a0 a1 a2 a3 a4 a5 a6 a7 a8 a9:=by
 have ih:=R38 (aA cfg k) (aF cfg (aA cfg k) 20) k
 refine(show aA cfg (k+1) 38 (A38 a0 a1 a2 a3 a4 a5 a6 a7 a8 a9) []=GO 38 Tryz.f38 (A38 a0 a1 a2 a3 a4 a5 a6 a7 a8 a9) [] (aA cfg k) (aF cfg (aA cfg k) 20) (RN 38 Tryz.f38 [] (aA cfg k) (aF cfg (aA cfg k) 20) k)by kernel_rfl).trans ((E38 _ _ _ a0 a1 a2 a3 a4 a5 a6 a7 a8 a9).trans ?_)
 rw[show(fun b0 l1 i2 i3 i4 i5 i6 i7 i8 l9 l10 i11 i12 i13 i14 i15 i16 i17 l18 l19 i20 i21=>RN 38 Tryz.f38 [] (aA cfg k) (aF cfg (aA cfg k) 20) k (aJ Tryz.f38 0) (AA b0 l1 i2 i3 i4 i5 i6 i7 i8 l9 l10 i11 i12 i13 i14 i15 i16 i17 l18 l19 i20 i21))=(L38 (aA cfg k) k)from(funext fun b0=>funext fun l1=>funext fun i2=>funext fun i3=>funext fun i4=>funext fun i5=>funext fun i6=>funext fun i7=>funext fun i8=>funext fun l9=>funext fun l10=>funext fun i11=>funext fun i12=>funext fun i13=>funext fun i14=>funext fun i15=>funext fun i16=>funext fun i17=>funext fun l18=>funext fun l19=>funext fun i20=>funext fun i21=>ih b0 l1 i2 i3 i4 i5 i6 i7 i8 l9 l10 i11 i12 i13 i14 i15 i16 i17 l18 l19 i20 i21)]
theorem M38 (a0:Int) (a1:Int) (a2:Int) (a3:Int) (a4:Int) (a5:List V) (a6:List V) (a7:Int) (a8:Int) (a9:List V) {r:V×List Ob} (h:Evt (fun k n=>T38 (aA cfg k) (L38 (aA cfg k) n) a0 a1 a2 a3 a4 a5 a6 a7 a8 a9) r):Ret 38 [V.agg [V.int IntKind.i64 a0,V.int IntKind.i64 a1,V.int IntKind.i64 a2,V.int IntKind.i64 a3,V.int IntKind.i64 a4,V.lst 36 false a5,V.lst 32 false a6,V.int IntKind.i64 a7,V.int IntKind.i64 a8],V.lst 3 false a9] [] r:=aR (g:=fun k n=>T38 (aA cfg k) (L38 (aA cfg k) n) a0 a1 a2 a3 a4 a5 a6 a7 a8 a9) (fun k=>C38 k a0 a1 a2 a3 a4 a5 a6 a7 a8 a9) h
theorem G9 (b0:Bool) (l1:List V) (i2:Int) (i3:Int) (i4:Int) (i5:Int) (i6:Int) (i7:Int) (i8:Int) (l9:List V) (l10:List V) (i11:Int) (i12:Int) (i13:Int) (i14:Int) (i15:Int) (i16:Int) (i17:Int) (l18:List V) (l19:List V) (i20:Int) (i21:Int) {r:V×List Ob} (h:Evt (fun k n=>yE (aA cfg k) (L38 (aA cfg k) n) b0 l1 i2 i3 i4 i5 i6 i7 i8 l9 l10 i11 i12 i13 i14 i15 i16 i17 l18 l19 i20 i21) r):Evt (fun k n=>(L38 (aA cfg k) n) b0 l1 i2 i3 i4 i5 i6 i7 i8 l9 l10 i11 i12 i13 i14 i15 i16 i17 l18 l19 i20 i21) r:=bC (fun k n=>rfl) h
def CC (call:FuncId→Fun) (ag0:Bool→List V→Int→Int→List V→Int→List V→Bool→Int→Int→Option (V×List Ob)) (ag1:Bool→List V→Int→Int→List V→Int→List V→Bool→Int→Int→Option (V×List Ob)) (b0:Bool) (l1:List V) (i2:Int) (i3:Int) (l4:List V) (i5:Int) (l6:List V) (b7:Bool) (i8:Int) (i9:Int):Option (V×List Ob):=
 if(decide (i3<i2))=true then
 chk (decide (0≤i3)) (chk (decide (i3<((length l1:Nat):Int))) (if b0=true then
 Option.bind (call 117 [(V.int .i64 (getI (getD l1 (Int.toNat i3) V.bot))),(V.int .i64 1)] []) fun z0=>
 (ag0 ((getB z0.1)) (l1) (i2) ((IntKind.wrap .i64 (i3+(1:Int)))) (l4) (i5) (l6) (b7) (i8) (i9))
 else
 (ag0 (false) (l1) (i2) ((IntKind.wrap .i64 (i3+(1:Int)))) (l4) (i5) (l6) (b7) (i8) (i9))))
 else
 (ag1 (b0) (l6) (((length l6:Nat):Int)) ((0:Int)) (l4) (i5) (l6) (b7) (i8) (i9))
def CE (call:FuncId→Fun) (ag0:Bool→List V→Int→Int→List V→Int→List V→Bool→Int→Int→Option (V×List Ob)) (ag1:Bool→List V→Int→Int→List V→Int→List V→Bool→Int→Int→Option (V×List Ob)) (b0:Bool) (l1:List V) (i2:Int) (i3:Int) (l4:List V) (i5:Int) (l6:List V) (b7:Bool) (i8:Int) (i9:Int):Option (V×List Ob):=
 if(decide (i3<i2))=true then
 chk (decide (0≤i3)) (chk (decide (i3<((length l1:Nat):Int))) (if b0=true then
 Option.bind (call 118 [(V.str (getS (getD l1 (Int.toNat i3) V.bot)))] []) fun z0=>
 (ag1 ((getB z0.1)) (l1) (i2) ((IntKind.wrap .i64 (i3+(1:Int)))) (l4) (i5) (l6) (b7) (i8) (i9))
 else
 (ag1 (false) (l1) (i2) ((IntKind.wrap .i64 (i3+(1:Int)))) (l4) (i5) (l6) (b7) (i8) (i9))))
 else
 Option.bind (call 119 [(V.agg [(V.lst 3 false l4),(V.int .i64 i5),(V.lst 9 false l6),(V.bool b7),(V.int .i64 i8),(V.int .i64 i9)])] []) fun z0=>
 if(getB z0.1)=true then
 Option.bind (if b0=true then
 if(decide (((length l6:Nat):Int)≥(1:Int)))=true then
 some (decide (((length l6:Nat):Int)≤(100:Int)))
 else
 some false
 else
 some false) fun y1=>
 if b7=true then
 if y1=true then
 Option.bind (call 117 [(V.int .i64 i8),(V.int .i64 0)] []) fun z2=>
 if(getB z2.1)=true then
 Option.bind (call 117 [(V.int .i64 i9),(V.int .i64 1)] []) fun z3=>
 if(!(getB z3.1))=true then
 some ((V.int .i64 1),[])
 else
 some ((V.int .i64 0),[])
 else
 if(!false)=true then
 some ((V.int .i64 1),[])
 else
 some ((V.int .i64 0),[])
 else
 if(!false)=true then
 some ((V.int .i64 1),[])
 else
 some ((V.int .i64 0),[])
 else
 Option.bind (if y1=true then
 if(i8==(0:Int))=true then
 some (i9==(0:Int))
 else
 some false
 else
 some false) fun y2=>
 if(!y2)=true then
 some ((V.int .i64 1),[])
 else
 some ((V.int .i64 0),[])
 else
 Option.bind (if b0=true then
 some (((length l6:Nat):Int)==(0:Int))
 else
 some false) fun y1=>
 if b7=true then
 if y1=true then
 Option.bind (call 117 [(V.int .i64 i8),(V.int .i64 0)] []) fun z2=>
 if(getB z2.1)=true then
 Option.bind (call 117 [(V.int .i64 i9),(V.int .i64 1)] []) fun z3=>
 if(!(getB z3.1))=true then
 some ((V.int .i64 1),[])
 else
 some ((V.int .i64 0),[])
 else
 if(!false)=true then
 some ((V.int .i64 1),[])
 else
 some ((V.int .i64 0),[])
 else
 if(!false)=true then
 some ((V.int .i64 1),[])
 else
 some ((V.int .i64 0),[])
 else
 Option.bind (if y1=true then
 if(i8==(0:Int))=true then
 some (i9==(0:Int))
 else
 some false
 else
 some false) fun y2=>
 if(!y2)=true then
 some ((V.int .i64 1),[])
 else
 some ((V.int .i64 0),[])
def T80 (call:FuncId→Fun) (ag0:Bool→List V→Int→Int→List V→Int→List V→Bool→Int→Int→Option (V×List Ob)) (ag1:Bool→List V→Int→Int→List V→Int→List V→Bool→Int→Int→Option (V×List Ob)) (a0:List V) (a1:Int) (a2:List V) (a3:Bool) (a4:Int) (a5:Int):Option (V×List Ob):=
 Option.bind (if(decide (((length a0:Nat):Int)≤(64:Int)))=true then
 if(decide (a1≥(0:Int)))=true then
 if(decide (a1≤(5:Int)))=true then
 if(a1 != (5:Int))=false then
 some (decide (((length a0:Nat):Int)>(0:Int)))
 else
 some true
 else
 some false
 else
 some false
 else
 some false) fun y0=>
 (ag0 (y0) (a0) (((length a0:Nat):Int)) ((0:Int)) (a0) (a1) (a2) (a3) (a4) (a5))
def A80 (a0:List V) (a1:Int) (a2:List V) (a3:Bool) (a4:Int) (a5:Int):List V:=[V.agg [V.lst 3 false a0,V.int IntKind.i64 a1,V.lst 9 false a2,V.bool a3,V.int IntKind.i64 a4,V.int IntKind.i64 a5]]
def uL (b0:Bool) (l1:List V) (i2:Int) (i3:Int) (l4:List V) (i5:Int) (l6:List V) (b7:Bool) (i8:Int) (i9:Int):St:=⟨[V.bot,(V.ref 0 0),V.bot,(V.bool b0),V.bot,V.bot,V.bot,V.bot,V.bot,V.bot,V.bot,V.bot,V.bot,V.bot,V.bot,V.bot,V.bot,V.bot,V.bot,V.bot,V.bot,V.bot,V.bot,V.bot,V.bot,V.bot,V.bot,V.bot,V.bot,V.bot,V.bot,V.bot,V.bot,V.bot,(V.lst 3 false l1),(V.int IntKind.i64 i2),(V.int IntKind.i64 i3)]++List.replicate 70 V.bot,[(Ob.cells [(V.lst 3 false l4),(V.int IntKind.i64 i5),(V.lst 9 false l6),(V.bool b7),(V.int IntKind.i64 i8),(V.int IntKind.i64 i9)])]⟩
def uM (b0:Bool) (l1:List V) (i2:Int) (i3:Int) (l4:List V) (i5:Int) (l6:List V) (b7:Bool) (i8:Int) (i9:Int):St:=⟨[V.bot,(V.ref 0 0),V.bot,(V.bool b0),V.bot,V.bot,V.bot,V.bot,V.bot,V.bot,V.bot,V.bot,V.bot,V.bot,V.bot,V.bot,V.bot,V.bot,V.bot,V.bot,V.bot,V.bot,V.bot,V.bot,V.bot,V.bot,V.bot,V.bot,V.bot,V.bot,V.bot,V.bot,V.bot,V.bot,V.bot,V.bot,V.bot,V.bot,V.bot,V.bot,V.bot,V.bot,V.bot,V.bot,V.bot,V.bot,V.bot,(V.lst 9 false l1),(V.int IntKind.i64 i2),(V.int IntKind.i64 i3)]++List.replicate 57 V.bot,[(Ob.cells [(V.lst 3 false l4),(V.int IntKind.i64 i5),(V.lst 9 false l6),(V.bool b7),(V.int IntKind.i64 i8),(V.int IntKind.i64 i9)])]⟩
theorem Mf (b0:Bool) (l1:List V) (i2:Int) (i3:Int) (l4:List V) (i5:Int) (l6:List V) (b7:Bool) (i8:Int) (i9:Int):
 RM 80 Tryz.f80 [] call icall again (aJ Tryz.f80 0) (uL b0 l1 i2 i3 l4 i5 l6 b7 i8 i9)=CC call (fun b0 l1 i2 i3 l4 i5 l6 b7 i8 i9=>again (aJ Tryz.f80 0) (uL b0 l1 i2 i3 l4 i5 l6 b7 i8 i9)) (fun b0 l1 i2 i3 l4 i5 l6 b7 i8 i9=>again (aJ Tryz.f80 1) (uM b0 l1 i2 i3 l4 i5 l6 b7 i8 i9)) b0 l1 i2 i3 l4 i5 l6 b7 i8 i9:=by kernel_rfl
theorem Mg (b0:Bool) (l1:List V) (i2:Int) (i3:Int) (l4:List V) (i5:Int) (l6:List V) (b7:Bool) (i8:Int) (i9:Int):
 RM 80 Tryz.f80 [] call icall again (aJ Tryz.f80 1) (uM b0 l1 i2 i3 l4 i5 l6 b7 i8 i9)=CE call (fun b0 l1 i2 i3 l4 i5 l6 b7 i8 i9=>again (aJ Tryz.f80 0) (uL b0 l1 i2 i3 l4 i5 l6 b7 i8 i9)) (fun b0 l1 i2 i3 l4 i5 l6 b7 i8 i9=>again (aJ Tryz.f80 1) (uM b0 l1 i2 i3 l4 i5 l6 b7 i8 i9)) b0 l1 i2 i3 l4 i5 l6 b7 i8 i9:=by kernel_rfl
theorem E80 (a0:List V) (a1:Int) (a2:List V) (a3:Bool) (a4:Int) (a5:Int):GO 80 Tryz.f80 (A80 a0 a1 a2 a3 a4 a5) [] call icall again=T80 call (fun b0 l1 i2 i3 l4 i5 l6 b7 i8 i9=>again (aJ Tryz.f80 0) (uL b0 l1 i2 i3 l4 i5 l6 b7 i8 i9)) (fun b0 l1 i2 i3 l4 i5 l6 b7 i8 i9=>again (aJ Tryz.f80 1) (uM b0 l1 i2 i3 l4 i5 l6 b7 i8 i9)) a0 a1 a2 a3 a4 a5:=by kernel_rfl
def L80 (call:FuncId→Fun):Nat→(Bool→List V→Int→Int→List V→Int→List V→Bool→Int→Int→Option (V×List Ob))×(Bool→List V→Int→Int→List V→Int→List V→Bool→Int→Int→Option (V×List Ob))
 |0=>⟨fun _ _ _ _ _ _ _ _ _ _=>none,fun _ _ _ _ _ _ _ _ _ _=>none⟩
 |n+1=>⟨CC call (L80 call n).1 (L80 call n).2,CE call (L80 call n).1 (L80 call n).2⟩
theorem R80 (call:FuncId→Fun) (icall:aQ (V×List Ob)):∀n,(∀(b0:Bool) (l1:List V) (i2:Int) (i3:Int) (l4:List V) (i5:Int) (l6:List V) (b7:Bool) (i8:Int) (i9:Int),RN 80 Tryz.f80 [] call icall n (aJ Tryz.f80 0) (uL b0 l1 i2 i3 l4 i5 l6 b7 i8 i9)=(L80 call n).1 b0 l1 i2 i3 l4 i5 l6 b7 i8 i9)∧(∀(b0:Bool) (l1:List V) (i2:Int) (i3:Int) (l4:List V) (i5:Int) (l6:List V) (b7:Bool) (i8:Int) (i9:Int),RN 80 Tryz.f80 [] call icall n (aJ Tryz.f80 1) (uM b0 l1 i2 i3 l4 i5 l6 b7 i8 i9)=(L80 call n).2 b0 l1 i2 i3 l4 i5 l6 b7 i8 i9)
 |0=>⟨fun b0 l1 i2 i3 l4 i5 l6 b7 i8 i9=>rfl,fun b0 l1 i2 i3 l4 i5 l6 b7 i8 i9=>rfl⟩
 |n+1=>by
  have ih:=R80 call icall n
  exact⟨fun b0 l1 i2 i3 l4 i5 l6 b7 i8 i9=>(Mf call icall (RN 80 Tryz.f80 [] call icall n) b0 l1 i2 i3 l4 i5 l6 b7 i8 i9).trans (by rw[show(fun b0 l1 i2 i3 l4 i5 l6 b7 i8 i9=>RN 80 Tryz.f80 [] call icall n (aJ Tryz.f80 0) (uL b0 l1 i2 i3 l4 i5 l6 b7 i8 i9))=(L80 call n).1 from(funext fun b0=>funext fun l1=>funext fun i2=>funext fun i3=>funext fun l4=>funext fun i5=>funext fun l6=>funext fun b7=>funext fun i8=>funext fun i9=>ih.1 b0 l1 i2 i3 l4 i5 l6 b7 i8 i9),show(fun b0 l1 i2 i3 l4 i5 l6 b7 i8 i9=>RN 80 Tryz.f80 [] call icall n (aJ Tryz.f80 1) (uM b0 l1 i2 i3 l4 i5 l6 b7 i8 i9))=(L80 call n).2 from(funext fun b0=>funext fun l1=>funext fun i2=>funext fun i3=>funext fun l4=>funext fun i5=>funext fun l6=>funext fun b7=>funext fun i8=>funext fun i9=>ih.2 b0 l1 i2 i3 l4 i5 l6 b7 i8 i9)];rfl),
   fun b0 l1 i2 i3 l4 i5 l6 b7 i8 i9=>(Mg call icall (RN 80 Tryz.f80 [] call icall n) b0 l1 i2 i3 l4 i5 l6 b7 i8 i9).trans (by rw[show(fun b0 l1 i2 i3 l4 i5 l6 b7 i8 i9=>RN 80 Tryz.f80 [] call icall n (aJ Tryz.f80 0) (uL b0 l1 i2 i3 l4 i5 l6 b7 i8 i9))=(L80 call n).1 from(funext fun b0=>funext fun l1=>funext fun i2=>funext fun i3=>funext fun l4=>funext fun i5=>funext fun l6=>funext fun b7=>funext fun i8=>funext fun i9=>ih.1 b0 l1 i2 i3 l4 i5 l6 b7 i8 i9),show(fun b0 l1 i2 i3 l4 i5 l6 b7 i8 i9=>RN 80 Tryz.f80 [] call icall n (aJ Tryz.f80 1) (uM b0 l1 i2 i3 l4 i5 l6 b7 i8 i9))=(L80 call n).2 from(funext fun b0=>funext fun l1=>funext fun i2=>funext fun i3=>funext fun l4=>funext fun i5=>funext fun l6=>funext fun b7=>funext fun i8=>funext fun i9=>ih.2 b0 l1 i2 i3 l4 i5 l6 b7 i8 i9)];rfl)⟩
theorem C80 (k:Nat) (a0:List V) (a1:Int) (a2:List V) (a3:Bool) (a4:Int) (a5:Int):aA cfg (k+1) 80 (A80 a0 a1 a2 a3 a4 a5) []=T80 (aA cfg k) (L80 (aA cfg k) k).1 (L80 (aA cfg k) k).2 a0 a1 a2 a3 a4 a5:=by
 have ih:=R80 (aA cfg k) (aF cfg (aA cfg k) 20) k
 refine(show aA cfg (k+1) 80 (A80 a0 a1 a2 a3 a4 a5) []=GO 80 Tryz.f80 (A80 a0 a1 a2 a3 a4 a5) [] (aA cfg k) (aF cfg (aA cfg k) 20) (RN 80 Tryz.f80 [] (aA cfg k) (aF cfg (aA cfg k) 20) k)by kernel_rfl).trans ((E80 _ _ _ a0 a1 a2 a3 a4 a5).trans ?_)
 rw[show(fun b0 l1 i2 i3 l4 i5 l6 b7 i8 i9=>RN 80 Tryz.f80 [] (aA cfg k) (aF cfg (aA cfg k) 20) k (aJ Tryz.f80 0) (uL b0 l1 i2 i3 l4 i5 l6 b7 i8 i9))=(L80 (aA cfg k) k).1 from(funext fun b0=>funext fun l1=>funext fun i2=>funext fun i3=>funext fun l4=>funext fun i5=>funext fun l6=>funext fun b7=>funext fun i8=>funext fun i9=>ih.1 b0 l1 i2 i3 l4 i5 l6 b7 i8 i9),show(fun b0 l1 i2 i3 l4 i5 l6 b7 i8 i9=>RN 80 Tryz.f80 [] (aA cfg k) (aF cfg (aA cfg k) 20) k (aJ Tryz.f80 1) (uM b0 l1 i2 i3 l4 i5 l6 b7 i8 i9))=(L80 (aA cfg k) k).2 from(funext fun b0=>funext fun l1=>funext fun i2=>funext fun i3=>funext fun l4=>funext fun i5=>funext fun l6=>funext fun b7=>funext fun i8=>funext fun i9=>ih.2 b0 l1 i2 i3 l4 i5 l6 b7 i8 i9)]
theorem M80 (a0:List V) (a1:Int) (a2:List V) (a3:Bool) (a4:Int) (a5:Int) {r:V×List Ob} (h:Evt (fun k n=>T80 (aA cfg k) (L80 (aA cfg k) n).1 (L80 (aA cfg k) n).2 a0 a1 a2 a3 a4 a5) r):Ret 80 [V.agg [V.lst 3 false a0,V.int IntKind.i64 a1,V.lst 9 false a2,V.bool a3,V.int IntKind.i64 a4,V.int IntKind.i64 a5]] [] r:=aR (g:=fun k n=>T80 (aA cfg k) (L80 (aA cfg k) n).1 (L80 (aA cfg k) n).2 a0 a1 a2 a3 a4 a5) (fun k=>C80 k a0 a1 a2 a3 a4 a5) h
theorem Jh (b0:Bool) (l1:List V) (i2:Int) (i3:Int) (l4:List V) (i5:Int) (l6:List V) (b7:Bool) (i8:Int) (i9:Int) {r:V×List Ob} (h:Evt (fun k n=>CC (aA cfg k) (L80 (aA cfg k) n).1 (L80 (aA cfg k) n).2 b0 l1 i2 i3 l4 i5 l6 b7 i8 i9) r):Evt (fun k n=>(L80 (aA cfg k) n).1 b0 l1 i2 i3 l4 i5 l6 b7 i8 i9) r:=bC (fun k n=>rfl) h
theorem Ji (b0:Bool) (l1:List V) (i2:Int) (i3:Int) (l4:List V) (i5:Int) (l6:List V) (b7:Bool) (i8:Int) (i9:Int) {r:V×List Ob} (h:Evt (fun k n=>CE (aA cfg k) (L80 (aA cfg k) n).1 (L80 (aA cfg k) n).2 b0 l1 i2 i3 l4 i5 l6 b7 i8 i9) r):Evt (fun k n=>(L80 (aA cfg k) n).2 b0 l1 i2 i3 l4 i5 l6 b7 i8 i9) r:=bC (fun k n=>rfl) h
def T81 (call:FuncId→Fun) (a0:List V) (a1:Int) (a2:Int) (a3:Int) (a4:Int) (a5:Int) (a6:List V) (a7:List V) (a8:Int) (a9:Int) (a10:List V) (a11:Int) (a12:List V) (a13:Bool) (a14:Int) (a15:Int):Option (V×List Ob):=
 if(a11==(0:Int))=true then
 Option.bind (call 82 [(V.lst 5 false a0),(V.agg [(V.int .i64 a2),(V.int .i64 a5)])] []) fun z0=>
 some ((V.lst 5 false (getL z0.1)),[])
 else
 if(a11==(1:Int))=true then
 Option.bind (call 82 [(V.lst 5 false a0),(V.agg [(V.int .i64 a2),(V.int .i64 a3)])] []) fun z0=>
 some ((V.lst 5 false (getL z0.1)),[])
 else
 if(a11==(4:Int))=true then
 Option.bind (call 82 [(V.lst 5 false a0),(V.agg [(V.int .i64 a4),(V.int .i64 a5)])] []) fun z0=>
 some ((V.lst 5 false (getL z0.1)),[])
 else
 if(a11==(3:Int))=true then
 Option.bind (call 32 [(V.lst 5 false a0),(V.agg [(V.int .i64 a2),(V.int .i64 a3)])] []) fun z0=>
 Option.bind (call 120 [(V.lst 5 false a0),(V.lst 91 false (getL (headD (getT z0.1) V.bot))),(V.lst 9 false a12),(V.bool true)] []) fun z1=>
 some ((V.lst 5 false (getL z1.1)),[])
 else
 if(a11==(2:Int))=true then
 Option.bind (call 32 [(V.lst 5 false a0),(V.agg [(V.int .i64 a2),(V.int .i64 a3)])] []) fun z0=>
 Option.bind (call 120 [(V.lst 5 false a0),(V.lst 91 false (getL (headD (getT z0.1) V.bot))),(V.lst 9 false a12),(V.bool false)] []) fun z1=>
 some ((V.lst 5 false (getL z1.1)),[])
 else
 some ((V.lst 5 false []),[])
def A81 (a0:List V) (a1:Int) (a2:Int) (a3:Int) (a4:Int) (a5:Int) (a6:List V) (a7:List V) (a8:Int) (a9:Int) (a10:List V) (a11:Int) (a12:List V) (a13:Bool) (a14:Int) (a15:Int):List V:=[V.lst 5 false a0,V.agg [V.int IntKind.i64 a1,V.int IntKind.i64 a2,V.int IntKind.i64 a3,V.int IntKind.i64 a4,V.int IntKind.i64 a5,V.lst 36 false a6,V.lst 32 false a7,V.int IntKind.i64 a8,V.int IntKind.i64 a9],V.agg [V.lst 3 false a10,V.int IntKind.i64 a11,V.lst 9 false a12,V.bool a13,V.int IntKind.i64 a14,V.int IntKind.i64 a15]]
theorem E81 (a0:List V) (a1:Int) (a2:Int) (a3:Int) (a4:Int) (a5:Int) (a6:List V) (a7:List V) (a8:Int) (a9:Int) (a10:List V) (a11:Int) (a12:List V) (a13:Bool) (a14:Int) (a15:Int):GO 81 Tryz.f81 (A81 a0 a1 a2 a3 a4 a5 a6 a7 a8 a9 a10 a11 a12 a13 a14 a15) [] call icall again=T81 call a0 a1 a2 a3 a4 a5 a6 a7 a8 a9 a10 a11 a12 a13 a14 a15:=by kernel_rfl
theorem C81 (k:Nat) (a0:List V) (a1:Int) (a2:Int) (a3:Int) (a4:Int) (a5:Int) (a6:List V) (a7:List V) (a8:Int) (a9:Int) (a10:List V) (a11:Int) (a12:List V) (a13:Bool) (a14:Int) (a15:Int):aA cfg (k+1) 81 (A81 a0 a1 a2 a3 a4 a5 a6 a7 a8 a9 a10 a11 a12 a13 a14 a15) []=T81 (aA cfg k) a0 a1 a2 a3 a4 a5 a6 a7 a8 a9 a10 a11 a12 a13 a14 a15:=
 (show aA cfg (k+1) 81 (A81 a0 a1 a2 a3 a4 a5 a6 a7 a8 a9 a10 a11 a12 a13 a14 a15) []=GO 81 Tryz.f81 (A81 a0 a1 a2 a3 a4 a5 a6 a7 a8 a9 a10 a11 a12 a13 a14 a15) [] (aA cfg k) (aF cfg (aA cfg k) 20) (RN 81 Tryz.f81 [] (aA cfg k) (aF cfg (aA cfg k) 20) k)by kernel_rfl).trans (E81 _ _ _ a0 a1 a2 a3 a4 a5 a6 a7 a8 a9 a10 a11 a12 a13 a14 a15)
theorem M81 (a0:List V) (a1:Int) (a2:Int) (a3:Int) (a4:Int) (a5:Int) (a6:List V) (a7:List V) (a8:Int) (a9:Int) (a10:List V) (a11:Int) (a12:List V) (a13:Bool) (a14:Int) (a15:Int) {r:V×List Ob} (h:Evt (fun k n=>T81 (aA cfg k) a0 a1 a2 a3 a4 a5 a6 a7 a8 a9 a10 a11 a12 a13 a14 a15) r):Ret 81 [V.lst 5 false a0,V.agg [V.int IntKind.i64 a1,V.int IntKind.i64 a2,V.int IntKind.i64 a3,V.int IntKind.i64 a4,V.int IntKind.i64 a5,V.lst 36 false a6,V.lst 32 false a7,V.int IntKind.i64 a8,V.int IntKind.i64 a9],V.agg [V.lst 3 false a10,V.int IntKind.i64 a11,V.lst 9 false a12,V.bool a13,V.int IntKind.i64 a14,V.int IntKind.i64 a15]] [] r:=aR (g:=fun k n=>T81 (aA cfg k) a0 a1 a2 a3 a4 a5 a6 a7 a8 a9 a10 a11 a12 a13 a14 a15) (fun k=>C81 k a0 a1 a2 a3 a4 a5 a6 a7 a8 a9 a10 a11 a12 a13 a14 a15) h
def T40 (call:FuncId→Fun) (a0:List V) (a1:Int) (a2:Int) (a3:Int) (a4:Int) (a5:Int) (a6:List V) (a7:List V) (a8:Int) (a9:Int) (a10:List V) (a11:Int) (a12:List V) (a13:Bool) (a14:Int) (a15:Int):Option (V×List Ob):=
 Option.bind (call 80 [(V.agg [(V.lst 3 false a10),(V.int .i64 a11),(V.lst 9 false a12),(V.bool a13),(V.int .i64 a14),(V.int .i64 a15)])] []) fun z0=>
 if((getI z0.1) != (0:Int))=true then
 some ((V.lst 5 false []),[])
 else
 if(((length a10:Nat):Int)==(0:Int))=true then
 Option.bind (call 81 [(V.lst 5 false a0),(V.agg [(V.int .i64 a1),(V.int .i64 a2),(V.int .i64 a3),(V.int .i64 a4),(V.int .i64 a5),(V.lst 36 false a6),(V.lst 32 false a7),(V.int .i64 a8),(V.int .i64 a9)]),(V.agg [(V.lst 3 false a10),(V.int .i64 a11),(V.lst 9 false a12),(V.bool a13),(V.int .i64 a14),(V.int .i64 a15)])] []) fun z1=>
 some ((V.lst 5 false (getL z1.1)),[])
 else
 Option.bind (call 38 [(V.agg [(V.int .i64 a1),(V.int .i64 a2),(V.int .i64 a3),(V.int .i64 a4),(V.int .i64 a5),(V.lst 36 false a6),(V.lst 32 false a7),(V.int .i64 a8),(V.int .i64 a9)]),(V.lst 3 false a10)] []) fun z1=>
 if(!(getB (headD (tail (getT z1.1)) V.bot)))=true then
 some ((V.lst 5 false []),[])
 else
 if(a11==(0:Int))=true then
 Option.bind (call 82 [(V.lst 5 false a0),(V.agg [(V.int .i64 (getI (headD (tail (tail (tail (V.cells (headD (getT z1.1) V.bot))))) V.bot))),(V.int .i64 (getI (headD (tail (tail (tail (tail (V.cells (headD (getT z1.1) V.bot)))))) V.bot)))])] []) fun z2=>
 some ((V.lst 5 false (getL z2.1)),[])
 else
 if(a11==(5:Int))=true then
 Option.bind (call 82 [(V.lst 5 false a0),(V.agg [(V.int .i64 (getI (headD (tail (V.cells (headD (getT z1.1) V.bot))) V.bot))),(V.int .i64 (getI (headD (tail (tail (V.cells (headD (getT z1.1) V.bot)))) V.bot)))])] []) fun z2=>
 some ((V.lst 5 false (getL z2.1)),[])
 else
 Option.bind (if((getI (headD (V.cells (headD (getT z1.1) V.bot)) V.bot))==(2:Int))=true then
 some (decide (((length (getL (headD (tail (tail (tail (tail (tail (V.cells (headD (getT z1.1) V.bot))))))) V.bot)):Nat):Int)>(0:Int)))
 else
 some false) fun y2=>
 if y2=true then
 chk (decide (0≤(0:Int))) (chk (decide ((0:Int)<((length (getL (headD (tail (tail (tail (tail (tail (V.cells (headD (getT z1.1) V.bot))))))) V.bot)):Nat):Int))) (Option.bind (call 81 [(V.lst 5 false a0),(V.agg [(V.int .i64 (getI (headD (V.cells (getD (getL (headD (tail (tail (tail (tail (tail (V.cells (headD (getT z1.1) V.bot))))))) V.bot)) (Int.toNat (0:Int)) V.bot)) V.bot))),(V.int .i64 (getI (headD (tail (V.cells (getD (getL (headD (tail (tail (tail (tail (tail (V.cells (headD (getT z1.1) V.bot))))))) V.bot)) (Int.toNat (0:Int)) V.bot))) V.bot))),(V.int .i64 (getI (headD (tail (tail (V.cells (getD (getL (headD (tail (tail (tail (tail (tail (V.cells (headD (getT z1.1) V.bot))))))) V.bot)) (Int.toNat (0:Int)) V.bot)))) V.bot))),(V.int .i64 (getI (headD (tail (tail (tail (V.cells (getD (getL (headD (tail (tail (tail (tail (tail (V.cells (headD (getT z1.1) V.bot))))))) V.bot)) (Int.toNat (0:Int)) V.bot))))) V.bot))),(V.int .i64 (getI (headD (tail (tail (tail (tail (V.cells (getD (getL (headD (tail (tail (tail (tail (tail (V.cells (headD (getT z1.1) V.bot))))))) V.bot)) (Int.toNat (0:Int)) V.bot)))))) V.bot))),(V.lst 36 false (getL (headD (tail (tail (tail (tail (tail (V.cells (getD (getL (headD (tail (tail (tail (tail (tail (V.cells (headD (getT z1.1) V.bot))))))) V.bot)) (Int.toNat (0:Int)) V.bot))))))) V.bot))),(V.lst 32 false (getL (headD (tail (tail (tail (tail (tail (tail (V.cells (getD (getL (headD (tail (tail (tail (tail (tail (V.cells (headD (getT z1.1) V.bot))))))) V.bot)) (Int.toNat (0:Int)) V.bot)))))))) V.bot))),(V.int .i64 (getI (headD (tail (tail (tail (tail (tail (tail (tail (V.cells (getD (getL (headD (tail (tail (tail (tail (tail (V.cells (headD (getT z1.1) V.bot))))))) V.bot)) (Int.toNat (0:Int)) V.bot))))))))) V.bot))),(V.int .i64 (getI (headD (tail (tail (tail (tail (tail (tail (tail (tail (V.cells (getD (getL (headD (tail (tail (tail (tail (tail (V.cells (headD (getT z1.1) V.bot))))))) V.bot)) (Int.toNat (0:Int)) V.bot)))))))))) V.bot)))]),(V.agg [(V.lst 3 false a10),(V.int .i64 a11),(V.lst 9 false a12),(V.bool a13),(V.int .i64 a14),(V.int .i64 a15)])] []) fun z3=>
 some ((V.lst 5 false (getL z3.1)),[])))
 else
 some ((V.lst 5 false []),[])
def A40 (a0:List V) (a1:Int) (a2:Int) (a3:Int) (a4:Int) (a5:Int) (a6:List V) (a7:List V) (a8:Int) (a9:Int) (a10:List V) (a11:Int) (a12:List V) (a13:Bool) (a14:Int) (a15:Int):List V:=[V.lst 5 false a0,V.agg [V.int IntKind.i64 a1,V.int IntKind.i64 a2,V.int IntKind.i64 a3,V.int IntKind.i64 a4,V.int IntKind.i64 a5,V.lst 36 false a6,V.lst 32 false a7,V.int IntKind.i64 a8,V.int IntKind.i64 a9],V.agg [V.lst 3 false a10,V.int IntKind.i64 a11,V.lst 9 false a12,V.bool a13,V.int IntKind.i64 a14,V.int IntKind.i64 a15]]
theorem E40 (a0:List V) (a1:Int) (a2:Int) (a3:Int) (a4:Int) (a5:Int) (a6:List V) (a7:List V) (a8:Int) (a9:Int) (a10:List V) (a11:Int) (a12:List V) (a13:Bool) (a14:Int) (a15:Int):GO 40 Tryz.f40 (A40 a0 a1 a2 a3 a4 a5 a6 a7 a8 a9 a10 a11 a12 a13 a14 a15) [] call icall again=T40 call a0 a1 a2 a3 a4 a5 a6 a7 a8 a9 a10 a11 a12 a13 a14 a15:=by kernel_rfl
theorem C40 (k:Nat) (a0:List V) (a1:Int) (a2:Int) (a3:Int) (a4:Int) (a5:Int) (a6:List V) (a7:List V) (a8:Int) (a9:Int) (a10:List V) (a11:Int) (a12:List V) (a13:Bool) (a14:Int) (a15:Int):aA cfg (k+1) 40 (A40 a0 a1 a2 a3 a4 a5 a6 a7 a8 a9 a10 a11 a12 a13 a14 a15) []=T40 (aA cfg k) a0 a1 a2 a3 a4 a5 a6 a7 a8 a9 a10 a11 a12 a13 a14 a15:=
 (show aA cfg (k+1) 40 (A40 a0 a1 a2 a3 a4 a5 a6 a7 a8 a9 a10 a11 a12 a13 a14 a15) []=GO 40 Tryz.f40 (A40 a0 a1 a2 a3 a4 a5 a6 a7 a8 a9 a10 a11 a12 a13 a14 a15) [] (aA cfg k) (aF cfg (aA cfg k) 20) (RN 40 Tryz.f40 [] (aA cfg k) (aF cfg (aA cfg k) 20) k)by kernel_rfl).trans (E40 _ _ _ a0 a1 a2 a3 a4 a5 a6 a7 a8 a9 a10 a11 a12 a13 a14 a15)
theorem M40 (a0:List V) (a1:Int) (a2:Int) (a3:Int) (a4:Int) (a5:Int) (a6:List V) (a7:List V) (a8:Int) (a9:Int) (a10:List V) (a11:Int) (a12:List V) (a13:Bool) (a14:Int) (a15:Int) {r:V×List Ob} (h:Evt (fun k n=>T40 (aA cfg k) a0 a1 a2 a3 a4 a5 a6 a7 a8 a9 a10 a11 a12 a13 a14 a15) r):Ret 40 [V.lst 5 false a0,V.agg [V.int IntKind.i64 a1,V.int IntKind.i64 a2,V.int IntKind.i64 a3,V.int IntKind.i64 a4,V.int IntKind.i64 a5,V.lst 36 false a6,V.lst 32 false a7,V.int IntKind.i64 a8,V.int IntKind.i64 a9],V.agg [V.lst 3 false a10,V.int IntKind.i64 a11,V.lst 9 false a12,V.bool a13,V.int IntKind.i64 a14,V.int IntKind.i64 a15]] [] r:=aR (g:=fun k n=>T40 (aA cfg k) a0 a1 a2 a3 a4 a5 a6 a7 a8 a9 a10 a11 a12 a13 a14 a15) (fun k=>C40 k a0 a1 a2 a3 a4 a5 a6 a7 a8 a9 a10 a11 a12 a13 a14 a15) h
def T19 (call:FuncId→Fun) (a0:List V) (a1:Int) (a2:Int) (a3:Int) (a4:Int) (a5:Int) (a6:List V) (a7:List V) (a8:Int) (a9:Int) (a10:List V) (a11:Int) (a12:List V) (a13:Bool) (a14:Int) (a15:Int):Option (V×List Ob):=
 Option.bind (call 40 [(V.lst 5 false a0),(V.agg [(V.int .i64 a1),(V.int .i64 a2),(V.int .i64 a3),(V.int .i64 a4),(V.int .i64 a5),(V.lst 36 false a6),(V.lst 32 false a7),(V.int .i64 a8),(V.int .i64 a9)]),(V.agg [(V.lst 3 false a10),(V.int .i64 a11),(V.lst 9 false a12),(V.bool a13),(V.int .i64 a14),(V.int .i64 a15)])] []) fun z0=>
 if a13=true then
 Option.bind (call 41 [(V.lst 5 false (getL z0.1)),(V.int .i64 a14),(V.int .i64 a15)] []) fun z1=>
 some ((V.lst 5 false (getL z1.1)),[])
 else
 some ((V.lst 5 false (getL z0.1)),[])
def A19 (a0:List V) (a1:Int) (a2:Int) (a3:Int) (a4:Int) (a5:Int) (a6:List V) (a7:List V) (a8:Int) (a9:Int) (a10:List V) (a11:Int) (a12:List V) (a13:Bool) (a14:Int) (a15:Int):List V:=[V.lst 5 false a0,V.agg [V.int IntKind.i64 a1,V.int IntKind.i64 a2,V.int IntKind.i64 a3,V.int IntKind.i64 a4,V.int IntKind.i64 a5,V.lst 36 false a6,V.lst 32 false a7,V.int IntKind.i64 a8,V.int IntKind.i64 a9],V.agg [V.lst 3 false a10,V.int IntKind.i64 a11,V.lst 9 false a12,V.bool a13,V.int IntKind.i64 a14,V.int IntKind.i64 a15]]
theorem E19 (a0:List V) (a1:Int) (a2:Int) (a3:Int) (a4:Int) (a5:Int) (a6:List V) (a7:List V) (a8:Int) (a9:Int) (a10:List V) (a11:Int) (a12:List V) (a13:Bool) (a14:Int) (a15:Int):GO 19 Tryz.f19 (A19 a0 a1 a2 a3 a4 a5 a6 a7 a8 a9 a10 a11 a12 a13 a14 a15) [] call icall again=T19 call a0 a1 a2 a3 a4 a5 a6 a7 a8 a9 a10 a11 a12 a13 a14 a15:=by kernel_rfl
theorem C19 (k:Nat) (a0:List V) (a1:Int) (a2:Int) (a3:Int) (a4:Int) (a5:Int) (a6:List V) (a7:List V) (a8:Int) (a9:Int) (a10:List V) (a11:Int) (a12:List V) (a13:Bool) (a14:Int) (a15:Int):aA cfg (k+1) 19 (A19 a0 a1 a2 a3 a4 a5 a6 a7 a8 a9 a10 a11 a12 a13 a14 a15) []=T19 (aA cfg k) a0 a1 a2 a3 a4 a5 a6 a7 a8 a9 a10 a11 a12 a13 a14 a15:=
 (show aA cfg (k+1) 19 (A19 a0 a1 a2 a3 a4 a5 a6 a7 a8 a9 a10 a11 a12 a13 a14 a15) []=GO 19 Tryz.f19 (A19 a0 a1 a2 a3 a4 a5 a6 a7 a8 a9 a10 a11 a12 a13 a14 a15) [] (aA cfg k) (aF cfg (aA cfg k) 20) (RN 19 Tryz.f19 [] (aA cfg k) (aF cfg (aA cfg k) 20) k)by kernel_rfl).trans (E19 _ _ _ a0 a1 a2 a3 a4 a5 a6 a7 a8 a9 a10 a11 a12 a13 a14 a15)
theorem M19 (a0:List V) (a1:Int) (a2:Int) (a3:Int) (a4:Int) (a5:Int) (a6:List V) (a7:List V) (a8:Int) (a9:Int) (a10:List V) (a11:Int) (a12:List V) (a13:Bool) (a14:Int) (a15:Int) {r:V×List Ob} (h:Evt (fun k n=>T19 (aA cfg k) a0 a1 a2 a3 a4 a5 a6 a7 a8 a9 a10 a11 a12 a13 a14 a15) r):Ret 19 [V.lst 5 false a0,V.agg [V.int IntKind.i64 a1,V.int IntKind.i64 a2,V.int IntKind.i64 a3,V.int IntKind.i64 a4,V.int IntKind.i64 a5,V.lst 36 false a6,V.lst 32 false a7,V.int IntKind.i64 a8,V.int IntKind.i64 a9],V.agg [V.lst 3 false a10,V.int IntKind.i64 a11,V.lst 9 false a12,V.bool a13,V.int IntKind.i64 a14,V.int IntKind.i64 a15]] [] r:=aR (g:=fun k n=>T19 (aA cfg k) a0 a1 a2 a3 a4 a5 a6 a7 a8 a9 a10 a11 a12 a13 a14 a15) (fun k=>C19 k a0 a1 a2 a3 a4 a5 a6 a7 a8 a9 a10 a11 a12 a13 a14 a15) h
def T41 (call:FuncId→Fun) (a0:List V) (a1:Int) (a2:Int):Option (V×List Ob):=
 Option.bind (if(decide (a1<(0:Int)))=false then
 if(decide (a1>((length a0:Nat):Int)))=false then
 some (decide (a2<(1:Int)))
 else
 some true
 else
 some true) fun y0=>
 if y0=true then
 some ((V.lst 5 false []),[])
 else
 chk (decide (0≤(IntKind.wrap .i64 (a1+(if(IntKind.wrap .i64 (((length a0:Nat):Int) - a1))<a2 then(IntKind.wrap .i64 (((length a0:Nat):Int) - a1))else a2))))) (chk (decide ((IntKind.wrap .i64 (a1+(if(IntKind.wrap .i64 (((length a0:Nat):Int) - a1))<a2 then(IntKind.wrap .i64 (((length a0:Nat):Int) - a1))else a2)))≤((length a0:Nat):Int))) (chk (decide (0≤a1)) (chk (decide (a1≤(IntKind.wrap .i64 (a1+(if(IntKind.wrap .i64 (((length a0:Nat):Int) - a1))<a2 then(IntKind.wrap .i64 (((length a0:Nat):Int) - a1))else a2))))) (Option.bind (call 75 [(V.lst 5 false (drop (Int.toNat a1) (take (Int.toNat (IntKind.wrap .i64 (a1+(if(IntKind.wrap .i64 (((length a0:Nat):Int) - a1))<a2 then(IntKind.wrap .i64 (((length a0:Nat):Int) - a1))else a2)))) a0)))] []) fun z1=>
 some ((V.lst 5 false (getL z1.1)),[])))))
def A41 (a0:List V) (a1:Int) (a2:Int):List V:=[V.lst 5 false a0,V.int IntKind.i64 a1,V.int IntKind.i64 a2]
theorem E41 (a0:List V) (a1:Int) (a2:Int):GO 41 Tryz.f41 (A41 a0 a1 a2) [] call icall again=T41 call a0 a1 a2:=by kernel_rfl
theorem C41 (k:Nat) (a0:List V) (a1:Int) (a2:Int):aA cfg (k+1) 41 (A41 a0 a1 a2) []=T41 (aA cfg k) a0 a1 a2:=
 (show aA cfg (k+1) 41 (A41 a0 a1 a2) []=GO 41 Tryz.f41 (A41 a0 a1 a2) [] (aA cfg k) (aF cfg (aA cfg k) 20) (RN 41 Tryz.f41 [] (aA cfg k) (aF cfg (aA cfg k) 20) k)by kernel_rfl).trans (E41 _ _ _ a0 a1 a2)
theorem M41 (a0:List V) (a1:Int) (a2:Int) {r:V×List Ob} (h:Evt (fun k n=>T41 (aA cfg k) a0 a1 a2) r):Ret 41 [V.lst 5 false a0,V.int IntKind.i64 a1,V.int IntKind.i64 a2] [] r:=aR (g:=fun k n=>T41 (aA cfg k) a0 a1 a2) (fun k=>C41 k a0 a1 a2) h
def Ha (call:FuncId→Fun) (a0:Int) (a1:Int):Option (V×List Ob):=
 Option.bind (if(decide (a0≥a1))=true then
 some (decide (a0≤(4294967295:Int)))
 else
 some false) fun y0=>
 some ((V.bool y0),[])
def IH (a0:Int) (a1:Int):List V:=[V.int IntKind.i64 a0,V.int IntKind.i64 a1]
theorem NR (a0:Int) (a1:Int):GO 117 Tryz.f117 (IH a0 a1) [] call icall again=Ha call a0 a1:=by kernel_rfl
theorem NS (k:Nat) (a0:Int) (a1:Int):aA cfg (k+1) 117 (IH a0 a1) []=Ha (aA cfg k) a0 a1:=
 (show aA cfg (k+1) 117 (IH a0 a1) []=GO 117 Tryz.f117 (IH a0 a1) [] (aA cfg k) (aF cfg (aA cfg k) 20) (RN 117 Tryz.f117 [] (aA cfg k) (aF cfg (aA cfg k) 20) k)by kernel_rfl).trans (NR _ _ _ a0 a1)
theorem NT (a0:Int) (a1:Int) {r:V×List Ob} (h:Evt (fun k n=>Ha (aA cfg k) a0 a1) r):Ret 117 [V.int IntKind.i64 a0,V.int IntKind.i64 a1] [] r:=aR (g:=fun k n=>Ha (aA cfg k) a0 a1) (fun k=>NS k a0 a1) h
def yF (call:FuncId→Fun) (ag0:List UInt8→Int→Int→Option (V×List Ob)) (s0:List UInt8) (i1:Int) (i2:Int):Option (V×List Ob):=
 if(decide (i2<i1))=true then
 Option.bind (chk (decide (0≤i2)) (chk (decide (i2<((length s0:Nat):Int))) (if(decide (((UInt8.toNat (getD s0 (Int.toNat i2) 0):Nat):Int)<(32:Int)))=false then
 chk (decide (0≤i2)) (chk (decide (i2<((length s0:Nat):Int))) (some (decide (((UInt8.toNat (getD s0 (Int.toNat i2) 0):Nat):Int)≥(127:Int)))))
 else
 some true))) fun y0=>
 if y0=true then
 some ((V.bool false),[])
 else
 (ag0 (s0) (i1) ((IntKind.wrap .i64 (i2+(1:Int)))))
 else
 some ((V.bool true),[])
def Hb (call:FuncId→Fun) (ag0:List UInt8→Int→Int→Option (V×List Ob)) (a0:List UInt8):Option (V×List Ob):=
 (ag0 (a0) (((length a0:Nat):Int)) ((0:Int)))
def II (a0:List UInt8):List V:=[V.str a0]
def tO (s0:List UInt8) (i1:Int) (i2:Int):St:=⟨[(V.str s0),V.bot,V.bot,V.bot,V.bot,(V.int IntKind.i64 i1),(V.int IntKind.i64 i2)]++List.replicate 13 V.bot,[]⟩
theorem Kj (s0:List UInt8) (i1:Int) (i2:Int):
 RM 118 Tryz.f118 [] call icall again (aJ Tryz.f118 0) (tO s0 i1 i2)=yF call (fun s0 i1 i2=>again (aJ Tryz.f118 0) (tO s0 i1 i2)) s0 i1 i2:=by kernel_rfl
theorem NU (a0:List UInt8):GO 118 Tryz.f118 (II a0) [] call icall again=Hb call (fun s0 i1 i2=>again (aJ Tryz.f118 0) (tO s0 i1 i2)) a0:=by kernel_rfl
def yZ (call:FuncId→Fun):Nat→(List UInt8→Int→Int→Option (V×List Ob))
 |0=>fun _ _ _=>none
 |n+1=>yF call (yZ call n)
theorem Mh (call:FuncId→Fun) (icall:aQ (V×List Ob)):∀n,(∀(s0:List UInt8) (i1:Int) (i2:Int),RN 118 Tryz.f118 [] call icall n (aJ Tryz.f118 0) (tO s0 i1 i2)=(yZ call n) s0 i1 i2)
 |0=>fun s0 i1 i2=>rfl
 |n+1=>by
  have ih:=Mh call icall n
  exact fun s0 i1 i2=>(Kj call icall (RN 118 Tryz.f118 [] call icall n) s0 i1 i2).trans (by rw[show(fun s0 i1 i2=>RN 118 Tryz.f118 [] call icall n (aJ Tryz.f118 0) (tO s0 i1 i2))=(yZ call n)from(funext fun s0=>funext fun i1=>funext fun i2=>ih s0 i1 i2)];rfl)
theorem NV (k:Nat) (a0:List UInt8):aA cfg (k+1) 118 (II a0) []=Hb (aA cfg k) (yZ (aA cfg k) k) a0:=by
 have ih:=Mh (aA cfg k) (aF cfg (aA cfg k) 20) k
 refine(show aA cfg (k+1) 118 (II a0) []=GO 118 Tryz.f118 (II a0) [] (aA cfg k) (aF cfg (aA cfg k) 20) (RN 118 Tryz.f118 [] (aA cfg k) (aF cfg (aA cfg k) 20) k)by kernel_rfl).trans ((NU _ _ _ a0).trans ?_)
 rw[show(fun s0 i1 i2=>RN 118 Tryz.f118 [] (aA cfg k) (aF cfg (aA cfg k) 20) k (aJ Tryz.f118 0) (tO s0 i1 i2))=(yZ (aA cfg k) k)from(funext fun s0=>funext fun i1=>funext fun i2=>ih s0 i1 i2)]
theorem NW (a0:List UInt8) {r:V×List Ob} (h:Evt (fun k n=>Hb (aA cfg k) (yZ (aA cfg k) n) a0) r):Ret 118 [V.str a0] [] r:=aR (g:=fun k n=>Hb (aA cfg k) (yZ (aA cfg k) n) a0) (fun k=>NV k a0) h
theorem Hd (s0:List UInt8) (i1:Int) (i2:Int) {r:V×List Ob} (h:Evt (fun k n=>yF (aA cfg k) (yZ (aA cfg k) n) s0 i1 i2) r):Evt (fun k n=>(yZ (aA cfg k) n) s0 i1 i2) r:=bC (fun k n=>rfl) h
def He (call:FuncId→Fun) (a0:List V) (a1:Int) (a2:List V) (a3:Bool) (a4:Int) (a5:Int):Option (V×List Ob):=
 Option.bind (if(a1==(2:Int))=false then
 some (a1==(3:Int))
 else
 some true) fun y0=>
 some ((V.bool y0),[])
def IJ (a0:List V) (a1:Int) (a2:List V) (a3:Bool) (a4:Int) (a5:Int):List V:=[V.agg [V.lst 3 false a0,V.int IntKind.i64 a1,V.lst 9 false a2,V.bool a3,V.int IntKind.i64 a4,V.int IntKind.i64 a5]]
theorem NX (a0:List V) (a1:Int) (a2:List V) (a3:Bool) (a4:Int) (a5:Int):GO 119 Tryz.f119 (IJ a0 a1 a2 a3 a4 a5) [] call icall again=He call a0 a1 a2 a3 a4 a5:=by kernel_rfl
theorem NY (k:Nat) (a0:List V) (a1:Int) (a2:List V) (a3:Bool) (a4:Int) (a5:Int):aA cfg (k+1) 119 (IJ a0 a1 a2 a3 a4 a5) []=He (aA cfg k) a0 a1 a2 a3 a4 a5:=
 (show aA cfg (k+1) 119 (IJ a0 a1 a2 a3 a4 a5) []=GO 119 Tryz.f119 (IJ a0 a1 a2 a3 a4 a5) [] (aA cfg k) (aF cfg (aA cfg k) 20) (RN 119 Tryz.f119 [] (aA cfg k) (aF cfg (aA cfg k) 20) k)by kernel_rfl).trans (NX _ _ _ a0 a1 a2 a3 a4 a5)
theorem NZ (a0:List V) (a1:Int) (a2:List V) (a3:Bool) (a4:Int) (a5:Int) {r:V×List Ob} (h:Evt (fun k n=>He (aA cfg k) a0 a1 a2 a3 a4 a5) r):Ret 119 [V.agg [V.lst 3 false a0,V.int IntKind.i64 a1,V.lst 9 false a2,V.bool a3,V.int IntKind.i64 a4,V.int IntKind.i64 a5]] [] r:=aR (g:=fun k n=>He (aA cfg k) a0 a1 a2 a3 a4 a5) (fun k=>NY k a0 a1 a2 a3 a4 a5) h
def yG (call:FuncId→Fun) (ag0:List V→List V→Bool→List V→List V→Int→Int→Option (V×List Ob)) (l0:List V) (l1:List V) (b2:Bool) (l3:List V) (l4:List V) (i5:Int) (i6:Int):Option (V×List Ob):=
 if(decide (i6<i5))=true then
 chk (decide (0≤i6)) (chk (decide (i6<((length l4:Nat):Int))) (Option.bind (call 143 [(V.lst 9 false l1),(V.clo (Fn.func 144) [] [(V.ref 0 0)])] [(Ob.cells [(V.str (getS (headD (V.cells (getD l4 (Int.toNat i6) V.bot)) V.bot))),(V.int .i64 (getI (headD (tail (V.cells (getD l4 (Int.toNat i6) V.bot))) V.bot))),(V.int .i64 (getI (headD (tail (tail (V.cells (getD l4 (Int.toNat i6) V.bot)))) V.bot))),(V.int .i64 (getI (headD (tail (tail (tail (V.cells (getD l4 (Int.toNat i6) V.bot))))) V.bot)))])]) fun z0=>
 if((getB z0.1)==b2)=false then
 Option.bind (call 74 [(V.agg [(V.int .i64 (getI (headD (tail (Ob.getC (headD z0.2 Ob.dead))) V.bot))),(V.int .i64 (getI (headD (tail (tail (tail (Ob.getC (headD z0.2 Ob.dead))))) V.bot)))]),(V.int .i64 ((length l0:Nat):Int))] []) fun z1=>
 if(!(getB z1.1))=true then
 (ag0 (l0) (l1) (b2) (l3) (l4) (i5) ((IntKind.wrap .i64 (i6+(1:Int)))))
 else
 chk (decide (0≤(getI (headD (tail (tail (tail (Ob.getC (headD z0.2 Ob.dead))))) V.bot)))) (chk (decide ((getI (headD (tail (tail (tail (Ob.getC (headD z0.2 Ob.dead))))) V.bot))≤((length l0:Nat):Int))) (chk (decide (0≤(getI (headD (tail (Ob.getC (headD z0.2 Ob.dead))) V.bot)))) (chk (decide ((getI (headD (tail (Ob.getC (headD z0.2 Ob.dead))) V.bot))≤(getI (headD (tail (tail (tail (Ob.getC (headD z0.2 Ob.dead))))) V.bot)))) (chk (cZ l3 (drop (Int.toNat (getI (headD (tail (Ob.getC (headD z0.2 Ob.dead))) V.bot))) (take (Int.toNat (getI (headD (tail (tail (tail (Ob.getC (headD z0.2 Ob.dead))))) V.bot))) l0)) 2) (Option.bind (if((getI (headD (tail (tail (tail (Ob.getC (headD z0.2 Ob.dead))))) V.bot))==(getI (headD (tail (Ob.getC (headD z0.2 Ob.dead))) V.bot)))=false then
 chk (decide (0≤(IntKind.wrap .i64 ((getI (headD (tail (tail (tail (Ob.getC (headD z0.2 Ob.dead))))) V.bot)) - (1:Int))))) (chk (decide ((IntKind.wrap .i64 ((getI (headD (tail (tail (tail (Ob.getC (headD z0.2 Ob.dead))))) V.bot)) - (1:Int)))<((length l0:Nat):Int))) (some ((getI (getD l0 (Int.toNat (IntKind.wrap .i64 ((getI (headD (tail (tail (tail (Ob.getC (headD z0.2 Ob.dead))))) V.bot)) - (1:Int)))) V.bot)) != (10:Int))))
 else
 some true) fun y2=>
 if y2=true then
 chk (fE (l3++(drop (Int.toNat (getI (headD (tail (Ob.getC (headD z0.2 Ob.dead))) V.bot))) (take (Int.toNat (getI (headD (tail (tail (tail (Ob.getC (headD z0.2 Ob.dead))))) V.bot))) l0))) [13,10] 2) ((ag0 (l0) (l1) (b2) (((l3++(drop (Int.toNat (getI (headD (tail (Ob.getC (headD z0.2 Ob.dead))) V.bot))) (take (Int.toNat (getI (headD (tail (tail (tail (Ob.getC (headD z0.2 Ob.dead))))) V.bot))) l0)))++(ofBytes [13,10]))) (l4) (i5) ((IntKind.wrap .i64 (i6+(1:Int))))))
 else
 (ag0 (l0) (l1) (b2) ((l3++(drop (Int.toNat (getI (headD (tail (Ob.getC (headD z0.2 Ob.dead))) V.bot))) (take (Int.toNat (getI (headD (tail (tail (tail (Ob.getC (headD z0.2 Ob.dead))))) V.bot))) l0)))) (l4) (i5) ((IntKind.wrap .i64 (i6+(1:Int))))))))))
 else
 (ag0 (l0) (l1) (b2) (l3) (l4) (i5) ((IntKind.wrap .i64 (i6+(1:Int)))))))
 else
 chk (fE l3 [13,10] 2) (some ((V.lst 5 false (l3++(ofBytes [13,10]))),[]))
def Hf (call:FuncId→Fun) (ag0:List V→List V→Bool→List V→List V→Int→Int→Option (V×List Ob)) (a0:List V) (a1:List V) (a2:List V) (a3:Bool):Option (V×List Ob):=
 (ag0 (a0) (a2) (a3) ([]) (a1) (((length a1:Nat):Int)) ((0:Int)))
def IK (a0:List V) (a1:List V) (a2:List V) (a3:Bool):List V:=[V.lst 5 false a0,V.lst 91 false a1,V.lst 9 false a2,V.bool a3]
def tP (l0:List V) (l1:List V) (b2:Bool) (l3:List V) (l4:List V) (i5:Int) (i6:Int):St:=⟨[(V.lst 5 false l0),V.bot,(V.lst 9 false l1),(V.bool b2),V.bot,V.bot,V.bot,V.bot,V.bot,(V.lst 5 true l3),V.bot,V.bot,V.bot,(V.lst 91 false l4),(V.int IntKind.i64 i5),(V.int IntKind.i64 i6)]++List.replicate 47 V.bot,[]⟩
theorem Kk (l0:List V) (l1:List V) (b2:Bool) (l3:List V) (l4:List V) (i5:Int) (i6:Int):
 RM 120 Tryz.f120 [] call icall again (aJ Tryz.f120 0) (tP l0 l1 b2 l3 l4 i5 i6)=yG call (fun l0 l1 b2 l3 l4 i5 i6=>again (aJ Tryz.f120 0) (tP l0 l1 b2 l3 l4 i5 i6)) l0 l1 b2 l3 l4 i5 i6:=by kernel_rfl
theorem N1 (a0:List V) (a1:List V) (a2:List V) (a3:Bool):GO 120 Tryz.f120 (IK a0 a1 a2 a3) [] call icall again=Hf call (fun l0 l1 b2 l3 l4 i5 i6=>again (aJ Tryz.f120 0) (tP l0 l1 b2 l3 l4 i5 i6)) a0 a1 a2 a3:=by kernel_rfl
def zA (call:FuncId→Fun):Nat→(List V→List V→Bool→List V→List V→Int→Int→Option (V×List Ob))
 |0=>fun _ _ _ _ _ _ _=>none
 |n+1=>yG call (zA call n)
theorem Mi (call:FuncId→Fun) (icall:aQ (V×List Ob)):∀n,(∀(l0:List V) (l1:List V) (b2:Bool) (l3:List V) (l4:List V) (i5:Int) (i6:Int),RN 120 Tryz.f120 [] call icall n (aJ Tryz.f120 0) (tP l0 l1 b2 l3 l4 i5 i6)=(zA call n) l0 l1 b2 l3 l4 i5 i6)
 |0=>fun l0 l1 b2 l3 l4 i5 i6=>rfl
 |n+1=>by
  have ih:=Mi call icall n
  exact fun l0 l1 b2 l3 l4 i5 i6=>(Kk call icall (RN 120 Tryz.f120 [] call icall n) l0 l1 b2 l3 l4 i5 i6).trans (by rw[show(fun l0 l1 b2 l3 l4 i5 i6=>RN 120 Tryz.f120 [] call icall n (aJ Tryz.f120 0) (tP l0 l1 b2 l3 l4 i5 i6))=(zA call n)from(funext fun l0=>funext fun l1=>funext fun b2=>funext fun l3=>funext fun l4=>funext fun i5=>funext fun i6=>ih l0 l1 b2 l3 l4 i5 i6)];rfl)
theorem N2 (k:Nat) (a0:List V) (a1:List V) (a2:List V) (a3:Bool):aA cfg (k+1) 120 (IK a0 a1 a2 a3) []=Hf (aA cfg k) (zA (aA cfg k) k) a0 a1 a2 a3:=by
 have ih:=Mi (aA cfg k) (aF cfg (aA cfg k) 20) k
 refine(show aA cfg (k+1) 120 (IK a0 a1 a2 a3) []=GO 120 Tryz.f120 (IK a0 a1 a2 a3) [] (aA cfg k) (aF cfg (aA cfg k) 20) (RN 120 Tryz.f120 [] (aA cfg k) (aF cfg (aA cfg k) 20) k)by kernel_rfl).trans ((N1 _ _ _ a0 a1 a2 a3).trans ?_)
 rw[show(fun l0 l1 b2 l3 l4 i5 i6=>RN 120 Tryz.f120 [] (aA cfg k) (aF cfg (aA cfg k) 20) k (aJ Tryz.f120 0) (tP l0 l1 b2 l3 l4 i5 i6))=(zA (aA cfg k) k)from(funext fun l0=>funext fun l1=>funext fun b2=>funext fun l3=>funext fun l4=>funext fun i5=>funext fun i6=>ih l0 l1 b2 l3 l4 i5 i6)]
theorem N3 (a0:List V) (a1:List V) (a2:List V) (a3:Bool) {r:V×List Ob} (h:Evt (fun k n=>Hf (aA cfg k) (zA (aA cfg k) n) a0 a1 a2 a3) r):Ret 120 [V.lst 5 false a0,V.lst 91 false a1,V.lst 9 false a2,V.bool a3] [] r:=aR (g:=fun k n=>Hf (aA cfg k) (zA (aA cfg k) n) a0 a1 a2 a3) (fun k=>N2 k a0 a1 a2 a3) h
theorem Hg (l0:List V) (l1:List V) (b2:Bool) (l3:List V) (l4:List V) (i5:Int) (i6:Int) {r:V×List Ob} (h:Evt (fun k n=>yG (aA cfg k) (zA (aA cfg k) n) l0 l1 b2 l3 l4 i5 i6) r):Evt (fun k n=>(zA (aA cfg k) n) l0 l1 b2 l3 l4 i5 i6) r:=bC (fun k n=>rfl) h
def Hh (call:FuncId→Fun) (a0:List V) (a1:List UInt8) (a2:Int) (a3:Int) (a4:Int):Option (V×List Ob):=
 Option.bind (call 161 [(V.lst 9 false a0),(V.clo (Fn.func 144) [] [(V.ref 0 0)])] [(Ob.cells [(V.str a1),(V.int .i64 a2),(V.int .i64 a3),(V.int .i64 a4)])]) fun z0=>
 some ((V.bool (decide ((getI z0.1)≥(0:Int)))),[(Ob.cells [(V.str (getS (headD (Ob.getC (headD z0.2 Ob.dead)) V.bot))),(V.int .i64 (getI (headD (tail (Ob.getC (headD z0.2 Ob.dead))) V.bot))),(V.int .i64 (getI (headD (tail (tail (Ob.getC (headD z0.2 Ob.dead)))) V.bot))),(V.int .i64 (getI (headD (tail (tail (tail (Ob.getC (headD z0.2 Ob.dead))))) V.bot)))])])
def Hi (a1:List UInt8) (a2:Int) (a3:Int) (a4:Int):List Ob:=[Ob.cells [V.str a1,V.int IntKind.i64 a2,V.int IntKind.i64 a3,V.int IntKind.i64 a4]]
def IL (a0:List V):List V:=[V.lst 9 false a0,V.clo (Fn.func 144) [] [V.ref 0 0]]
theorem N4 (a0:List V) (a1:List UInt8) (a2:Int) (a3:Int) (a4:Int):GO 143 Tryz.f143 (IL a0) (Hi a1 a2 a3 a4) call icall again=Hh call a0 a1 a2 a3 a4:=by kernel_rfl
theorem N5 (k:Nat) (a0:List V) (a1:List UInt8) (a2:Int) (a3:Int) (a4:Int):aA cfg (k+1) 143 (IL a0) (Hi a1 a2 a3 a4)=Hh (aA cfg k) a0 a1 a2 a3 a4:=
 (show aA cfg (k+1) 143 (IL a0) (Hi a1 a2 a3 a4)=GO 143 Tryz.f143 (IL a0) (Hi a1 a2 a3 a4) (aA cfg k) (aF cfg (aA cfg k) 20) (RN 143 Tryz.f143 (Hi a1 a2 a3 a4) (aA cfg k) (aF cfg (aA cfg k) 20) k)by kernel_rfl).trans (N4 _ _ _ a0 a1 a2 a3 a4)
theorem N6 (a0:List V) (a1:List UInt8) (a2:Int) (a3:Int) (a4:Int) {r:V×List Ob} (h:Evt (fun k n=>Hh (aA cfg k) a0 a1 a2 a3 a4) r):Ret 143 [V.lst 9 false a0,V.clo (Fn.func 144) [] [V.ref 0 0]] [Ob.cells [V.str a1,V.int IntKind.i64 a2,V.int IntKind.i64 a3,V.int IntKind.i64 a4]] r:=aR (g:=fun k n=>Hh (aA cfg k) a0 a1 a2 a3 a4) (fun k=>N5 k a0 a1 a2 a3 a4) h
def Hj (call:FuncId→Fun) (a0:List UInt8) (a1:List UInt8) (a2:Int) (a3:Int) (a4:Int):Option (V×List Ob):=
 Option.bind (call 69 [(V.str a1),(V.str a0)] []) fun z0=>
 some ((V.bool (getB z0.1)),[(Ob.cells [(V.str a1),(V.int .i64 a2),(V.int .i64 a3),(V.int .i64 a4)])])
def Hk (a1:List UInt8) (a2:Int) (a3:Int) (a4:Int):List Ob:=[Ob.cells [V.str a1,V.int IntKind.i64 a2,V.int IntKind.i64 a3,V.int IntKind.i64 a4]]
def IM (a0:List UInt8):List V:=[V.str a0,V.ref 0 0]
theorem N7 (a0:List UInt8) (a1:List UInt8) (a2:Int) (a3:Int) (a4:Int):GO 144 Tryz.f144 (IM a0) (Hk a1 a2 a3 a4) call icall again=Hj call a0 a1 a2 a3 a4:=by kernel_rfl
theorem N8 (k:Nat) (a0:List UInt8) (a1:List UInt8) (a2:Int) (a3:Int) (a4:Int):aA cfg (k+1) 144 (IM a0) (Hk a1 a2 a3 a4)=Hj (aA cfg k) a0 a1 a2 a3 a4:=
 (show aA cfg (k+1) 144 (IM a0) (Hk a1 a2 a3 a4)=GO 144 Tryz.f144 (IM a0) (Hk a1 a2 a3 a4) (aA cfg k) (aF cfg (aA cfg k) 20) (RN 144 Tryz.f144 (Hk a1 a2 a3 a4) (aA cfg k) (aF cfg (aA cfg k) 20) k)by kernel_rfl).trans (N7 _ _ _ a0 a1 a2 a3 a4)
theorem N9 (a0:List UInt8) (a1:List UInt8) (a2:Int) (a3:Int) (a4:Int) {r:V×List Ob} (h:Evt (fun k n=>Hj (aA cfg k) a0 a1 a2 a3 a4) r):Ret 144 [V.str a0,V.ref 0 0] [Ob.cells [V.str a1,V.int IntKind.i64 a2,V.int IntKind.i64 a3,V.int IntKind.i64 a4]] r:=aR (g:=fun k n=>Hj (aA cfg k) a0 a1 a2 a3 a4) (fun k=>N8 k a0 a1 a2 a3 a4) h
def yH (call:FuncId→Fun) (ag0:List V→Int→Int→List UInt8→Int→Int→Int→Option (V×List Ob)) (l0:List V) (i1:Int) (i2:Int) (s3:List UInt8) (i4:Int) (i5:Int) (i6:Int):Option (V×List Ob):=
 if(decide (i2<i1))=true then
 chk (decide (0≤i2)) (chk (decide (i2<((length l0:Nat):Int))) (Option.bind (call 144 [(V.str (getS (getD l0 (Int.toNat i2) V.bot))),(V.ref 0 0)] [(Ob.cells [(V.str s3),(V.int .i64 i4),(V.int .i64 i5),(V.int .i64 i6)])]) fun z0=>
 if(getB z0.1)=true then
 some ((V.int .i64 i2),[(Ob.cells [(V.str (getS (headD (Ob.getC (headD z0.2 Ob.dead)) V.bot))),(V.int .i64 (getI (headD (tail (Ob.getC (headD z0.2 Ob.dead))) V.bot))),(V.int .i64 (getI (headD (tail (tail (Ob.getC (headD z0.2 Ob.dead)))) V.bot))),(V.int .i64 (getI (headD (tail (tail (tail (Ob.getC (headD z0.2 Ob.dead))))) V.bot)))])])
 else
 (ag0 (l0) (i1) ((IntKind.wrap .i64 (i2+(1:Int)))) ((getS (headD (Ob.getC (headD z0.2 Ob.dead)) V.bot))) ((getI (headD (tail (Ob.getC (headD z0.2 Ob.dead))) V.bot))) ((getI (headD (tail (tail (Ob.getC (headD z0.2 Ob.dead)))) V.bot))) ((getI (headD (tail (tail (tail (Ob.getC (headD z0.2 Ob.dead))))) V.bot))))))
 else
 some ((V.int .i64 (-1:Int)),[(Ob.cells [(V.str s3),(V.int .i64 i4),(V.int .i64 i5),(V.int .i64 i6)])])
def Hl (call:FuncId→Fun) (ag0:List V→Int→Int→List UInt8→Int→Int→Int→Option (V×List Ob)) (a0:List V) (a1:List UInt8) (a2:Int) (a3:Int) (a4:Int):Option (V×List Ob):=
 (ag0 (a0) (((length a0:Nat):Int)) ((0:Int)) (a1) (a2) (a3) (a4))
def zB (a1:List UInt8) (a2:Int) (a3:Int) (a4:Int):List Ob:=[Ob.cells [V.str a1,V.int IntKind.i64 a2,V.int IntKind.i64 a3,V.int IntKind.i64 a4]]
def IN (a0:List V):List V:=[V.lst 9 false a0,V.clo (Fn.func 144) [] [V.ref 0 0]]
def tQ (l0:List V) (i1:Int) (i2:Int) (s3:List UInt8) (i4:Int) (i5:Int) (i6:Int):St:=⟨[(V.lst 9 false l0),(V.clo (Fn.func 144) [] [(V.ref 0 0)]),V.bot,V.bot,V.bot,V.bot,V.bot,(V.int IntKind.i64 i1),(V.int IntKind.i64 i2)]++List.replicate 10 V.bot,[(Ob.cells [(V.str s3),(V.int IntKind.i64 i4),(V.int IntKind.i64 i5),(V.int IntKind.i64 i6)])]⟩
theorem Kl (a1:List UInt8) (a2:Int) (a3:Int) (a4:Int) (l0:List V) (i1:Int) (i2:Int) (s3:List UInt8) (i4:Int) (i5:Int) (i6:Int):
 RM 161 Tryz.f161 (zB a1 a2 a3 a4) call icall again (aJ Tryz.f161 0) (tQ l0 i1 i2 s3 i4 i5 i6)=yH call (fun l0 i1 i2 s3 i4 i5 i6=>again (aJ Tryz.f161 0) (tQ l0 i1 i2 s3 i4 i5 i6)) l0 i1 i2 s3 i4 i5 i6:=by kernel_rfl
theorem Oa (a0:List V) (a1:List UInt8) (a2:Int) (a3:Int) (a4:Int):GO 161 Tryz.f161 (IN a0) (zB a1 a2 a3 a4) call icall again=Hl call (fun l0 i1 i2 s3 i4 i5 i6=>again (aJ Tryz.f161 0) (tQ l0 i1 i2 s3 i4 i5 i6)) a0 a1 a2 a3 a4:=by kernel_rfl
def zC (call:FuncId→Fun):Nat→(List V→Int→Int→List UInt8→Int→Int→Int→Option (V×List Ob))
 |0=>fun _ _ _ _ _ _ _=>none
 |n+1=>yH call (zC call n)
theorem Mj (call:FuncId→Fun) (icall:aQ (V×List Ob)) (a1:List UInt8) (a2:Int) (a3:Int) (a4:Int):∀n,(∀(l0:List V) (i1:Int) (i2:Int) (s3:List UInt8) (i4:Int) (i5:Int) (i6:Int),RN 161 Tryz.f161 (zB a1 a2 a3 a4) call icall n (aJ Tryz.f161 0) (tQ l0 i1 i2 s3 i4 i5 i6)=(zC call n) l0 i1 i2 s3 i4 i5 i6)
 |0=>fun l0 i1 i2 s3 i4 i5 i6=>rfl
 |n+1=>by
  have ih:=Mj call icall a1 a2 a3 a4 n
  exact fun l0 i1 i2 s3 i4 i5 i6=>(Kl call icall (RN 161 Tryz.f161 (zB a1 a2 a3 a4) call icall n) a1 a2 a3 a4 l0 i1 i2 s3 i4 i5 i6).trans (by rw[show(fun l0 i1 i2 s3 i4 i5 i6=>RN 161 Tryz.f161 (zB a1 a2 a3 a4) call icall n (aJ Tryz.f161 0) (tQ l0 i1 i2 s3 i4 i5 i6))=(zC call n)from(funext fun l0=>funext fun i1=>funext fun i2=>funext fun s3=>funext fun i4=>funext fun i5=>funext fun i6=>ih l0 i1 i2 s3 i4 i5 i6)];rfl)
theorem Oc (k:Nat) (a0:List V) (a1:List UInt8) (a2:Int) (a3:Int) (a4:Int):aA cfg (k+1) 161 (IN a0) (zB a1 a2 a3 a4)=Hl (aA cfg k) (zC (aA cfg k) k) a0 a1 a2 a3 a4:=by
 have ih:=Mj (aA cfg k) (aF cfg (aA cfg k) 20) a1 a2 a3 a4 k
 refine(show aA cfg (k+1) 161 (IN a0) (zB a1 a2 a3 a4)=GO 161 Tryz.f161 (IN a0) (zB a1 a2 a3 a4) (aA cfg k) (aF cfg (aA cfg k) 20) (RN 161 Tryz.f161 (zB a1 a2 a3 a4) (aA cfg k) (aF cfg (aA cfg k) 20) k)by kernel_rfl).trans ((Oa _ _ _ a0 a1 a2 a3 a4).trans ?_)
 rw[show(fun l0 i1 i2 s3 i4 i5 i6=>RN 161 Tryz.f161 (zB a1 a2 a3 a4) (aA cfg k) (aF cfg (aA cfg k) 20) k (aJ Tryz.f161 0) (tQ l0 i1 i2 s3 i4 i5 i6))=(zC (aA cfg k) k)from(funext fun l0=>funext fun i1=>funext fun i2=>funext fun s3=>funext fun i4=>funext fun i5=>funext fun i6=>ih l0 i1 i2 s3 i4 i5 i6)]
theorem Od (a0:List V) (a1:List UInt8) (a2:Int) (a3:Int) (a4:Int) {r:V×List Ob} (h:Evt (fun k n=>Hl (aA cfg k) (zC (aA cfg k) n) a0 a1 a2 a3 a4) r):Ret 161 [V.lst 9 false a0,V.clo (Fn.func 144) [] [V.ref 0 0]] [Ob.cells [V.str a1,V.int IntKind.i64 a2,V.int IntKind.i64 a3,V.int IntKind.i64 a4]] r:=aR (g:=fun k n=>Hl (aA cfg k) (zC (aA cfg k) n) a0 a1 a2 a3 a4) (fun k=>Oc k a0 a1 a2 a3 a4) h
theorem Hm (l0:List V) (i1:Int) (i2:Int) (s3:List UInt8) (i4:Int) (i5:Int) (i6:Int) {r:V×List Ob} (h:Evt (fun k n=>yH (aA cfg k) (zC (aA cfg k) n) l0 i1 i2 s3 i4 i5 i6) r):Evt (fun k n=>(zC (aA cfg k) n) l0 i1 i2 s3 i4 i5 i6) r:=bC (fun k n=>rfl) h
end Go.Proofs.YtdoaoaicdimbeaaGreatDoor
end
section
namespace Go.Proofs.YtdoaoaicdimbeaaGreatDoor
open Go.Ev Go
theorem Hn (b:Bs) (hb:b.length≤1000000000):Ret 75 [.lst 5 false (ofBytes b)] [] (.lst 5 false (ofBytes b),[]):=by
 refine iJ (h:=wS) (by kernel_rfl) ?_
 have h1:=kO b
 have h2:(ofBytes b).length<1099511627776:=by rw[aU];omega
 simp only[wS,h1,h2,decide_true,Bool.and_self,if_true]
def eO (b:Bs) (x y:Nat):Bs:=if x≤y∧y≤b.length then kN b x y else[]
theorem vB (b:Bs) (x y:Nat):List.drop x (List.take y (ofBytes b))=ofBytes (kN b x y):=by simp[ofBytes,kN,List.map_drop,List.map_take]
theorem mJ (b:Bs) (x y:Nat):(kN b x y).length≤b.length:=by unfold kN;rw[List.length_drop,List.length_take];omega
theorem lJ (b:Bs) (x y:Nat):(eO b x y).length≤b.length:=by
 unfold eO
 split
 ·exact mJ b x y
 ·simp
theorem CG (b:Bs) (hb:b.length≤1000000) (x y:Nat):Ret 82 [.lst 5 false (ofBytes b), .agg [.int .i64 (x:Nat), .int .i64 (y:Nat)]] [] (.lst 5 false (ofBytes (eO b x y)),[]):=by
 refine M82 (ofBytes b) (x:Nat) (y:Nat) ?_
 simp only[T82,aU]
 refine aD (Ef (x:Nat) (y:Nat) (b.length:Nat)) ?_
 simp only[bF]
 unfold eO
 by_cases h:x≤y∧y≤b.length
 ·have h1:(0:Int)≤(x:Nat)∧((x:Nat):Int)≤(y:Nat)∧((y:Nat):Int)≤(b.length:Nat):=by omega
  have h2:(0:Int)≤(y:Nat):=by omega
  have hl:=mJ b x y
  rw[if_pos h]
  simp only[decide_eq_true h1,Bool.not_true,Bool.false_eq_true,if_false,aI h2,aI h1.2.2,aI h1.1,aI h1.2.1,Int.toNat_natCast,vB]
  refine aD (Hn (kN b x y) (by omega)) ?_
  simp only[aY]
  exact aC _
 ·have h1:¬((0:Int)≤(x:Nat)∧((x:Nat):Int)≤(y:Nat)∧((y:Nat):Int)≤(b.length:Nat)):=by omega
  rw[if_neg h]
  simp only[decide_eq_false h1,Bool.not_false,if_true]
  exact aC _
theorem DO (n l:Int):Ret 117 [.int .i64 n, .int .i64 l] [] (.bool (decide (l≤n∧n≤4294967295)),[]):=by
 refine NT n l ?_
 simp only[Ha]
 refine cK (v:=decide (l≤n∧n≤4294967295)) ?_ (aC _)
 by_cases h1:l≤n
 ·by_cases h2:n≤4294967295<;>simp[h1,h2]
 ·have:¬(n≥l):=h1
  simp only[this,h1,decide_false,Bool.false_eq_true,if_false,false_and]
def prB (c:UInt8):Bool:=decide (32≤c.toNat∧c.toNat<127)
theorem Ej (s:Bs) (hs:s.length≤1000000):∀(m i:Nat),s.length - i=m→i≤s.length→
  Evt (fun k j=>yZ (aA cfg k) j s (s.length:Nat) (i:Nat)) (.bool ((s.drop i).all prB),[])
 |0,i,h,hi=>by
  refine Hd s (s.length:Nat) (i:Nat) ?_
  have h1:¬(((i:Nat):Int)<((s.length:Nat):Int)):=by omega
  rw[List.drop_eq_nil_of_le (by omega)]
  simp only[yF,h1,decide_false,Bool.false_eq_true,if_false]
  exact aC _
 |m+1,i,h,hi=>by
  have hlt:i<s.length:=by omega
  refine Hd s (s.length:Nat) (i:Nat) ?_
  have h1:(((i:Nat):Int)<((s.length:Nat):Int)):=by omega
  have h2:(0:Int)≤(i:Nat):=by omega
  have hw:IntKind.wrap .i64 (((i:Nat):Int)+1)=((i+1:Nat):Int):=by rw[wrap64 (by omega) (by omega)];omega
  rw[drop_at hlt,List.all_cons]
  simp only[yF,h1,decide_true,if_true,aI h2,cD,Int.toNat_natCast,getD_at hlt,hw]
  by_cases q1:((s[i].toNat:Nat):Int)<32
  ·have hp:prB s[i]=false:=by unfold prB;exact decide_eq_false (by omega)
   simp only[q1,decide_true,Bool.true_eq_false,if_false,cG,if_true,hp,Bool.false_and]
   exact aC _
  ·by_cases q2:((s[i].toNat:Nat):Int)≥127
   ·have hp:prB s[i]=false:=by unfold prB;exact decide_eq_false (by omega)
    simp only[q1,q2,decide_true,decide_false,if_true,cG,hp,Bool.false_and]
    exact aC _
   ·have hp:prB s[i]=true:=by unfold prB;exact decide_eq_true (by omega)
    simp only[q1,q2,decide_false,if_true,cG,Bool.false_eq_true,if_false,hp,Bool.true_and]
    exact Ej s hs m (i+1) (by omega) (by omega)
theorem Km (s:Bs) (hs:s.length≤1000000):Ret 118 [.str s] [] (.bool (s.all prB),[]):=by
 refine NW s ?_
 simp only[Hb]
 have:=Ej s hs s.length 0 (by omega) (by omega)
 rw[List.drop_zero]at this
 exact this
structure Sp where
 path:List Int
 what:Int
 names:List Bs
 cut:Bool
 fr:Int
 many:Int
def dN (n:Int):V:= .int .i64 n
def AB (s:Sp):V:= .agg [.lst 3 false (s.path.map dN), .int .i64 s.what, .lst 9 false (s.names.map V.str), .bool s.cut, .int .i64 s.fr, .int .i64 s.many]
def inB (l n:Int):Bool:=decide (l≤n∧n≤4294967295)
def checkF (s:Sp):Bool:=
 decide (s.path.length≤64∧0≤s.what∧s.what≤5∧(s.what=5→0<s.path.length))&&s.path.all (inB 1)&&s.names.all (fun n=>n.all prB)&&
 (if s.what=2∨s.what=3 then decide (1≤s.names.length∧s.names.length≤100)else decide (s.names.length=0))&&
 (if s.cut then inB 0 s.fr&&inB 1 s.many else decide (s.fr=0∧s.many=0))
theorem Kn (s:Sp):Ret 119 [AB s] [] (.bool (decide (s.what=2∨s.what=3)),[]):=by
 refine NZ (s.path.map dN) s.what (s.names.map V.str) s.cut s.fr s.many ?_
 simp only[He]
 refine cK (v:=decide (s.what=2∨s.what=3)) ?_ (aC _)
 by_cases h1:s.what=2
 ·simp[h1]
 ·by_cases h2:s.what=3
  ·simp[h2]
  ·simp[h1,h2]
theorem EY (s:Sp) (b0:Bool) (i:Int) (hi:i=(s.names.length:Nat)):
  Evt (fun k j=>(L80 (aA cfg k) j).2 b0 (s.names.map V.str) (s.names.length:Nat) i (s.path.map dN) s.what (s.names.map V.str) s.cut s.fr s.many)
   (.int .i64 (if b0&&(if s.what=2∨s.what=3 then decide (1≤s.names.length∧s.names.length≤100)else decide (s.names.length=0))&&(if s.cut then inB 0 s.fr&&inB 1 s.many else decide (s.fr=0∧s.many=0))then 0 else 1),[]):=by
 subst hi
 refine Ji b0 (s.names.map V.str) (s.names.length:Nat) (s.names.length:Nat) (s.path.map dN) s.what (s.names.map V.str) s.cut s.fr s.many ?_
 have h1:¬(((s.names.length:Nat):Int)<((s.names.length:Nat):Int)):=by omega
 simp only[CE,h1,decide_false,Bool.false_eq_true,if_false,List.length_map]
 refine aD (Kn s) ?_
 simp only[bF]
 have hfin:∀y:Bool,Evt (fun k j=>if s.cut=true then
    if y=true then
     Option.bind (aA cfg k 117 [(V.int .i64 s.fr),(V.int .i64 (0:Int))] []) fun z2=>
     if(V.getB z2.1)=true then
      Option.bind (aA cfg k 117 [(V.int .i64 s.many),(V.int .i64 (1:Int))] []) fun z3=>
      if(!(V.getB z3.1))=true then some ((V.int .i64 (1:Int)),[])else some ((V.int .i64 (0:Int)),[])
     else if(!false)=true then some ((V.int .i64 (1:Int)),[])else some ((V.int .i64 (0:Int)),[])
    else if(!false)=true then some ((V.int .i64 (1:Int)),[])else some ((V.int .i64 (0:Int)),[])
   else
    Option.bind (if y=true then if(s.fr==(0:Int))=true then some (s.many==(0:Int))else some false else some false) fun y2=>
    if(!y2)=true then some ((V.int .i64 (1:Int)),[])else some ((V.int .i64 (0:Int)),[]))
   (V.int .i64 (if y&&(if s.cut then inB 0 s.fr&&inB 1 s.many else decide (s.fr=0∧s.many=0))then 0 else 1),([]:List Ob)):=by
  intro y
  cases hc:s.cut with
  |true=>
   cases y with
   |true=>
    simp only[if_true]
    refine aD (DO s.fr 0) ?_
    simp only[bF]
    unfold inB
    by_cases k1:0≤s.fr∧s.fr≤4294967295
    ·simp only[decide_eq_true k1,if_true,Bool.true_and]
     refine aD (DO s.many 1) ?_
     simp only[bF]
     by_cases k2:1≤s.many∧s.many≤4294967295
     ·simp only[decide_eq_true k2,Bool.not_true,Bool.false_eq_true,if_false,if_true];exact aC _
     ·simp only[decide_eq_false k2,Bool.not_false,if_true,Bool.false_eq_true,if_false];exact aC _
    ·simp only[decide_eq_false k1,Bool.false_eq_true,if_false,Bool.not_false,if_true,Bool.false_and,Bool.and_false];exact aC _
   |false=>simp only[if_true,Bool.false_eq_true,if_false,Bool.not_false,Bool.false_and];exact aC _
  |false=>
   simp only[Bool.false_eq_true,if_false]
   refine cK (v:=y&&decide (s.fr=0∧s.many=0)) ?_ ?_
   ·cases y with
    |false=>simp
    |true=>
     by_cases k1:s.fr=0
     ·by_cases k2:s.many=0<;>simp[k1,k2]
     ·simp[k1]
   ·cases hy:(y&&decide (s.fr=0∧s.many=0))with
    |true=>simp only[Bool.not_true,Bool.false_eq_true,if_false,if_true];exact aC _
    |false=>simp only[Bool.not_false,if_true,Bool.false_eq_true,if_false];exact aC _
 by_cases hw:s.what=2∨s.what=3
 ·simp only[decide_eq_true hw,if_true,if_pos hw]
  refine cK (v:=b0&&decide (1≤s.names.length∧s.names.length≤100)) ?_ (hfin _)
  cases b0 with
  |false=>simp
  |true=>
   by_cases k1:1≤s.names.length
   ·have k1' :((s.names.length:Nat):Int)≥1:=by omega
    by_cases k2:s.names.length≤100
    ·have k2' :((s.names.length:Nat):Int)≤100:=by omega
     simp only[k1,k2,k1',k2',decide_true,if_true,and_self,Bool.and_self]
    ·have k2' :¬(((s.names.length:Nat):Int)≤100):=by omega
     simp only[k1,k2,k1',k2',decide_true,decide_false,if_true,and_false,Bool.and_false]
   ·have k1' :¬(((s.names.length:Nat):Int)≥1):=by omega
    simp only[k1,k1',decide_false,Bool.false_eq_true,if_false,if_true,false_and,Bool.and_false]
 ·simp only[decide_eq_false hw,Bool.false_eq_true,if_false,if_neg hw]
  refine cK (v:=b0&&decide (s.names.length=0)) ?_ (hfin _)
  cases b0 with
  |false=>simp
  |true=>
   have:(((s.names.length:Nat):Int)==(0:Int))=decide (s.names.length=0):=by
    by_cases k:s.names.length=0
    ·rw[k];rfl
    ·have:¬(((s.names.length:Nat):Int)=0):=by omega
     simp only[k,decide_false,beq_eq_false_iff_ne,ne_eq,this,not_false_eq_true]
   simp only[this,if_true,Bool.true_and]
theorem yI (s:Sp) (hn:s.names.length≤1000000) (hv:∀n∈s.names,n.length≤1000000):∀(m i:Nat) (b0:Bool),s.names.length - i=m→i≤s.names.length→
  Evt (fun k j=>(L80 (aA cfg k) j).2 b0 (s.names.map V.str) (s.names.length:Nat) (i:Nat) (s.path.map dN) s.what (s.names.map V.str) s.cut s.fr s.many)
   (.int .i64 (if b0&&(s.names.drop i).all (fun n=>n.all prB)&&(if s.what=2∨s.what=3 then decide (1≤s.names.length∧s.names.length≤100)else decide (s.names.length=0))&&(if s.cut then inB 0 s.fr&&inB 1 s.many else decide (s.fr=0∧s.many=0))then 0 else 1),[])
 |0,i,b0,h,hi=>by
  rw[List.drop_eq_nil_of_le (by omega),List.all_nil,Bool.and_true]
  exact EY s b0 (i:Nat) (by omega)
 |m+1,i,b0,h,hi=>by
  have hlt:i<s.names.length:=by omega
  refine Ji b0 (s.names.map V.str) (s.names.length:Nat) (i:Nat) (s.path.map dN) s.what (s.names.map V.str) s.cut s.fr s.many ?_
  have h1:(((i:Nat):Int)<((s.names.length:Nat):Int)):=by omega
  have h2:(0:Int)≤(i:Nat):=by omega
  have hw:IntKind.wrap .i64 (((i:Nat):Int)+1)=((i+1:Nat):Int):=by rw[wrap64 (by omega) (by omega)];omega
  have hg:(s.names.map V.str).getD i .bot= .str s.names[i]:=by simp[List.getD,hlt]
  have hd:s.names.drop i=s.names[i]::s.names.drop (i+1):=List.drop_eq_getElem_cons hlt
  rw[hd,List.all_cons]
  simp only[CE,h1,decide_true,if_true,aI h2,List.length_map,cD,Int.toNat_natCast,hg,gG,hw]
  cases b0 with
  |true=>
   simp only[if_true]
   refine aD (Km s.names[i] (hv _ (List.getElem_mem hlt))) ?_
   simp only[bF]
   have:=yI s hn hv m (i+1) (s.names[i].all prB) (by omega) (by omega)
   rw[Bool.true_and]
   exact this
  |false=>
   simp only[Bool.false_eq_true,if_false]
   have:=yI s hn hv m (i+1) false (by omega) (by omega)
   simpa only[Bool.false_and]using this
theorem yJ (s:Sp) (hn:s.names.length≤1000000) (hv:∀n∈s.names,n.length≤1000000) (hp:s.path.length≤1000000):∀(m i:Nat) (b0:Bool),s.path.length - i=m→i≤s.path.length→
  Evt (fun k j=>(L80 (aA cfg k) j).1 b0 (s.path.map dN) (s.path.length:Nat) (i:Nat) (s.path.map dN) s.what (s.names.map V.str) s.cut s.fr s.many)
   (.int .i64 (if b0&&(s.path.drop i).all (inB 1)&&s.names.all (fun n=>n.all prB)&&(if s.what=2∨s.what=3 then decide (1≤s.names.length∧s.names.length≤100)else decide (s.names.length=0))&&(if s.cut then inB 0 s.fr&&inB 1 s.many else decide (s.fr=0∧s.many=0))then 0 else 1),[])
 |0,i,b0,h,hi=>by
  refine Jh b0 (s.path.map dN) (s.path.length:Nat) (i:Nat) (s.path.map dN) s.what (s.names.map V.str) s.cut s.fr s.many ?_
  have h1:¬(((i:Nat):Int)<((s.path.length:Nat):Int)):=by omega
  rw[List.drop_eq_nil_of_le (by omega),List.all_nil,Bool.and_true]
  simp only[CC,h1,decide_false,Bool.false_eq_true,if_false,List.length_map]
  exact yI s hn hv s.names.length 0 b0 (by omega) (by omega)
 |m+1,i,b0,h,hi=>by
  have hlt:i<s.path.length:=by omega
  refine Jh b0 (s.path.map dN) (s.path.length:Nat) (i:Nat) (s.path.map dN) s.what (s.names.map V.str) s.cut s.fr s.many ?_
  have h1:(((i:Nat):Int)<((s.path.length:Nat):Int)):=by omega
  have h2:(0:Int)≤(i:Nat):=by omega
  have hw:IntKind.wrap .i64 (((i:Nat):Int)+1)=((i+1:Nat):Int):=by rw[wrap64 (by omega) (by omega)];omega
  have hg:(s.path.map dN).getD i .bot= .int .i64 s.path[i]:=by simp[List.getD,hlt,dN]
  have hd:s.path.drop i=s.path[i]::s.path.drop (i+1):=List.drop_eq_getElem_cons hlt
  rw[hd,List.all_cons]
  simp only[CC,h1,decide_true,if_true,aI h2,List.length_map,cD,Int.toNat_natCast,hg,bT,hw]
  cases b0 with
  |true=>
   simp only[if_true]
   refine aD (DO s.path[i] 1) ?_
   simp only[bF]
   have:=yJ s hn hv hp m (i+1) (inB 1 s.path[i]) (by omega) (by omega)
   rw[Bool.true_and]
   exact this
  |false=>
   simp only[Bool.false_eq_true,if_false]
   have:=yJ s hn hv hp m (i+1) false (by omega) (by omega)
   simpa only[Bool.false_and]using this
theorem Mk (s:Sp) (hn:s.names.length≤1000000) (hv:∀n∈s.names,n.length≤1000000) (hp:s.path.length≤1000000):Ret 80 [AB s] [] (.int .i64 (if checkF s then 0 else 1),[]):=by
 refine M80 (s.path.map dN) s.what (s.names.map V.str) s.cut s.fr s.many ?_
 simp only[T80,List.length_map]
 refine cK (v:=decide (s.path.length≤64∧0≤s.what∧s.what≤5∧(s.what=5→0<s.path.length))) ?_ ?_
 ·by_cases k1:s.path.length≤64
  ·have k1' :((s.path.length:Nat):Int)≤64:=by omega
   by_cases k2:0≤s.what
   ·have k2' :s.what≥0:=k2
    by_cases k3:s.what≤5
    ·by_cases k4:s.what=5
     ·have k5:decide (((s.path.length:Nat):Int)>0)=decide (0<s.path.length):=by
       by_cases k:0<s.path.length
       ·have:((s.path.length:Nat):Int)>0:=by omega
        simp only[k,this,decide_true]
       ·have:¬(((s.path.length:Nat):Int)>0):=by omega
        simp only[k,this,decide_false]
      simp[k1,k1',k4,k5]
     ·have k4' :(s.what != 5)=true:=by simp[k4]
      simp[k1,k1',k2,k2',k3,k4,k4']
    ·simp[k1,k1',k2,k2',k3]
   ·have k2' :¬(s.what≥0):=k2
    simp[k1,k1',k2,k2']
  ·have k1' :¬(((s.path.length:Nat):Int)≤64):=by omega
   simp only[k1,k1',decide_false,Bool.false_eq_true,if_false,false_and]
 ·have:=yJ s hn hv hp s.path.length 0 (decide (s.path.length≤64∧0≤s.what∧s.what≤5∧(s.what=5→0<s.path.length))) (by omega) (by omega)
  rw[List.drop_zero]at this
  exact this
end Go.Proofs.YtdoaoaicdimbeaaGreatDoor
end
section
namespace Go.Proofs.YtdoaoaicdimbeaaGreatDoor
open Go.Ev Go
def DR (names:List Bs) (x:Bs):Bool:=names.any fun n=>low x==low n
def DT (x:Bs):List Bs→Option Nat
 |[]=>none
 |n::r=>if low x==low n then some 0 else(DT x r).map (· +1)
theorem CH (x:Bs):∀l:List Bs,decide (kP (DT x l)≥0)=DR l x
 |[]=>rfl
 |n::r=>by
  have ih:=CH x r
  unfold DR at ih ⊢
  rw[DT,List.any_cons]
  cases h:(low x==low n)with
  |true=>simp[kP]
  |false=>
   simp only[Bool.false_eq_true,if_false,Bool.false_or]
   rw[←ih]
   cases DT x r with
   |none=>rfl
   |some k=>simp only[Option.map_some,kP];simp;omega
theorem Ko (n x:Bs) (p q r:Int) (hn:n.length≤1000000) (hx:x.length≤1000000):
  Ret 144 [.str n, .ref 0 0] [.cells [.str x, .int .i64 p, .int .i64 q, .int .i64 r]] (.bool (low x==low n),[.cells [.str x, .int .i64 p, .int .i64 q, .int .i64 r]]):=by
 refine N9 n x p q r ?_
 simp only[Hj]
 refine aD (Gx x n (by omega) (by omega)) ?_
 exact aC _
theorem Ek (x:Bs) (hx:x.length≤1000000) (p q r:Int) (l:List Bs) (hl:l.length≤1000000) (hv:∀n∈l,n.length≤1000000):∀(m i:Nat),l.length - i=m→i≤l.length→
  Evt (fun k j=>zC (aA cfg k) j (l.map V.str) (l.length:Nat) (i:Nat) x p q r) (.int .i64 (kP ((DT x (l.drop i)).map (· +i))),[.cells [.str x, .int .i64 p, .int .i64 q, .int .i64 r]])
 |0,i,h,hi=>by
  refine Hm (l.map V.str) (l.length:Nat) (i:Nat) x p q r ?_
  have h1:¬(((i:Nat):Int)<((l.length:Nat):Int)):=by omega
  rw[List.drop_eq_nil_of_le (by omega)]
  simp only[yH,h1,decide_false,Bool.false_eq_true,if_false]
  exact aC _
 |m+1,i,h,hi=>by
  have hlt:i<l.length:=by omega
  refine Hm (l.map V.str) (l.length:Nat) (i:Nat) x p q r ?_
  have h1:(((i:Nat):Int)<((l.length:Nat):Int)):=by omega
  have h2:(0:Int)≤(i:Nat):=by omega
  have hw:IntKind.wrap .i64 (((i:Nat):Int)+1)=((i+1:Nat):Int):=by rw[wrap64 (by omega) (by omega)];omega
  have hg:(l.map V.str).getD i .bot= .str l[i]:=by simp[List.getD,hlt]
  have hd:l.drop i=l[i]::l.drop (i+1):=List.drop_eq_getElem_cons hlt
  rw[hd,DT]
  simp only[yH,h1,decide_true,if_true,aI h2,List.length_map,cD,Int.toNat_natCast,hg,gG,hw]
  refine aD (Ko l[i] x p q r (hv _ (List.getElem_mem hlt)) hx) ?_
  simp only[bF,Ob.getC,List.headD_cons,List.tail_cons,gG,bT]
  cases hs:(low x==low l[i])with
  |true=>
   simp only[if_true,Option.map_some,Nat.zero_add,kP]
   exact aC _
  |false=>
   simp only[Bool.false_eq_true,if_false]
   have:=Ek x hx p q r l hl hv m (i+1) (by omega) (by omega)
   rw[Option.map_map]
   have he:((fun y:Nat=>y+i) ∘ fun y=>y+1)=fun y=>y+(i+1):=by funext y;simp only[Function.comp];omega
   rw[he]
   exact this
theorem Kp (x:Bs) (hx:x.length≤1000000) (p q r:Int) (l:List Bs) (hl:l.length≤1000000) (hv:∀n∈l,n.length≤1000000):
  Ret 143 [.lst 9 false (l.map V.str), .clo (Fn.func 144) [] [.ref 0 0]] [.cells [.str x, .int .i64 p, .int .i64 q, .int .i64 r]] (.bool (DR l x),[.cells [.str x, .int .i64 p, .int .i64 q, .int .i64 r]]):=by
 refine N6 (l.map V.str) x p q r ?_
 simp only[Hh]
 have h109:Ret 161 [.lst 9 false (l.map V.str), .clo (Fn.func 144) [] [.ref 0 0]] [.cells [.str x, .int .i64 p, .int .i64 q, .int .i64 r]] (.int .i64 (kP (DT x l)),[.cells [.str x, .int .i64 p, .int .i64 q, .int .i64 r]]):=by
  refine Od (l.map V.str) x p q r ?_
  simp only[Hl,List.length_map]
  have:=Ek x hx p q r l hl hv l.length 0 (by omega) (by omega)
  simpa using this
 refine aD h109 ?_
 simp only[bT,Ob.getC,List.headD_cons,List.tail_cons,gG]
 rw[←CH x l]
 exact aC _
def stepS (b:Bs) (names:List Bs) (but:Bool) (out:Bs) (f:Fd):Bs:=
 if DR names f.1=but then out else if f.2.1≤f.2.2.2∧f.2.2.2≤b.length then
  out++kN b f.2.1 f.2.2.2++(if f.2.2.2=f.2.1∨b.getD (f.2.2.2 - 1) 0≠10 then[13,10]else[])
 else out
def CJ (b:Bs) (l:List Fd) (names:List Bs) (but:Bool):Bs:=l.foldl (stepS b names but) []++[13,10]
theorem AC (b:Bs) (names:List Bs) (but:Bool) (out:Bs) (f:Fd):(stepS b names but out f).length≤out.length+b.length+2:=by
 have:=mJ b f.2.1 f.2.2.2
 unfold stepS
 split
 ·omega
 ·split
  ·split
   ·simp only[List.length_append,List.length_cons,List.length_nil];omega
   ·simp only[List.length_append,List.length_nil];omega
  ·omega
theorem El (b:Bs) (hb:b.length≤100000) (names:List Bs) (hn:names.length≤1000000) (hv:∀n∈names,n.length≤1000000) (but:Bool) (l:List Fd) (hl:l.length≤100000) (hf:∀f∈l,f.1.length≤1000000∧f.2.2.2≤1000000):∀(m i:Nat) (out:Bs),l.length - i=m→i≤l.length→out.length≤i*100002→
  Evt (fun k j=>zA (aA cfg k) j (ofBytes b) (names.map V.str) but (ofBytes out) (l.map fdV) (l.length:Nat) (i:Nat)) (.lst 5 false (ofBytes ((l.drop i).foldl (stepS b names but) out++[13,10])),[])
 |0,i,out,h,hi,ho=>by
  refine Hg (ofBytes b) (names.map V.str) but (ofBytes out) (l.map fdV) (l.length:Nat) (i:Nat) ?_
  have h1:¬(((i:Nat):Int)<((l.length:Nat):Int)):=by omega
  have hm:i*100002≤100000*100002:=Nat.mul_le_mul_right _ (by omega)
  have c1:fE (ofBytes out) [13,10] 2=true:=by
   have:(out.length+2)*2≤70368744177664:=by omega
   simp only[fE,aU,List.length_cons,List.length_nil]
   exact decide_eq_true this
  rw[List.drop_eq_nil_of_le (by omega),List.foldl_nil]
  simp only[yG,h1,decide_false,Bool.false_eq_true,if_false,eL c1,nW]
  exact aC _
 |m+1,i,out,h,hi,ho=>by
  have hlt:i<l.length:=by omega
  refine Hg (ofBytes b) (names.map V.str) but (ofBytes out) (l.map fdV) (l.length:Nat) (i:Nat) ?_
  have h1:(((i:Nat):Int)<((l.length:Nat):Int)):=by omega
  have h2:(0:Int)≤(i:Nat):=by omega
  have hw:IntKind.wrap .i64 (((i:Nat):Int)+1)=((i+1:Nat):Int):=by rw[wrap64 (by omega) (by omega)];omega
  have hm:i*100002≤100000*100002:=Nat.mul_le_mul_right _ (by omega)
  have hd:l.drop i=l[i]::l.drop (i+1):=List.drop_eq_getElem_cons hlt
  have hg:=uZ hlt
  obtain⟨f1,f4⟩:=hf _ (List.getElem_mem hlt)
  have hsl:=AC b names but out l[i]
  have hnext:=El b hb names hn hv but l hl hf m (i+1) (stepS b names but out l[i]) (by omega) (by omega) (by omega)
  rw[hd,List.foldl_cons]
  generalize l[i]=f at*
  obtain⟨x,p,q,r⟩:=f
  simp only at f1 f4
  simp only[yG,h1,decide_true,if_true,aI h2,List.length_map,cD,Int.toNat_natCast,hg,fdV,Ay,List.headD_cons,List.tail_cons,gG,bT,hw,aU]
  refine aD (Kp x f1 (p:Nat) (q:Nat) (r:Nat) names hn hv) ?_
  dsimp+instances only[bF,Ob.getC,List.headD_cons,List.tail_cons,bT]
  by_cases hin:DR names x=but
  ·have e1:(DR names x==but)=true:=by simp[hin]
   have e2:stepS b names but out (x,p,q,r)=out:=by unfold stepS;rw[if_pos hin]
   simp only[e1,Bool.true_eq_false,if_false]
   rw[e2]at hnext ⊢
   exact hnext
  ·have e1:(DR names x==but)=false:=by simp[hin]
   simp only[e1,if_true]
   refine aD (Ef (p:Nat) (r:Nat) (b.length:Nat)) ?_
   simp only[bF]
   by_cases hwi:p≤r∧r≤b.length
   ·have k1:(0:Int)≤(p:Nat)∧((p:Nat):Int)≤(r:Nat)∧((r:Nat):Int)≤(b.length:Nat):=by omega
    have k2:(0:Int)≤(r:Nat):=by omega
    have c1:cZ (ofBytes out) (ofBytes (kN b p r)) 2=true:=mC (by have:=mJ b p r;rw[aU,aU];omega)
    have c2:fE (ofBytes (out++kN b p r)) [13,10] 2=true:=by
     have hs:=mJ b p r
     have:((out++kN b p r).length+2)*2≤70368744177664:=by rw[List.length_append];omega
     simp only[fE,aU,List.length_cons,List.length_nil]
     exact decide_eq_true this
    simp only[decide_eq_true k1,Bool.not_true,Bool.false_eq_true,if_false,aI k2,aI k1.2.2,aI k1.1,aI k1.2.1,Int.toNat_natCast,vB,eL c1,nW]
    refine cK (v:=decide (r=p∨b.getD (r - 1) 0≠10)) ?_ ?_
    ·by_cases hrp:r=p
     ·subst hrp;simp
     ·have g1:(((r:Nat):Int)==((p:Nat):Int))=false:=by
       have:¬(((r:Nat):Int)=((p:Nat):Int)):=by omega
       simpa using this
      obtain⟨z,rfl⟩:∃z,r=z+1:=⟨r - 1,by omega⟩
      have hwz:IntKind.wrap .i64 (((z+1:Nat):Int) - 1)=((z:Nat):Int):=by rw[wrap64 (by omega) (by omega)];omega
      have hzl:z<b.length:=by omega
      have g2:(0:Int)≤(z:Nat):=by omega
      have g3:((z:Nat):Int)<((b.length:Nat):Int):=by omega
      have g4:(((b[z].toNat:Nat):Int) != (10:Int))=decide (b[z]≠10):=by
       by_cases hc:b[z]=10
       ·rw[hc];rfl
       ·have:¬(((b[z].toNat:Nat):Int)=10):=fun e=>hc (UInt8.toNat_inj.1 (show b[z].toNat=10 by omega))
        simp[hc,this]
      simp only[g1,if_true,hwz,aI g2,aI g3,Int.toNat_natCast,IG hzl,bT,g4,hrp,false_or,Nat.add_sub_cancel,getD_at hzl]
    ·have e2:stepS b names but out (x,p,q,r)=out++kN b p r++(if r=p∨b.getD (r - 1) 0≠10 then[13,10]else[]):=by
      unfold stepS;rw[if_neg hin,if_pos hwi]
     by_cases hnl:r=p∨b.getD (r - 1) 0≠10
     ·rw[e2,if_pos hnl]at hnext ⊢
      simp only[decide_eq_true hnl,if_true,eL c2]
      exact hnext
     ·rw[e2,if_neg hnl,List.append_nil]at hnext ⊢
      simp only[decide_eq_false hnl,Bool.false_eq_true,if_false]
      exact hnext
   ·have k1:¬((0:Int)≤(p:Nat)∧((p:Nat):Int)≤(r:Nat)∧((r:Nat):Int)≤(b.length:Nat)):=by omega
    have e2:stepS b names but out (x,p,q,r)=out:=by unfold stepS;rw[if_neg hin,if_neg hwi]
    simp only[decide_eq_false k1,Bool.not_false,if_true]
    rw[e2]at hnext ⊢
    exact hnext
theorem Ho (b:Bs) (hb:b.length≤100000) (names:List Bs) (hn:names.length≤1000000) (hv:∀n∈names,n.length≤1000000) (but:Bool) (l:List Fd) (hl:l.length≤100000) (hf:∀f∈l,f.1.length≤1000000∧f.2.2.2≤1000000):
  Ret 120 [.lst 5 false (ofBytes b), .lst 91 false (l.map fdV), .lst 9 false (names.map V.str), .bool but] [] (.lst 5 false (ofBytes (CJ b l names but)),[]):=by
 refine N3 (ofBytes b) (l.map fdV) (names.map V.str) but ?_
 simp only[Hf,List.length_map]
 have:=El b hb names hn hv but l hl hf l.length 0 [] (by omega) (by omega) (by simp)
 rw[List.drop_zero]at this
 exact this
end Go.Proofs.YtdoaoaicdimbeaaGreatDoor
end
section
namespace Go.Proofs.YtdoaoaicdimbeaaGreatDoor
open Go.Ev Go
def eU (p:Pt) (n:Int):Option Pt:=if p.kd=1 then(if n<1∨(p.ks.length:Int)<n then none else some (p.ks.getD (n.toNat - 1) iV))else if n=1 then some p else none
def AD (o:Option Pt):V:= .tup [partV (o.getD iV), .bool o.isSome]
theorem told_none:AD none= .tup [.agg [.int .i64 0, .int .i64 0, .int .i64 0, .int .i64 0, .int .i64 0, .lst 36 false [], .lst 32 false [], .int .i64 0, .int .i64 0], .bool false]:=by
 unfold AD iV
 rw[show(none:Option Pt).getD (iU 0 0 0)=iU 0 0 0 from rfl,GZ];rfl
theorem fR (p:Pt):AD (some p)= .tup [partV p, .bool true]:=rfl
theorem Hp (p:Pt) (hc:cntF p≤1000000) (n:Int):Ret 76 [partV p, .int .i64 n] [] (AD (eU p n),[]):=by
 have hkl:=yB p.ks
 have hk:=Bm p
 rw[←cC p]
 refine M76 (p.kd:Nat) (p.hd.1:Nat) (p.hd.2:Nat) (p.bd.1:Nat) (p.bd.2:Nat) (p.ks.map partV) (p.cs.map cutV) (p.en.1:Nat) (p.en.2:Nat) n ?_
 simp only[T76,List.length_map]
 unfold eU
 by_cases hk1:p.kd=1
 ·have g1:(((p.kd:Nat):Int)==(1:Int))=true:=by rw[hk1];rfl
  rw[if_pos hk1]
  simp only[g1,if_true]
  by_cases hn:n<1∨(p.ks.length:Int)<n
  ·rw[if_pos hn,told_none]
   refine cK (v:=true) ?_ ?_
   ·by_cases h1:n<1
    ·simp[h1]
    ·have h2:n>((p.ks.length:Nat):Int):=by omega
     simp[h1,h2]
   ·simp only[if_true];exact aC _
  ·rw[if_neg hn]
   have e1:¬(n<1):=by omega
   have e2:¬(n>((p.ks.length:Nat):Int)):=by omega
   obtain⟨N,rfl⟩:∃N:Nat,n=((N+1:Nat):Int):=⟨n.toNat - 1,by omega⟩
   have hlt:N<p.ks.length:=by omega
   have hw:IntKind.wrap .i64 (((N+1:Nat):Int) - 1)=((N:Nat):Int):=by rw[wrap64 (by omega) (by omega)];omega
   have h2:(0:Int)≤(N:Nat):=by omega
   have h3:((N:Nat):Int)<((p.ks.length:Nat):Int):=by omega
   refine cK (v:=false) ?_ ?_
   ·simp only[e1,e2,decide_false,if_true]
   ·simp only[Bool.false_eq_true,if_false,hw,aI h2,aI h3,Int.toNat_natCast,vA hlt,iN,Nat.add_sub_cancel,fR]
    exact aC _
 ·have g1:(((p.kd:Nat):Int)==(1:Int))=false:=by
   have:¬(((p.kd:Nat):Int)=1):=by omega
   simpa using this
  rw[if_neg hk1]
  simp only[g1,Bool.false_eq_true,if_false,cC]
  by_cases hn:n=1
  ·have g2:(n==(1:Int))=true:=by simp[hn]
   rw[if_pos hn,fR]
   simp only[g2,if_true]
   exact aC _
  ·have g2:(n==(1:Int))=false:=by simp[hn]
   rw[if_neg hn,told_none]
   simp only[g2,Bool.false_eq_true,if_false]
   exact aC _
def rL (p:Pt):Option Pt:=if p.kd=2∧0<p.ks.length then some (p.ks.getD 0 iV)else if p.kd=1 then some p else none
def CL:Pt→List Int→Option Pt
 |p,[]=>some p
 |p,n::r=>match rL p with
  |none=>none
  |some q=>match eU q n with
   |none=>none
   |some q' =>CL q' r
def uN (p:Pt):List Int→Option Pt
 |[]=>none
 |n::r=>match eU p n with
  |none=>none
  |some q=>CL q r
theorem tR {p q:Pt} {n:Int} (h:eU p n=some q):cntF q≤cntF p:=by
 unfold eU at h
 split at h
 ·split at h
  ·cases h
  ·rename_i hn
   cases h
   have:=Bl (getD_mem (l:=p.ks) (i:=n.toNat - 1) (by omega))
   rw[Bm p];omega
 ·split at h
  ·cases h;omega
  ·cases h
theorem Hq {p q:Pt} (h:rL p=some q):cntF q≤cntF p:=by
 unfold rL at h
 split at h
 ·rename_i hk
  cases h
  have:=Bl (getD_mem (l:=p.ks) (i:=0) hk.2)
  rw[Bm p];omega
 ·split at h
  ·cases h;omega
  ·cases h
noncomputable def LA (call:FuncId→Go.Ev.Fun) (j:Nat) (is:Bool) (path:List Int) (i:Int) (p:Pt):Option (V×List Ob):=
 L38 call j is (path.map dN) (path.length:Nat) i (p.kd:Nat) (p.hd.1:Nat) (p.hd.2:Nat) (p.bd.1:Nat) (p.bd.2:Nat) (p.ks.map partV) (p.cs.map cutV) (p.en.1:Nat) (p.en.2:Nat) 0 0 0 0 0 [] [] 0 0
theorem EZ {l:List Int} {i:Nat} (h:i<l.length):(l.map dN).getD i .bot= .int .i64 l[i]:=by simp[List.getD,h,dN]
theorem DU (path:List Int) (hpl:path.length≤1000000):∀(m i:Nat) (p:Pt),path.length - i=m→i≤path.length→0<i→cntF p≤1000000→
  Evt (fun k j=>LA (aA cfg k) j true path (i:Nat) p) (AD (CL p (path.drop i)),[])
 |0,i,p,h,hi,h0,hc=>by
  refine G9 true (path.map dN) (path.length:Nat) (i:Nat) (p.kd:Nat) (p.hd.1:Nat) (p.hd.2:Nat) (p.bd.1:Nat) (p.bd.2:Nat) (p.ks.map partV) (p.cs.map cutV) (p.en.1:Nat) (p.en.2:Nat) 0 0 0 0 0 [] [] 0 0 ?_
  have h1:¬(((i:Nat):Int)<((path.length:Nat):Int)):=by omega
  rw[List.drop_eq_nil_of_le (by omega),CL,fR]
  simp only[yE,h1,decide_false,Bool.false_eq_true,if_false,Bool.not_true,cC]
  exact aC _
 |m+1,i,p,h,hi,h0,hc=>by
  have hlt:i<path.length:=by omega
  refine G9 true (path.map dN) (path.length:Nat) (i:Nat) (p.kd:Nat) (p.hd.1:Nat) (p.hd.2:Nat) (p.bd.1:Nat) (p.bd.2:Nat) (p.ks.map partV) (p.cs.map cutV) (p.en.1:Nat) (p.en.2:Nat) 0 0 0 0 0 [] [] 0 0 ?_
  have h1:(((i:Nat):Int)<((path.length:Nat):Int)):=by omega
  have h2:(0:Int)≤(i:Nat):=by omega
  have h3:((i:Nat):Int)>0:=by omega
  have hw:IntKind.wrap .i64 (((i:Nat):Int)+1)=((i+1:Nat):Int):=by rw[wrap64 (by omega) (by omega)];omega
  have hd:path.drop i=path[i]::path.drop (i+1):=List.drop_eq_getElem_cons hlt
  rw[hd,CL]
  simp only[yE,h1,decide_true,if_true,aI h2,List.length_map,cD,h3,Int.toNat_natCast,EZ hlt,bT,hw,cC]
  by_cases hk:p.kd=2∧0<p.ks.length
  ·have g1:(((p.kd:Nat):Int)==(2:Int))=true:=by rw[hk.1];rfl
   have g2:((p.ks.length:Nat):Int)>0:=by omega
   have g3:(0:Int)<((p.ks.length:Nat):Int):=by omega
   have hs:rL p=some (p.ks.getD 0 iV):=by unfold rL;rw[if_pos hk]
   have hsc:=Hq hs
   refine cK (v:=true) (by simp only[g1,g2,if_true,decide_true]) ?_
   simp only[if_true,aI (Int.le_refl 0),aI g3,Int.toNat_zero,vA hk.2,iN,hs]
   refine aD (Hp (p.ks.getD 0 iV) (by omega) path[i]) ?_
   cases hbl:eU (p.ks.getD 0 iV) path[i]with
   |none=>
    simp only[told_none,bZ,List.headD_cons,List.tail_cons,bF,Bool.not_false,if_true]
    exact aC _
   |some q=>
    have hqc:=tR hbl
    simp only[fR,bZ,List.headD_cons,List.tail_cons,bF,Bool.not_true,Bool.false_eq_true,if_false,hD,bT,aY]
    exact DU path hpl m (i+1) q (by omega) (by omega) (by omega) (by omega)
  ·refine cK (v:=false) ?_ ?_
   ·by_cases g:p.kd=2
    ·have g1:(((p.kd:Nat):Int)==(2:Int))=true:=by rw[g];rfl
     have g2:¬(((p.ks.length:Nat):Int)>0):=by omega
     simp only[g1,g2,if_true,decide_false]
    ·have g1:(((p.kd:Nat):Int)==(2:Int))=false:=by
      have:¬(((p.kd:Nat):Int)=2):=by omega
      simpa using this
     simp only[g1,Bool.false_eq_true,if_false]
   ·simp only[Bool.false_eq_true,if_false]
    by_cases hk1:p.kd=1
    ·have g1:(((p.kd:Nat):Int) != (1:Int))=false:=by rw[hk1];rfl
     have hs:rL p=some p:=by unfold rL;rw[if_neg hk,if_pos hk1]
     simp only[g1,Bool.false_eq_true,if_false,hs]
     refine aD (Hp p hc path[i]) ?_
     cases hbl:eU p path[i]with
     |none=>
      simp only[told_none,bZ,List.headD_cons,List.tail_cons,bF,Bool.not_false,if_true]
      exact aC _
     |some q=>
      have hqc:=tR hbl
      simp only[fR,bZ,List.headD_cons,List.tail_cons,bF,Bool.not_true,Bool.false_eq_true,if_false,hD,bT,aY]
      exact DU path hpl m (i+1) q (by omega) (by omega) (by omega) (by omega)
    ·have g1:(((p.kd:Nat):Int) != (1:Int))=true:=by
      have:¬(((p.kd:Nat):Int)=1):=by omega
      simpa using this
     have hs:rL p=none:=by unfold rL;rw[if_neg hk,if_neg hk1]
     simp only[g1,if_true,Bool.not_false,hs,told_none]
     exact aC _
theorem Jj (p:Pt) (hc:cntF p≤1000000) (path:List Int) (hpl:path.length≤1000000):Ret 38 [partV p, .lst 3 false (path.map dN)] [] (AD (uN p path),[]):=by
 rw[←cC p]
 refine M38 (p.kd:Nat) (p.hd.1:Nat) (p.hd.2:Nat) (p.bd.1:Nat) (p.bd.2:Nat) (p.ks.map partV) (p.cs.map cutV) (p.en.1:Nat) (p.en.2:Nat) (path.map dN) ?_
 simp only[T38,List.length_map]
 refine G9 false (path.map dN) (path.length:Nat) 0 (p.kd:Nat) (p.hd.1:Nat) (p.hd.2:Nat) (p.bd.1:Nat) (p.bd.2:Nat) (p.ks.map partV) (p.cs.map cutV) (p.en.1:Nat) (p.en.2:Nat) 0 0 0 0 0 [] [] 0 0 ?_
 cases path with
 |nil=>
  have h1:¬((0:Int)<((([]:List Int).length:Nat):Int)):=by simp
  rw[uN,told_none]
  simp only[yE,h1,decide_false,Bool.false_eq_true,if_false,Bool.not_false,if_true]
  exact aC _
 |cons n r=>
  have h1:((0:Int)<(((n::r).length:Nat):Int)):=by simp only[List.length_cons];omega
  have h3:¬((0:Int)>0):=by omega
  have hw:IntKind.wrap .i64 ((0:Int)+1)=((0+1:Nat):Int):=by rw[wrap64 (by omega) (by omega)];rfl
  have hg:((n::r).map dN).getD 0 .bot= .int .i64 n:=rfl
  rw[uN]
  simp only[yE,h1,decide_true,if_true,aI (Int.le_refl 0),List.length_map,cD,h3,decide_false,Bool.false_eq_true,if_false,Int.toNat_zero,hg,bT,hw,cC]
  refine aD (Hp p hc n) ?_
  cases hbl:eU p n with
  |none=>
   simp only[told_none,bZ,List.headD_cons,List.tail_cons,bF,Bool.not_false,if_true]
   exact aC _
  |some q=>
   have hqc:=tR hbl
   simp only[fR,bZ,List.headD_cons,List.tail_cons,bF,Bool.not_true,Bool.false_eq_true,if_false,hD,bT,aY]
   exact DU (n::r) hpl r.length 1 q (by simp) (by simp) (by omega) (by omega)
def lK (b:Bs) (p:Pt) (s:Sp):Bs:=
 if s.what=0 then eO b p.hd.1 p.bd.2 else if s.what=1 then eO b p.hd.1 p.hd.2 else if s.what=4 then eO b p.bd.1 p.bd.2 else
 if s.what=3 then CJ b (dE b (p.hd.1:Nat) (p.hd.2:Nat)).1 s.names true else if s.what=2 then CJ b (dE b (p.hd.1:Nat) (p.hd.2:Nat)).1 s.names false else[]
def CM (b:Bs) (p:Pt) (s:Sp):Bs:=
 if checkF s then(if s.path.length=0 then lK b p s else match uN p s.path with
  |none=>[]
  |some q=>if s.what=0 then eO b q.bd.1 q.bd.2 else if s.what=5 then eO b q.hd.1 q.hd.2 else if q.kd=2∧0<q.ks.length then lK b (q.ks.getD 0 iV) s else[])
 else[]
def Kq (o:Bs) (fr many:Int):Bs:=if fr<0∨(o.length:Int)<fr∨many<1 then[]else kN o fr.toNat (fr.toNat+min many.toNat (o.length - fr.toNat))
def Em (b:Bs) (p:Pt) (s:Sp):Bs:=if s.cut then Kq (CM b p s) s.fr s.many else CM b p s
def IO (s:Sp):Prop:=s.names.length≤1000000∧(∀n∈s.names,n.length≤1000000)∧s.path.length≤1000000
theorem En (x y:Int):(x==y)=decide (x=y):=by by_cases h:x=y<;>simp[h]
theorem Jk (b:Bs) (hb:b.length≤100000) (p:Pt) (s:Sp) (hs:IO s):Ret 81 [.lst 5 false (ofBytes b),partV p,AB s] [] (.lst 5 false (ofBytes (lK b p s)),[]):=by
 rw[←cC p]
 refine M81 (ofBytes b) (p.kd:Nat) (p.hd.1:Nat) (p.hd.2:Nat) (p.bd.1:Nat) (p.bd.2:Nat) (p.ks.map partV) (p.cs.map cutV) (p.en.1:Nat) (p.en.2:Nat) (s.path.map dN) s.what (s.names.map V.str) s.cut s.fr s.many ?_
 obtain⟨k1,k2⟩:=rK b (p.hd.1:Nat) (p.hd.2:Nat)
 have k3:=G8 b p.hd.1 p.hd.2
 simp only[T81,En]
 unfold lK
 by_cases w0:s.what=0
 ·simp only[w0,decide_true,if_true]
  refine aD (CG b (by omega) _ _) ?_
  simp only[aY];exact aC _
 by_cases w1:s.what=1
 ·simp only[w0,w1,decide_true,decide_false,Bool.false_eq_true,if_true,if_false]
  refine aD (CG b (by omega) _ _) ?_
  simp only[aY];exact aC _
 by_cases w4:s.what=4
 ·simp only[w0,w1,w4,decide_true,decide_false,Bool.false_eq_true,if_true,if_false]
  refine aD (CG b (by omega) _ _) ?_
  simp only[aY];exact aC _
 by_cases w3:s.what=3
 ·simp only[w0,w1,w4,w3,decide_true,decide_false,Bool.false_eq_true,if_true,if_false]
  refine aD (Cu b (by omega) (p.hd.1:Nat) (p.hd.2:Nat)) ?_
  simp only[bZ,List.headD_cons,aY]
  refine aD (Ho b hb s.names hs.1 hs.2.1 true _ (by omega) (fun f hf=>⟨by have:=k1 f hf;omega,by have:=k3 f hf;omega⟩)) ?_
  simp only[aY];exact aC _
 by_cases w2:s.what=2
 ·simp only[w0,w1,w4,w3,w2,decide_true,decide_false,Bool.false_eq_true,if_true,if_false]
  refine aD (Cu b (by omega) (p.hd.1:Nat) (p.hd.2:Nat)) ?_
  simp only[bZ,List.headD_cons,aY]
  refine aD (Ho b hb s.names hs.1 hs.2.1 false _ (by omega) (fun f hf=>⟨by have:=k1 f hf;omega,by have:=k3 f hf;omega⟩)) ?_
  simp only[aY];exact aC _
 ·simp only[w0,w1,w4,w3,w2,decide_false,Bool.false_eq_true,if_false]
  exact aC _
theorem CN (s:Sp):V.agg [.lst 3 false (s.path.map dN), .int .i64 s.what, .lst 9 false (s.names.map V.str), .bool s.cut, .int .i64 s.fr, .int .i64 s.many]=AB s:=rfl
theorem Ml (b:Bs) (hb:b.length≤100000) (p:Pt) (hc:cntF p≤1000000) (s:Sp) (hs:IO s):Ret 40 [.lst 5 false (ofBytes b),partV p,AB s] [] (.lst 5 false (ofBytes (CM b p s)),[]):=by
 rw[←cC p]
 refine M40 (ofBytes b) (p.kd:Nat) (p.hd.1:Nat) (p.hd.2:Nat) (p.bd.1:Nat) (p.bd.2:Nat) (p.ks.map partV) (p.cs.map cutV) (p.en.1:Nat) (p.en.2:Nat) (s.path.map dN) s.what (s.names.map V.str) s.cut s.fr s.many ?_
 simp only[T40,cC,CN,List.length_map]
 refine aD (Mk s hs.1 hs.2.1 hs.2.2) ?_
 unfold CM
 cases hck:checkF s with
 |false=>
  have g:((1:Int) != (0:Int))=true:=rfl
  simp only[Bool.false_eq_true,if_false,bT,g,if_true]
  exact aC _
 |true=>
  have g:((0:Int) != (0:Int))=false:=rfl
  simp only[if_true,bT,g,Bool.false_eq_true,if_false]
  by_cases hp0:s.path.length=0
  ·have g1:(((s.path.length:Nat):Int)==(0:Int))=true:=by rw[hp0];rfl
   simp only[g1,if_true,if_pos hp0]
   refine aD (Jk b hb p s hs) ?_
   simp only[aY];exact aC _
  ·have g1:(((s.path.length:Nat):Int)==(0:Int))=false:=by
    have:¬(((s.path.length:Nat):Int)=0):=by omega
    simpa using this
   simp only[g1,Bool.false_eq_true,if_false,if_neg hp0]
   refine aD (Jj p hc s.path hs.2.2) ?_
   cases hf:uN p s.path with
   |none=>
    simp only[told_none,bZ,List.headD_cons,List.tail_cons,bF,Bool.not_false,if_true]
    exact aC _
   |some q=>
    simp only[fR,bZ,List.headD_cons,List.tail_cons,bF,Bool.not_true,Bool.false_eq_true,if_false,hD,bT,aY,En,List.length_map]
    by_cases w0:s.what=0
    ·simp only[w0,decide_true,if_true]
     refine aD (CG b (by omega) _ _) ?_
     simp only[aY];exact aC _
    by_cases w5:s.what=5
    ·simp only[w0,w5,decide_true,decide_false,Bool.false_eq_true,if_true,if_false]
     refine aD (CG b (by omega) _ _) ?_
     simp only[aY];exact aC _
    ·simp only[w0,w5,decide_false,Bool.false_eq_true,if_false]
     by_cases hk:q.kd=2∧0<q.ks.length
     ·have g2:((q.ks.length:Nat):Int)>0:=by omega
      have g3:(0:Int)<((q.ks.length:Nat):Int):=by omega
      have g4:(((q.kd:Nat):Int)=2):=by omega
      rw[if_pos hk]
      refine cK (v:=true) (by simp only[g4,g2,if_true,decide_true]) ?_
      simp only[if_true,aI (Int.le_refl 0),aI g3,Int.toNat_zero,vA hk.2,iN]
      refine aD (Jk b hb _ s hs) ?_
      simp only[aY];exact aC _
     ·rw[if_neg hk]
      refine cK (v:=false) ?_ ?_
      ·by_cases g:q.kd=2
       ·have g1:(((q.kd:Nat):Int)=2):=by omega
        have g2:¬(((q.ks.length:Nat):Int)>0):=by omega
        simp only[g1,g2,if_true,decide_true,decide_false]
       ·have g1:¬(((q.kd:Nat):Int)=2):=by omega
        simp only[g1,decide_false,Bool.false_eq_true,if_false]
      ·simp only[Bool.false_eq_true,if_false]
       exact aC _
theorem Mm (o:Bs) (ho:o.length≤1000000000) (fr many:Int):Ret 41 [.lst 5 false (ofBytes o), .int .i64 fr, .int .i64 many] [] (.lst 5 false (ofBytes (Kq o fr many)),[]):=by
 refine M41 (ofBytes o) fr many ?_
 simp only[T41,aU]
 unfold Kq
 by_cases h:fr<0∨(o.length:Int)<fr∨many<1
 ·rw[if_pos h]
  refine cK (v:=true) ?_ ?_
  ·by_cases h1:fr<0
   ·simp[h1]
   ·by_cases h2:fr>((o.length:Nat):Int)
    ·simp[h1,h2]
    ·have h3:many<1:=by omega
     simp[h1,h2,h3]
  ·simp only[if_true];exact aC _
 ·rw[if_neg h]
  have e1:¬(fr<0):=by omega
  have e2:¬(fr>((o.length:Nat):Int)):=by omega
  have e3:¬(many<1):=by omega
  obtain⟨F,rfl⟩:∃F:Nat,fr=F:=⟨fr.toNat,by omega⟩
  obtain⟨M,rfl⟩:∃M:Nat,many=M:=⟨many.toNat,by omega⟩
  have hw1:IntKind.wrap .i64 (((o.length:Nat):Int) - ((F:Nat):Int))=((o.length - F:Nat):Int):=by rw[wrap64 (by omega) (by omega)];omega
  have hmin:(if((o.length - F:Nat):Int)<((M:Nat):Int)then((o.length - F:Nat):Int)else((M:Nat):Int))=((min M (o.length - F):Nat):Int):=by split<;>omega
  have hw2:IntKind.wrap .i64 (((F:Nat):Int)+((min M (o.length - F):Nat):Int))=((F+min M (o.length - F):Nat):Int):=by rw[wrap64 (by omega) (by omega)];omega
  have k1:(0:Int)≤((F+min M (o.length - F):Nat):Int):=by omega
  have k2:((F+min M (o.length - F):Nat):Int)≤((o.length:Nat):Int):=by omega
  have k3:(0:Int)≤((F:Nat):Int):=by omega
  have k4:((F:Nat):Int)≤((F+min M (o.length - F):Nat):Int):=by omega
  refine cK (v:=false) (by simp only[e1,e2,e3,decide_false,if_true]) ?_
  simp only[Bool.false_eq_true,if_false,hw1,hmin,hw2,aI k1,aI k2,aI k3,aI k4,Int.toNat_natCast,vB]
  refine aD (Hn _ (by have:=mJ o F (F+min M (o.length - F));omega)) ?_
  simp only[aY];exact aC _
theorem uO (b:Bs) (p:Pt) (s:Sp):(lK b p s).length≤b.length+(b.length+2)*b.length+2:=by
 have hsome:∀but,(CJ b (dE b (p.hd.1:Nat) (p.hd.2:Nat)).1 s.names but).length≤(b.length+2)*b.length+2:=by
  intro but
  obtain⟨_,k2⟩:=rK b (p.hd.1:Nat) (p.hd.2:Nat)
  have hf:∀(l:List Fd) (out:Bs),(l.foldl (stepS b s.names but) out).length≤out.length+(b.length+2)*l.length:=by
   intro l
   induction l with
   |nil=>intro out;simp
   |cons f r ih=>
    intro out
    have h1:=ih (stepS b s.names but out f)
    have h2:=AC b s.names but out f
    rw[List.foldl_cons,List.length_cons,Nat.mul_add,Nat.mul_one]
    omega
  have h1:=hf (dE b (p.hd.1:Nat) (p.hd.2:Nat)).1 []
  have h2:(b.length+2)* (dE b (p.hd.1:Nat) (p.hd.2:Nat)).1.length≤(b.length+2)*b.length:=Nat.mul_le_mul_left _ k2
  unfold CJ
  rw[List.length_append]
  simp only[List.length_nil,List.length_cons]at h1 ⊢
  omega
 unfold lK
 split
 ·have:=lJ b p.hd.1 p.bd.2;omega
 split
 ·have:=lJ b p.hd.1 p.hd.2;omega
 split
 ·have:=lJ b p.bd.1 p.bd.2;omega
 split
 ·have:=hsome true;omega
 split
 ·have:=hsome false;omega
 ·simp
theorem IP (b:Bs) (p:Pt) (s:Sp):(CM b p s).length≤b.length+(b.length+2)*b.length+2:=by
 unfold CM
 split
 ·split
  ·exact uO b p s
  ·split
   ·simp
   ·rename_i q _
    split
    ·have:=lJ b q.bd.1 q.bd.2;omega
    split
    ·have:=lJ b q.hd.1 q.hd.2;omega
    split
    ·exact uO b _ s
    ·simp
 ·simp
theorem Mn (b:Bs) (hb:b.length≤3000) (p:Pt) (hc:cntF p≤1000000) (s:Sp) (hs:IO s):Ret 19 [.lst 5 false (ofBytes b),partV p,AB s] [] (.lst 5 false (ofBytes (Em b p s)),[]):=by
 have hle:=IP b p s
 have hle2:(b.length+2)*b.length≤3002*3000:=Nat.mul_le_mul (by omega) hb
 rw[←cC p]
 refine M19 (ofBytes b) (p.kd:Nat) (p.hd.1:Nat) (p.hd.2:Nat) (p.bd.1:Nat) (p.bd.2:Nat) (p.ks.map partV) (p.cs.map cutV) (p.en.1:Nat) (p.en.2:Nat) (s.path.map dN) s.what (s.names.map V.str) s.cut s.fr s.many ?_
 simp only[T19,cC,CN]
 refine aD (Ml b (by omega) p hc s hs) ?_
 simp only[aY]
 unfold Em
 cases s.cut with
 |true=>
  simp only[if_true]
  refine aD (Mm (CM b p s) (by omega) s.fr s.many) ?_
  simp only[aY];exact aC _
 |false=>
  simp only[Bool.false_eq_true,if_false]
  exact aC _
end Go.Proofs.YtdoaoaicdimbeaaGreatDoor
end
section
namespace Go.Proofs.YtdoaoaicdimbeaaGreatDoor
open Go.Ev Go
theorem IQ (b:Bs) (d fr to:Nat) (dg:Bool) (n:Nat):(dZ b d fr to dg n).1.hd=(fr,(dE b (fr:Nat) (to:Nat)).2.toNat)∧(dZ b d fr to dg n).1.bd=((dE b (fr:Nat) (to:Nat)).2.toNat,to):=by
 cases d with
 |zero=>rw[dZ];exact⟨rfl,rfl⟩
 |succ d=>
  obtain⟨t,u,ps,h3⟩:∃t u ps,mP b (dE b (fr:Nat) (to:Nat)).1 dg=(t,u,ps):=⟨_,_,_,rfl⟩
  obtain⟨cs,e,h5⟩:∃cs e,fQ b (dE b (fr:Nat) (to:Nat)).2.toNat to ((getF ps bdB).getD [])=(cs,e):=⟨_,_,rfl⟩
  rw[G5 b d fr to dg n rfl rfl h3 rfl h5]
  split
  ·split<;>exact⟨rfl,rfl⟩
  ·split<;>exact⟨rfl,rfl⟩
theorem Hr (b:Bs):kN b 0 b.length=b:=by unfold kN;rw[List.take_length,List.drop_zero]
def mkS (path:List Int) (w:Int):Sp:=⟨path,w,[],false,0,0⟩
theorem Kr {path:List Int} {w:Int} (h:path.length≤1000000):IO (mkS path w):=⟨by simp[mkS],by simp[mkS],h⟩
theorem E0 {n w:Int} (hw:w=0∨w=5) (hn:1≤n∧n≤4294967295):checkF (mkS [n] w)=true:=by
 have hi:inB 1 n=true:=decide_eq_true hn
 rcases hw with rfl|rfl<;>simp[checkF,mkS,hi]
theorem CO (p:Pt) (n:Int):uN p [n]=eU p n:=by
 rw[uN]
 cases eU p n with
 |none=>rfl
 |some q=>rfl
theorem E1 (b:Bs) (p:Pt) {n:Int} (hn:1≤n∧n≤4294967295):Em b p (mkS [n] 0)=match eU p n with|none=>[]|some q=>eO b q.bd.1 q.bd.2:=by
 unfold Em CM
 rw[if_neg (by simp[mkS]),if_pos (E0 (.inl rfl) hn),if_neg (by simp[mkS])]
 show(match uN p [n]with|none=>[]|some q=>_)=_
 rw[CO]
 cases eU p n with
 |none=>rfl
 |some q=>rfl
theorem CP (x:Bs):sEq x x=true:=by simp[sEq]
end Go.Proofs.YtdoaoaicdimbeaaGreatDoor
end
section
namespace Go.Proofs.YtdoaoaicdimbeaaGreatDoor
open Go.Ev Go
open List (headD tail getD length drop take)
open V (getI getL getT getS getB)
set_option maxRecDepth 100000
variable (call : FuncId → Fun) (icall : aQ (V × List Ob)) (again : List It → St → Option (V × List Ob))
def T39 (call:FuncId→Fun) (a0:List V) (a1:Int) (a2:Int) (a3:Int) (a4:Int) (a5:Int) (a6:List V) (a7:List V) (a8:Int) (a9:Int):Option (V×List Ob):=
 Option.bind (call 37 [(V.lst 5 false a0),(V.agg [(V.int .i64 a4),(V.int .i64 a5)])] []) fun z0=>
 Option.bind (call 36 [(V.lst 5 false a0),(V.agg [(V.int .i64 a1),(V.int .i64 a2),(V.int .i64 a3),(V.int .i64 a4),(V.int .i64 a5),(V.lst 36 false a6),(V.lst 32 false a7),(V.int .i64 a8),(V.int .i64 a9)])] []) fun z1=>
 if(a1==(1:Int))=true then
 Option.bind (call 77 [(V.lst 9 false [(V.str [55,98,105,116]),(V.str [56,98,105,116]),(V.str [98,105,110,97,114,121])]),(V.str [98,105,110,97,114,121])] []) fun z2=>
 if(getB z2.1)=true then
 some ((V.tup [(V.lst 5 false (getL z0.1)),(V.bool true)]),[])
 else
 if(sEq [98,105,110,97,114,121] [98,97,115,101,54,52])=true then
 if(!true)=true then
 some ((V.tup [(V.lst 5 false []),(V.bool false)]),[])
 else
 Option.bind (call 78 [(V.lst 5 false (getL z0.1))] []) fun z3=>
 some ((V.tup [(V.lst 5 false (getL (headD (getT z3.1) V.bot))),(V.bool (getB (headD (tail (getT z3.1)) V.bot)))]),[])
 else
 if(sEq [98,105,110,97,114,121] [113,117,111,116,101,100,45,112,114,105,110,116,97,98,108,101])=true then
 if(!true)=true then
 some ((V.tup [(V.lst 5 false []),(V.bool false)]),[])
 else
 Option.bind (call 79 [(V.lst 5 false (getL z0.1))] []) fun z3=>
 some ((V.tup [(V.lst 5 false (getL (headD (getT z3.1) V.bot))),(V.bool (getB (headD (tail (getT z3.1)) V.bot)))]),[])
 else
 if(!false)=true then
 some ((V.tup [(V.lst 5 false []),(V.bool false)]),[])
 else
 none
 else
 Option.bind (call 77 [(V.lst 9 false [(V.str [55,98,105,116]),(V.str [56,98,105,116]),(V.str [98,105,110,97,114,121])]),(V.str (getS z1.1))] []) fun z2=>
 if(getB z2.1)=true then
 some ((V.tup [(V.lst 5 false (getL z0.1)),(V.bool true)]),[])
 else
 if(sEq (getS z1.1) [98,97,115,101,54,52])=true then
 if(!true)=true then
 some ((V.tup [(V.lst 5 false []),(V.bool false)]),[])
 else
 Option.bind (call 78 [(V.lst 5 false (getL z0.1))] []) fun z3=>
 some ((V.tup [(V.lst 5 false (getL (headD (getT z3.1) V.bot))),(V.bool (getB (headD (tail (getT z3.1)) V.bot)))]),[])
 else
 if(sEq (getS z1.1) [113,117,111,116,101,100,45,112,114,105,110,116,97,98,108,101])=true then
 if(!true)=true then
 some ((V.tup [(V.lst 5 false []),(V.bool false)]),[])
 else
 Option.bind (call 79 [(V.lst 5 false (getL z0.1))] []) fun z3=>
 some ((V.tup [(V.lst 5 false (getL (headD (getT z3.1) V.bot))),(V.bool (getB (headD (tail (getT z3.1)) V.bot)))]),[])
 else
 if(!false)=true then
 some ((V.tup [(V.lst 5 false []),(V.bool false)]),[])
 else
 none
def A39 (a0:List V) (a1:Int) (a2:Int) (a3:Int) (a4:Int) (a5:Int) (a6:List V) (a7:List V) (a8:Int) (a9:Int):List V:=[V.lst 5 false a0,V.agg [V.int IntKind.i64 a1,V.int IntKind.i64 a2,V.int IntKind.i64 a3,V.int IntKind.i64 a4,V.int IntKind.i64 a5,V.lst 36 false a6,V.lst 32 false a7,V.int IntKind.i64 a8,V.int IntKind.i64 a9]]
theorem E39 (a0:List V) (a1:Int) (a2:Int) (a3:Int) (a4:Int) (a5:Int) (a6:List V) (a7:List V) (a8:Int) (a9:Int):GO 39 Tryz.f39 (A39 a0 a1 a2 a3 a4 a5 a6 a7 a8 a9) [] call icall again=T39 call a0 a1 a2 a3 a4 a5 a6 a7 a8 a9:=by kernel_rfl
theorem C39 (k:Nat) (a0:List V) (a1:Int) (a2:Int) (a3:Int) (a4:Int) (a5:Int) (a6:List V) (a7:List V) (a8:Int) (a9:Int):aA cfg (k+1) 39 (A39 a0 a1 a2 a3 a4 a5 a6 a7 a8 a9) []=T39 (aA cfg k) a0 a1 a2 a3 a4 a5 a6 a7 a8 a9:=
 (show aA cfg (k+1) 39 (A39 a0 a1 a2 a3 a4 a5 a6 a7 a8 a9) []=GO 39 Tryz.f39 (A39 a0 a1 a2 a3 a4 a5 a6 a7 a8 a9) [] (aA cfg k) (aF cfg (aA cfg k) 20) (RN 39 Tryz.f39 [] (aA cfg k) (aF cfg (aA cfg k) 20) k)by kernel_rfl).trans (E39 _ _ _ a0 a1 a2 a3 a4 a5 a6 a7 a8 a9)
theorem M39 (a0:List V) (a1:Int) (a2:Int) (a3:Int) (a4:Int) (a5:Int) (a6:List V) (a7:List V) (a8:Int) (a9:Int) {r:V×List Ob} (h:Evt (fun k n=>T39 (aA cfg k) a0 a1 a2 a3 a4 a5 a6 a7 a8 a9) r):Ret 39 [V.lst 5 false a0,V.agg [V.int IntKind.i64 a1,V.int IntKind.i64 a2,V.int IntKind.i64 a3,V.int IntKind.i64 a4,V.int IntKind.i64 a5,V.lst 36 false a6,V.lst 32 false a7,V.int IntKind.i64 a8,V.int IntKind.i64 a9]] [] r:=aR (g:=fun k n=>T39 (aA cfg k) a0 a1 a2 a3 a4 a5 a6 a7 a8 a9) (fun k=>C39 k a0 a1 a2 a3 a4 a5 a6 a7 a8 a9) h
end Go.Proofs.YtdoaoaicdimbeaaGreatDoor
end
section
namespace Go.Proofs.YtdoaoaicdimbeaaGreatDoor
open Go.Ev Go
theorem Jl (b:Bs) (hb:b.length≤1000000) (x y:Nat):Ret 37 [.lst 5 false (ofBytes b), .agg [.int .i64 (x:Nat), .int .i64 (y:Nat)]] [] (.lst 5 false (ofBytes (eO b x y)),[]):=by
 refine M37 (ofBytes b) (x:Nat) (y:Nat) ?_
 simp only[T37,aU]
 refine aD (Ef (x:Nat) (y:Nat) (b.length:Nat)) ?_
 simp only[bF]
 unfold eO
 by_cases h:x≤y∧y≤b.length
 ·have h1:(0:Int)≤(x:Nat)∧((x:Nat):Int)≤(y:Nat)∧((y:Nat):Int)≤(b.length:Nat):=by omega
  have h2:(0:Int)≤(y:Nat):=by omega
  have hl:=mJ b x y
  rw[if_pos h]
  simp only[decide_eq_true h1,Bool.not_true,Bool.false_eq_true,if_false,aI h2,aI h1.2.2,aI h1.1,aI h1.2.1,Int.toNat_natCast,vB]
  refine aD (Hn (kN b x y) (by omega)) ?_
  simp only[aY]
  exact aC _
 ·have h1:¬((0:Int)≤(x:Nat)∧((x:Nat):Int)≤(y:Nat)∧((y:Nat):Int)≤(b.length:Nat)):=by omega
  rw[if_neg h]
  simp only[decide_eq_false h1,Bool.not_false,if_true]
  exact aC _
theorem Eo {f:FuncId} {args:List V} {objs:List Ob} {r:V×List Ob} (K:Nat) (h:∀m,aA cfg (m+K) f args objs=some r):Ret f args objs r:=
 ⟨K,fun k hk=>by obtain⟨m,rfl⟩:∃m,k=m+K:=⟨k - K,by omega⟩;exact h m⟩
theorem Ks:Ret 77 [.lst 9 false [.str [55,98,105,116], .str [56,98,105,116], .str [98,105,110,97,114,121]], .str [98,105,110,97,114,121]] [] (.bool true,[]):=
 Eo 20 fun m=>by kernel_rfl
theorem E2 (b:Bs) (hb:b.length≤3000) (q:Pt) (hk:q.kd=1):Ret 39 [.lst 5 false (ofBytes b),partV q] [] (.tup [.lst 5 false (ofBytes (eO b q.bd.1 q.bd.2)), .bool true],[]):=by
 have hs:=Jl b (by omega) q.bd.1 q.bd.2
 have he:=Md b hb q
 rw[←cC q]at he ⊢
 refine M39 (ofBytes b) (q.kd:Nat) (q.hd.1:Nat) (q.hd.2:Nat) (q.bd.1:Nat) (q.bd.2:Nat) (q.ks.map partV) (q.cs.map cutV) (q.en.1:Nat) (q.en.2:Nat) ?_
 have k1:(((q.kd:Nat):Int)==1)=true:=by rw[hk];rfl
 simp only[T39]
 refine aD hs ?_
 refine aD he ?_
 simp only[k1,if_true]
 refine aD Ks ?_
 simp only[bF,if_true,aY]
 exact aC _
theorem CQ (b:Bs) (hb:b.length≤3000) (p:Pt):Ret 17 [.lst 5 false (ofBytes b),partV p, .lst 3 false []] [] (.tup [.lst 5 false (ofBytes (eO b p.hd.1 p.bd.2)), .int .i64 0],[]):=by
 rw[←cC p]
 refine M17 (ofBytes b) (p.kd:Nat) (p.hd.1:Nat) (p.hd.2:Nat) (p.bd.1:Nat) (p.bd.2:Nat) (p.ks.map partV) (p.cs.map cutV) (p.en.1:Nat) (p.en.2:Nat) [] ?_
 have k1:((((([]:List V).length:Nat)):Int)==0)=true:=rfl
 simp only[T17,k1,if_true]
 refine aD (Jl b (by omega) p.hd.1 p.bd.2) ?_
 simp only[aY]
 exact aC _
theorem E3 (b:Bs) (hb:b.length≤3000) (p:Pt):Ret 18 [.lst 5 false (ofBytes b),partV p, .lst 3 false []] [] (.tup [.int .i64 ((eO b p.hd.1 p.bd.2).length:Nat), .int .i64 0],[]):=by
 have hg:=CQ b hb p
 rw[←cC p]at hg ⊢
 refine M18 (ofBytes b) (p.kd:Nat) (p.hd.1:Nat) (p.hd.2:Nat) (p.bd.1:Nat) (p.bd.2:Nat) (p.ks.map partV) (p.cs.map cutV) (p.en.1:Nat) (p.en.2:Nat) [] ?_
 simp only[T18]
 refine aD hg ?_
 simp only[bZ,List.headD_cons,List.tail_cons,aY,bT,aU]
 exact aC _
theorem Ht (b:Bs) (hb:b.length≤3000) (p:Pt) (hc:cntF p≤1000000) (n:Int) (q:Pt) (hf:eU p n=some q) (hk:q.kd=1):
  Ret 17 [.lst 5 false (ofBytes b),partV p, .lst 3 false [.int .i64 n]] [] (.tup [.lst 5 false (ofBytes (eO b q.bd.1 q.bd.2)), .int .i64 0],[]):=by
 have hfd:=Jj p hc [n] (by simp)
 rw[CO,hf]at hfd
 have hb1:=E2 b hb q hk
 rw[←cC p]at hfd ⊢
 refine M17 (ofBytes b) (p.kd:Nat) (p.hd.1:Nat) (p.hd.2:Nat) (p.bd.1:Nat) (p.bd.2:Nat) (p.ks.map partV) (p.cs.map cutV) (p.en.1:Nat) (p.en.2:Nat) [.int .i64 n] ?_
 have k1:(((([V.int .i64 n].length:Nat)):Int)==0)=false:=rfl
 simp only[T17,k1,Bool.false_eq_true,if_false]
 refine aD hfd ?_
 simp only[fR,bZ,List.headD_cons,List.tail_cons,bF,Bool.not_true,Bool.false_eq_true,if_false,iN]
 refine aD hb1 ?_
 simp only[bZ,List.headD_cons,List.tail_cons,bF,Bool.not_true,Bool.false_eq_true,if_false,aY]
 exact aC _
set_option maxRecDepth 100000 in
theorem Mo:Ret 16 [] [] (.bool true,[]):=Eo 200 fun m=>by kernel_rfl
theorem Jm (b:Bs) (hb:b.length≤1000) (T:Pt) (hc:cntF T≤1000):∀(m i:Nat),T.ks.length - i=m→i≤T.ks.length→
  Evt (fun k j=>L5 (aA cfg k) j (ofBytes b) (i:Nat) (T.kd:Nat) (T.hd.1:Nat) (T.hd.2:Nat) (T.bd.1:Nat) (T.bd.2:Nat) (T.ks.map partV) (T.cs.map cutV) (T.en.1:Nat) (T.en.2:Nat)) (.bool true,[])
 |0,i,h,hi=>by
  refine L9 (ofBytes b) (i:Nat) (T.kd:Nat) (T.hd.1:Nat) (T.hd.2:Nat) (T.bd.1:Nat) (T.bd.2:Nat) (T.ks.map partV) (T.cs.map cutV) (T.en.1:Nat) (T.en.2:Nat) ?_
  have h1:¬(((i:Nat):Int)<((T.ks.length:Nat):Int)):=by omega
  simp only[G4,List.length_map,h1,decide_false,Bool.false_eq_true,if_false]
  exact aC _
 |m+1,i,h,hi=>by
  have hkl:=yB T.ks
  have hck:=Bm T
  have hlt:i<T.ks.length:=by omega
  refine L9 (ofBytes b) (i:Nat) (T.kd:Nat) (T.hd.1:Nat) (T.hd.2:Nat) (T.bd.1:Nat) (T.bd.2:Nat) (T.ks.map partV) (T.cs.map cutV) (T.en.1:Nat) (T.en.2:Nat) ?_
  have h1:(((i:Nat):Int)<((T.ks.length:Nat):Int)):=by omega
  have h2:(0:Int)≤(i:Nat):=by omega
  have hw:IntKind.wrap .i64 (((i:Nat):Int)+1)=((i+1:Nat):Int):=by rw[wrap64 (by omega) (by omega)];omega
  have next:=Jm b hb T hc m (i+1) (by omega) (by omega)
  simp only[G4,List.length_map,h1,decide_true,if_true,aI h2,cD,Int.toNat_natCast,vA hlt,hD,List.headD_cons,bT,hw,cC]
  by_cases hk:T.kd=1
  ·by_cases hq:(T.ks.getD i iV).kd=1
   ·have q1:(((T.kd:Nat):Int) != (1:Int))=false:=by rw[hk];rfl
    have q2:((((T.ks.getD i iV).kd:Nat):Int) != (1:Int))=false:=by rw[hq];rfl
    have hbl:eU T ((i+1:Nat):Int)=some (T.ks.getD i iV):=by
     unfold eU
     rw[if_pos hk,if_neg (by omega),Int.toNat_natCast,Nat.add_sub_cancel]
    have g0:=Mn b (by omega) T (by omega) (mkS [((i+1:Nat):Int)] 0) (Kr (by simp))
    rw[E1 b T (by omega),hbl]at g0
    have gg:=Ht b (by omega) T (by omega) _ _ hbl hq
    refine cK (v:=false) (by rw[q1,q2];rfl) ?_
    simp only[Bool.false_eq_true,if_false]
    refine aD gg ?_
    have z0:((0:Int) != (0:Int))=false:=rfl
    simp only[bZ,List.headD_cons,List.tail_cons,bT,z0,if_true]
    refine aD g0 ?_
    simp only[aY,cM,CP,Bool.not_true,Bool.false_eq_true,if_false]
    exact next
   ·have q1:(((T.kd:Nat):Int) != (1:Int))=false:=by rw[hk];rfl
    have q2:((((T.ks.getD i iV).kd:Nat):Int) != (1:Int))=true:=by
     have:¬(((T.ks.getD i iV).kd:Nat):Int)=1:=by omega
     simpa using this
    refine cK (v:=true) (by rw[q1,q2];rfl) ?_
    simp only[if_true]
    exact next
  ·have q1:(((T.kd:Nat):Int) != (1:Int))=true:=by
    have:¬(((T.kd:Nat):Int)=1):=by omega
    simpa using this
   refine cK (v:=true) (by rw[q1];rfl) ?_
   simp only[if_true]
   exact next
theorem Oe (b:Bs):Ret 5 [.lst 5 false (ofBytes b)] [] (.bool true,[]):=by
 refine M5 (ofBytes b) ?_
 simp only[T5]
 refine aD Mo ?_
 simp only[bF,Bool.not_true,Bool.false_eq_true,if_false,aU]
 by_cases hb:b.length≤1000
 ·have h1:¬(((b.length:Nat):Int)>1000):=by omega
  simp only[h1,decide_false,Bool.false_eq_true,if_false]
  have r15:=L8 b (by omega)
  have cT:=Bi b 32 0 b.length false 1 (by omega)
  have cT2:=yC b 32 0 b.length false 1
  obtain⟨e1,e2⟩:=IQ b 32 0 b.length false 1
  generalize(dZ b 32 0 b.length false 1).1=T at*
  have gN:=CQ b (by omega) T
  have sN:=E3 b (by omega) T
  have hw:eO b T.hd.1 T.bd.2=b:=by rw[e1,e2];exact(if_pos ⟨by simp only;omega,Nat.le_refl _⟩).trans (Hr b)
  rw[hw]at gN sN
  have z0:((0:Int) != (0:Int))=false:=rfl
  have z1:(((b.length:Nat):Int) != ((b.length:Nat):Int))=false:=by simp
  refine aD r15 ?_
  simp only[bZ,List.headD_cons,List.tail_cons,iN]
  refine aD gN ?_
  refine aD sN ?_
  simp only[bZ,List.headD_cons,List.tail_cons,bT,z0,if_true,aY,cM,CP,Bool.not_true,z1,Bool.false_eq_true,if_false,hD]
  exact Jm b hb T (by omega) T.ks.length 0 (by omega) (by omega)
 ·have h1:(((b.length:Nat):Int)>1000):=by omega
  simp only[h1,decide_true,if_true]
  exact aC _
end Go.Proofs.YtdoaoaicdimbeaaGreatDoor
end
section
namespace Go.Proofs.YtdoaoaicdimbeaaGreatDoor
open Go.ChangeShapes Go.WideShapes Go.ChangeAt Go.RowKit Go.Ev
theorem cells5:Tryz.prog.cellsOf 5=1:=by kernel_rfl
theorem Hu:aE cfg 5=1:=by kernel_rfl
theorem Mp (n:Int):bU cfg 5 (.int .u8 n)=true:=by kernel_rfl
theorem IR (zs:List Int):flat (zs.map (Value.int .u8))=zs.map (Value.int .u8):=by
 induction zs with
 |nil=>rfl
 |cons z zs ih=>simp only[flat,List.map_cons,List.flatMap_cons,Value.cells]at ih ⊢;rw[ih];rfl
theorem CU {P:Program} {w:World} {r:Reach} {base:Nat} {t e:TypeId} {a:Addr} {len cap:Nat} (ht:P.underlying t=some (.slice e)) (h:Value.okWide P w r base t (.slice (some a) len cap)):a.block<w.heap.size:=by
 simp only[Value.okWide,ht,Cell.okWide,Cell.ok]at h
 obtain⟨_,_,_,_,row,cells,hs,_⟩:=h
 unfold World.shape? at hs
 by_cases hb:a.block<w.heap.size
 ·exact hb
 ·rw[Array.getElem?_eq_none (by omega)]at hs
  simp at hs
set_option maxRecDepth 100000 in
theorem Hv {H:Type} {enc:TypeId×Value→H} {W:World} {base:Nat} {v:Value} {d:DataW H} {p:List MemPlace} (hval:Value.okWide Tryz.prog W .any base 40 v)
  (h:DataW.Trod enc Tryz.prog W 0 (fun _=>true) true 40 v d p):
  ∃vs:List UInt8,Rep cfg W (pK W) [] (.lst 5 false (ofBytes vs)) v∧
   ∀W',Kept W W'→∀sp:Nat→Bool,(∀x∈p,sp x.block=true)→DataW.Trod enc Tryz.prog W' 0 sp true 40 v d p:=by
 obtain⟨a1,len,cap,rfl⟩:=okWide_slice Tryz.underlying40 hval
 obtain⟨fuel,hf⟩:=h
 rcases open_ints Tryz.underlying40 Tryz.underlying5 cells5 hf with⟨hcs,hx⟩|⟨a,len',cap',zs,hcs,_,hl,hm,hz,hx,hcell,hwz⟩
 ·simp[Value.cells]at hcs
  obtain⟨rfl,rfl,rfl⟩:=hcs
  simp only[Prod.mk.injEq]at hx
  obtain⟨rfl,rfl⟩:=hx
  refine⟨[],?_,fun W' _ sp _=>shut_slice_nil Tryz.underlying40⟩
  exact Rep.lst 5 false [] none 0 [] rfl (fun i v x h=>by simp at h) (fun v h=>by cases h) (fun x h=>by cases h) (by rw[Hu];omega) (Nat.le_refl _) ⟨fun _=>rfl,fun p h=>by cases h⟩ (fun p h=>by cases h)
 ·simp[Value.cells]at hcs
  obtain⟨rfl,rfl,rfl⟩:=hcs
  simp only[Prod.mk.injEq]at hx
  obtain⟨rfl,rfl⟩:=hx
  have hblk:a.block<W.heap.size:=CU Tryz.underlying40 hval
  have hsn:some a=none→cap=0:=fun h=>by cases h
  have hsb:∀p,some a=some p→p.block<W.heap.size:=fun p hp=>by cases hp;exact hblk
  simp only[if_true]at hz
  have hrng:∀n∈zs,0≤n∧n<256:=fun n hn=>by have:=bounds_u8 (hwz n hn);omega
  refine⟨(zs.take len).map fun n=>UInt8.ofNat n.toNat,?_,fun W' hk sp hsp=>?_⟩
  ·have hxs:ofBytes ((zs.take len).map fun n=>UInt8.ofNat n.toNat)=(zs.take len).map (V.int .u8):=by
    unfold ofBytes
    rw[List.map_map]
    refine List.map_congr_left fun n hn=>?_
    have:=hrng n (List.mem_of_mem_take hn)
    simp only[Function.comp,UInt8.toNat_ofNat']
    congr 1
    omega
   have hlen:(ofBytes ((zs.take len).map fun n=>UInt8.ofNat n.toNat)).length=len:=by rw[hxs];simp;omega
   have:=Rep.lst (c:=cfg) (w:=W) (G:=pK W) (μ:=[]) 5 false (ofBytes ((zs.take len).map fun n=>UInt8.ofNat n.toNat)) (some a) cap ((zs.take len).map (Value.int .u8)) (by rw[hlen];simp;omega) (fun i v x hv hx=>by
     rw[hxs]at hv
     obtain⟨n,h1,rfl⟩:=bJ hv
     obtain⟨n',h2,rfl⟩:=bJ hx
     rw[h1]at h2;cases h2
     exact .int _ _) (fun v hv=>by
     rw[hxs]at hv
     obtain⟨n,_,rfl⟩:=List.mem_map.1 hv
     exact Mp n) (fun x hx=>by
     obtain⟨n,_,rfl⟩:=List.mem_map.1 hx
     rw[Hu];rfl) (by rw[Hu];omega) (by rw[hlen];exact hl) ⟨hsn,hsb⟩ (fun p hp hne=>by
     cases hp
     have hl0:0<len:=by
      rcases Nat.eq_zero_or_pos len with h0|h0
      ·exact absurd (List.eq_nil_of_length_eq_zero (hlen.trans h0)) hne
      ·exact h0
     obtain⟨ab,ao,spot⟩:=a
     have hspot:spot=none:=by simpa[Addr.add]using World.cell?_spot (hcell 0 (by omega))
     subst hspot
     refine⟨rfl,?_⟩
     rw[IR]
     refine Du fun j x hj=>?_
     have hjl:=(List.getElem?_eq_some_iff.1 hj).1
     rw[List.length_map,List.length_take]at hjl
     have hjl:j<len∧j<zs.length:=by omega
     have hc:=hcell j (by omega)
     rw[Addr.add_lit]at hc
     rw[hc]
     rw[List.getElem?_map,List.getElem?_take,if_pos hjl.1,List.getElem?_eq_getElem hjl.2]at hj
     simp at hj
     rw[←hj];simp[List.getD,hjl.2])
   rw[hlen]at this
   exact this
  ·have hzl:zs.length=(if sp a.block then cap else len):=by
    rcases Nat.eq_zero_or_pos zs.length with h0|h0
    ·split<;>omega
    ·have:sp a.block=true:=hsp (.cell a.block (a.off+0)) (by simp only[MemPlace.row,List.mem_map,List.mem_range];exact⟨0,h0,rfl⟩)
     rw[if_pos this];exact hz
   exact⟨2,shut_ints 0 Tryz.underlying40 Tryz.underlying5 cells5 (Nat.zero_le _) hl hm hzl (fun i hi=>hk.cell _ _ (hcell i hi)) hwz⟩
end Go.Proofs.YtdoaoaicdimbeaaGreatDoor
end
