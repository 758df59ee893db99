/- Lemmas for the claim, merged: the plain reading of the program's functions, its soundness, and what they compute. -/
import Derived.Test.YtdoaoaicdimbeaaGreatDoorPkE
import Derived.KernelRfl
set_option linter.all false
set_option linter.unusedVariables false
set_option linter.unusedSimpArgs false
section
namespace Go.Proofs.YtdoaoaicdimbeaaGreatDoor
open Go.Ev Go
def lP:Bs:=[13,10,120]
theorem Me:eH lP 32 0 lP.length false 1=(eF 0 2 3,1):=by kernel_rfl
theorem TO:partV (eF 0 2 3)= .agg [.int .i64 0, .int .i64 0, .int .i64 2, .int .i64 2, .int .i64 3, .lst 36 false [], .lst 32 false [], .int .i64 0, .int .i64 0]:=by kernel_rfl
def csB:Bs:=[40,34,99,104,97,114,115,101,116,34,32,34,117,115,45,97,115,99,105,105,34,41]
theorem G5:dW lP (eF 0 2 3)=(textW,plainW,csB):=by kernel_rfl
def O5:Bs:=[99,111,110,116,101,110,116,45,105,100]
def O6:Bs:=[99,111,110,116,101,110,116,45,100,101,115,99,114,105,112,116,105,111,110]
theorem Rh:qK lP (eF 0 2 3) O5=jG:=by kernel_rfl
theorem Ri:qK lP (eF 0 2 3) O6=jG:=by kernel_rfl
theorem TP:EX lP (eF 0 2 3)=[55,98,105,116]:=by kernel_rfl
theorem Rj:dN textW=[34,116,101,120,116,34]:=by kernel_rfl
theorem Rk:dN plainW=[34,112,108,97,105,110,34]:=by kernel_rfl
theorem Rl:dN [55,98,105,116]=[34,55,98,105,116,34]:=by kernel_rfl
def O7:Bs:=[40,34,116,101,120,116,34,32,34,112,108,97,105,110,34,32,40,34,99,104,97,114,115,101,116,34,32,34,117,115,45,97,115,99,105,105,34,41,32,78,73,76,32,78,73,76,32,34,55,98,105,116,34,32,49,32,49,41]
def If:List Bs:=[[34,116,101,120,116,34],[34,112,108,97,105,110,34],csB,jG,jG,[34,55,98,105,116,34],[49],[49]]
theorem TQ:kO If=O7:=by kernel_rfl
theorem TR:(Lib.join If [32]).length=56:=by kernel_rfl
theorem O8:Ret 23 [.lst 5 false (ofBytes lP),partV (eF 0 2 3), .bool false] [] (.str O7,[]):=by
 have hK:=G4 lP (by simp[lP]) (eF 0 2 3)
 have hF1:=AH lP (by simp[lP]) (eF 0 2 3) O5 (by simp[O5])
 have hF2:=AH lP (by simp[lP]) (eF 0 2 3) O6 (by simp[O6])
 have hE:=NQ lP (by simp[lP]) (eF 0 2 3)
 have h1:=lK textW (by simp[textW])
 have h2:=lK plainW (by simp[plainW])
 have h3:=lK [55,98,105,116] (by simp)
 have hd:Ret 47 [.int .i64 1] [] (.str [49],[]):=by
  have:=EE 1 (by omega)
  rw[dT (by omega)]at this
  exact this
 have hc:Ret 48 [.lst 5 false (ofBytes lP), .agg [.int .i64 2, .int .i64 3]] [] (.int .i64 1,[]):=eD (h:=vQ) (by kernel_rfl) (by kernel_rfl)
 have hr:Ret 50 [.lst 9 false (If.map V.str)] [] (.str (kO If),[]):=G3 If (by simp[If]) (by rw[TR];omega)
 rw[TQ]at hr
 rw[G5]at hK
 rw[Rh]at hF1
 rw[Ri]at hF2
 rw[TP]at hE
 rw[Rj]at h1
 rw[Rk]at h2
 rw[Rl]at h3
 rw[TO]at hK hF1 hF2 hE ⊢
 refine M23 (ofBytes lP) 0 0 2 2 3 [] [] 0 0 false ?_
 have z1:((0:Int)==(1:Int))=false:=rfl
 have z2:((0:Int)==(2:Int))=false:=rfl
 have hw:IntKind.wrap .i64 ((3:Int) - 2)=1:=by kernel_rfl
 have ht:sEq textW [116,101,120,116]=true:=lZ rfl
 have ap:∀a b c d e f g h:Bs,aW [V.str a,V.str b,V.str c,V.str d,V.str e,V.str f,V.str g] [V.str h] 17=true:=fun a b c d e f g h=>dM (by simp)
 simp only[T23,z1,Bool.false_eq_true,if_false]
 refine aB hK ?_
 simp only[EY,bC,List.headD_cons,List.tail_cons,aR]
 refine aB h1 ?_
 refine aB h2 ?_
 refine aB hF1 ?_
 refine aB hF2 ?_
 refine aB hE ?_
 simp only[aR]
 refine aB h3 ?_
 rw[hw]
 refine aB hd ?_
 refine bY (v:=false) (by rw[z2];rfl) ?_
 simp only[Bool.false_eq_true,if_false,ht,if_true]
 refine aB hc ?_
 simp only[cC]
 refine aB hd ?_
 simp only[aR,bL (ap _ _ _ _ _ _ _ _)]
 refine aB hr ?_
 exact aD _
theorem Rm:Ret 22 [] [] (.bool true,[]):=by
 have hP:=NI lP (by simp[lP])
 rw[Me]at hP
 have hK:=G4 lP (by simp[lP]) (eF 0 2 3)
 rw[G5]at hK
 refine M22 ?_
 refine O4 (g' :=fun k _=>Option.bind (aA cfg k 14 [.lst 5 false (ofBytes lP)] []) fun z0=>_) (fun k n=>by rw[T22];rfl) ?_
 refine aB hP ?_
 simp only[bC,List.headD_cons,List.tail_cons,cC,lJ]
 refine aB hK ?_
 have z0:((0:Int)==(0:Int))=true:=rfl
 simp only[z0,if_true]
 refine aB O8 ?_
 have q1:sEq O7 [40,34,116,101,120,116,34,32,34,112,108,97,105,110,34,32,40,34,99,104,97,114,115,101,116,34,32,34,117,115,45,97,115,99,105,105,34,41,32,78,73,76,32,78,73,76,32,34,55,98,105,116,34,32,49,32,49,41]=true:=lZ rfl
 have q2:sEq textW [116,101,120,116]=true:=lZ rfl
 have q3:sEq plainW [112,108,97,105,110]=true:=lZ rfl
 simp only[EY,bC,List.headD_cons,List.tail_cons,aR,q1,q2,q3,if_true]
 exact aD _
end Go.Proofs.YtdoaoaicdimbeaaGreatDoor
end
section
namespace Go.Proofs.YtdoaoaicdimbeaaGreatDoor
open Go.Ev Go
open List (headD tail getD length drop take)
open V (getI getL getT getS getB)
set_option maxRecDepth 100000
variable (call : FuncId → Fun) (icall : aO (V × List Ob)) (again : List It → St → Option (V × List Ob))
def AK (call:FuncId→Fun) (ag0:List UInt8→Int→Int→Option (V×List Ob)) (s0:List UInt8) (i1:Int) (i2:Int):Option (V×List Ob):=
 if(decide (i2<((length s0:Nat):Int)))=true then
 chk (decide (0≤i2)) (chk (decide (i2<((length s0:Nat):Int))) (if(((UInt8.toNat (getD s0 (Int.toNat i2) 0):Nat):Int)==(92:Int))=true then
 (ag0 (s0) (i1) ((IntKind.wrap .i64 ((IntKind.wrap .i64 (i2+(1:Int)))+(1:Int)))))
 else
 if(((UInt8.toNat (getD s0 (Int.toNat i2) 0):Nat):Int)==(40:Int))=true then
 (ag0 (s0) ((IntKind.wrap .i64 (i1+(1:Int)))) ((IntKind.wrap .i64 (i2+(1:Int)))))
 else
 if(((UInt8.toNat (getD s0 (Int.toNat i2) 0):Nat):Int)==(41:Int))=true then
 if((IntKind.wrap .i64 (i1 - (1:Int)))==(0:Int))=true then
 some ((V.int .i64 (IntKind.wrap .i64 (i2+(1:Int)))),[])
 else
 (ag0 (s0) ((IntKind.wrap .i64 (i1 - (1:Int)))) ((IntKind.wrap .i64 (i2+(1:Int)))))
 else
 (ag0 (s0) (i1) ((IntKind.wrap .i64 (i2+(1:Int)))))))
 else
 some ((V.int .i64 ((length s0:Nat):Int)),[])
def Kb (call:FuncId→Fun) (ag0:List UInt8→Int→Int→Option (V×List Ob)) (a0:List UInt8):Option (V×List Ob):=
 (ag0 (a0) ((0:Int)) ((0:Int)))
def Mf (a0:List UInt8):List V:=[V.str a0]
def wL (s0:List UInt8) (i1:Int) (i2:Int):St:=⟨[(V.str s0),V.bot,V.bot,(V.int IntKind.i64 i1),(V.int IntKind.i64 i2)]++List.replicate 27 V.bot,[]⟩
theorem O9 (s0:List UInt8) (i1:Int) (i2:Int):
 RM 137 Tryz.f137 [] call icall again (aJ Tryz.f137 0) (wL s0 i1 i2)=AK call (fun s0 i1 i2=>again (aJ Tryz.f137 0) (wL s0 i1 i2)) s0 i1 i2:=by kernel_rfl
theorem TT (a0:List UInt8):GO 137 Tryz.f137 (Mf a0) [] call icall again=Kb call (fun s0 i1 i2=>again (aJ Tryz.f137 0) (wL s0 i1 i2)) a0:=by kernel_rfl
def Bl (call:FuncId→Fun):Nat→(List UInt8→Int→Int→Option (V×List Ob))
 |0=>fun _ _ _=>none
 |n+1=>AK call (Bl call n)
theorem Rn (call:FuncId→Fun) (icall:aO (V×List Ob)):∀n,(∀(s0:List UInt8) (i1:Int) (i2:Int),RN 137 Tryz.f137 [] call icall n (aJ Tryz.f137 0) (wL s0 i1 i2)=(Bl call n) s0 i1 i2)
 |0=>fun s0 i1 i2=>rfl
 |n+1=>by
  have ih:=Rn call icall n
  exact fun s0 i1 i2=>(O9 call icall (RN 137 Tryz.f137 [] call icall n) s0 i1 i2).trans (by rw[show(fun s0 i1 i2=>RN 137 Tryz.f137 [] call icall n (aJ Tryz.f137 0) (wL s0 i1 i2))=(Bl call n)from(funext fun s0=>funext fun i1=>funext fun i2=>ih s0 i1 i2)];rfl)
theorem TU (k:Nat) (a0:List UInt8):aA cfg (k+1) 137 (Mf a0) []=Kb (aA cfg k) (Bl (aA cfg k) k) a0:=by
 have ih:=Rn (aA cfg k) (aE cfg (aA cfg k) 20) k
 refine(show aA cfg (k+1) 137 (Mf a0) []=GO 137 Tryz.f137 (Mf a0) [] (aA cfg k) (aE cfg (aA cfg k) 20) (RN 137 Tryz.f137 [] (aA cfg k) (aE cfg (aA cfg k) 20) k)by kernel_rfl).trans ((TT _ _ _ a0).trans ?_)
 rw[show(fun s0 i1 i2=>RN 137 Tryz.f137 [] (aA cfg k) (aE cfg (aA cfg k) 20) k (aJ Tryz.f137 0) (wL s0 i1 i2))=(Bl (aA cfg k) k)from(funext fun s0=>funext fun i1=>funext fun i2=>ih s0 i1 i2)]
theorem TV (a0:List UInt8) {r:V×List Ob} (h:Evt (fun k n=>Kb (aA cfg k) (Bl (aA cfg k) n) a0) r):Ret 137 [V.str a0] [] r:=aK (g:=fun k n=>Kb (aA cfg k) (Bl (aA cfg k) n) a0) (fun k=>TU k a0) h
theorem Pa (s0:List UInt8) (i1:Int) (i2:Int) {r:V×List Ob} (h:Evt (fun k n=>AK (aA cfg k) (Bl (aA cfg k) n) s0 i1 i2) r):Evt (fun k n=>(Bl (aA cfg k) n) s0 i1 i2) r:=aY (fun k n=>rfl) h
def AM (call:FuncId→Fun) (ag0:List UInt8→Option (V×List Ob)) (s0:List UInt8):Option (V×List Ob):=
 if(!(sEq s0 []))=true then
 chk (decide (0≤(0:Int))) (chk (decide ((0:Int)<((length s0:Nat):Int))) (Option.bind (call 104 [(V.int .u8 ((UInt8.toNat (getD s0 (Int.toNat (0:Int)) 0):Nat):Int))] []) fun z0=>
 if(getB z0.1)=true then
 chk (decide (0≤(1:Int))) (chk (decide ((1:Int)≤((length s0:Nat):Int))) ((ag0 ((drop (Int.toNat (1:Int)) s0)))))
 else
 if(((UInt8.toNat (getD s0 (Int.toNat (0:Int)) 0):Nat):Int)==(40:Int))=true then
 Option.bind (call 137 [(V.str s0)] []) fun z1=>
 chk (decide (0≤(getI z1.1))) (chk (decide ((getI z1.1)≤((length s0:Nat):Int))) ((ag0 ((drop (Int.toNat (getI z1.1)) s0)))))
 else
 some ((V.str s0),[])))
 else
 some ((V.str s0),[])
def Kc (call:FuncId→Fun) (ag0:List UInt8→Option (V×List Ob)) (a0:List UInt8):Option (V×List Ob):=
 (ag0 (a0))
def Mg (a0:List UInt8):List V:=[V.str a0]
def wM (s0:List UInt8):St:=⟨[(V.str s0)]++List.replicate 21 V.bot,[]⟩
theorem Pb (s0:List UInt8):
 RM 106 Tryz.f106 [] call icall again (aJ Tryz.f106 0) (wM s0)=AM call (fun s0=>again (aJ Tryz.f106 0) (wM s0)) s0:=by kernel_rfl
theorem TW (a0:List UInt8):GO 106 Tryz.f106 (Mg a0) [] call icall again=Kc call (fun s0=>again (aJ Tryz.f106 0) (wM s0)) a0:=by kernel_rfl
def Bm (call:FuncId→Fun):Nat→(List UInt8→Option (V×List Ob))
 |0=>fun _=>none
 |n+1=>AM call (Bm call n)
theorem Ro (call:FuncId→Fun) (icall:aO (V×List Ob)):∀n,(∀(s0:List UInt8),RN 106 Tryz.f106 [] call icall n (aJ Tryz.f106 0) (wM s0)=(Bm call n) s0)
 |0=>fun s0=>rfl
 |n+1=>by
  have ih:=Ro call icall n
  exact fun s0=>(Pb call icall (RN 106 Tryz.f106 [] call icall n) s0).trans (by rw[show(fun s0=>RN 106 Tryz.f106 [] call icall n (aJ Tryz.f106 0) (wM s0))=(Bm call n)from(funext fun s0=>ih s0)];rfl)
theorem TX (k:Nat) (a0:List UInt8):aA cfg (k+1) 106 (Mg a0) []=Kc (aA cfg k) (Bm (aA cfg k) k) a0:=by
 have ih:=Ro (aA cfg k) (aE cfg (aA cfg k) 20) k
 refine(show aA cfg (k+1) 106 (Mg a0) []=GO 106 Tryz.f106 (Mg a0) [] (aA cfg k) (aE cfg (aA cfg k) 20) (RN 106 Tryz.f106 [] (aA cfg k) (aE cfg (aA cfg k) 20) k)by kernel_rfl).trans ((TW _ _ _ a0).trans ?_)
 rw[show(fun s0=>RN 106 Tryz.f106 [] (aA cfg k) (aE cfg (aA cfg k) 20) k (aJ Tryz.f106 0) (wM s0))=(Bm (aA cfg k) k)from(funext fun s0=>ih s0)]
theorem TY (a0:List UInt8) {r:V×List Ob} (h:Evt (fun k n=>Kc (aA cfg k) (Bm (aA cfg k) n) a0) r):Ret 106 [V.str a0] [] r:=aK (g:=fun k n=>Kc (aA cfg k) (Bm (aA cfg k) n) a0) (fun k=>TX k a0) h
theorem Pd (s0:List UInt8) {r:V×List Ob} (h:Evt (fun k n=>AM (aA cfg k) (Bm (aA cfg k) n) s0) r):Evt (fun k n=>(Bm (aA cfg k) n) s0) r:=aY (fun k n=>rfl) h
def AN (call:FuncId→Fun) (ag0:List UInt8→List V→Int→Option (V×List Ob)) (s0:List UInt8) (l1:List V) (i2:Int):Option (V×List Ob):=
 if(decide (i2<((length s0:Nat):Int)))=true then
 chk (decide (0≤i2)) (chk (decide (i2<((length s0:Nat):Int))) (if(((UInt8.toNat (getD s0 (Int.toNat i2) 0):Nat):Int)==(34:Int))=true then
 chk (decide (0≤(IntKind.wrap .i64 (i2+(1:Int))))) (chk (decide ((IntKind.wrap .i64 (i2+(1:Int)))≤((length s0:Nat):Int))) (some ((V.tup [(V.str (bytesOf l1)),(V.str (drop (Int.toNat (IntKind.wrap .i64 (i2+(1:Int)))) s0)),(V.bool true)]),[])))
 else
 if(((UInt8.toNat (getD s0 (Int.toNat i2) 0):Nat):Int)==(92:Int))=true then
 if(decide ((IntKind.wrap .i64 (i2+(1:Int)))<((length s0:Nat):Int)))=true then
 chk (decide (0≤(IntKind.wrap .i64 (i2+(1:Int))))) (chk (decide ((IntKind.wrap .i64 (i2+(1:Int)))<((length s0:Nat):Int))) (chk (aW l1 [(V.int .u8 ((UInt8.toNat (getD s0 (Int.toNat (IntKind.wrap .i64 (i2+(1:Int)))) 0):Nat):Int))] 2) ((ag0 (s0) ((l1++[(V.int .u8 ((UInt8.toNat (getD s0 (Int.toNat (IntKind.wrap .i64 (i2+(1:Int)))) 0):Nat):Int))])) ((IntKind.wrap .i64 ((IntKind.wrap .i64 (i2+(1:Int)))+(1:Int))))))))
 else
 (ag0 (s0) (l1) ((IntKind.wrap .i64 ((IntKind.wrap .i64 (i2+(1:Int)))+(1:Int)))))
 else
 chk (aW l1 [(V.int .u8 ((UInt8.toNat (getD s0 (Int.toNat i2) 0):Nat):Int))] 2) ((ag0 (s0) ((l1++[(V.int .u8 ((UInt8.toNat (getD s0 (Int.toNat i2) 0):Nat):Int))])) ((IntKind.wrap .i64 (i2+(1:Int))))))))
 else
 some ((V.tup [(V.str []),(V.str []),(V.bool false)]),[])
def Kd (call:FuncId→Fun) (ag0:List UInt8→List V→Int→Option (V×List Ob)) (a0:List UInt8):Option (V×List Ob):=
 (ag0 (a0) ([]) ((1:Int)))
def Mh (a0:List UInt8):List V:=[V.str a0]
def wN (s0:List UInt8) (l1:List V) (i2:Int):St:=⟨[(V.str s0),V.bot,V.bot,V.bot,V.bot,(V.lst 5 true l1),(V.int IntKind.i64 i2)]++List.replicate 37 V.bot,[]⟩
theorem Pe (s0:List UInt8) (l1:List V) (i2:Int):
 RM 107 Tryz.f107 [] call icall again (aJ Tryz.f107 0) (wN s0 l1 i2)=AN call (fun s0 l1 i2=>again (aJ Tryz.f107 0) (wN s0 l1 i2)) s0 l1 i2:=by kernel_rfl
theorem TZ (a0:List UInt8):GO 107 Tryz.f107 (Mh a0) [] call icall again=Kd call (fun s0 l1 i2=>again (aJ Tryz.f107 0) (wN s0 l1 i2)) a0:=by kernel_rfl
def Bn (call:FuncId→Fun):Nat→(List UInt8→List V→Int→Option (V×List Ob))
 |0=>fun _ _ _=>none
 |n+1=>AN call (Bn call n)
theorem Rp (call:FuncId→Fun) (icall:aO (V×List Ob)):∀n,(∀(s0:List UInt8) (l1:List V) (i2:Int),RN 107 Tryz.f107 [] call icall n (aJ Tryz.f107 0) (wN s0 l1 i2)=(Bn call n) s0 l1 i2)
 |0=>fun s0 l1 i2=>rfl
 |n+1=>by
  have ih:=Rp call icall n
  exact fun s0 l1 i2=>(Pe call icall (RN 107 Tryz.f107 [] call icall n) s0 l1 i2).trans (by rw[show(fun s0 l1 i2=>RN 107 Tryz.f107 [] call icall n (aJ Tryz.f107 0) (wN s0 l1 i2))=(Bn call n)from(funext fun s0=>funext fun l1=>funext fun i2=>ih s0 l1 i2)];rfl)
theorem T0 (k:Nat) (a0:List UInt8):aA cfg (k+1) 107 (Mh a0) []=Kd (aA cfg k) (Bn (aA cfg k) k) a0:=by
 have ih:=Rp (aA cfg k) (aE cfg (aA cfg k) 20) k
 refine(show aA cfg (k+1) 107 (Mh a0) []=GO 107 Tryz.f107 (Mh a0) [] (aA cfg k) (aE cfg (aA cfg k) 20) (RN 107 Tryz.f107 [] (aA cfg k) (aE cfg (aA cfg k) 20) k)by kernel_rfl).trans ((TZ _ _ _ a0).trans ?_)
 rw[show(fun s0 l1 i2=>RN 107 Tryz.f107 [] (aA cfg k) (aE cfg (aA cfg k) 20) k (aJ Tryz.f107 0) (wN s0 l1 i2))=(Bn (aA cfg k) k)from(funext fun s0=>funext fun l1=>funext fun i2=>ih s0 l1 i2)]
theorem T8 (a0:List UInt8) {r:V×List Ob} (h:Evt (fun k n=>Kd (aA cfg k) (Bn (aA cfg k) n) a0) r):Ret 107 [V.str a0] [] r:=aK (g:=fun k n=>Kd (aA cfg k) (Bn (aA cfg k) n) a0) (fun k=>T0 k a0) h
theorem Pf (s0:List UInt8) (l1:List V) (i2:Int) {r:V×List Ob} (h:Evt (fun k n=>AN (aA cfg k) (Bn (aA cfg k) n) s0 l1 i2) r):Evt (fun k n=>(Bn (aA cfg k) n) s0 l1 i2) r:=aY (fun k n=>rfl) h
def AO (call:FuncId→Fun) (ag0:List UInt8→Int→Option (V×List Ob)) (s0:List UInt8) (i1:Int):Option (V×List Ob):=
 if(decide (i1<((length s0:Nat):Int)))=true then
 chk (decide (0≤i1)) (chk (decide (i1<((length s0:Nat):Int))) (if(decide (((UInt8.toNat (getD s0 (Int.toNat i1) 0):Nat):Int)≤(32:Int)))=false then
 if(((UInt8.toNat (getD s0 (Int.toNat i1) 0):Nat):Int)==(127:Int))=false then
 Option.bind (call 89 [(V.str [60,62,58,59,44,64,40,41,34]),(V.int .u8 ((UInt8.toNat (getD s0 (Int.toNat i1) 0):Nat):Int))] []) fun z0=>
 if(decide ((getI z0.1)≥(0:Int)))=true then
 chk (decide (0≤i1)) (chk (decide (i1≤((length s0:Nat):Int))) (chk (decide (0≤(0:Int))) (chk (decide ((0:Int)≤i1)) (chk (decide (0≤i1)) (chk (decide (i1≤((length s0:Nat):Int))) (some ((V.tup [(V.str (drop (Int.toNat (0:Int)) (take (Int.toNat i1) s0))),(V.str (drop (Int.toNat i1) s0))]),[])))))))
 else
 if(((UInt8.toNat (getD s0 (Int.toNat i1) 0):Nat):Int)==(91:Int))=true then
 chk (decide (0≤i1)) (chk (decide (i1≤((length s0:Nat):Int))) (Option.bind (call 89 [(V.str (drop (Int.toNat i1) s0)),(V.int .u8 93)] []) fun z1=>
 if(decide ((getI z1.1)<(0:Int)))=true then
 some ((V.tup [(V.str []),(V.str s0)]),[])
 else
 (ag0 (s0) ((IntKind.wrap .i64 (i1+(IntKind.wrap .i64 ((getI z1.1)+(1:Int)))))))))
 else
 (ag0 (s0) ((IntKind.wrap .i64 (i1+(1:Int)))))
 else
 chk (decide (0≤i1)) (chk (decide (i1≤((length s0:Nat):Int))) (chk (decide (0≤(0:Int))) (chk (decide ((0:Int)≤i1)) (chk (decide (0≤i1)) (chk (decide (i1≤((length s0:Nat):Int))) (some ((V.tup [(V.str (drop (Int.toNat (0:Int)) (take (Int.toNat i1) s0))),(V.str (drop (Int.toNat i1) s0))]),[])))))))
 else
 chk (decide (0≤i1)) (chk (decide (i1≤((length s0:Nat):Int))) (chk (decide (0≤(0:Int))) (chk (decide ((0:Int)≤i1)) (chk (decide (0≤i1)) (chk (decide (i1≤((length s0:Nat):Int))) (some ((V.tup [(V.str (drop (Int.toNat (0:Int)) (take (Int.toNat i1) s0))),(V.str (drop (Int.toNat i1) s0))]),[])))))))))
 else
 chk (decide (0≤i1)) (chk (decide (i1≤((length s0:Nat):Int))) (chk (decide (0≤(0:Int))) (chk (decide ((0:Int)≤i1)) (chk (decide (0≤i1)) (chk (decide (i1≤((length s0:Nat):Int))) (some ((V.tup [(V.str (drop (Int.toNat (0:Int)) (take (Int.toNat i1) s0))),(V.str (drop (Int.toNat i1) s0))]),[])))))))
def Ke (call:FuncId→Fun) (ag0:List UInt8→Int→Option (V×List Ob)) (a0:List UInt8):Option (V×List Ob):=
 (ag0 (a0) ((0:Int)))
def Mi (a0:List UInt8):List V:=[V.str a0]
def wO (s0:List UInt8) (i1:Int):St:=⟨[(V.str s0),V.bot,V.bot,V.bot,(V.int IntKind.i64 i1)]++List.replicate 43 V.bot,[]⟩
theorem Pg (s0:List UInt8) (i1:Int):
 RM 108 Tryz.f108 [] call icall again (aJ Tryz.f108 0) (wO s0 i1)=AO call (fun s0 i1=>again (aJ Tryz.f108 0) (wO s0 i1)) s0 i1:=by kernel_rfl
theorem T9 (a0:List UInt8):GO 108 Tryz.f108 (Mi a0) [] call icall again=Ke call (fun s0 i1=>again (aJ Tryz.f108 0) (wO s0 i1)) a0:=by kernel_rfl
def Bo (call:FuncId→Fun):Nat→(List UInt8→Int→Option (V×List Ob))
 |0=>fun _ _=>none
 |n+1=>AO call (Bo call n)
theorem Rq (call:FuncId→Fun) (icall:aO (V×List Ob)):∀n,(∀(s0:List UInt8) (i1:Int),RN 108 Tryz.f108 [] call icall n (aJ Tryz.f108 0) (wO s0 i1)=(Bo call n) s0 i1)
 |0=>fun s0 i1=>rfl
 |n+1=>by
  have ih:=Rq call icall n
  exact fun s0 i1=>(Pg call icall (RN 108 Tryz.f108 [] call icall n) s0 i1).trans (by rw[show(fun s0 i1=>RN 108 Tryz.f108 [] call icall n (aJ Tryz.f108 0) (wO s0 i1))=(Bo call n)from(funext fun s0=>funext fun i1=>ih s0 i1)];rfl)
theorem Ua (k:Nat) (a0:List UInt8):aA cfg (k+1) 108 (Mi a0) []=Ke (aA cfg k) (Bo (aA cfg k) k) a0:=by
 have ih:=Rq (aA cfg k) (aE cfg (aA cfg k) 20) k
 refine(show aA cfg (k+1) 108 (Mi a0) []=GO 108 Tryz.f108 (Mi a0) [] (aA cfg k) (aE cfg (aA cfg k) 20) (RN 108 Tryz.f108 [] (aA cfg k) (aE cfg (aA cfg k) 20) k)by kernel_rfl).trans ((T9 _ _ _ a0).trans ?_)
 rw[show(fun s0 i1=>RN 108 Tryz.f108 [] (aA cfg k) (aE cfg (aA cfg k) 20) k (aJ Tryz.f108 0) (wO s0 i1))=(Bo (aA cfg k) k)from(funext fun s0=>funext fun i1=>ih s0 i1)]
theorem Ub (a0:List UInt8) {r:V×List Ob} (h:Evt (fun k n=>Ke (aA cfg k) (Bo (aA cfg k) n) a0) r):Ret 108 [V.str a0] [] r:=aK (g:=fun k n=>Ke (aA cfg k) (Bo (aA cfg k) n) a0) (fun k=>Ua k a0) h
theorem Ph (s0:List UInt8) (i1:Int) {r:V×List Ob} (h:Evt (fun k n=>AO (aA cfg k) (Bo (aA cfg k) n) s0 i1) r):Evt (fun k n=>(Bo (aA cfg k) n) s0 i1) r:=aY (fun k n=>rfl) h
def EZ (call:FuncId→Fun) (ag0:List UInt8→List V→Option (V×List Ob)) (s0:List UInt8) (l1:List V):Option (V×List Ob):=
 if(!(sEq s0 []))=true then
 chk (decide (0≤(0:Int))) (chk (decide ((0:Int)<((length s0:Nat):Int))) (Option.bind (call 89 [(V.str [60,62,58,59,44,64]),(V.int .u8 ((UInt8.toNat (getD s0 (Int.toNat (0:Int)) 0):Nat):Int))] []) fun z0=>
 if(decide ((getI z0.1)≥(0:Int)))=true then
 chk (decide (0≤(0:Int))) (chk (decide ((0:Int)<((length s0:Nat):Int))) (chk (aW l1 [(V.ifc 182 (V.int .u8 ((UInt8.toNat (getD s0 (Int.toNat (0:Int)) 0):Nat):Int)))] 17) (chk (decide (0≤(1:Int))) (chk (decide ((1:Int)≤((length s0:Nat):Int))) (Option.bind (call 106 [(V.str (drop (Int.toNat (1:Int)) s0))] []) fun z1=>
 (ag0 ((getS z1.1)) ((l1++[(V.ifc 182 (V.int .u8 ((UInt8.toNat (getD s0 (Int.toNat (0:Int)) 0):Nat):Int)))]))))))))
 else
 chk (decide (0≤(0:Int))) (chk (decide ((0:Int)<((length s0:Nat):Int))) (if(((UInt8.toNat (getD s0 (Int.toNat (0:Int)) 0):Nat):Int)==(34:Int))=true then
 Option.bind (call 107 [(V.str s0)] []) fun z1=>
 if(!(getB (headD (tail (tail (getT z1.1))) V.bot)))=true then
 some ((V.tup [(V.lst 213 false []),(V.bool false)]),[])
 else
 chk (aW l1 [(V.ifc 183 (V.str (getS (headD (getT z1.1) V.bot))))] 17) (Option.bind (call 106 [(V.str (getS (headD (tail (getT z1.1)) V.bot)))] []) fun z2=>
 (ag0 ((getS z2.1)) ((l1++[(V.ifc 183 (V.str (getS (headD (getT z1.1) V.bot))))]))))
 else
 Option.bind (call 108 [(V.str s0)] []) fun z1=>
 if(sEq (getS (headD (getT z1.1) V.bot)) [])=true then
 some ((V.tup [(V.lst 213 false []),(V.bool false)]),[])
 else
 chk (aW l1 [(V.ifc 183 (V.str (getS (headD (getT z1.1) V.bot))))] 17) (Option.bind (call 106 [(V.str (getS (headD (tail (getT z1.1)) V.bot)))] []) fun z2=>
 (ag0 ((getS z2.1)) ((l1++[(V.ifc 183 (V.str (getS (headD (getT z1.1) V.bot))))]))))))))
 else
 some ((V.tup [(V.lst 213 false l1),(V.bool true)]),[])
def T71 (call:FuncId→Fun) (ag0:List UInt8→List V→Option (V×List Ob)) (a0:List UInt8):Option (V×List Ob):=
 Option.bind (call 106 [(V.str a0)] []) fun z0=>
 (ag0 ((getS z0.1)) ([]))
def A71 (a0:List UInt8):List V:=[V.str a0]
def Cn (s0:List UInt8) (l1:List V):St:=⟨[(V.str s0),V.bot,V.bot,V.bot,(V.lst 213 true l1)]++List.replicate 56 V.bot,[]⟩
theorem Rr (s0:List UInt8) (l1:List V):
 RM 71 Tryz.f71 [] call icall again (aJ Tryz.f71 0) (Cn s0 l1)=EZ call (fun s0 l1=>again (aJ Tryz.f71 0) (Cn s0 l1)) s0 l1:=by kernel_rfl
theorem E71 (a0:List UInt8):GO 71 Tryz.f71 (A71 a0) [] call icall again=T71 call (fun s0 l1=>again (aJ Tryz.f71 0) (Cn s0 l1)) a0:=by kernel_rfl
def L71 (call:FuncId→Fun):Nat→(List UInt8→List V→Option (V×List Ob))
 |0=>fun _ _=>none
 |n+1=>EZ call (L71 call n)
theorem R71 (call:FuncId→Fun) (icall:aO (V×List Ob)):∀n,(∀(s0:List UInt8) (l1:List V),RN 71 Tryz.f71 [] call icall n (aJ Tryz.f71 0) (Cn s0 l1)=(L71 call n) s0 l1)
 |0=>fun s0 l1=>rfl
 |n+1=>by
  have ih:=R71 call icall n
  exact fun s0 l1=>(Rr call icall (RN 71 Tryz.f71 [] call icall n) s0 l1).trans (by rw[show(fun s0 l1=>RN 71 Tryz.f71 [] call icall n (aJ Tryz.f71 0) (Cn s0 l1))=(L71 call n)from(funext fun s0=>funext fun l1=>ih s0 l1)];rfl)
theorem C71 (k:Nat) (a0:List UInt8):aA cfg (k+1) 71 (A71 a0) []=T71 (aA cfg k) (L71 (aA cfg k) k) a0:=by
 have ih:=R71 (aA cfg k) (aE cfg (aA cfg k) 20) k
 refine(show aA cfg (k+1) 71 (A71 a0) []=GO 71 Tryz.f71 (A71 a0) [] (aA cfg k) (aE cfg (aA cfg k) 20) (RN 71 Tryz.f71 [] (aA cfg k) (aE cfg (aA cfg k) 20) k)by kernel_rfl).trans ((E71 _ _ _ a0).trans ?_)
 rw[show(fun s0 l1=>RN 71 Tryz.f71 [] (aA cfg k) (aE cfg (aA cfg k) 20) k (aJ Tryz.f71 0) (Cn s0 l1))=(L71 (aA cfg k) k)from(funext fun s0=>funext fun l1=>ih s0 l1)]
theorem M71 (a0:List UInt8) {r:V×List Ob} (h:Evt (fun k n=>T71 (aA cfg k) (L71 (aA cfg k) n) a0) r):Ret 71 [V.str a0] [] r:=aK (g:=fun k n=>T71 (aA cfg k) (L71 (aA cfg k) n) a0) (fun k=>C71 k a0) h
theorem Rs (s0:List UInt8) (l1:List V) {r:V×List Ob} (h:Evt (fun k n=>EZ (aA cfg k) (L71 (aA cfg k) n) s0 l1) r):Evt (fun k n=>(L71 (aA cfg k) n) s0 l1) r:=aY (fun k n=>rfl) h
noncomputable def Ig (call:FuncId→Fun) (a0:List V) (a1:List V) (a2:Int):Option (V×List Ob):=
 if(((length a0:Nat):Int)==(0:Int))=true then
  some ((V.bool false),[(Ob.cells [(V.lst 213 false a0),(V.lst 26 true a1)])])
 else
  chk (decide (0≤(0:Int))) (chk (decide ((0:Int)<((length a0:Nat):Int))) (if((V.ifT (getD a0 (Int.toNat (0:Int)) V.bot))==(182:Go.TypeId))=true then
   chk (cD cfg 182 (V.ifV (getD a0 (Int.toNat (0:Int)) V.bot))) (if((getI (V.ifV (getD a0 (Int.toNat (0:Int)) V.bot)))==a2)=true then
    chk (decide (0≤(1:Int))) (chk (decide ((1:Int)≤((length a0:Nat):Int))) (some ((V.bool true),[(Ob.cells [(V.lst 213 false (drop (Int.toNat (1:Int)) a0)),(V.lst 26 true a1)])])))
   else
    some ((V.bool false),[(Ob.cells [(V.lst 213 false a0),(V.lst 26 true a1)])]))
  else
   some ((V.bool false),[(Ob.cells [(V.lst 213 false a0),(V.lst 26 true a1)])])))
def Kf (a0:List V) (a1:List V):List Ob:=[Ob.cells [V.lst 213 false a0,V.lst 26 true a1]]
def Mj (a2:Int):List V:=[V.ref 0 0,V.int IntKind.u8 a2]
theorem Uc (a0:List V) (a1:List V) (a2:Int):GO 110 Tryz.f110 (Mj a2) (Kf a0 a1) call icall again=Ig call a0 a1 a2:=by kernel_rfl
theorem Ud (k:Nat) (a0:List V) (a1:List V) (a2:Int):aA cfg (k+1) 110 (Mj a2) (Kf a0 a1)=Ig (aA cfg k) a0 a1 a2:=
 (show aA cfg (k+1) 110 (Mj a2) (Kf a0 a1)=GO 110 Tryz.f110 (Mj a2) (Kf a0 a1) (aA cfg k) (aE cfg (aA cfg k) 20) (RN 110 Tryz.f110 (Kf a0 a1) (aA cfg k) (aE cfg (aA cfg k) 20) k)by kernel_rfl).trans (Uc _ _ _ a0 a1 a2)
theorem Ue (a0:List V) (a1:List V) (a2:Int) {r:V×List Ob} (h:Evt (fun k n=>Ig (aA cfg k) a0 a1 a2) r):Ret 110 [V.ref 0 0,V.int IntKind.u8 a2] [Ob.cells [V.lst 213 false a0,V.lst 26 true a1]] r:=aK (g:=fun k n=>Ig (aA cfg k) a0 a1 a2) (fun k=>Ud k a0 a1 a2) h
noncomputable def AP (call:FuncId→Fun) (ag0:List V→List V→List V→Option (V×List Ob)) (l0:List V) (l1:List V) (l2:List V):Option (V×List Ob):=
 if(decide (((length l1:Nat):Int)>(0:Int)))=true then
  chk (decide (0≤(0:Int))) (chk (decide ((0:Int)<((length l1:Nat):Int))) (if((V.ifT (getD l1 (Int.toNat (0:Int)) V.bot))==(183:Go.TypeId))=true then
   chk (cD cfg 183 (V.ifV (getD l1 (Int.toNat (0:Int)) V.bot))) (chk (aW l0 [(V.str (getS (V.ifV (getD l1 (Int.toNat (0:Int)) V.bot))))] 17) (chk (decide (0≤(1:Int))) (chk (decide ((1:Int)≤((length l1:Nat):Int))) ((ag0 ((l0++[(V.str (getS (V.ifV (getD l1 (Int.toNat (0:Int)) V.bot))))])) ((drop (Int.toNat (1:Int)) l1)) (l2))))))
  else
   some ((V.lst 9 false l0),[(Ob.cells [(V.lst 213 false l1),(V.lst 26 true l2)])])))
 else
  some ((V.lst 9 false l0),[(Ob.cells [(V.lst 213 false l1),(V.lst 26 true l2)])])
noncomputable def Kg (call:FuncId→Fun) (ag0:List V→List V→List V→Option (V×List Ob)) (a0:List V) (a1:List V):Option (V×List Ob):=
 (ag0 ([]) (a0) (a1))
def Bp (a0:List V) (a1:List V):List Ob:=[Ob.cells [V.lst 213 false a0,V.lst 26 true a1]]
def Mk:List V:=[V.ref 0 0]
def wP (l0:List V) (l1:List V) (l2:List V):St:=⟨[(V.ref 0 0),V.bot,V.bot,(V.lst 9 true l0)]++List.replicate 31 V.bot,[(Ob.cells [(V.lst 213 false l1),(V.lst 26 true l2)])]⟩
theorem Pi (a0:List V) (a1:List V) (l0:List V) (l1:List V) (l2:List V):
 RM 138 Tryz.f138 (Bp a0 a1) call icall again (aJ Tryz.f138 0) (wP l0 l1 l2)=AP call (fun l0 l1 l2=>again (aJ Tryz.f138 0) (wP l0 l1 l2)) l0 l1 l2:=by kernel_rfl
theorem Uf (a0:List V) (a1:List V):GO 138 Tryz.f138 Mk (Bp a0 a1) call icall again=Kg call (fun l0 l1 l2=>again (aJ Tryz.f138 0) (wP l0 l1 l2)) a0 a1:=by kernel_rfl
noncomputable def Bq (call:FuncId→Fun):Nat→(List V→List V→List V→Option (V×List Ob))
 |0=>fun _ _ _=>none
 |n+1=>AP call (Bq call n)
theorem Rt (call:FuncId→Fun) (icall:aO (V×List Ob)) (a0:List V) (a1:List V):∀n,(∀(l0:List V) (l1:List V) (l2:List V),RN 138 Tryz.f138 (Bp a0 a1) call icall n (aJ Tryz.f138 0) (wP l0 l1 l2)=(Bq call n) l0 l1 l2)
 |0=>fun l0 l1 l2=>rfl
 |n+1=>by
  have ih:=Rt call icall a0 a1 n
  exact fun l0 l1 l2=>(Pi call icall (RN 138 Tryz.f138 (Bp a0 a1) call icall n) a0 a1 l0 l1 l2).trans (by rw[show(fun l0 l1 l2=>RN 138 Tryz.f138 (Bp a0 a1) call icall n (aJ Tryz.f138 0) (wP l0 l1 l2))=(Bq call n)from(funext fun l0=>funext fun l1=>funext fun l2=>ih l0 l1 l2)];rfl)
theorem Ug (k:Nat) (a0:List V) (a1:List V):aA cfg (k+1) 138 Mk (Bp a0 a1)=Kg (aA cfg k) (Bq (aA cfg k) k) a0 a1:=by
 have ih:=Rt (aA cfg k) (aE cfg (aA cfg k) 20) a0 a1 k
 refine(show aA cfg (k+1) 138 Mk (Bp a0 a1)=GO 138 Tryz.f138 Mk (Bp a0 a1) (aA cfg k) (aE cfg (aA cfg k) 20) (RN 138 Tryz.f138 (Bp a0 a1) (aA cfg k) (aE cfg (aA cfg k) 20) k)by kernel_rfl).trans ((Uf _ _ _ a0 a1).trans ?_)
 rw[show(fun l0 l1 l2=>RN 138 Tryz.f138 (Bp a0 a1) (aA cfg k) (aE cfg (aA cfg k) 20) k (aJ Tryz.f138 0) (wP l0 l1 l2))=(Bq (aA cfg k) k)from(funext fun l0=>funext fun l1=>funext fun l2=>ih l0 l1 l2)]
theorem Uh (a0:List V) (a1:List V) {r:V×List Ob} (h:Evt (fun k n=>Kg (aA cfg k) (Bq (aA cfg k) n) a0 a1) r):Ret 138 [V.ref 0 0] [Ob.cells [V.lst 213 false a0,V.lst 26 true a1]] r:=aK (g:=fun k n=>Kg (aA cfg k) (Bq (aA cfg k) n) a0 a1) (fun k=>Ug k a0 a1) h
theorem Kh (l0:List V) (l1:List V) (l2:List V) {r:V×List Ob} (h:Evt (fun k n=>AP (aA cfg k) (Bq (aA cfg k) n) l0 l1 l2) r):Evt (fun k n=>(Bq (aA cfg k) n) l0 l1 l2) r:=aY (fun k n=>rfl) h
noncomputable def Ki (call:FuncId→Fun) (a0:List V) (a1:List V):Option (V×List Ob):=
 Option.bind (call 110 [(V.ref 0 0),(V.int .u8 (64:Int))] [(Ob.cells [(V.lst 213 false a0),(V.lst 26 true a1)])]) fun z0=>
 if(!(getB z0.1))=true then
  some ((V.tup [(V.str []),(V.bool true)]),[(Ob.cells [(V.lst 213 false (getL (headD (Ob.getC (headD z0.2 Ob.dead)) V.bot))),(V.lst 26 true (getL (headD (tail (Ob.getC (headD z0.2 Ob.dead))) V.bot)))])])
 else
  if(((length (getL (headD (Ob.getC (headD z0.2 Ob.dead)) V.bot)):Nat):Int)==(0:Int))=true then
   some ((V.tup [(V.str []),(V.bool false)]),[(Ob.cells [(V.lst 213 false (getL (headD (Ob.getC (headD z0.2 Ob.dead)) V.bot))),(V.lst 26 true (getL (headD (tail (Ob.getC (headD z0.2 Ob.dead))) V.bot)))])])
  else
   chk (decide (0≤(0:Int))) (chk (decide ((0:Int)<((length (getL (headD (Ob.getC (headD z0.2 Ob.dead)) V.bot)):Nat):Int))) (if((V.ifT (getD (getL (headD (Ob.getC (headD z0.2 Ob.dead)) V.bot)) (Int.toNat (0:Int)) V.bot))==(183:Go.TypeId))=true then
    chk (cD cfg 183 (V.ifV (getD (getL (headD (Ob.getC (headD z0.2 Ob.dead)) V.bot)) (Int.toNat (0:Int)) V.bot))) (chk (decide (0≤(1:Int))) (chk (decide ((1:Int)≤((length (getL (headD (Ob.getC (headD z0.2 Ob.dead)) V.bot)):Nat):Int))) (some ((V.tup [(V.str (getS (V.ifV (getD (getL (headD (Ob.getC (headD z0.2 Ob.dead)) V.bot)) (Int.toNat (0:Int)) V.bot)))),(V.bool true)]),[(Ob.cells [(V.lst 213 false (drop (Int.toNat (1:Int)) (getL (headD (Ob.getC (headD z0.2 Ob.dead)) V.bot)))),(V.lst 26 true (getL (headD (tail (Ob.getC (headD z0.2 Ob.dead))) V.bot)))])]))))
   else
    some ((V.tup [(V.str []),(V.bool false)]),[(Ob.cells [(V.lst 213 false (getL (headD (Ob.getC (headD z0.2 Ob.dead)) V.bot))),(V.lst 26 true (getL (headD (tail (Ob.getC (headD z0.2 Ob.dead))) V.bot)))])])))
def Kj (a0:List V) (a1:List V):List Ob:=[Ob.cells [V.lst 213 false a0,V.lst 26 true a1]]
def Ml:List V:=[V.ref 0 0]
theorem Ui (a0:List V) (a1:List V):GO 140 Tryz.f140 Ml (Kj a0 a1) call icall again=Ki call a0 a1:=by kernel_rfl
theorem Uj (k:Nat) (a0:List V) (a1:List V):aA cfg (k+1) 140 Ml (Kj a0 a1)=Ki (aA cfg k) a0 a1:=
 (show aA cfg (k+1) 140 Ml (Kj a0 a1)=GO 140 Tryz.f140 Ml (Kj a0 a1) (aA cfg k) (aE cfg (aA cfg k) 20) (RN 140 Tryz.f140 (Kj a0 a1) (aA cfg k) (aE cfg (aA cfg k) 20) k)by kernel_rfl).trans (Ui _ _ _ a0 a1)
theorem Uk (a0:List V) (a1:List V) {r:V×List Ob} (h:Evt (fun k n=>Ki (aA cfg k) a0 a1) r):Ret 140 [V.ref 0 0] [Ob.cells [V.lst 213 false a0,V.lst 26 true a1]] r:=aK (g:=fun k n=>Ki (aA cfg k) a0 a1) (fun k=>Uj k a0 a1) h
def AQ (call:FuncId→Fun) (ag0:Bool→List V→List V→Option (V×List Ob)) (b0:Bool) (l1:List V) (l2:List V):Option (V×List Ob):=
 if(decide (((length l1:Nat):Int)>(0:Int)))=true then
 chk (decide (0≤(0:Int))) (chk (decide ((0:Int)<((length l1:Nat):Int))) (if((V.ifT (getD l1 (Int.toNat (0:Int)) V.bot))==(182:Go.TypeId))=true then
 chk (CSh.fits (CSh.int .u8) (V.ifV (getD l1 (Int.toNat (0:Int)) V.bot))) (if((getI (V.ifV (getD l1 (Int.toNat (0:Int)) V.bot)))==(64:Int))=true then
 Option.bind (call 140 [(V.ref 0 0)] [(Ob.cells [(V.lst 213 false l1),(V.lst 26 true l2)])]) fun z0=>
 if(!(getB (headD (tail (getT z0.1)) V.bot)))=true then
 some ((V.bool false),[(Ob.cells [(V.lst 213 false (getL (headD (Ob.getC (headD z0.2 Ob.dead)) V.bot))),(V.lst 26 true (getL (headD (tail (Ob.getC (headD z0.2 Ob.dead))) V.bot)))])])
 else
 Option.bind (call 110 [(V.ref 0 0),(V.int .u8 44)] [(Ob.cells [(V.lst 213 false (getL (headD (Ob.getC (headD z0.2 Ob.dead)) V.bot))),(V.lst 26 true (getL (headD (tail (Ob.getC (headD z0.2 Ob.dead))) V.bot)))])]) fun z1=>
 (ag0 (true) ((getL (headD (Ob.getC (headD z1.2 Ob.dead)) V.bot))) ((getL (headD (tail (Ob.getC (headD z1.2 Ob.dead))) V.bot))))
 else
 if(!b0)=false then
 Option.bind (call 110 [(V.ref 0 0),(V.int .u8 58)] [(Ob.cells [(V.lst 213 false l1),(V.lst 26 true l2)])]) fun z0=>
 some ((V.bool (getB z0.1)),[(Ob.cells [(V.lst 213 false (getL (headD (Ob.getC (headD z0.2 Ob.dead)) V.bot))),(V.lst 26 true (getL (headD (tail (Ob.getC (headD z0.2 Ob.dead))) V.bot)))])])
 else
 some ((V.bool true),[(Ob.cells [(V.lst 213 false l1),(V.lst 26 true l2)])]))
 else
 if(!b0)=false then
 Option.bind (call 110 [(V.ref 0 0),(V.int .u8 58)] [(Ob.cells [(V.lst 213 false l1),(V.lst 26 true l2)])]) fun z0=>
 some ((V.bool (getB z0.1)),[(Ob.cells [(V.lst 213 false (getL (headD (Ob.getC (headD z0.2 Ob.dead)) V.bot))),(V.lst 26 true (getL (headD (tail (Ob.getC (headD z0.2 Ob.dead))) V.bot)))])])
 else
 some ((V.bool true),[(Ob.cells [(V.lst 213 false l1),(V.lst 26 true l2)])])))
 else
 if(!b0)=false then
 Option.bind (call 110 [(V.ref 0 0),(V.int .u8 58)] [(Ob.cells [(V.lst 213 false l1),(V.lst 26 true l2)])]) fun z0=>
 some ((V.bool (getB z0.1)),[(Ob.cells [(V.lst 213 false (getL (headD (Ob.getC (headD z0.2 Ob.dead)) V.bot))),(V.lst 26 true (getL (headD (tail (Ob.getC (headD z0.2 Ob.dead))) V.bot)))])])
 else
 some ((V.bool true),[(Ob.cells [(V.lst 213 false l1),(V.lst 26 true l2)])])
def Kk (call:FuncId→Fun) (ag0:Bool→List V→List V→Option (V×List Ob)) (a0:List V) (a1:List V):Option (V×List Ob):=
 (ag0 (false) (a0) (a1))
def Br (a0:List V) (a1:List V):List Ob:=[Ob.cells [V.lst 213 false a0,V.lst 26 true a1]]
def Mm:List V:=[V.ref 0 0]
def wQ (b0:Bool) (l1:List V) (l2:List V):St:=⟨[(V.ref 0 0),V.bot,V.bot,(V.bool b0)]++List.replicate 33 V.bot,[(Ob.cells [(V.lst 213 false l1),(V.lst 26 true l2)])]⟩
theorem Pj (a0:List V) (a1:List V) (b0:Bool) (l1:List V) (l2:List V):
 RM 160 Tryz.f160 (Br a0 a1) call icall again (aJ Tryz.f160 0) (wQ b0 l1 l2)=AQ call (fun b0 l1 l2=>again (aJ Tryz.f160 0) (wQ b0 l1 l2)) b0 l1 l2:=by kernel_rfl
theorem Ul (a0:List V) (a1:List V):GO 160 Tryz.f160 Mm (Br a0 a1) call icall again=Kk call (fun b0 l1 l2=>again (aJ Tryz.f160 0) (wQ b0 l1 l2)) a0 a1:=by kernel_rfl
def Bt (call:FuncId→Fun):Nat→(Bool→List V→List V→Option (V×List Ob))
 |0=>fun _ _ _=>none
 |n+1=>AQ call (Bt call n)
theorem Ru (call:FuncId→Fun) (icall:aO (V×List Ob)) (a0:List V) (a1:List V):∀n,(∀(b0:Bool) (l1:List V) (l2:List V),RN 160 Tryz.f160 (Br a0 a1) call icall n (aJ Tryz.f160 0) (wQ b0 l1 l2)=(Bt call n) b0 l1 l2)
 |0=>fun b0 l1 l2=>rfl
 |n+1=>by
  have ih:=Ru call icall a0 a1 n
  exact fun b0 l1 l2=>(Pj call icall (RN 160 Tryz.f160 (Br a0 a1) call icall n) a0 a1 b0 l1 l2).trans (by rw[show(fun b0 l1 l2=>RN 160 Tryz.f160 (Br a0 a1) call icall n (aJ Tryz.f160 0) (wQ b0 l1 l2))=(Bt call n)from(funext fun b0=>funext fun l1=>funext fun l2=>ih b0 l1 l2)];rfl)
theorem Um (k:Nat) (a0:List V) (a1:List V):aA cfg (k+1) 160 Mm (Br a0 a1)=Kk (aA cfg k) (Bt (aA cfg k) k) a0 a1:=by
 have ih:=Ru (aA cfg k) (aE cfg (aA cfg k) 20) a0 a1 k
 refine(show aA cfg (k+1) 160 Mm (Br a0 a1)=GO 160 Tryz.f160 Mm (Br a0 a1) (aA cfg k) (aE cfg (aA cfg k) 20) (RN 160 Tryz.f160 (Br a0 a1) (aA cfg k) (aE cfg (aA cfg k) 20) k)by kernel_rfl).trans ((Ul _ _ _ a0 a1).trans ?_)
 rw[show(fun b0 l1 l2=>RN 160 Tryz.f160 (Br a0 a1) (aA cfg k) (aE cfg (aA cfg k) 20) k (aJ Tryz.f160 0) (wQ b0 l1 l2))=(Bt (aA cfg k) k)from(funext fun b0=>funext fun l1=>funext fun l2=>ih b0 l1 l2)]
theorem Un (a0:List V) (a1:List V) {r:V×List Ob} (h:Evt (fun k n=>Kk (aA cfg k) (Bt (aA cfg k) n) a0 a1) r):Ret 160 [V.ref 0 0] [Ob.cells [V.lst 213 false a0,V.lst 26 true a1]] r:=aK (g:=fun k n=>Kk (aA cfg k) (Bt (aA cfg k) n) a0 a1) (fun k=>Um k a0 a1) h
theorem Pk (b0:Bool) (l1:List V) (l2:List V) {r:V×List Ob} (h:Evt (fun k n=>AQ (aA cfg k) (Bt (aA cfg k) n) b0 l1 l2) r):Evt (fun k n=>(Bt (aA cfg k) n) b0 l1 l2) r:=aY (fun k n=>rfl) h
def Kl (call:FuncId→Fun) (a0:List V) (a1:List V) (a2:List V):Option (V×List Ob):=
 Option.bind (call 160 [(V.ref 0 0)] [(Ob.cells [(V.lst 213 false a0),(V.lst 26 true a1)])]) fun z0=>
 if(!(getB z0.1))=true then
 some ((V.bool false),[(Ob.cells [(V.lst 213 false (getL (headD (Ob.getC (headD z0.2 Ob.dead)) V.bot))),(V.lst 26 true (getL (headD (tail (Ob.getC (headD z0.2 Ob.dead))) V.bot)))])])
 else
 Option.bind (call 138 [(V.ref 0 0)] [(Ob.cells [(V.lst 213 false (getL (headD (Ob.getC (headD z0.2 Ob.dead)) V.bot))),(V.lst 26 true (getL (headD (tail (Ob.getC (headD z0.2 Ob.dead))) V.bot)))])]) fun z1=>
 Option.bind (call 140 [(V.ref 0 0)] [(Ob.cells [(V.lst 213 false (getL (headD (Ob.getC (headD z1.2 Ob.dead)) V.bot))),(V.lst 26 true (getL (headD (tail (Ob.getC (headD z1.2 Ob.dead))) V.bot)))])]) fun z2=>
 if(!(getB (headD (tail (getT z2.1)) V.bot)))=false then
 if(((length (getL z1.1):Nat):Int)==(0:Int))=false then
 Option.bind (call 110 [(V.ref 0 0),(V.int .u8 62)] [(Ob.cells [(V.lst 213 false (getL (headD (Ob.getC (headD z2.2 Ob.dead)) V.bot))),(V.lst 26 true (getL (headD (tail (Ob.getC (headD z2.2 Ob.dead))) V.bot)))])]) fun z3=>
 if(!(getB z3.1))=true then
 some ((V.bool false),[(Ob.cells [(V.lst 213 false (getL (headD (Ob.getC (headD z3.2 Ob.dead)) V.bot))),(V.lst 26 true (getL (headD (tail (Ob.getC (headD z3.2 Ob.dead))) V.bot)))])])
 else
 Option.bind (call 85 [(V.lst 9 false a2),(V.str [32])] []) fun z4=>
 Option.bind (call 85 [(V.lst 9 false (getL z1.1)),(V.str [])] []) fun z5=>
 chk (aW (getL (headD (tail (Ob.getC (headD z3.2 Ob.dead))) V.bot)) [(V.agg [(V.int .i64 0),(V.str (getS z4.1)),(V.str (getS z5.1)),(V.str (getS (headD (getT z2.1) V.bot)))])] 57) (some ((V.bool true),[(Ob.cells [(V.lst 213 false (getL (headD (Ob.getC (headD z3.2 Ob.dead)) V.bot))),(V.lst 26 true ((getL (headD (tail (Ob.getC (headD z3.2 Ob.dead))) V.bot))++[(V.agg [(V.int .i64 0),(V.str (getS z4.1)),(V.str (getS z5.1)),(V.str (getS (headD (getT z2.1) V.bot)))])]))])]))
 else
 some ((V.bool false),[(Ob.cells [(V.lst 213 false (getL (headD (Ob.getC (headD z2.2 Ob.dead)) V.bot))),(V.lst 26 true (getL (headD (tail (Ob.getC (headD z2.2 Ob.dead))) V.bot)))])])
 else
 some ((V.bool false),[(Ob.cells [(V.lst 213 false (getL (headD (Ob.getC (headD z2.2 Ob.dead)) V.bot))),(V.lst 26 true (getL (headD (tail (Ob.getC (headD z2.2 Ob.dead))) V.bot)))])])
def Km (a0:List V) (a1:List V):List Ob:=[Ob.cells [V.lst 213 false a0,V.lst 26 true a1]]
def Mn (a2:List V):List V:=[V.ref 0 0,V.lst 9 false a2]
theorem Uo (a0:List V) (a1:List V) (a2:List V):GO 139 Tryz.f139 (Mn a2) (Km a0 a1) call icall again=Kl call a0 a1 a2:=by kernel_rfl
theorem Up (k:Nat) (a0:List V) (a1:List V) (a2:List V):aA cfg (k+1) 139 (Mn a2) (Km a0 a1)=Kl (aA cfg k) a0 a1 a2:=
 (show aA cfg (k+1) 139 (Mn a2) (Km a0 a1)=GO 139 Tryz.f139 (Mn a2) (Km a0 a1) (aA cfg k) (aE cfg (aA cfg k) 20) (RN 139 Tryz.f139 (Km a0 a1) (aA cfg k) (aE cfg (aA cfg k) 20) k)by kernel_rfl).trans (Uo _ _ _ a0 a1 a2)
theorem Uq (a0:List V) (a1:List V) (a2:List V) {r:V×List Ob} (h:Evt (fun k n=>Kl (aA cfg k) a0 a1 a2) r):Ret 139 [V.ref 0 0,V.lst 9 false a2] [Ob.cells [V.lst 213 false a0,V.lst 26 true a1]] r:=aK (g:=fun k n=>Kl (aA cfg k) a0 a1 a2) (fun k=>Up k a0 a1 a2) h
def Kn (call:FuncId→Fun) (a0:List V) (a1:List V) (a2:Bool):Option (V×List Ob):=
 Option.bind (call 138 [(V.ref 0 0)] [(Ob.cells [(V.lst 213 false a0),(V.lst 26 true a1)])]) fun z0=>
 Option.bind (call 110 [(V.ref 0 0),(V.int .u8 60)] [(Ob.cells [(V.lst 213 false (getL (headD (Ob.getC (headD z0.2 Ob.dead)) V.bot))),(V.lst 26 true (getL (headD (tail (Ob.getC (headD z0.2 Ob.dead))) V.bot)))])]) fun z1=>
 if(getB z1.1)=true then
 Option.bind (call 139 [(V.ref 0 0),(V.lst 9 false (getL z0.1))] [(Ob.cells [(V.lst 213 false (getL (headD (Ob.getC (headD z1.2 Ob.dead)) V.bot))),(V.lst 26 true (getL (headD (tail (Ob.getC (headD z1.2 Ob.dead))) V.bot)))])]) fun z2=>
 some ((V.bool (getB z2.1)),[(Ob.cells [(V.lst 213 false (getL (headD (Ob.getC (headD z2.2 Ob.dead)) V.bot))),(V.lst 26 true (getL (headD (tail (Ob.getC (headD z2.2 Ob.dead))) V.bot)))])])
 else
 if(!a2)=true then
 Option.bind (call 110 [(V.ref 0 0),(V.int .u8 58)] [(Ob.cells [(V.lst 213 false (getL (headD (Ob.getC (headD z1.2 Ob.dead)) V.bot))),(V.lst 26 true (getL (headD (tail (Ob.getC (headD z1.2 Ob.dead))) V.bot)))])]) fun z2=>
 if(getB z2.1)=true then
 Option.bind (call 85 [(V.lst 9 false (getL z0.1)),(V.str [32])] []) fun z3=>
 chk (aW (getL (headD (tail (Ob.getC (headD z2.2 Ob.dead))) V.bot)) [(V.agg [(V.int .i64 1),(V.str (getS z3.1)),(V.str []),(V.str [])])] 57) (Option.bind (call 72 [(V.ref 0 0),(V.bool true)] [(Ob.cells [(V.lst 213 false (getL (headD (Ob.getC (headD z2.2 Ob.dead)) V.bot))),(V.lst 26 true ((getL (headD (tail (Ob.getC (headD z2.2 Ob.dead))) V.bot))++[(V.agg [(V.int .i64 1),(V.str (getS z3.1)),(V.str []),(V.str [])])]))])]) fun z4=>
 if(!(getB z4.1))=false then
 Option.bind (call 110 [(V.ref 0 0),(V.int .u8 59)] [(Ob.cells [(V.lst 213 false (getL (headD (Ob.getC (headD z4.2 Ob.dead)) V.bot))),(V.lst 26 true (getL (headD (tail (Ob.getC (headD z4.2 Ob.dead))) V.bot)))])]) fun z5=>
 if(!(getB z5.1))=true then
 some ((V.bool false),[(Ob.cells [(V.lst 213 false (getL (headD (Ob.getC (headD z5.2 Ob.dead)) V.bot))),(V.lst 26 true (getL (headD (tail (Ob.getC (headD z5.2 Ob.dead))) V.bot)))])])
 else
 chk (aW (getL (headD (tail (Ob.getC (headD z5.2 Ob.dead))) V.bot)) [(V.agg [(V.int .i64 2),(V.str []),(V.str []),(V.str [])])] 57) (some ((V.bool true),[(Ob.cells [(V.lst 213 false (getL (headD (Ob.getC (headD z5.2 Ob.dead)) V.bot))),(V.lst 26 true ((getL (headD (tail (Ob.getC (headD z5.2 Ob.dead))) V.bot))++[(V.agg [(V.int .i64 2),(V.str []),(V.str []),(V.str [])])]))])]))
 else
 some ((V.bool false),[(Ob.cells [(V.lst 213 false (getL (headD (Ob.getC (headD z4.2 Ob.dead)) V.bot))),(V.lst 26 true (getL (headD (tail (Ob.getC (headD z4.2 Ob.dead))) V.bot)))])]))
 else
 if(((length (getL z0.1):Nat):Int)==(0:Int))=true then
 some ((V.bool true),[(Ob.cells [(V.lst 213 false (getL (headD (Ob.getC (headD z2.2 Ob.dead)) V.bot))),(V.lst 26 true (getL (headD (tail (Ob.getC (headD z2.2 Ob.dead))) V.bot)))])])
 else
 Option.bind (call 140 [(V.ref 0 0)] [(Ob.cells [(V.lst 213 false (getL (headD (Ob.getC (headD z2.2 Ob.dead)) V.bot))),(V.lst 26 true (getL (headD (tail (Ob.getC (headD z2.2 Ob.dead))) V.bot)))])]) fun z3=>
 Option.bind (call 85 [(V.lst 9 false (getL z0.1)),(V.str [])] []) fun z4=>
 chk (aW (getL (headD (tail (Ob.getC (headD z3.2 Ob.dead))) V.bot)) [(V.agg [(V.int .i64 0),(V.str []),(V.str (getS z4.1)),(V.str (getS (headD (getT z3.1) V.bot)))])] 57) (some ((V.bool (getB (headD (tail (getT z3.1)) V.bot))),[(Ob.cells [(V.lst 213 false (getL (headD (Ob.getC (headD z3.2 Ob.dead)) V.bot))),(V.lst 26 true ((getL (headD (tail (Ob.getC (headD z3.2 Ob.dead))) V.bot))++[(V.agg [(V.int .i64 0),(V.str []),(V.str (getS z4.1)),(V.str (getS (headD (getT z3.1) V.bot)))])]))])]))
 else
 if(((length (getL z0.1):Nat):Int)==(0:Int))=true then
 some ((V.bool true),[(Ob.cells [(V.lst 213 false (getL (headD (Ob.getC (headD z1.2 Ob.dead)) V.bot))),(V.lst 26 true (getL (headD (tail (Ob.getC (headD z1.2 Ob.dead))) V.bot)))])])
 else
 Option.bind (call 140 [(V.ref 0 0)] [(Ob.cells [(V.lst 213 false (getL (headD (Ob.getC (headD z1.2 Ob.dead)) V.bot))),(V.lst 26 true (getL (headD (tail (Ob.getC (headD z1.2 Ob.dead))) V.bot)))])]) fun z2=>
 Option.bind (call 85 [(V.lst 9 false (getL z0.1)),(V.str [])] []) fun z3=>
 chk (aW (getL (headD (tail (Ob.getC (headD z2.2 Ob.dead))) V.bot)) [(V.agg [(V.int .i64 0),(V.str []),(V.str (getS z3.1)),(V.str (getS (headD (getT z2.1) V.bot)))])] 57) (some ((V.bool (getB (headD (tail (getT z2.1)) V.bot))),[(Ob.cells [(V.lst 213 false (getL (headD (Ob.getC (headD z2.2 Ob.dead)) V.bot))),(V.lst 26 true ((getL (headD (tail (Ob.getC (headD z2.2 Ob.dead))) V.bot))++[(V.agg [(V.int .i64 0),(V.str []),(V.str (getS z3.1)),(V.str (getS (headD (getT z2.1) V.bot)))])]))])]))
def Ko (a0:List V) (a1:List V):List Ob:=[Ob.cells [V.lst 213 false a0,V.lst 26 true a1]]
def Mo (a2:Bool):List V:=[V.ref 0 0,V.bool a2]
theorem Ur (a0:List V) (a1:List V) (a2:Bool):GO 109 Tryz.f109 (Mo a2) (Ko a0 a1) call icall again=Kn call a0 a1 a2:=by kernel_rfl
theorem Us (k:Nat) (a0:List V) (a1:List V) (a2:Bool):aA cfg (k+1) 109 (Mo a2) (Ko a0 a1)=Kn (aA cfg k) a0 a1 a2:=
 (show aA cfg (k+1) 109 (Mo a2) (Ko a0 a1)=GO 109 Tryz.f109 (Mo a2) (Ko a0 a1) (aA cfg k) (aE cfg (aA cfg k) 20) (RN 109 Tryz.f109 (Ko a0 a1) (aA cfg k) (aE cfg (aA cfg k) 20) k)by kernel_rfl).trans (Ur _ _ _ a0 a1 a2)
theorem Ut (a0:List V) (a1:List V) (a2:Bool) {r:V×List Ob} (h:Evt (fun k n=>Kn (aA cfg k) a0 a1 a2) r):Ret 109 [V.ref 0 0,V.bool a2] [Ob.cells [V.lst 213 false a0,V.lst 26 true a1]] r:=aK (g:=fun k n=>Kn (aA cfg k) a0 a1 a2) (fun k=>Us k a0 a1 a2) h
def G6 (call:FuncId→Fun) (ag0:Bool→List V→List V→Option (V×List Ob)) (b0:Bool) (l1:List V) (l2:List V):Option (V×List Ob):=
 Option.bind (call 109 [(V.ref 0 0),(V.bool b0)] [(Ob.cells [(V.lst 213 false l1),(V.lst 26 true l2)])]) fun z0=>
 if(!(getB z0.1))=true then
 some ((V.bool false),[(Ob.cells [(V.lst 213 false (getL (headD (Ob.getC (headD z0.2 Ob.dead)) V.bot))),(V.lst 26 true (getL (headD (tail (Ob.getC (headD z0.2 Ob.dead))) V.bot)))])])
 else
 Option.bind (call 110 [(V.ref 0 0),(V.int .u8 44)] [(Ob.cells [(V.lst 213 false (getL (headD (Ob.getC (headD z0.2 Ob.dead)) V.bot))),(V.lst 26 true (getL (headD (tail (Ob.getC (headD z0.2 Ob.dead))) V.bot)))])]) fun z1=>
 if(!(getB z1.1))=true then
 some ((V.bool true),[(Ob.cells [(V.lst 213 false (getL (headD (Ob.getC (headD z1.2 Ob.dead)) V.bot))),(V.lst 26 true (getL (headD (tail (Ob.getC (headD z1.2 Ob.dead))) V.bot)))])])
 else
 (ag0 (b0) ((getL (headD (Ob.getC (headD z1.2 Ob.dead)) V.bot))) ((getL (headD (tail (Ob.getC (headD z1.2 Ob.dead))) V.bot))))
def T72 (call:FuncId→Fun) (ag0:Bool→List V→List V→Option (V×List Ob)) (a0:List V) (a1:List V) (a2:Bool):Option (V×List Ob):=
 (ag0 (a2) (a0) (a1))
def O72 (a0:List V) (a1:List V):List Ob:=[Ob.cells [V.lst 213 false a0,V.lst 26 true a1]]
def A72 (a2:Bool):List V:=[V.ref 0 0,V.bool a2]
def Co (b0:Bool) (l1:List V) (l2:List V):St:=⟨[(V.ref 0 0),(V.bool b0)]++List.replicate 10 V.bot,[(Ob.cells [(V.lst 213 false l1),(V.lst 26 true l2)])]⟩
theorem Rv (a0:List V) (a1:List V) (b0:Bool) (l1:List V) (l2:List V):
 RM 72 Tryz.f72 (O72 a0 a1) call icall again (aJ Tryz.f72 0) (Co b0 l1 l2)=G6 call (fun b0 l1 l2=>again (aJ Tryz.f72 0) (Co b0 l1 l2)) b0 l1 l2:=by kernel_rfl
theorem E72 (a0:List V) (a1:List V) (a2:Bool):GO 72 Tryz.f72 (A72 a2) (O72 a0 a1) call icall again=T72 call (fun b0 l1 l2=>again (aJ Tryz.f72 0) (Co b0 l1 l2)) a0 a1 a2:=by kernel_rfl
def L72 (call:FuncId→Fun):Nat→(Bool→List V→List V→Option (V×List Ob))
 |0=>fun _ _ _=>none
 |n+1=>G6 call (L72 call n)
theorem R72 (call:FuncId→Fun) (icall:aO (V×List Ob)) (a0:List V) (a1:List V):∀n,(∀(b0:Bool) (l1:List V) (l2:List V),RN 72 Tryz.f72 (O72 a0 a1) call icall n (aJ Tryz.f72 0) (Co b0 l1 l2)=(L72 call n) b0 l1 l2)
 |0=>fun b0 l1 l2=>rfl
 |n+1=>by
  have ih:=R72 call icall a0 a1 n
  exact fun b0 l1 l2=>(Rv call icall (RN 72 Tryz.f72 (O72 a0 a1) call icall n) a0 a1 b0 l1 l2).trans (by rw[show(fun b0 l1 l2=>RN 72 Tryz.f72 (O72 a0 a1) call icall n (aJ Tryz.f72 0) (Co b0 l1 l2))=(L72 call n)from(funext fun b0=>funext fun l1=>funext fun l2=>ih b0 l1 l2)];rfl)
theorem C72 (k:Nat) (a0:List V) (a1:List V) (a2:Bool):aA cfg (k+1) 72 (A72 a2) (O72 a0 a1)=T72 (aA cfg k) (L72 (aA cfg k) k) a0 a1 a2:=by
 have ih:=R72 (aA cfg k) (aE cfg (aA cfg k) 20) a0 a1 k
 refine(show aA cfg (k+1) 72 (A72 a2) (O72 a0 a1)=GO 72 Tryz.f72 (A72 a2) (O72 a0 a1) (aA cfg k) (aE cfg (aA cfg k) 20) (RN 72 Tryz.f72 (O72 a0 a1) (aA cfg k) (aE cfg (aA cfg k) 20) k)by kernel_rfl).trans ((E72 _ _ _ a0 a1 a2).trans ?_)
 rw[show(fun b0 l1 l2=>RN 72 Tryz.f72 (O72 a0 a1) (aA cfg k) (aE cfg (aA cfg k) 20) k (aJ Tryz.f72 0) (Co b0 l1 l2))=(L72 (aA cfg k) k)from(funext fun b0=>funext fun l1=>funext fun l2=>ih b0 l1 l2)]
theorem M72 (a0:List V) (a1:List V) (a2:Bool) {r:V×List Ob} (h:Evt (fun k n=>T72 (aA cfg k) (L72 (aA cfg k) n) a0 a1 a2) r):Ret 72 [V.ref 0 0,V.bool a2] [Ob.cells [V.lst 213 false a0,V.lst 26 true a1]] r:=aK (g:=fun k n=>T72 (aA cfg k) (L72 (aA cfg k) n) a0 a1 a2) (fun k=>C72 k a0 a1 a2) h
theorem Rw (b0:Bool) (l1:List V) (l2:List V) {r:V×List Ob} (h:Evt (fun k n=>G6 (aA cfg k) (L72 (aA cfg k) n) b0 l1 l2) r):Evt (fun k n=>(L72 (aA cfg k) n) b0 l1 l2) r:=aY (fun k n=>rfl) h
def T35 (call:FuncId→Fun) (a0:List UInt8):Option (V×List Ob):=
 Option.bind (call 71 [(V.str a0)] []) fun z0=>
 if(!(getB (headD (tail (getT z0.1)) V.bot)))=false then
 Option.bind (call 72 [(V.ref 0 0),(V.bool false)] [(Ob.cells [(V.lst 213 false (getL (headD (getT z0.1) V.bot))),(V.lst 26 true [])])]) fun z1=>
 if(!(getB z1.1))=false then
 if(decide (((length (getL (headD (Ob.getC (headD z1.2 Ob.dead)) V.bot)):Nat):Int)>(0:Int)))=true then
 some ((V.tup [(V.lst 26 false []),(V.bool false)]),[])
 else
 some ((V.tup [(V.lst 26 false (getL (headD (tail (Ob.getC (headD z1.2 Ob.dead))) V.bot))),(V.bool true)]),[])
 else
 some ((V.tup [(V.lst 26 false []),(V.bool false)]),[])
 else
 some ((V.tup [(V.lst 26 false []),(V.bool false)]),[])
def A35 (a0:List UInt8):List V:=[V.str a0]
theorem E35 (a0:List UInt8):GO 35 Tryz.f35 (A35 a0) [] call icall again=T35 call a0:=by kernel_rfl
theorem C35 (k:Nat) (a0:List UInt8):aA cfg (k+1) 35 (A35 a0) []=T35 (aA cfg k) a0:=
 (show aA cfg (k+1) 35 (A35 a0) []=GO 35 Tryz.f35 (A35 a0) [] (aA cfg k) (aE cfg (aA cfg k) 20) (RN 35 Tryz.f35 [] (aA cfg k) (aE cfg (aA cfg k) 20) k)by kernel_rfl).trans (E35 _ _ _ a0)
theorem M35 (a0:List UInt8) {r:V×List Ob} (h:Evt (fun k n=>T35 (aA cfg k) a0) r):Ret 35 [V.str a0] [] r:=aK (g:=fun k n=>T35 (aA cfg k) a0) (fun k=>C35 k a0) h
end Go.Proofs.YtdoaoaicdimbeaaGreatDoor
end
section
namespace Go.Proofs.YtdoaoaicdimbeaaGreatDoor
open Go.Ev Go
def EvE {α:Type} (g:Nat→Nat→Option α) (P:α→Prop):Prop:=∃r,Evt g r∧P r
def oQ (f:FuncId) (args:List V) (objs:List Ob) (P:V×List Ob→Prop):Prop:=∃r,Ret f args objs r∧P r
theorem aZ {α:Type} {P:α→Prop} {r:α} (h:P r):EvE (fun _ _=>some r) P:=⟨r,aD r,h⟩
theorem iS {α:Type} {f:FuncId} {args:List V} {objs:List Ob} {p:V×List Ob} {F:Nat→Nat→V×List Ob→Option α} {P:α→Prop} (h:Ret f args objs p) (h2:EvE (fun k n=>F k n p) P):
  EvE (fun k n=>Option.bind (aA cfg k f args objs) (F k n)) P:=by
 obtain⟨r,e,hp⟩:=h2
 exact⟨r,aB h e,hp⟩
theorem bG {α:Type} {f:FuncId} {args:List V} {objs:List Ob} {Q:V×List Ob→Prop} {F:Nat→Nat→V×List Ob→Option α} {P:α→Prop} (h:oQ f args objs Q) (h2:∀p,Q p→EvE (fun k n=>F k n p) P):
  EvE (fun k n=>Option.bind (aA cfg k f args objs) (F k n)) P:=by
 obtain⟨p,e,hp⟩:=h
 exact iS e (h2 p hp)
theorem cL {α:Type} {c:Prop} [Decidable c] {a b:Nat→Nat→Option α} {P:α→Prop} (h1:c→EvE a P) (h2:¬c→EvE b P):EvE (fun k n=>if c then a k n else b k n) P:=by
 by_cases h:c
 ·simp only[if_pos h];exact h1 h
 ·simp only[if_neg h];exact h2 h
theorem uF {α:Type} {g g' :Nat→Nat→Option α} {P:α→Prop} (m:∀r,Evt g' r→Evt g r) (h:EvE g' P):EvE g P:=by
 obtain⟨r,e,hp⟩:=h
 exact⟨r,m r e,hp⟩
theorem jH {f:FuncId} {args:List V} {objs:List Ob} {g:Nat→Nat→Option (V×List Ob)} {P:V×List Ob→Prop} (m:∀r,Evt g r→Ret f args objs r) (h:EvE g P):oQ f args objs P:=by
 obtain⟨r,e,hp⟩:=h
 exact⟨r,m r e,hp⟩
theorem uG {α:Type} {g:Nat→Nat→Option α} {P Q:α→Prop} (h:EvE g P) (hq:∀r,P r→Q r):EvE g Q:=by
 obtain⟨r,e,hp⟩:=h
 exact⟨r,e,hq r hp⟩
theorem yD (s:Bs) (c:UInt8):Ret 89 [.str s, .int .u8 (c.toNat:Nat)] [] (.int .i64 (Lib.indexByte s c),[]):=
 eD (h:=Ey) (by kernel_rfl) (by
  have:=c.toNat_lt
  have h:UInt8.ofNat c.toNat=c:=by simp
  simp only[Ey,Int.toNat_natCast,h]
  rw[if_pos ⟨by omega,by omega⟩])
theorem Pl {s:Bs} {c:UInt8}:Lib.indexByte s c<s.length:=by
 by_cases h:Lib.indexByte s c= -1
 ·omega
 ·have:=Lib.indexByte_ge s c
  obtain⟨k,hk⟩:∃k:Nat,Lib.indexByte s c=k:=⟨(Lib.indexByte s c).toNat,by omega⟩
  obtain⟨k1,_⟩:=Lib.indexByte_some hk
  obtain⟨h1,_⟩:=List.getElem?_eq_some_iff.1 k1
  omega
theorem Mp (s:Bs) (hs:s.length≤1000000) (h0:1≤s.length):∀(m i:Nat) (d:Int),s.length+1 - i=m→i≤s.length+1→
  EvE (fun k j=>Bl (aA cfg k) j s d (i:Nat)) (fun r=>∃n:Nat,r=(.int .i64 (n:Nat),[])∧1≤n∧n≤s.length):=by
 intro m
 induction m using Nat.strongRecOn with
 |_ m ih=>
  intro i d h hi
  refine uF (fun _ h=>Pa s d (i:Nat) h) ?_
  by_cases hlt:i<s.length
  ·have h1:((i:Int)<(s.length:Int)):=by omega
   have h2:(0:Int)≤(i:Nat):=by omega
   have hw:IntKind.wrap .i64 (((i:Nat):Int)+1)=((i+1:Nat):Int):=by rw[wrap64 (by omega) (by omega)];omega
   have hw2:IntKind.wrap .i64 (((i+1:Nat):Int)+1)=((i+2:Nat):Int):=by rw[wrap64 (by omega) (by omega)];omega
   simp only[AK,h1,decide_true,if_true,aH h2,cA,Int.toNat_natCast,getD_at hlt,hw,hw2]
   refine cL (fun _=>?_) (fun _=>?_)
   ·exact ih _ (by omega) (i+2) d rfl (by omega)
   ·refine cL (fun _=>?_) (fun _=>?_)
    ·exact ih _ (by omega) (i+1) _ rfl (by omega)
    ·refine cL (fun _=>?_) (fun _=>?_)
     ·refine cL (fun _=>?_) (fun _=>?_)
      ·exact aZ ⟨i+1,rfl,by omega,by omega⟩
      ·exact ih _ (by omega) (i+1) _ rfl (by omega)
     ·exact ih _ (by omega) (i+1) _ rfl (by omega)
  ·have h1:¬((i:Int)<(s.length:Int)):=by omega
   simp only[AK,h1,decide_false,Bool.false_eq_true,if_false]
   exact aZ ⟨s.length,rfl,by omega,by omega⟩
theorem Mq (s:Bs) (hs:s.length≤1000000) (h0:1≤s.length):oQ 137 [.str s] [] (fun r=>∃n:Nat,r=(.int .i64 (n:Nat),[])∧1≤n∧n≤s.length):=by
 refine jH (fun _ h=>TV s h) ?_
 simp only[Kb]
 exact Mp s hs h0 _ 0 0 rfl (by omega)
theorem Mr:∀(m:Nat) (s:Bs),s.length=m→s.length≤1000000→
  EvE (fun k j=>Bm (aA cfg k) j s) (fun r=>∃t:Bs,r=(.str t,[])∧t.length≤s.length):=by
 intro m
 induction m using Nat.strongRecOn with
 |_ m ih=>
  intro s h hs
  refine uF (fun _ h=>Pd s h) ?_
  cases s with
  |nil=>
   simp only[AM,lZ rfl,Bool.not_true,Bool.false_eq_true,if_false]
   exact aZ ⟨_,rfl,Nat.le_refl _⟩
  |cons c t=>
   have e0:sEq (c::t) []=false:=mA (by simp)
   have h1:(0:Int)<(((c::t).length:Nat):Int):=by simp only[List.length_cons];omega
   have h3:(1:Int)≤(((c::t).length:Nat):Int):=by simp only[List.length_cons];omega
   have g0:(c::t).getD (Int.toNat 0) 0=c:=rfl
   have d1:(c::t).drop (Int.toNat 1)=t:=rfl
   simp only[List.length_cons]at h hs
   simp only[AM,e0,Bool.not_false,if_true,aH (show(0:Int)≤0 by omega),aH h1,aH h3,aH (show(0:Int)≤1 by omega),g0,d1]
   refine iS (sX c) ?_
   simp only[aU]
   refine cL (fun _=>?_) (fun _=>?_)
   ·refine uG (ih _ (by omega) t rfl (by omega)) ?_
    rintro r ⟨t',rfl,hl⟩
    exact⟨t',rfl,by simp;omega⟩
   ·refine cL (fun _=>?_) (fun _=>?_)
    ·refine bG (Mq (c::t) (by simp;omega) (by simp)) ?_
     rintro _ ⟨n,rfl,n1,n2⟩
     have q1:(0:Int)≤(n:Nat):=by omega
     have q2:((n:Nat):Int)≤(((c::t).length:Nat):Int):=by omega
     dsimp+instances only[cC]
     simp only[aH q1,aH q2,Int.toNat_natCast]
     have hd:((c::t).drop n).length=(c::t).length - n:=List.length_drop
     simp only[List.length_cons]at hd n2
     refine uG (ih _ (by omega) ((c::t).drop n) rfl (by omega)) ?_
     rintro r ⟨t',rfl,hl⟩
     exact⟨t',rfl,by simp;omega⟩
    ·exact aZ ⟨_,rfl,Nat.le_refl _⟩
theorem yE (s:Bs) (hs:s.length≤1000000):oQ 106 [.str s] [] (fun r=>∃t:Bs,r=(.str t,[])∧t.length≤s.length):=by
 refine jH (fun _ h=>TY s h) ?_
 simp only[Kc]
 exact Mr _ s rfl hs
def Rx (s:Bs) (r:V×List Ob):Prop:=∃(w t:Bs) (is:Bool),r=(.tup [.str w, .str t, .bool is],[])∧(is=true→w.length+t.length+2≤s.length)
theorem Ms (s:Bs) (hs:s.length≤1000000):∀(m i:Nat) (u:Bs),s.length+1 - i=m→i≤s.length+1→1≤i→u.length+1≤i→
  EvE (fun k j=>Bn (aA cfg k) j s (ofBytes u) (i:Nat)) (Rx s):=by
 intro m
 induction m using Nat.strongRecOn with
 |_ m ih=>
  intro i u h hi h0 hu
  refine uF (fun _ h=>Pf s (ofBytes u) (i:Nat) h) ?_
  by_cases hlt:i<s.length
  ·have h1:((i:Int)<(s.length:Int)):=by omega
   have h2:(0:Int)≤(i:Nat):=by omega
   have hw:IntKind.wrap .i64 (((i:Nat):Int)+1)=((i+1:Nat):Int):=by rw[wrap64 (by omega) (by omega)];omega
   have hw2:IntKind.wrap .i64 (((i+1:Nat):Int)+1)=((i+2:Nat):Int):=by rw[wrap64 (by omega) (by omega)];omega
   have h3:(0:Int)≤((i+1:Nat):Int):=by omega
   have h4:((i+1:Nat):Int)≤(s.length:Int):=by omega
   have ap:∀c:UInt8,aW (ofBytes u) [.int .u8 ((c.toNat:Nat):Int)] 2=true:=fun c=>dM (by rw[bB];simp only[List.length_cons,List.length_nil];omega)
   simp only[AN,h1,decide_true,if_true,aH h2,cA,Int.toNat_natCast,getD_at hlt,hw,hw2,aH h3,aH h4,bL (ap _),cP,bT]
   refine cL (fun _=>?_) (fun _=>?_)
   ·refine aZ ⟨u,s.drop (i+1),true,rfl,fun _=>?_⟩
    rw[List.length_drop];omega
   ·refine cL (fun _=>?_) (fun _=>?_)
    ·by_cases h5:i+1<s.length
     ·have h6:((i+1:Nat):Int)<(s.length:Int):=by omega
      simp only[h6,decide_true,if_true,cA]
      exact ih _ (by omega) (i+2) _ rfl (by omega) (by omega) (by simp;omega)
     ·have h6:¬((i+1:Nat):Int)<(s.length:Int):=by omega
      simp only[h6,decide_false,Bool.false_eq_true,if_false]
      exact ih _ (by omega) (i+2) _ rfl (by omega) (by omega) (by omega)
    ·exact ih _ (by omega) (i+1) _ rfl (by omega) (by omega) (by simp;omega)
  ·have h1:¬((i:Int)<(s.length:Int)):=by omega
   simp only[AN,h1,decide_false,Bool.false_eq_true,if_false]
   exact aZ ⟨[],[],false,rfl,by simp⟩
theorem Mt (s:Bs) (hs:s.length≤1000000):oQ 107 [.str s] [] (Rx s):=by
 refine jH (fun _ h=>T8 s h) ?_
 simp only[Kd]
 exact Ms s hs _ 1 [] rfl (by omega) (by omega) (by simp)
def Pm (s:Bs) (r:V×List Ob):Prop:=∃(w t:Bs),r=(.tup [.str w, .str t],[])∧w.length+t.length≤s.length
theorem Mv (s:Bs) (hs:s.length≤1000000):∀(m i:Nat),s.length - i=m→i≤s.length→
  EvE (fun k j=>Bo (aA cfg k) j s (i:Nat)) (Pm s):=by
 intro m
 induction m using Nat.strongRecOn with
 |_ m ih=>
  intro i h hi
  refine uF (fun _ h=>Ph s (i:Nat) h) ?_
  have h2:(0:Int)≤(i:Nat):=by omega
  have h3:((i:Nat):Int)≤(s.length:Int):=by omega
  have done:EvE (fun _ _=>some ((V.tup [(V.str (List.drop (Int.toNat (0:Int)) (List.take i s))),(V.str (List.drop i s))]),([]:List Ob))) (Pm s):=by
   refine aZ ⟨_,_,rfl,?_⟩
   rw[List.length_drop,List.length_drop,List.length_take];omega
  by_cases hlt:i<s.length
  ·have h1:((i:Int)<(s.length:Int)):=by omega
   have hw:IntKind.wrap .i64 (((i:Nat):Int)+1)=((i+1:Nat):Int):=by rw[wrap64 (by omega) (by omega)];omega
   simp only[AO,h1,decide_true,if_true,aH h2,cA,Int.toNat_natCast,getD_at hlt,hw,aH h3,aH (show(0:Int)≤0 by omega)]
   refine cL (fun _=>?_) (fun _=>?_)
   ·refine cL (fun _=>?_) (fun _=>?_)
    ·refine iS (yD _ _) ?_
     simp only[cC]
     refine cL (fun _=>?_) (fun _=>?_)
     ·exact done
     ·refine cL (fun _=>?_) (fun _=>?_)
      ·refine iS (yD (s.drop i) 93) ?_
       simp only[cC]
       have hge:=Lib.indexByte_ge (s.drop i) 93
       have hlt2:=Pl (s:=s.drop i) (c:=93)
       rw[List.length_drop]at hlt2
       by_cases hn:Lib.indexByte (s.drop i) 93<0
       ·simp only[hn,decide_true,if_true]
        exact aZ ⟨[],s,rfl,by simp⟩
       ·obtain⟨k,hk⟩:∃k:Nat,Lib.indexByte (s.drop i) 93=k:=⟨(Lib.indexByte (s.drop i) 93).toNat,by omega⟩
        rw[hk]at hlt2 hn ⊢
        have w1:IntKind.wrap .i64 (((k:Nat):Int)+1)=((k+1:Nat):Int):=by rw[wrap64 (by omega) (by omega)];omega
        have w2:IntKind.wrap .i64 (((i:Nat):Int)+((k+1:Nat):Int))=((i+(k+1):Nat):Int):=by rw[wrap64 (by omega) (by omega)];omega
        simp only[hn,decide_false,Bool.false_eq_true,if_false,w1,w2]
        exact ih _ (by omega) (i+(k+1)) rfl (by omega)
      ·exact ih _ (by omega) (i+1) rfl (by omega)
    ·exact done
   ·exact done
  ·have h1:¬((i:Int)<(s.length:Int)):=by omega
   simp only[AO,h1,decide_false,Bool.false_eq_true,if_false,aH h2,aH h3,aH (show(0:Int)≤0 by omega),Int.toNat_natCast]
   exact done
theorem Mw (s:Bs) (hs:s.length≤1000000):oQ 108 [.str s] [] (Pm s):=by
 refine jH (fun _ h=>Ub s h) ?_
 simp only[Ke]
 exact Mv s hs _ 0 rfl (by omega)
inductive Pc|w (s:Bs)|g (c:UInt8)
def pcV:Pc→V
 | .w s=> .ifc 183 (.str s)
 | .g c=> .ifc 182 (.int .u8 (c.toNat:Nat))
def pw1:Pc→Nat
 | .w s=>s.length+1
 | .g _=>1
def pw (l:List Pc):Nat:=(l.map pw1).sum
theorem jN (p:Pc) (l:List Pc):pw (p::l)=pw1 p+pw l:=by simp[pw]
theorem Gl (l m:List Pc):pw (l++m)=pw l+pw m:=by simp[pw]
theorem Kp:∀l:List Pc,l.length≤pw l
 |[]=>by simp
 |p::r=>by
  have:=Kp r
  have:1≤pw1 p:=by cases p<;>simp[pw1]
  rw[jN,List.length_cons];omega
def Uu (s:Bs) (r:V×List Ob):Prop:=∃(l:List Pc) (ok:Bool),r=(.tup [.lst 213 false (l.map pcV), .bool ok],[])∧pw l≤2*s.length
theorem Pn (n:Nat) (hn:n≤1000000):∀(m:Nat) (s:Bs) (l:List Pc),s.length=m→pw l+2*s.length≤2*n→
  EvE (fun k j=>L71 (aA cfg k) j s (l.map pcV)) (fun r=>∃(l:List Pc) (ok:Bool),r=(.tup [.lst 213 false (l.map pcV), .bool ok],[])∧pw l≤2*n):=by
 intro m
 induction m using Nat.strongRecOn with
 |_ m ih=>
  intro s l h hp
  have hl:=Kp l
  have ap:∀v:V,aW (l.map pcV) [v] 17=true:=fun v=>dM (by simp only[List.length_map,List.length_cons,List.length_nil];omega)
  refine uF (fun _ h=>Rs s (l.map pcV) h) ?_
  cases s with
  |nil=>
   simp only[EZ,lZ rfl,Bool.not_true,Bool.false_eq_true,if_false]
   exact aZ ⟨l,true,rfl,by simp only[List.length_nil]at hp;omega⟩
  |cons c t=>
   have e0:sEq (c::t) []=false:=mA (by simp)
   have h1:(0:Int)<(((c::t).length:Nat):Int):=by simp only[List.length_cons];omega
   have h3:(1:Int)≤(((c::t).length:Nat):Int):=by simp only[List.length_cons];omega
   have g0:(c::t).getD (Int.toNat 0) 0=c:=rfl
   have d1:(c::t).drop (Int.toNat 1)=t:=rfl
   have aw:∀w:Bs,l.map pcV++[.ifc 183 (.str w)]=(l++[Pc.w w]).map pcV:=fun w=>by simp[pcV]
   have ag:l.map pcV++[.ifc 182 (.int .u8 ((c.toNat:Nat):Int))]=(l++[Pc.g c]).map pcV:=by simp[pcV]
   simp only[EZ,e0,Bool.not_false,if_true,aH (show(0:Int)≤0 by omega),aH h1,aH h3,aH (show(0:Int)≤1 by omega),g0,d1,bL (ap _),ag]
   simp only[List.length_cons]at h hp
   refine iS (yD _ _) ?_
   simp only[cC]
   refine cL (fun _=>?_) (fun _=>?_)
   ·refine bG (yE t (by omega)) ?_
    rintro _ ⟨t',rfl,ht⟩
    simp only[aR]
    exact ih _ (by omega) t' _ rfl (by rw[Gl,jN];simp only[pw1,pw,List.map_nil,List.sum_nil]at hp ⊢;omega)
   ·refine cL (fun _=>?_) (fun _=>?_)
    ·refine bG (Mt (c::t) (by simp;omega)) ?_
     rintro _ ⟨w,u,is,rfl,hq⟩
     simp only[bC,List.headD_cons,List.tail_cons,aU,aR,aw]
     cases is with
     |false=>
      simp only[Bool.not_false,if_true]
      exact aZ ⟨[],false,rfl,by simp[pw]⟩
     |true=>
      have hq:=hq rfl
      simp only[List.length_cons]at hq
      simp only[Bool.not_true,Bool.false_eq_true,if_false]
      refine bG (yE u (by omega)) ?_
      rintro _ ⟨t',rfl,ht⟩
      simp only[aR]
      exact ih _ (by omega) t' _ rfl (by rw[Gl,jN];simp only[pw1,pw,List.map_nil,List.sum_nil]at hp ⊢;omega)
    ·refine bG (Mw (c::t) (by simp;omega)) ?_
     rintro _ ⟨w,u,rfl,hq⟩
     simp only[List.length_cons]at hq
     simp only[bC,List.headD_cons,List.tail_cons,aR,aw]
     by_cases hw:w=[]
     ·simp only[lZ hw,if_true]
      exact aZ ⟨[],false,rfl,by simp[pw]⟩
     ·have:=List.length_pos_iff.2 hw
      simp only[mA hw,Bool.false_eq_true,if_false]
      refine bG (yE u (by omega)) ?_
      rintro _ ⟨t',rfl,ht⟩
      simp only[aR]
      exact ih _ (by omega) t' _ rfl (by rw[Gl,jN];simp only[pw1,pw,List.map_nil,List.sum_nil]at hp ⊢;omega)
theorem Po (s:Bs) (hs:s.length≤1000000):oQ 71 [.str s] [] (Uu s):=by
 refine jH (fun _ h=>M71 s h) ?_
 simp only[T71]
 refine bG (yE s hs) ?_
 rintro _ ⟨t,rfl,ht⟩
 simp only[aR]
 exact Pn s.length hs _ t [] rfl (by simp only[pw,List.map_nil,List.sum_nil];omega)
end Go.Proofs.YtdoaoaicdimbeaaGreatDoor
end
section
namespace Go.Proofs.YtdoaoaicdimbeaaGreatDoor
open Go.Ev Go
abbrev Ad:=Int×Bs×Bs×Bs
def adV (a:Ad):V:= .agg [.int .i64 a.1, .str a.2.1, .str a.2.2.1, .str a.2.2.2]
def aw1 (a:Ad):Nat:=a.2.1.length+a.2.2.1.length+a.2.2.2.length+1
def ow (o:List Ad):Nat:=(o.map aw1).sum
theorem Dp (l m:List Ad):ow (l++m)=ow l+ow m:=by simp[ow]
theorem Dq (a:Ad):ow [a]=aw1 a:=by simp[ow]
theorem Ds:∀l:List Ad,l.length≤ow l
 |[]=>by simp
 |p::r=>by
  have:=Ds r
  have e:ow (p::r)=aw1 p+ow r:=by simp[ow]
  have:1≤aw1 p:=by simp[aw1]
  rw[e,List.length_cons];omega
def stO (l:List Pc) (o:List Ad):Ob:= .cells [.lst 213 false (l.map pcV), .lst 26 true (o.map adV)]
theorem eJ (l:List Pc) (o:List Ad):Ob.getC (stO l o)=[.lst 213 false (l.map pcV), .lst 26 true (o.map adV)]:=rfl
theorem eK (l:List Pc) (o:List Ad):Ob.cells [.lst 213 false (l.map pcV), .lst 26 true (o.map adV)]=stO l o:=rfl
theorem hd0 (x:V) (xs:List V):List.getD (x::xs) (Int.toNat 0) V.bot=x:=rfl
theorem tl1 (x:V) (xs:List V):List.drop (Int.toNat 1) (x::xs)=xs:=rfl
theorem Cp (t:Go.TypeId) (v:V):V.ifT (.ifc t v)=t:=rfl
theorem Kq (t:Go.TypeId) (v:V):V.ifV (.ifc t v)=v:=rfl
theorem NR (s:Bs):cD cfg 183 (.str s)=true:=by kernel_rfl
theorem Ry (c:UInt8):cD cfg 182 (.int .u8 (c.toNat:Nat))=true:=by kernel_rfl
theorem Rz (c:UInt8):CSh.fits (CSh.int IntKind.u8) (.int .u8 (c.toNat:Nat))=true:=rfl
def wz (ws:List Bs):Nat:=(ws.map fun w=>w.length+1).sum
theorem tB (l m:List Bs):wz (l++m)=wz l+wz m:=by simp[wz]
theorem Pp (a:Bs):wz [a]=a.length+1:=by simp[wz]
theorem oR:∀ws:List Bs,wz ws=Lib.lens ws+ws.length
 |[]=>rfl
 |w::r=>by
  have:=oR r
  simp only[wz,Lib.lens,List.map_cons,List.sum_cons,List.length_cons]at this ⊢;omega
theorem mB (ws:List Bs) (s:Bs) (hs:s.length≤1):(Lib.join ws s).length≤wz ws∧(¬ws=[]→(Lib.join ws s).length+1≤wz ws):=by
 cases ws with
 |nil=>simp[Lib.join]
 |cons w r=>
  rw[Lib.join_length,oR]
  have:s.length*r.length≤1*r.length:=Nat.mul_le_mul_right _ hs
  simp only[List.length_cons]
  exact⟨by omega,fun _=>by omega⟩
theorem kU (ws:List Bs) (s:Bs) (h1:ws.length≤100000000) (h2:(Lib.join ws s).length≤100000000000000):Ret 85 [.lst 9 false (ws.map V.str), .str s] [] (.str (Lib.join ws s),[]):=by
 have hm:(ws.map V.str).map V.getS=ws:=by rw[List.map_map];exact(List.map_congr_left fun x _=>rfl).trans (List.map_id ws)
 refine eD (h:=sV) (by kernel_rfl) ?_
 simp only[sV,hm,List.length_map]
 rw[if_pos ⟨by omega,by omega⟩]
def isE (c:Int) (l:List Pc) (o:List Ad) (r:V×List Ob):Prop:=∃(b:Bool) (l' :List Pc),r=(.bool b,[stO l' o])∧pw l'≤pw l∧(b=true→pw l' +1≤pw l)∧∀d t,l= .g d::t→((d.toNat:Nat):Int)=c→b=true
theorem mC (l:List Pc) (o:List Ad) (c:Int):oQ 110 [.ref 0 0, .int .u8 c] [stO l o] (isE c l o):=by
 refine jH (fun _ h=>Ue (l.map pcV) (o.map adV) c h) ?_
 cases l with
 |nil=>
  have z:(((([]:List Pc).map pcV).length:Nat):Int)==0:=rfl
  simp only[Ig,z,if_true]
  exact aZ ⟨false,[],rfl,Nat.le_refl _,by simp,fun d t h=>by cases h⟩
 |cons p t=>
  have h0:(0:Int)<(((pcV p::t.map pcV).length:Nat):Int):=by simp only[List.length_cons];omega
  have h1:(1:Int)≤(((pcV p::t.map pcV).length:Nat):Int):=by simp only[List.length_cons];omega
  have z:((((pcV p::t.map pcV).length:Nat):Int)==0)=false:=by
   have:¬(((pcV p::t.map pcV).length:Nat):Int)=0:=by omega
   simpa using this
  simp only[Ig,List.map_cons,z,Bool.false_eq_true,if_false,aH (show(0:Int)≤0 by omega),aH (show(0:Int)≤1 by omega),aH h0,aH h1,hd0,tl1]
  cases p with
  |w s=>
   have e:((183:Go.TypeId)==(182:Go.TypeId))=false:=by decide
   simp only[pcV,Cp,e,Bool.false_eq_true,if_false]
   exact aZ ⟨false, .w s::t,rfl,Nat.le_refl _,by simp,fun d t h=>by cases h⟩
  |g d=>
   simp only[pcV,Cp,beq_self_eq_true,if_true,Kq,bL (Ry d),cC]
   refine cL (fun hc=>?_) (fun hc=>?_)
   ·exact aZ ⟨true,t,rfl,by rw[jN];omega,fun _=>by rw[jN];simp only[pw1];omega,fun _ _ _ _=>rfl⟩
   ·refine aZ ⟨false, .g d::t,rfl,Nat.le_refl _,by simp,fun d' t' h h' =>?_⟩
    cases h
    exact absurd (by simpa using h') hc
def Pq (l:List Pc) (o:List Ad) (r:V×List Ob):Prop:=∃(ws:List Bs) (l' :List Pc),r=(.lst 9 false (ws.map V.str),[stO l' o])∧wz ws+pw l'≤pw l
theorem G7 (o:List Ad) (m:Nat) (hm:m≤5000000):∀(l:List Pc) (ws:List Bs),wz ws+pw l≤m→
  EvE (fun k j=>Bq (aA cfg k) j (ws.map V.str) (l.map pcV) (o.map adV)) (fun r=>∃(ws:List Bs) (l' :List Pc),r=(.lst 9 false (ws.map V.str),[stO l' o])∧wz ws+pw l'≤m)
 |[],ws,h=>by
  refine uF (fun _ h=>Kh (ws.map V.str) (([]:List Pc).map pcV) (o.map adV) h) ?_
  have z:¬((((([]:List Pc).map pcV).length:Nat):Int)>0):=by simp
  simp only[AP,z,decide_false,Bool.false_eq_true,if_false]
  exact aZ ⟨ws,[],rfl,h⟩
 |p::t,ws,h=>by
  refine uF (fun _ h=>Kh (ws.map V.str) ((p::t).map pcV) (o.map adV) h) ?_
  have h0:(0:Int)<(((pcV p::t.map pcV).length:Nat):Int):=by simp only[List.length_cons];omega
  have h0' :(((pcV p::t.map pcV).length:Nat):Int)>0:=h0
  have h1:(1:Int)≤(((pcV p::t.map pcV).length:Nat):Int):=by simp only[List.length_cons];omega
  have hl:=oR ws
  have ap:∀v:V,aW (ws.map V.str) [v] 17=true:=fun v=>dM (by simp only[List.length_map,List.length_cons,List.length_nil];omega)
  simp only[AP,List.map_cons,h0',decide_true,if_true,aH (show(0:Int)≤0 by omega),aH (show(0:Int)≤1 by omega),aH h0,aH h1,hd0,tl1,bL (ap _)]
  cases p with
  |g d=>
   have e:((182:Go.TypeId)==(183:Go.TypeId))=false:=by decide
   simp only[pcV,Cp,e,Bool.false_eq_true,if_false]
   exact aZ ⟨ws, .g d::t,rfl,h⟩
  |w s=>
   have aw:ws.map V.str++[.str s]=(ws++[s]).map V.str:=by simp
   simp only[pcV,Cp,beq_self_eq_true,if_true,Kq,bL (NR s),aR,aw]
   exact G7 o m hm t (ws++[s]) (by rw[tB,Pp];rw[jN]at h;simp only[pw1]at h;omega)
theorem G8 (l:List Pc) (o:List Ad) (hm:pw l≤5000000):oQ 138 [.ref 0 0] [stO l o] (Pq l o):=by
 refine jH (fun _ h=>Uh (l.map pcV) (o.map adV) h) ?_
 simp only[Kg]
 exact G7 o (pw l) hm l [] (by simp[wz])
def RA (l:List Pc) (o:List Ad) (r:V×List Ob):Prop:=∃(h:Bs) (ok:Bool) (l' :List Pc),r=(.tup [.str h, .bool ok],[stO l' o])∧h.length+pw l'≤pw l∧∀t,l= .g 64::t→h.length+pw l' +1≤pw l
theorem Dt (l:List Pc) (o:List Ad):oQ 140 [.ref 0 0] [stO l o] (RA l o):=by
 refine jH (fun _ h=>Uk (l.map pcV) (o.map adV) h) ?_
 simp only[Ki,eK]
 refine bG (mC l o 64) ?_
 rintro _ ⟨b,l',rfl,g1,g2,g3⟩
 dsimp+instances only[aU,List.headD_cons,List.tail_cons,eJ,bE]
 cases b with
 |false=>
  simp only[Bool.not_false,if_true]
  refine aZ ⟨[],true,l',rfl,by simpa using g1,fun t h=>?_⟩
  exact absurd (g3 64 t h rfl) (by simp)
 |true=>
  have g2:=g2 rfl
  simp only[Bool.not_true,Bool.false_eq_true,if_false]
  cases l' with
  |nil=>
   have z:((((([]:List Pc).map pcV).length:Nat):Int)==0)=true:=rfl
   simp only[z,if_true]
   exact aZ ⟨[],false,[],rfl,by simpa using g1,fun t _=>by simpa using g2⟩
  |cons p t=>
   have h0:(0:Int)<(((pcV p::t.map pcV).length:Nat):Int):=by simp only[List.length_cons];omega
   have h1:(1:Int)≤(((pcV p::t.map pcV).length:Nat):Int):=by simp only[List.length_cons];omega
   have z:((((pcV p::t.map pcV).length:Nat):Int)==0)=false:=by
    have:¬(((pcV p::t.map pcV).length:Nat):Int)=0:=by omega
    simpa using this
   simp only[List.map_cons,z,Bool.false_eq_true,if_false,aH (show(0:Int)≤0 by omega),aH (show(0:Int)≤1 by omega),aH h0,aH h1,hd0,tl1]
   rw[jN]at g1 g2
   cases p with
   |g d=>
    have e:((182:Go.TypeId)==(183:Go.TypeId))=false:=by decide
    simp only[pcV,Cp,e,Bool.false_eq_true,if_false]
    exact aZ ⟨[],false, .g d::t,rfl,by rw[jN];simpa using g1,fun t _=>by rw[jN];simpa using g2⟩
   |w s=>
    simp only[pw1]at g1 g2
    simp only[pcV,Cp,beq_self_eq_true,if_true,Kq,bL (NR s),aR]
    exact aZ ⟨s,true,t,rfl,by omega,fun t _=>by omega⟩
def Pr (l:List Pc) (o:List Ad) (r:V×List Ob):Prop:=∃(b:Bool) (l' :List Pc),r=(.bool b,[stO l' o])∧pw l'≤pw l
theorem Mx (o:List Ad):∀(m:Nat) (l:List Pc) (b:Bool),pw l=m→
  EvE (fun k j=>Bt (aA cfg k) j b (l.map pcV) (o.map adV)) (Pr l o):=by
 intro m
 induction m using Nat.strongRecOn with
 |_ m ih=>
  intro l b hm
  refine uF (fun _ h=>Pk b (l.map pcV) (o.map adV) h) ?_
  have done:EvE (fun(k _:Nat)=>if(!b)=false then Option.bind (aA cfg k 110 [.ref 0 0, .int .u8 58] [stO l o]) fun z0=>
     some ((V.bool (V.getB z0.1)),[(Ob.cells [(V.lst 213 false (V.getL (List.headD (Ob.getC (List.headD z0.2 Ob.dead)) V.bot))),(V.lst 26 true (V.getL (List.headD (List.tail (Ob.getC (List.headD z0.2 Ob.dead))) V.bot)))])])
    else some ((V.bool true),[stO l o])) (Pr l o):=by
   refine cL (fun _=>?_) (fun _=>?_)
   ·refine bG (mC l o 58) ?_
    rintro _ ⟨b,l',rfl,g1,g2,g3⟩
    exact aZ ⟨b,l',rfl,g1⟩
   ·exact aZ ⟨true,l,rfl,Nat.le_refl _⟩
  cases l with
  |nil=>
   have z:¬((((([]:List Pc).map pcV).length:Nat):Int)>0):=by simp
   simp only[AQ,z,decide_false,Bool.false_eq_true,if_false,eK]
   exact done
  |cons p t=>
   have h0:(0:Int)<((((p::t).map pcV).length:Nat):Int):=by simp only[List.map_cons,List.length_cons];omega
   have h0' :((((p::t).map pcV).length:Nat):Int)>0:=h0
   have hd:List.getD ((p::t).map pcV) (Int.toNat 0) V.bot=pcV p:=rfl
   simp only[AQ,h0',decide_true,if_true,aH (show(0:Int)≤0 by omega),aH h0,hd,eK]
   cases p with
   |w s=>
    have e:((183:Go.TypeId)==(182:Go.TypeId))=false:=by decide
    have e2:V.ifT (pcV (.w s))=183:=rfl
    simp only[e2,e,Bool.false_eq_true,if_false]
    exact done
   |g d=>
    have e2:V.ifT (pcV (.g d))=182:=rfl
    have e3:V.ifV (pcV (.g d))= .int .u8 ((d.toNat:Nat):Int):=rfl
    refine cL (fun _=>?_) (fun hc=>absurd rfl hc)
    refine cL (fun _=>?_) (fun hc=>absurd (by rw[e2];decide) hc)
    simp only[e3,bL (Rz d),cC]
    refine cL (fun hc=>?_) (fun hc=>?_)
    ·have hd:d=64:=by
      have:((d.toNat:Nat):Int)=64:=by simpa using hc
      exact UInt8.toNat.inj (by show d.toNat=64;omega)
     subst hd
     refine bG (Dt (.g 64::t) o) ?_
     rintro _ ⟨h,ok,l',rfl,g1,g2⟩
     have g2:=g2 t rfl
     dsimp+instances only[aU,List.headD_cons,List.tail_cons,eJ,bE,bC]
     refine cL (fun _=>?_) (fun _=>?_)
     ·exact aZ ⟨false,l',rfl,by omega⟩
     ·simp only[eK]
      refine bG (mC l' o 44) ?_
      rintro _ ⟨b',l'',rfl,k1,k2,k3⟩
      dsimp+instances only[aU,List.headD_cons,List.tail_cons,eJ,bE]
      refine uG (ih _ (by omega) l'' true rfl) ?_
      rintro r ⟨b3,l3,rfl,hp⟩
      exact⟨b3,l3,rfl,by omega⟩
    ·exact done
theorem My (l:List Pc) (o:List Ad):oQ 160 [.ref 0 0] [stO l o] (Pr l o):=by
 refine jH (fun _ h=>Un (l.map pcV) (o.map adV) h) ?_
 simp only[Kk]
 exact Mx o _ l false rfl
def uH (m:Nat) (r:V×List Ob):Prop:=∃(b:Bool) (l' :List Pc) (o' :List Ad),r=(.bool b,[stO l' o'])∧pw l' +ow o'≤m
theorem yF (o:List Ad) (a:Ad):o.map adV++[.agg [.int .i64 a.1, .str a.2.1, .str a.2.2.1, .str a.2.2.2]]=(o++[a]).map adV:=by simp[adV]
theorem out_ok (o:List Ad) (h:ow o≤5000000) (v:V):aW (o.map adV) [v] 57=true:=dM (by
 have:=Ds o
 simp only[List.length_map,List.length_cons,List.length_nil];omega)
theorem Mz (l:List Pc) (o:List Ad) (ws:List Bs) (hm:wz ws+pw l+ow o≤5000000):oQ 139 [.ref 0 0, .lst 9 false (ws.map V.str)] [stO l o] (uH (wz ws+pw l+ow o)):=by
 refine jH (fun _ h=>Uq (l.map pcV) (o.map adV) (ws.map V.str) h) ?_
 simp only[Kl,eK]
 refine bG (My l o) ?_
 rintro _ ⟨b,l1,rfl,g1⟩
 dsimp+instances only[aU,List.headD_cons,List.tail_cons,eJ,bE]
 refine cL (fun _=>?_) (fun _=>?_)
 ·exact aZ ⟨false,l1,o,rfl,by omega⟩
 simp only[eK]
 refine bG (G8 l1 o (by omega)) ?_
 rintro _ ⟨lw,l2,rfl,g2⟩
 dsimp+instances only[aU,List.headD_cons,List.tail_cons,eJ,bE]
 simp only[eK]
 refine bG (Dt l2 o) ?_
 rintro _ ⟨h,ok,l3,rfl,g3,_⟩
 dsimp+instances only[aU,List.headD_cons,List.tail_cons,eJ,bE,bC,aR]
 refine cL (fun _=>?_) (fun _=>?_)
 ·refine cL (fun hw=>?_) (fun _=>?_)
  ·have hw:¬lw=[]:=by rintro rfl;exact absurd hw (by decide)
   simp only[eK]
   refine bG (mC l3 o 62) ?_
   rintro _ ⟨b,l4,rfl,g4,g5,_⟩
   dsimp+instances only[aU,List.headD_cons,List.tail_cons,eJ,bE]
   cases b with
   |false=>
    simp only[Bool.not_false,if_true]
    exact aZ ⟨false,l4,o,rfl,by omega⟩
   |true=>
    have g5:=g5 rfl
    obtain⟨j1,_⟩:=mB ws [32] (by simp)
    obtain⟨_,j2⟩:=mB lw [] (by simp)
    have j2:=j2 hw
    have w1:=oR ws
    have w2:=oR lw
    simp only[Bool.not_true,Bool.false_eq_true,if_false,bL (out_ok o (by omega) _)]
    refine iS (kU ws [32] (by omega) (by omega)) ?_
    refine iS (kU lw [] (by omega) (by omega)) ?_
    refine aZ ⟨true,l4,o++[(0,Lib.join ws [32],Lib.join lw [],h)],by rw[stO,←yF];rfl,?_⟩
    rw[Dp,Dq]
    simp only[aw1]
    omega
  ·exact aZ ⟨false,l3,o,rfl,by omega⟩
 ·exact aZ ⟨false,l3,o,rfl,by omega⟩
theorem E0 (l:List Pc) (o:List Ad) (ws:List Bs) (m:Nat) (hm:m≤5000000) (hw:wz ws+pw l+ow o≤m):
  EvE (fun(k _:Nat)=>if(((List.length (ws.map V.str):Nat):Int)==(0:Int))=true then some ((V.bool true),[stO l o])
   else
    Option.bind (aA cfg k 140 [(V.ref 0 0)] [stO l o]) fun z2=>
    Option.bind (aA cfg k 85 [(V.lst 9 false (ws.map V.str)),(V.str [])] []) fun z3=>
    chk (aW (V.getL (List.headD (List.tail (Ob.getC (List.headD z2.2 Ob.dead))) V.bot)) [(V.agg [(V.int IntKind.i64 (0:Int)),(V.str []),(V.str (V.getS z3.1)),(V.str (V.getS (List.headD (V.getT z2.1) V.bot)))])] 57) (some ((V.bool (V.getB (List.headD (List.tail (V.getT z2.1)) V.bot))),[(Ob.cells [(V.lst 213 false (V.getL (List.headD (Ob.getC (List.headD z2.2 Ob.dead)) V.bot))),(V.lst 26 true ((V.getL (List.headD (List.tail (Ob.getC (List.headD z2.2 Ob.dead))) V.bot))++[(V.agg [(V.int IntKind.i64 (0:Int)),(V.str []),(V.str (V.getS z3.1)),(V.str (V.getS (List.headD (V.getT z2.1) V.bot)))])]))])]))) (uH m):=by
 refine cL (fun _=>?_) (fun h0=>?_)
 ·exact aZ ⟨true,l,o,rfl,by omega⟩
 ·have hne:¬ws=[]:=by rintro rfl;exact h0 rfl
  refine bG (Dt l o) ?_
  rintro _ ⟨h,ok,l3,rfl,g3,_⟩
  obtain⟨_,j2⟩:=mB ws [] (by simp)
  have j2:=j2 hne
  have w1:=oR ws
  refine iS (kU ws [] (by omega) (by omega)) ?_
  dsimp+instances only[aU,List.headD_cons,List.tail_cons,eJ,bE,bC,aR]
  simp only[bL (out_ok o (by omega) _)]
  refine aZ ⟨ok,l3,o++[(0,[],Lib.join ws [],h)],by rw[stO,←yF],?_⟩
  rw[Dp,Dq]
  simp only[aw1,List.length_nil]
  omega
theorem G9 (within:Bool) (hit:within=false→∀(l:List Pc) (o:List Ad),pw l+ow o≤5000000→oQ 72 [.ref 0 0, .bool true] [stO l o] (uH (pw l+ow o)))
  (l:List Pc) (o:List Ad) (hm:pw l+ow o≤5000000):oQ 109 [.ref 0 0, .bool within] [stO l o] (uH (pw l+ow o)):=by
 refine jH (fun _ h=>Ut (l.map pcV) (o.map adV) within h) ?_
 simp only[Kn,eK]
 refine bG (G8 l o (by omega)) ?_
 rintro _ ⟨ws,l1,rfl,g1⟩
 dsimp+instances only[aU,List.headD_cons,List.tail_cons,eJ,bE]
 simp only[eK]
 refine bG (mC l1 o 60) ?_
 rintro _ ⟨b,l2,rfl,g2,g3,_⟩
 dsimp+instances only[aU,List.headD_cons,List.tail_cons,eJ,bE]
 simp only[eK]
 refine cL (fun _=>?_) (fun _=>?_)
 ·refine bG (Mz l2 o ws (by omega)) ?_
  rintro _ ⟨b,l3,o3,rfl,g4⟩
  exact aZ ⟨b,l3,o3,rfl,by omega⟩
 ·cases within with
  |true=>
   simp only[Bool.not_true,Bool.false_eq_true,if_false]
   exact E0 l2 o ws _ hm (by omega)
  |false=>
   simp only[Bool.not_false,if_true]
   refine bG (mC l2 o 58) ?_
   rintro _ ⟨b,l3,rfl,g4,g5,_⟩
   dsimp+instances only[aU,List.headD_cons,List.tail_cons,eJ,bE]
   cases b with
   |false=>
    simp only[Bool.false_eq_true,if_false,eK]
    exact E0 l3 o ws _ hm (by omega)
   |true=>
    have g5:=g5 rfl
    obtain⟨j1,_⟩:=mB ws [32] (by simp)
    have w1:=oR ws
    simp only[if_true,bL (out_ok o (by omega) _)]
    refine iS (kU ws [32] (by omega) (by omega)) ?_
    dsimp+instances only[aR]
    have e1:=yF o (1,Lib.join ws [32],[],[])
    dsimp only at e1
    simp only[e1,eK]
    have ho:ow (o++[(1,Lib.join ws [32],[],[])])=ow o+(Lib.join ws [32]).length+1:=by
     rw[Dp,Dq];simp only[aw1,List.length_nil];omega
    refine bG (hit rfl l3 (o++[(1,Lib.join ws [32],[],[])]) (by omega)) ?_
    rintro _ ⟨b,l4,o4,rfl,g6⟩
    dsimp+instances only[aU,List.headD_cons,List.tail_cons,eJ,bE]
    refine cL (fun _=>?_) (fun _=>?_)
    ·simp only[eK]
     refine bG (mC l4 o4 59) ?_
     rintro _ ⟨b,l5,rfl,g7,g8,_⟩
     dsimp+instances only[aU,List.headD_cons,List.tail_cons,eJ,bE]
     cases b with
     |false=>
      simp only[Bool.not_false,if_true]
      exact aZ ⟨false,l5,o4,rfl,by omega⟩
     |true=>
      have g8:=g8 rfl
      simp only[Bool.not_true,Bool.false_eq_true,if_false,bL (out_ok o4 (by omega) _)]
      refine aZ ⟨true,l5,o4++[(2,[],[],[])],by rw[stO,←yF],?_⟩
      rw[Dp,Dq]
      simp only[aw1,List.length_nil]
      omega
    ·exact aZ ⟨false,l4,o4,rfl,by omega⟩
theorem Kr (b:Bool) (hit:∀(l:List Pc) (o:List Ad),pw l+ow o≤5000000→oQ 109 [.ref 0 0, .bool b] [stO l o] (uH (pw l+ow o))):
  ∀(m:Nat) (l:List Pc) (o:List Ad),pw l+ow o=m→pw l+ow o≤5000000→EvE (fun k j=>L72 (aA cfg k) j b (l.map pcV) (o.map adV)) (uH (pw l+ow o)):=by
 intro m
 induction m using Nat.strongRecOn with
 |_ m ih=>
  intro l o h hm
  refine uF (fun _ h=>Rw b (l.map pcV) (o.map adV) h) ?_
  simp only[G6,eK]
  refine bG (hit l o hm) ?_
  rintro _ ⟨b1,l1,o1,rfl,g1⟩
  dsimp+instances only[aU,List.headD_cons,List.tail_cons,eJ,bE]
  refine cL (fun _=>?_) (fun _=>?_)
  ·exact aZ ⟨false,l1,o1,rfl,g1⟩
  simp only[eK]
  refine bG (mC l1 o1 44) ?_
  rintro _ ⟨b2,l2,rfl,g2,g3,_⟩
  dsimp+instances only[aU,List.headD_cons,List.tail_cons,eJ,bE]
  cases b2 with
  |false=>
   simp only[Bool.not_false,if_true]
   exact aZ ⟨true,l2,o1,rfl,by omega⟩
  |true=>
   have g3:=g3 rfl
   simp only[Bool.not_true,Bool.false_eq_true,if_false]
   refine uG (ih _ (by omega) l2 o1 rfl (by omega)) ?_
   rintro r ⟨b3,l3,o3,rfl,hp⟩
   exact⟨b3,l3,o3,rfl,by omega⟩
theorem Cq (b:Bool) (hit:∀(l:List Pc) (o:List Ad),pw l+ow o≤5000000→oQ 109 [.ref 0 0, .bool b] [stO l o] (uH (pw l+ow o)))
  (l:List Pc) (o:List Ad) (hm:pw l+ow o≤5000000):oQ 72 [.ref 0 0, .bool b] [stO l o] (uH (pw l+ow o)):=by
 refine jH (fun _ h=>M72 (l.map pcV) (o.map adV) b h) ?_
 simp only[T72]
 exact Kr b hit _ l o rfl hm
theorem Pu (l:List Pc) (o:List Ad) (hm:pw l+ow o≤5000000):oQ 72 [.ref 0 0, .bool false] [stO l o] (uH (pw l+ow o)):=
 Cq false (G9 false fun _=>Cq true (G9 true fun h=>by cases h)) l o hm
def NS (s:Bs) (r:V×List Ob):Prop:=∃(o:List Ad) (ok:Bool),r=(.tup [.lst 26 false (o.map adV), .bool ok],[])∧ow o≤2*s.length
theorem Pv (s:Bs) (hs:s.length≤1000000):oQ 35 [.str s] [] (NS s):=by
 refine jH (fun _ h=>M35 s h) ?_
 simp only[T35]
 refine bG (Po s hs) ?_
 rintro _ ⟨l,ok,rfl,g1⟩
 dsimp+instances only[aU,List.headD_cons,List.tail_cons,bE,bC]
 have none:EvE (fun(_ _:Nat)=>some ((V.tup [(V.lst 26 false []),(V.bool false)]),([]:List Ob))) (NS s):=aZ ⟨[],false,rfl,by simp[ow]⟩
 refine cL (fun _=>?_) (fun _=>none)
 have e0:Ob.cells [.lst 213 false (l.map pcV), .lst 26 true []]=stO l []:=rfl
 simp only[e0]
 have o0:ow []=0:=rfl
 refine bG (Pu l [] (by omega)) ?_
 rintro _ ⟨b,l1,o1,rfl,g2⟩
 dsimp+instances only[aU,List.headD_cons,List.tail_cons,eJ,bE]
 refine cL (fun _=>?_) (fun _=>none)
 refine cL (fun _=>none) (fun _=>?_)
 exact aZ ⟨o1,true,rfl,by omega⟩
end Go.Proofs.YtdoaoaicdimbeaaGreatDoor
end
section
namespace Go.Proofs.YtdoaoaicdimbeaaGreatDoor
open Go.Ev Go
end Go.Proofs.YtdoaoaicdimbeaaGreatDoor
end
section
namespace Go.Proofs.YtdoaoaicdimbeaaGreatDoor
open Go.Ev Go
def eN0:Bs:=[100,97,116,101]
def eN1:Bs:=[115,117,98,106,101,99,116]
def eN2:Bs:=[105,110,45,114,101,112,108,121,45,116,111]
def eN3:Bs:=[109,101,115,115,97,103,101,45,105,100]
def eM0:Bs:=[102,114,111,109]
def eM1:Bs:=[115,101,110,100,101,114]
def eM2:Bs:=[114,101,112,108,121,45,116,111]
def eM3:Bs:=[116,111]
def eM4:Bs:=[99,99]
def eM5:Bs:=[98,99,99]
def rdL (z:V×List Ob):V:= .lst 26 false (V.getL (List.headD (V.getT z.1) V.bot))
def rdS (z:V×List Ob):V:= .str (V.getS z.1)
def rdB (z:V×List Ob):V:= .bool (V.getB (List.headD (List.tail (V.getT z.1)) V.bot))
def Gm (v:V):Bool:=(((List.length (V.getL v):Nat):Int)==(0:Int))
def MA (v0 v1 v2 v3 f0 f1 f2 f3 x0 x1 x2 x3 x4 x5:V):Option (V×List Ob):=
 some (.agg [v0,v1,x0,x1,x2,x3,x4,x5,v2,v3,f0,f1,f2,f3],[])
def TOf (call:FuncId→Fun) (a0:List V) (a2 a3:Int):Option (V×List Ob):=
 Option.bind (call 32 [.lst 5 false a0, .agg [.int .i64 a2, .int .i64 a3]] []) fun z0=>
 Option.bind (call 33 [(.lst 91 false (V.getL (List.headD (V.getT z0.1) V.bot))), .str eN0] []) fun f0=>
 Option.bind (call 34 [.lst 5 false a0,(.lst 91 false (V.getL (List.headD (V.getT z0.1) V.bot))), .str eN0] []) fun v0=>
 Option.bind (call 33 [(.lst 91 false (V.getL (List.headD (V.getT z0.1) V.bot))), .str eN1] []) fun f1=>
 Option.bind (call 34 [.lst 5 false a0,(.lst 91 false (V.getL (List.headD (V.getT z0.1) V.bot))), .str eN1] []) fun v1=>
 Option.bind (call 33 [(.lst 91 false (V.getL (List.headD (V.getT z0.1) V.bot))), .str eN2] []) fun f2=>
 Option.bind (call 34 [.lst 5 false a0,(.lst 91 false (V.getL (List.headD (V.getT z0.1) V.bot))), .str eN2] []) fun v2=>
 Option.bind (call 33 [(.lst 91 false (V.getL (List.headD (V.getT z0.1) V.bot))), .str eN3] []) fun f3=>
 Option.bind (call 34 [.lst 5 false a0,(.lst 91 false (V.getL (List.headD (V.getT z0.1) V.bot))), .str eN3] []) fun v3=>
 Option.bind (call 34 [.lst 5 false a0,(.lst 91 false (V.getL (List.headD (V.getT z0.1) V.bot))), .str eM0] []) fun w0=>
 Option.bind (call 35 [rdS w0] []) fun x0=>
 Option.bind (call 34 [.lst 5 false a0,(.lst 91 false (V.getL (List.headD (V.getT z0.1) V.bot))), .str eM1] []) fun w1=>
 Option.bind (call 35 [rdS w1] []) fun x1=>
 Option.bind (call 34 [.lst 5 false a0,(.lst 91 false (V.getL (List.headD (V.getT z0.1) V.bot))), .str eM2] []) fun w2=>
 Option.bind (call 35 [rdS w2] []) fun x2=>
 Option.bind (call 34 [.lst 5 false a0,(.lst 91 false (V.getL (List.headD (V.getT z0.1) V.bot))), .str eM3] []) fun w3=>
 Option.bind (call 35 [rdS w3] []) fun x3=>
 Option.bind (call 34 [.lst 5 false a0,(.lst 91 false (V.getL (List.headD (V.getT z0.1) V.bot))), .str eM4] []) fun w4=>
 Option.bind (call 35 [rdS w4] []) fun x4=>
 Option.bind (call 34 [.lst 5 false a0,(.lst 91 false (V.getL (List.headD (V.getT z0.1) V.bot))), .str eM5] []) fun w5=>
 Option.bind (call 35 [rdS w5] []) fun x5=>
 if Gm (rdL x1)=true then(if Gm (rdL x2)=true then MA (rdS v0) (rdS v1) (rdS v2) (rdS v3) (rdB f0) (rdB f1) (rdB f2) (rdB f3) (rdL x0) (rdL x0) (rdL x0) (rdL x3) (rdL x4) (rdL x5)else MA (rdS v0) (rdS v1) (rdS v2) (rdS v3) (rdB f0) (rdB f1) (rdB f2) (rdB f3) (rdL x0) (rdL x0) (rdL x2) (rdL x3) (rdL x4) (rdL x5))
 else(if Gm (rdL x2)=true then MA (rdS v0) (rdS v1) (rdS v2) (rdS v3) (rdB f0) (rdB f1) (rdB f2) (rdB f3) (rdL x0) (rdL x1) (rdL x0) (rdL x3) (rdL x4) (rdL x5)else MA (rdS v0) (rdS v1) (rdS v2) (rdS v3) (rdB f0) (rdB f1) (rdB f2) (rdB f3) (rdL x0) (rdL x1) (rdL x2) (rdL x3) (rdL x4) (rdL x5))
theorem COf (m:Nat) (a0:List V) (a1 a2 a3 a4 a5:Int) (a6 a7:List V) (a8 a9:Int):aA cfg (m+40) 15 [.lst 5 false a0,(V.agg [.int .i64 a1, .int .i64 a2, .int .i64 a3, .int .i64 a4, .int .i64 a5, .lst 36 false a6, .lst 32 false a7, .int .i64 a8, .int .i64 a9])] []=TOf (aA cfg (m+39)) a0 a2 a3:=by kernel_rfl
end Go.Proofs.YtdoaoaicdimbeaaGreatDoor
end
section
namespace Go.Proofs.YtdoaoaicdimbeaaGreatDoor
open Go.Ev Go
open List (headD tail getD length drop take)
open V (getI getL getT getS getB)
set_option maxRecDepth 100000
variable (call : FuncId → Fun) (icall : aO (V × List Ob)) (again : List It → St → Option (V × List Ob))
def T55 (call:FuncId→Fun) (a0:List UInt8):Option (V×List Ob):=
 Option.bind (call 52 [(V.str a0),(V.bool (!(sEq a0 [])))] []) fun z0=>
 some ((V.str (getS z0.1)),[])
def A55 (a0:List UInt8):List V:=[V.str a0]
theorem E55 (a0:List UInt8):GO 55 Tryz.f55 (A55 a0) [] call icall again=T55 call a0:=by kernel_rfl
theorem C55 (k:Nat) (a0:List UInt8):aA cfg (k+1) 55 (A55 a0) []=T55 (aA cfg k) a0:=
 (show aA cfg (k+1) 55 (A55 a0) []=GO 55 Tryz.f55 (A55 a0) [] (aA cfg k) (aE cfg (aA cfg k) 20) (RN 55 Tryz.f55 [] (aA cfg k) (aE cfg (aA cfg k) 20) k)by kernel_rfl).trans (E55 _ _ _ a0)
theorem M55 (a0:List UInt8) {r:V×List Ob} (h:Evt (fun k n=>T55 (aA cfg k) a0) r):Ret 55 [V.str a0] [] r:=aK (g:=fun k n=>T55 (aA cfg k) a0) (fun k=>C55 k a0) h
def T53 (call:FuncId→Fun) (a0:List V):Option (V×List Ob):=
 Option.bind (call 85 [(V.lst 9 false a0),(V.str [32])] []) fun z0=>
 chk (bO [40] (getS z0.1)) (chk (bO ([40]++(getS z0.1)) [41]) (some ((V.str (([40]++(getS z0.1))++[41])),[])))
def A53 (a0:List V):List V:=[V.lst 9 false a0]
theorem E53 (a0:List V):GO 53 Tryz.f53 (A53 a0) [] call icall again=T53 call a0:=by kernel_rfl
theorem C53 (k:Nat) (a0:List V):aA cfg (k+1) 53 (A53 a0) []=T53 (aA cfg k) a0:=
 (show aA cfg (k+1) 53 (A53 a0) []=GO 53 Tryz.f53 (A53 a0) [] (aA cfg k) (aE cfg (aA cfg k) 20) (RN 53 Tryz.f53 [] (aA cfg k) (aE cfg (aA cfg k) 20) k)by kernel_rfl).trans (E53 _ _ _ a0)
theorem M53 (a0:List V) {r:V×List Ob} (h:Evt (fun k n=>T53 (aA cfg k) a0) r):Ret 53 [V.lst 9 false a0] [] r:=aK (g:=fun k n=>T53 (aA cfg k) a0) (fun k=>C53 k a0) h
def T28 (call:FuncId→Fun) (a0:Int) (a1:List UInt8) (a2:List UInt8) (a3:List UInt8):Option (V×List Ob):=
 if(a0==(0:Int))=true then
 Option.bind (call 55 [(V.str a1)] []) fun z0=>
 Option.bind (call 45 [(V.str a2)] []) fun z1=>
 Option.bind (call 55 [(V.str a3)] []) fun z2=>
 Option.bind (call 53 [(V.lst 9 false [(V.str (getS z0.1)),(V.str [78,73,76]),(V.str (getS z1.1)),(V.str (getS z2.1))])] []) fun z3=>
 some ((V.str (getS z3.1)),[])
 else
 if(a0==(1:Int))=true then
 Option.bind (call 45 [(V.str a1)] []) fun z0=>
 Option.bind (call 53 [(V.lst 9 false [(V.str [78,73,76]),(V.str [78,73,76]),(V.str (getS z0.1)),(V.str [78,73,76])])] []) fun z1=>
 some ((V.str (getS z1.1)),[])
 else
 Option.bind (call 53 [(V.lst 9 false [(V.str [78,73,76]),(V.str [78,73,76]),(V.str [78,73,76]),(V.str [78,73,76])])] []) fun z0=>
 some ((V.str (getS z0.1)),[])
def A28 (a0:Int) (a1:List UInt8) (a2:List UInt8) (a3:List UInt8):List V:=[V.agg [V.int IntKind.i64 a0,V.str a1,V.str a2,V.str a3]]
theorem E28 (a0:Int) (a1:List UInt8) (a2:List UInt8) (a3:List UInt8):GO 28 Tryz.f28 (A28 a0 a1 a2 a3) [] call icall again=T28 call a0 a1 a2 a3:=by kernel_rfl
theorem C28 (k:Nat) (a0:Int) (a1:List UInt8) (a2:List UInt8) (a3:List UInt8):aA cfg (k+1) 28 (A28 a0 a1 a2 a3) []=T28 (aA cfg k) a0 a1 a2 a3:=
 (show aA cfg (k+1) 28 (A28 a0 a1 a2 a3) []=GO 28 Tryz.f28 (A28 a0 a1 a2 a3) [] (aA cfg k) (aE cfg (aA cfg k) 20) (RN 28 Tryz.f28 [] (aA cfg k) (aE cfg (aA cfg k) 20) k)by kernel_rfl).trans (E28 _ _ _ a0 a1 a2 a3)
theorem M28 (a0:Int) (a1:List UInt8) (a2:List UInt8) (a3:List UInt8) {r:V×List Ob} (h:Evt (fun k n=>T28 (aA cfg k) a0 a1 a2 a3) r):Ret 28 [V.agg [V.int IntKind.i64 a0,V.str a1,V.str a2,V.str a3]] [] r:=aK (g:=fun k n=>T28 (aA cfg k) a0 a1 a2 a3) (fun k=>C28 k a0 a1 a2 a3) h
def E1 (call:FuncId→Fun) (ag0:List V→Int→Int→List V→Option (V×List Ob)) (l0:List V) (i1:Int) (i2:Int) (l3:List V):Option (V×List Ob):=
 if(decide (i2<i1))=true then
 chk (decide (0≤i2)) (chk (decide (i2<((length l0:Nat):Int))) (Option.bind (call 28 [(V.agg [(V.int .i64 (getI (headD (V.cells (getD l0 (Int.toNat i2) V.bot)) V.bot))),(V.str (getS (headD (tail (V.cells (getD l0 (Int.toNat i2) V.bot))) V.bot))),(V.str (getS (headD (tail (tail (V.cells (getD l0 (Int.toNat i2) V.bot)))) V.bot))),(V.str (getS (headD (tail (tail (tail (V.cells (getD l0 (Int.toNat i2) V.bot))))) V.bot)))])] []) fun z0=>
 Option.bind (call 27 [(V.ref 0 0),(V.str (getS z0.1))] [(Ob.cells [(V.opt 0 0),(V.lst 5 true l3)])]) fun z1=>
 (ag0 (l0) (i1) ((IntKind.wrap .i64 (i2+(1:Int)))) ((getL (headD (tail (Ob.getC (headD z1.2 Ob.dead))) V.bot))))))
 else
 Option.bind (call 29 [(V.ref 0 0)] [(Ob.cells [(V.opt 0 0),(V.lst 5 true l3)])]) fun z0=>
 chk (bO [40] (getS z0.1)) (chk (bO ([40]++(getS z0.1)) [41]) (some ((V.str (([40]++(getS z0.1))++[41])),[])))
def T12 (call:FuncId→Fun) (ag0:List V→Int→Int→List V→Option (V×List Ob)) (a0:List V):Option (V×List Ob):=
 if(((length a0:Nat):Int)==(0:Int))=true then
 some ((V.str [78,73,76]),[])
 else
 (ag0 (a0) (((length a0:Nat):Int)) ((0:Int)) ([]))
def A12 (a0:List V):List V:=[V.lst 26 false a0]
def Cr (l0:List V) (i1:Int) (i2:Int) (l3:List V):St:=⟨[V.bot,V.bot,V.bot,(V.ref 0 0),V.bot,V.bot,V.bot,V.bot,V.bot,(V.lst 26 false l0),(V.int IntKind.i64 i1),(V.int IntKind.i64 i2)]++List.replicate 10 V.bot,[(Ob.cells [(V.opt 0 0),(V.lst 5 true l3)])]⟩
theorem RB (l0:List V) (i1:Int) (i2:Int) (l3:List V):
 RM 12 Tryz.f12 [] call icall again (aJ Tryz.f12 0) (Cr l0 i1 i2 l3)=E1 call (fun l0 i1 i2 l3=>again (aJ Tryz.f12 0) (Cr l0 i1 i2 l3)) l0 i1 i2 l3:=by kernel_rfl
theorem E12 (a0:List V):GO 12 Tryz.f12 (A12 a0) [] call icall again=T12 call (fun l0 i1 i2 l3=>again (aJ Tryz.f12 0) (Cr l0 i1 i2 l3)) a0:=by kernel_rfl
def L12 (call:FuncId→Fun):Nat→(List V→Int→Int→List V→Option (V×List Ob))
 |0=>fun _ _ _ _=>none
 |n+1=>E1 call (L12 call n)
theorem R12 (call:FuncId→Fun) (icall:aO (V×List Ob)):∀n,(∀(l0:List V) (i1:Int) (i2:Int) (l3:List V),RN 12 Tryz.f12 [] call icall n (aJ Tryz.f12 0) (Cr l0 i1 i2 l3)=(L12 call n) l0 i1 i2 l3)
 |0=>fun l0 i1 i2 l3=>rfl
 |n+1=>by
  have ih:=R12 call icall n
  exact fun l0 i1 i2 l3=>(RB call icall (RN 12 Tryz.f12 [] call icall n) l0 i1 i2 l3).trans (by rw[show(fun l0 i1 i2 l3=>RN 12 Tryz.f12 [] call icall n (aJ Tryz.f12 0) (Cr l0 i1 i2 l3))=(L12 call n)from(funext fun l0=>funext fun i1=>funext fun i2=>funext fun l3=>ih l0 i1 i2 l3)];rfl)
theorem C12 (k:Nat) (a0:List V):aA cfg (k+1) 12 (A12 a0) []=T12 (aA cfg k) (L12 (aA cfg k) k) a0:=by
 have ih:=R12 (aA cfg k) (aE cfg (aA cfg k) 20) k
 refine(show aA cfg (k+1) 12 (A12 a0) []=GO 12 Tryz.f12 (A12 a0) [] (aA cfg k) (aE cfg (aA cfg k) 20) (RN 12 Tryz.f12 [] (aA cfg k) (aE cfg (aA cfg k) 20) k)by kernel_rfl).trans ((E12 _ _ _ a0).trans ?_)
 rw[show(fun l0 i1 i2 l3=>RN 12 Tryz.f12 [] (aA cfg k) (aE cfg (aA cfg k) 20) k (aJ Tryz.f12 0) (Cr l0 i1 i2 l3))=(L12 (aA cfg k) k)from(funext fun l0=>funext fun i1=>funext fun i2=>funext fun l3=>ih l0 i1 i2 l3)]
theorem M12 (a0:List V) {r:V×List Ob} (h:Evt (fun k n=>T12 (aA cfg k) (L12 (aA cfg k) n) a0) r):Ret 12 [V.lst 26 false a0] [] r:=aK (g:=fun k n=>T12 (aA cfg k) (L12 (aA cfg k) n) a0) (fun k=>C12 k a0) h
theorem NT (l0:List V) (i1:Int) (i2:Int) (l3:List V) {r:V×List Ob} (h:Evt (fun k n=>E1 (aA cfg k) (L12 (aA cfg k) n) l0 i1 i2 l3) r):Evt (fun k n=>(L12 (aA cfg k) n) l0 i1 i2 l3) r:=aY (fun k n=>rfl) h
end Go.Proofs.YtdoaoaicdimbeaaGreatDoor
end
section
namespace Go.Proofs.YtdoaoaicdimbeaaGreatDoor
open Go.Ev Go
def AS (s:Bs):Bs:=qJ s (!(sEq s []))
theorem NU (s:Bs) (hs:s.length≤1000000000):Ret 55 [.str s] [] (.str (AS s),[]):=by
 refine M55 s ?_
 simp only[T55]
 refine aB (Cl s hs _) ?_
 exact aD _
theorem Ha (m:Nat) (l:List Bs) (h:∀x∈l,x.length≤m):(kO l).length≤l.length* (m+1)+2:=by
 have:=uD m l h
 simp only[kO,List.length_append,List.length_cons,List.length_nil];omega
theorem NV (l:List Bs) (hl:l.length≤10000000) (hj:(Lib.join l [32]).length≤100000000000000):Ret 53 [.lst 9 false (l.map V.str)] [] (.str (kO l),[]):=by
 refine M53 (l.map V.str) ?_
 simp only[T53]
 refine aB (kU l [32] (by omega) hj) ?_
 have c1:bO [40] (Lib.join l [32])=true:=fD (by simp;omega)
 have c2:bO ([40]++Lib.join l [32]) [41]=true:=fD (by simp;omega)
 simp only[aR,bL c1,bL c2]
 exact aD _
def AT (a:Ad):List Bs:=if a.1=0 then[AS a.2.1,jG,dN a.2.2.1,AS a.2.2.2]else if a.1=1 then[jG,jG,dN a.2.1,jG]else[jG,jG,jG,jG]
def xZ (a:Ad):Bs:=kO (AT a)
theorem Cs (s:Bs):(AS s).length≤2*s.length+6:=gJ s _
theorem Hb (a:Ad):∀x∈AT a,x.length≤2*aw1 a+4:=by
 intro x hx
 have h1:=Cs a.2.1
 have h2:=eY a.2.2.1
 have h3:=Cs a.2.2.2
 have h4:=eY a.2.1
 have h5:jG.length=3:=rfl
 unfold AT at hx
 unfold aw1
 split at hx
 ·simp only[List.mem_cons,List.not_mem_nil,or_false]at hx
  rcases hx with rfl|rfl|rfl|rfl<;>omega
 ·split at hx
  ·simp only[List.mem_cons,List.not_mem_nil,or_false]at hx
   rcases hx with rfl|rfl|rfl|rfl<;>omega
  ·simp only[List.mem_cons,List.not_mem_nil,or_false]at hx
   rcases hx with rfl|rfl|rfl|rfl<;>omega
theorem uI (a:Ad):(AT a).length=4:=by unfold AT;split;rfl;split<;>rfl
theorem MB (a:Ad):(xZ a).length≤8*aw1 a+22:=by
 have:=Ha _ _ (Hb a)
 rw[uI]at this
 unfold xZ
 omega
theorem RD (a:Ad) (ha:aw1 a≤1000000000):Ret 28 [adV a] [] (.str (xZ a),[]):=by
 have hrow:Ret 53 [.lst 9 false ((AT a).map V.str)] [] (.str (xZ a),[]):=by
  refine NV (AT a) (by rw[uI];omega) ?_
  have:=uD _ _ (Hb a)
  rw[uI]at this
  omega
 obtain⟨k,n,l,h⟩:=a
 have hs:n.length≤1000000000∧l.length≤1000000000∧h.length≤1000000000:=by simp only[aw1]at ha;omega
 refine M28 k n l h ?_
 simp only[T28]
 unfold AT at hrow
 dsimp only at hrow
 by_cases h0:k=0
 ·subst h0
  have z:((0:Int)==(0:Int))=true:=rfl
  rw[if_pos rfl]at hrow
  simp only[z,if_true]
  refine aB (NU n (by omega)) ?_
  refine aB (lK l (by omega)) ?_
  refine aB (NU h (by omega)) ?_
  simp only[aR]
  refine aB hrow ?_
  exact aD _
 ·have z:(k==(0:Int))=false:=by simpa using h0
  rw[if_neg h0]at hrow
  simp only[z,Bool.false_eq_true,if_false]
  by_cases h1:k=1
  ·subst h1
   have z:((1:Int)==(1:Int))=true:=rfl
   rw[if_pos rfl]at hrow
   simp only[z,if_true]
   refine aB (lK n (by omega)) ?_
   simp only[aR]
   refine aB hrow ?_
   exact aD _
  ·have z:(k==(1:Int))=false:=by simpa using h1
   rw[if_neg h1]at hrow
   simp only[z,Bool.false_eq_true,if_false]
   refine aB hrow ?_
   exact aD _
def iE (o:List Ad):Bs:=o.flatMap xZ
def wR (o:List Ad):Bs:=if o=[]then jG else([40]++iE o)++[41]
theorem uJ:∀o:List Ad,(iE o).length≤30*ow o
 |[]=>by simp[iE,ow]
 |a::r=>by
  have h1:=uJ r
  have h2:=MB a
  have h3:1≤aw1 a:=by simp[aw1]
  have h4:ow (a::r)=aw1 a+ow r:=by simp[ow]
  have h5:iE (a::r)=xZ a++iE r:=by simp[iE]
  rw[h4,h5,List.length_append];omega
theorem gQ (o:List Ad):(wR o).length≤30*ow o+3:=by
 have:=uJ o
 unfold wR
 split
 ·simp[jG]
 ·simp only[List.length_append,List.length_cons,List.length_nil];omega
theorem Ks {o:List Ad} {i:Nat} (h:i<o.length):aw1 o[i]≤ow o:=by
 induction o generalizing i with
 |nil=>simp at h
 |cons a r ih=>
  have e:ow (a::r)=aw1 a+ow r:=by simp[ow]
  rw[e]
  cases i with
  |zero=>simp
  |succ j=>
   have:=ih (i:=j) (by simpa using h)
   simp only[List.getElem_cons_succ];omega
theorem MC {o:List Ad} {i:Nat} (h:i<o.length):List.getD (o.map adV) i V.bot=adV o[i]:=by simp[List.getD,h]
theorem Kt (a:Ad):V.cells (adV a)=[.int .i64 a.1, .str a.2.1, .str a.2.2.1, .str a.2.2.2]:=rfl
theorem MD (a:Ad):V.agg [.int .i64 a.1, .str a.2.1, .str a.2.2.1, .str a.2.2.2]=adV a:=rfl
theorem Hd (o:Bs) (h:o.length≤1000000000000000000):Ret 29 [.ref 0 0] [.cells [.opt 0 0, .lst 5 true (ofBytes o)]] (.str o,[.cells [.opt 0 0, .lst 5 false (ofBytes o)]]):=by
 refine eD (h:=Go.Ev.textF) (by kernel_rfl) ?_
 have h2:=jM o
 have h3:(ofBytes o).length<1152921504606846976:=by rw[bB];omega
 simp only[Go.Ev.textF,h2,h3,decide_true,Bool.and_self,if_true,bT]
theorem Ku (o:List Ad) (ho:ow o≤1000000000):∀(n i:Nat),o.length - i=n→i≤o.length→
  Evt (fun k j=>L12 (aA cfg k) j (o.map adV) (o.length:Nat) (i:Nat) (ofBytes (iE (o.take i)))) (.str (([40]++iE o)++[41]),[])
 |0,i,h,hi=>by
  have hle:=uJ o
  refine NT (o.map adV) (o.length:Nat) (i:Nat) (ofBytes (iE (o.take i))) ?_
  have h1:¬((i:Int)<(o.length:Int)):=by omega
  simp only[E1,h1,decide_false,Bool.false_eq_true,if_false]
  rw[List.take_of_length_le (by omega)]
  refine aB (Hd _ (by omega)) ?_
  have c1:bO [40] (iE o)=true:=fD (by simp;omega)
  have c2:bO ([40]++iE o) [41]=true:=fD (by simp;omega)
  simp only[aR,bL c1,bL c2]
  exact aD _
 |n+1,i,h,hi=>by
  have hlt:i<o.length:=by omega
  have hle:=uJ o
  have hol:=Ds o
  have ha:=Ks hlt
  have htake:iE (o.take (i+1))=iE (o.take i)++xZ o[i]:=by
   unfold iE
   rw[List.take_succ_eq_append_getElem hlt,List.flatMap_append,List.flatMap_cons,List.flatMap_nil,List.append_nil]
  have hpre:(iE (o.take (i+1))).length≤(iE o).length:=by
   conv=>rhs;rw[←List.take_append_drop (i+1) o,iE,List.flatMap_append,List.length_append]
   exact Nat.le_add_right _ _
  refine NT (o.map adV) (o.length:Nat) (i:Nat) (ofBytes (iE (o.take i))) ?_
  have h1:((i:Int)<(o.length:Int)):=by omega
  have h2:(0:Int)≤(i:Nat):=by omega
  have hw:IntKind.wrap .i64 (((i:Nat):Int)+1)=((i+1:Nat):Int):=by rw[wrap64 (by omega) (by omega)];omega
  simp only[E1,h1,decide_true,if_true,aH h2,cA,Int.toNat_natCast,MC hlt,hw,List.length_map,Kt,List.headD_cons,List.tail_cons,cC,aR,MD]
  refine aB (RD o[i] (by omega)) ?_
  rw[htake,List.length_append]at hpre
  refine aB (EM (iE (o.take i)) (xZ o[i]) (by omega)) ?_
  simp only[List.headD_cons,Ob.getC,List.tail_cons,V.getL]
  rw[←htake]
  exact Ku o ho n (i+1) (by omega) (by omega)
theorem Ct (o:List Ad) (ho:ow o≤1000000000):Ret 12 [.lst 26 false (o.map adV)] [] (.str (wR o),[]):=by
 refine M12 (o.map adV) ?_
 simp only[T12,List.length_map]
 unfold wR
 by_cases h:o=[]
 ·subst h
  have z:(((([]:List Ad).length:Nat):Int)==0)=true:=rfl
  simp only[z,if_true]
  exact aD _
 ·have hp:=List.length_pos_iff.2 h
  have z:(((o.length:Nat):Int)==0)=false:=by
   have:¬((o.length:Nat):Int)=0:=by omega
   simpa using this
  simp only[z,Bool.false_eq_true,if_false,if_neg h]
  exact Ku o ho _ 0 rfl (by omega)
structure En where
 d:Bs
 s:Bs
 l0:List Ad
 l1:List Ad
 l2:List Ad
 l3:List Ad
 l4:List Ad
 l5:List Ad
 r:Bs
 i:Bs
 h0:Bool
 h1:Bool
 h2:Bool
 h3:Bool
def lsV (o:List Ad):V:= .lst 26 false (o.map adV)
def enV (e:En):V:= .agg [.str e.d, .str e.s,lsV e.l0,lsV e.l1,lsV e.l2,lsV e.l3,lsV e.l4,lsV e.l5, .str e.r, .str e.i, .bool e.h0, .bool e.h1, .bool e.h2, .bool e.h3]
def enL (e:En):List Bs:=[qJ e.d e.h0,qJ e.s e.h1,wR e.l0,wR e.l1,wR e.l2,wR e.l3,wR e.l4,wR e.l5,qJ e.r e.h2,qJ e.i e.h3]
def E2 (e:En):Bs:=kO (enL e)
def Pw (call:FuncId→Fun) (d s:Bs) (x0 x1 x2 x3 x4 x5:List V) (r i:Bs) (h0 h1 h2 h3:Bool):Option (V×List Ob):=
 Option.bind (call 52 [.str d, .bool h0] []) fun z0=>
 Option.bind (call 52 [.str s, .bool h1] []) fun z1=>
 Option.bind (call 12 [.lst 26 false x0] []) fun y0=>chk (aW [rdS z0,rdS z1] [rdS y0] 17) (
 Option.bind (call 12 [.lst 26 false x1] []) fun y1=>chk (aW ([rdS z0,rdS z1]++[rdS y0]) [rdS y1] 17) (
 Option.bind (call 12 [.lst 26 false x2] []) fun y2=>chk (aW (([rdS z0,rdS z1]++[rdS y0])++[rdS y1]) [rdS y2] 17) (
 Option.bind (call 12 [.lst 26 false x3] []) fun y3=>chk (aW ((([rdS z0,rdS z1]++[rdS y0])++[rdS y1])++[rdS y2]) [rdS y3] 17) (
 Option.bind (call 12 [.lst 26 false x4] []) fun y4=>chk (aW (((([rdS z0,rdS z1]++[rdS y0])++[rdS y1])++[rdS y2])++[rdS y3]) [rdS y4] 17) (
 Option.bind (call 12 [.lst 26 false x5] []) fun y5=>chk (aW ((((([rdS z0,rdS z1]++[rdS y0])++[rdS y1])++[rdS y2])++[rdS y3])++[rdS y4]) [rdS y5] 17) (
 Option.bind (call 52 [.str r, .bool h2] []) fun z2=>
 Option.bind (call 52 [.str i, .bool h3] []) fun z3=>
 chk (aW (((((([rdS z0,rdS z1]++[rdS y0])++[rdS y1])++[rdS y2])++[rdS y3])++[rdS y4])++[rdS y5]) [rdS z2,rdS z3] 17) (Option.bind (call 53 [.lst 9 false ((((((([rdS z0,rdS z1]++[rdS y0])++[rdS y1])++[rdS y2])++[rdS y3])++[rdS y4])++[rdS y5])++[rdS z2,rdS z3])] []) fun z4=>some (rdS z4,[]))))))))
theorem Uv (m:Nat) (d s:Bs) (x0 x1 x2 x3 x4 x5:List V) (r i:Bs) (h0 h1 h2 h3:Bool):aA cfg (m+20) 26 [.agg [.str d, .str s, .lst 26 false x0, .lst 26 false x1, .lst 26 false x2, .lst 26 false x3, .lst 26 false x4, .lst 26 false x5, .str r, .str i, .bool h0, .bool h1, .bool h2, .bool h3]] []=Pw (aA cfg (m+19)) d s x0 x1 x2 x3 x4 x5 r i h0 h1 h2 h3:=by kernel_rfl
theorem He {f:FuncId} {args:List V} {objs:List Ob} {r:V×List Ob} {g:Nat→Option (V×List Ob)} (K:Nat) (hc:∀m,aA cfg (m+(K+1)) f args objs=g (m+K)) (h:Evt (fun k _=>g k) r):Ret f args objs r:=by
 obtain⟨K2,h⟩:=h
 refine⟨K2+(K+1),fun k hk=>?_⟩
 obtain⟨m,rfl⟩:∃m,k=m+(K+1):=⟨k - (K+1),by omega⟩
 rw[hc];exact h (m+K) K2 (by omega) (by omega)
theorem kP (s:Bs) (o:List Ob):rdS (.str s,o)= .str s:=rfl
theorem RE (e:En) (hd:e.d.length≤100000000) (hs:e.s.length≤100000000) (hr:e.r.length≤100000000) (hi:e.i.length≤100000000)
  (g0:ow e.l0≤100000000) (g1:ow e.l1≤100000000) (g2:ow e.l2≤100000000) (g3:ow e.l3≤100000000) (g4:ow e.l4≤100000000) (g5:ow e.l5≤100000000):
  Ret 26 [enV e] [] (.str (E2 e),[]):=by
 refine He (g:=fun k=>Pw (aA cfg k) e.d e.s (e.l0.map adV) (e.l1.map adV) (e.l2.map adV) (e.l3.map adV) (e.l4.map adV) (e.l5.map adV) e.r e.i e.h0 e.h1 e.h2 e.h3) 19 (fun m=>Uv m e.d e.s (e.l0.map adV) (e.l1.map adV) (e.l2.map adV) (e.l3.map adV) (e.l4.map adV) (e.l5.map adV) e.r e.i e.h0 e.h1 e.h2 e.h3) ?_
 have ca:∀(l:List V) (v:V) (x:Option (V×List Ob)),l.length≤20→chk (aW l [v] 17) x=x:=fun l v x h=>bL (dM (by simp only[List.length_cons,List.length_nil];omega)) x
 have ca2:∀(l:List V) (v u:V) (x:Option (V×List Ob)),l.length≤20→chk (aW l [v,u] 17) x=x:=fun l v u x h=>bL (dM (by simp only[List.length_cons,List.length_nil];omega)) x
 have hrow:Ret 53 [.lst 9 false ((enL e).map V.str)] [] (.str (E2 e),[]):=by
  have hm:∀x∈enL e,x.length≤4000000000:=by
   have q0:=gJ e.d e.h0
   have q1:=gJ e.s e.h1
   have q2:=gJ e.r e.h2
   have q3:=gJ e.i e.h3
   have p0:=gQ e.l0
   have p1:=gQ e.l1
   have p2:=gQ e.l2
   have p3:=gQ e.l3
   have p4:=gQ e.l4
   have p5:=gQ e.l5
   intro x hx
   simp only[enL,List.mem_cons,List.not_mem_nil,or_false]at hx
   rcases hx with rfl|rfl|rfl|rfl|rfl|rfl|rfl|rfl|rfl|rfl<;>omega
  have:=uD _ _ hm
  have e1:(enL e).length=10:=rfl
  rw[e1]at this
  exact NV (enL e) (by rw[e1];omega) (by omega)
 simp only[Pw]
 refine aB (Cl e.d (by omega) e.h0) ?_
 refine aB (Cl e.s (by omega) e.h1) ?_
 simp only[kP]
 refine aB (Ct e.l0 (by omega)) ?_
 simp only[kP,ca,List.length_append,List.length_cons,List.length_nil,Nat.reduceAdd,Nat.reduceLeDiff]
 refine aB (Ct e.l1 (by omega)) ?_
 simp only[kP,ca,List.length_append,List.length_cons,List.length_nil,Nat.reduceAdd,Nat.reduceLeDiff]
 refine aB (Ct e.l2 (by omega)) ?_
 simp only[kP,ca,List.length_append,List.length_cons,List.length_nil,Nat.reduceAdd,Nat.reduceLeDiff]
 refine aB (Ct e.l3 (by omega)) ?_
 simp only[kP,ca,List.length_append,List.length_cons,List.length_nil,Nat.reduceAdd,Nat.reduceLeDiff]
 refine aB (Ct e.l4 (by omega)) ?_
 simp only[kP,ca,List.length_append,List.length_cons,List.length_nil,Nat.reduceAdd,Nat.reduceLeDiff]
 refine aB (Ct e.l5 (by omega)) ?_
 simp only[kP,ca,List.length_append,List.length_cons,List.length_nil,Nat.reduceAdd,Nat.reduceLeDiff]
 refine aB (Cl e.r (by omega) e.h2) ?_
 refine aB (Cl e.i (by omega) e.h3) ?_
 simp only[kP,ca2,List.length_append,List.length_cons,List.length_nil,Nat.reduceAdd,Nat.reduceLeDiff]
 refine aB hrow ?_
 exact aD _
end Go.Proofs.YtdoaoaicdimbeaaGreatDoor
end
section
namespace Go.Proofs.YtdoaoaicdimbeaaGreatDoor
open Go.Ev Go
open Classical in
noncomputable def fE (s:Bs):List Ad×Bool:=
 if h:∃q:List Ad×Bool,Ret 35 [.str s] [] (.tup [lsV q.1, .bool q.2],[])∧ow q.1≤2*s.length then h.choose else([],false)
theorem lL (s:Bs) (hs:s.length≤1000000):Ret 35 [.str s] [] (.tup [lsV (fE s).1, .bool (fE s).2],[])∧ow (fE s).1≤2*s.length:=by
 obtain⟨_,h,o,ok,rfl,ho⟩:=Pv s hs
 have h:∃q:List Ad×Bool,Ret 35 [.str s] [] (.tup [lsV q.1, .bool q.2],[])∧ow q.1≤2*s.length:=⟨(o,ok),h,ho⟩
 unfold fE
 rw[dif_pos h]
 exact h.choose_spec
def orL (x y:List Ad):List Ad:=if x=[]then y else x
theorem wS (x y:List Ad) (m:Nat) (h1:ow x≤m) (h2:ow y≤m):ow (orL x y)≤m:=by unfold orL;split<;>assumption
noncomputable def ofS (b:Bs) (p:Pt):En where
 d:=aT b (hdL b p) eN0
 s:=aT b (hdL b p) eN1
 r:=aT b (hdL b p) eN2
 i:=aT b (hdL b p) eN3
 h0:=(eX (hdL b p) eN0).isSome
 h1:=(eX (hdL b p) eN1).isSome
 h2:=(eX (hdL b p) eN2).isSome
 h3:=(eX (hdL b p) eN3).isSome
 l0:=(fE (aT b (hdL b p) eM0)).1
 l1:=orL (fE (aT b (hdL b p) eM1)).1 (fE (aT b (hdL b p) eM0)).1
 l2:=orL (fE (aT b (hdL b p) eM2)).1 (fE (aT b (hdL b p) eM0)).1
 l3:=(fE (aT b (hdL b p) eM3)).1
 l4:=(fE (aT b (hdL b p) eM4)).1
 l5:=(fE (aT b (hdL b p) eM5)).1
theorem jI (b:Bs) (hb:b.length≤1000000) (l:List Fd) (n:Bs):ow (fE (aT b l n)).1≤2*b.length:=by
 have h1:=bI b l n
 have:=(lL (aT b l n) (by omega)).2
 omega
theorem RF (o:List Ad) (ok:Bool) (u:List Ob):rdL (.tup [lsV o, .bool ok],u)=lsV o:=rfl
theorem Px (x:Option Fd) (u:List Ob):rdB (qG x,u)= .bool x.isSome:=by cases x<;>rfl
theorem rI (o:List Ad):Gm (lsV o)=true↔o=[]:=by
 cases o with
 |nil=>exact⟨fun _=>rfl,fun _=>rfl⟩
 |cons a r=>
  refine⟨fun h=>?_,fun h=>by cases h⟩
  have h:(((((a::r).map adV).length:Nat):Int)==0)=true:=h
  have:((((a::r).map adV).length:Nat):Int)=0:=by simpa using h
  simp only[List.map_cons,List.length_cons]at this
  omega
theorem RG (b:Bs) (hb:b.length≤3000) (p:Pt):Ret 15 [.lst 5 false (ofBytes b),partV p] [] (enV (ofS b p),[]):=by
 obtain⟨k1,k2⟩:=qI b (p.hd.1:Nat) (p.hd.2:Nat)
 have hl:(hdL b p).length≤1000000:=by unfold hdL;omega
 have hl2:∀f∈hdL b p,f.1.length≤1000000:=fun f hf=>by have:=k1 f hf;omega
 have hv:∀n,(aT b (hdL b p) n).length≤1000000:=fun n=>by have:=bI b (hdL b p) n;omega
 rw[←eR p]
 refine He (g:=fun k=>TOf (aA cfg k) (ofBytes b) (p.hd.1:Nat) (p.hd.2:Nat)) 39 (fun m=>COf m (ofBytes b) (p.kd:Nat) (p.hd.1:Nat) (p.hd.2:Nat) (p.bd.1:Nat) (p.bd.2:Nat) (p.ks.map partV) (p.cs.map cutV) (p.en.1:Nat) (p.en.2:Nat)) ?_
 simp only[TOf]
 refine aB (Cb b (by omega) (p.hd.1:Nat) (p.hd.2:Nat)) ?_
 simp only[bC,List.headD_cons,bE]
 refine aB (AA (hdL b p) hl hl2 eN0 (by simp[eN0])) ?_
 refine aB (lY b (by omega) (hdL b p) hl hl2 eN0 (by simp[eN0])) ?_
 refine aB (AA (hdL b p) hl hl2 eN1 (by simp[eN1])) ?_
 refine aB (lY b (by omega) (hdL b p) hl hl2 eN1 (by simp[eN1])) ?_
 refine aB (AA (hdL b p) hl hl2 eN2 (by simp[eN2])) ?_
 refine aB (lY b (by omega) (hdL b p) hl hl2 eN2 (by simp[eN2])) ?_
 refine aB (AA (hdL b p) hl hl2 eN3 (by simp[eN3])) ?_
 refine aB (lY b (by omega) (hdL b p) hl hl2 eN3 (by simp[eN3])) ?_
 refine aB (lY b (by omega) (hdL b p) hl hl2 eM0 (by simp[eM0])) ?_
 refine aB (lL (aT b (hdL b p) eM0) (hv _)).1 ?_
 refine aB (lY b (by omega) (hdL b p) hl hl2 eM1 (by simp[eM1])) ?_
 refine aB (lL (aT b (hdL b p) eM1) (hv _)).1 ?_
 refine aB (lY b (by omega) (hdL b p) hl hl2 eM2 (by simp[eM2])) ?_
 refine aB (lL (aT b (hdL b p) eM2) (hv _)).1 ?_
 refine aB (lY b (by omega) (hdL b p) hl hl2 eM3 (by simp[eM3])) ?_
 refine aB (lL (aT b (hdL b p) eM3) (hv _)).1 ?_
 refine aB (lY b (by omega) (hdL b p) hl hl2 eM4 (by simp[eM4])) ?_
 refine aB (lL (aT b (hdL b p) eM4) (hv _)).1 ?_
 refine aB (lY b (by omega) (hdL b p) hl hl2 eM5 (by simp[eM5])) ?_
 refine aB (lL (aT b (hdL b p) eM5) (hv _)).1 ?_
 simp only[RF,Px,kP]
 by_cases h1:(fE (aT b (hdL b p) eM1)).1=[]
 ·have o1:orL (fE (aT b (hdL b p) eM1)).1 (fE (aT b (hdL b p) eM0)).1=(fE (aT b (hdL b p) eM0)).1:=if_pos h1
  simp only[(rI _).2 h1,if_true]
  by_cases h2:(fE (aT b (hdL b p) eM2)).1=[]
  ·have o2:orL (fE (aT b (hdL b p) eM2)).1 (fE (aT b (hdL b p) eM0)).1=(fE (aT b (hdL b p) eM0)).1:=if_pos h2
   simp only[(rI _).2 h2,if_true]
   unfold ofS;rw[o1,o2]
   exact aD _
  ·have o2:orL (fE (aT b (hdL b p) eM2)).1 (fE (aT b (hdL b p) eM0)).1=(fE (aT b (hdL b p) eM2)).1:=if_neg h2
   simp only[show¬Gm (lsV (fE (aT b (hdL b p) eM2)).1)=true from fun h=>h2 ((rI _).1 h),if_false]
   unfold ofS;rw[o1,o2]
   exact aD _
 ·have o1:orL (fE (aT b (hdL b p) eM1)).1 (fE (aT b (hdL b p) eM0)).1=(fE (aT b (hdL b p) eM1)).1:=if_neg h1
  simp only[show¬Gm (lsV (fE (aT b (hdL b p) eM1)).1)=true from fun h=>h1 ((rI _).1 h),if_false]
  by_cases h2:(fE (aT b (hdL b p) eM2)).1=[]
  ·have o2:orL (fE (aT b (hdL b p) eM2)).1 (fE (aT b (hdL b p) eM0)).1=(fE (aT b (hdL b p) eM0)).1:=if_pos h2
   simp only[(rI _).2 h2,if_true]
   unfold ofS;rw[o1,o2]
   exact aD _
  ·have o2:orL (fE (aT b (hdL b p) eM2)).1 (fE (aT b (hdL b p) eM0)).1=(fE (aT b (hdL b p) eM2)).1:=if_neg h2
   simp only[show¬Gm (lsV (fE (aT b (hdL b p) eM2)).1)=true from fun h=>h2 ((rI _).1 h),if_false]
   unfold ofS;rw[o1,o2]
   exact aD _
theorem Py (b:Bs) (hb:b.length≤3000) (p:Pt):∀x∈enL (ofS b p),x.length≤60*b.length+10:=by
 have a0:=jI b (by omega) (hdL b p) eM0
 have a1:=wS _ _ _ (jI b (by omega) (hdL b p) eM1) a0
 have a2:=wS _ _ _ (jI b (by omega) (hdL b p) eM2) a0
 have a3:=jI b (by omega) (hdL b p) eM3
 have a4:=jI b (by omega) (hdL b p) eM4
 have a5:=jI b (by omega) (hdL b p) eM5
 have v0:=bI b (hdL b p) eN0
 have v1:=bI b (hdL b p) eN1
 have v2:=bI b (hdL b p) eN2
 have v3:=bI b (hdL b p) eN3
 have q0:=gJ (ofS b p).d (ofS b p).h0
 have q1:=gJ (ofS b p).s (ofS b p).h1
 have q2:=gJ (ofS b p).r (ofS b p).h2
 have q3:=gJ (ofS b p).i (ofS b p).h3
 have p0:=gQ (ofS b p).l0
 have p1:=gQ (ofS b p).l1
 have p2:=gQ (ofS b p).l2
 have p3:=gQ (ofS b p).l3
 have p4:=gQ (ofS b p).l4
 have p5:=gQ (ofS b p).l5
 intro x hx
 simp only[enL,List.mem_cons,List.not_mem_nil,or_false]at hx
 simp only[ofS]at*
 rcases hx with rfl|rfl|rfl|rfl|rfl|rfl|rfl|rfl|rfl|rfl<;>omega
theorem ME (b:Bs) (hb:b.length≤3000) (p:Pt):(E2 (ofS b p)).length≤600*b.length+200:=by
 have:=Ha _ _ (Py b hb p)
 have e:(enL (ofS b p)).length=10:=rfl
 rw[e]at this
 unfold E2
 omega
theorem Ih (b:Bs) (hb:b.length≤3000) (p:Pt):Ret 26 [enV (ofS b p)] [] (.str (E2 (ofS b p)),[]):=by
 have a0:=jI b (by omega) (hdL b p) eM0
 have a1:=wS _ _ _ (jI b (by omega) (hdL b p) eM1) a0
 have a2:=wS _ _ _ (jI b (by omega) (hdL b p) eM2) a0
 have a3:=jI b (by omega) (hdL b p) eM3
 have a4:=jI b (by omega) (hdL b p) eM4
 have a5:=jI b (by omega) (hdL b p) eM5
 have v0:=bI b (hdL b p) eN0
 have v1:=bI b (hdL b p) eN1
 have v2:=bI b (hdL b p) eN2
 have v3:=bI b (hdL b p) eN3
 refine RE (ofS b p) ?_ ?_ ?_ ?_ ?_ ?_ ?_ ?_ ?_ ?_<;>simp only[ofS]<;>omega
end Go.Proofs.YtdoaoaicdimbeaaGreatDoor
end
section
namespace Go.Proofs.YtdoaoaicdimbeaaGreatDoor
open Go.Ev Go
end Go.Proofs.YtdoaoaicdimbeaaGreatDoor
end
section
namespace Go.Proofs.YtdoaoaicdimbeaaGreatDoor
open Go.Ev Go
end Go.Proofs.YtdoaoaicdimbeaaGreatDoor
end
section
namespace Go.Proofs.YtdoaoaicdimbeaaGreatDoor
open Go.Ev Go
end Go.Proofs.YtdoaoaicdimbeaaGreatDoor
end
section
namespace Go.Proofs.YtdoaoaicdimbeaaGreatDoor
open Go.Ev Go
open List (headD tail getD length drop take)
open V (getI getL getT getS getB)
set_option maxRecDepth 100000
variable (call : FuncId → Fun) (icall : aO (V × List Ob)) (again : List It → St → Option (V × List Ob))
end Go.Proofs.YtdoaoaicdimbeaaGreatDoor
end
section
namespace Go.Proofs.YtdoaoaicdimbeaaGreatDoor
open Go.Ev Go
def prB (c:UInt8):Bool:=decide (32≤c.toNat∧c.toNat<127)
structure Sp where
 path:List Int
 what:Int
 names:List Bs
 cut:Bool
 fr:Int
 many:Int
def inB (l n:Int):Bool:=decide (l≤n∧n≤4294967295)
def checkF (s:Sp):Bool:=
 decide (s.path.length≤64∧0≤s.what∧s.what≤5∧(s.what=5→0<s.path.length))&&s.path.all (inB 1)&&s.names.all (fun n=>n.all prB)&&
 (if s.what=2∨s.what=3 then decide (1≤s.names.length∧s.names.length≤100)else decide (s.names.length=0))&&
 (if s.cut then inB 0 s.fr&&inB 1 s.many else decide (s.fr=0∧s.many=0))
end Go.Proofs.YtdoaoaicdimbeaaGreatDoor
end
section
namespace Go.Proofs.YtdoaoaicdimbeaaGreatDoor
open Go.Ev Go
end Go.Proofs.YtdoaoaicdimbeaaGreatDoor
end
section
namespace Go.Proofs.YtdoaoaicdimbeaaGreatDoor
open Go.Ev Go
end Go.Proofs.YtdoaoaicdimbeaaGreatDoor
end
section
namespace Go.Proofs.YtdoaoaicdimbeaaGreatDoor
open Go.Ev Go
theorem Gn {fr to:Nat} {b:Bs}:∀x∈aV (fr:Nat) (to:Nat) b,fr≤x.2.2∧x.2.2≤to:=by
 intro x hx
 unfold aV at hx
 split at hx
 ·rename_i h
  have:=mL _ _ _ x hx
  simp at this
  omega
 ·cases hx
theorem AU {fr to:Nat} (b:Bs) (h:fr≤to):fr≤(eE b (fr:Nat) (to:Nat)).2.toNat∧(eE b (fr:Nat) (to:Nat)).2.toNat≤to:=by
 have hb:∀x∈aV (fr:Nat) (to:Nat) b,fr≤x.2.2∧x.2.2≤to:=Gn
 generalize hl:aV (fr:Nat) (to:Nat) b=l at hb
 have hd:∀k,k<l.length→fr≤(l.getD k (0,0,0)).2.2∧(l.getD k (0,0,0)).2.2≤to:=fun k hk=>by
  have:l.getD k (0,0,0)=l[k]:=by simp[List.getD,hk]
  rw[this];exact hb _ (List.getElem_mem hk)
 unfold eE
 rw[hl]
 by_cases h0:l=[]
 ·rw[if_pos h0];simp;omega
 ·have hpos:0<l.length:=List.length_pos_iff.2 h0
  rw[if_neg h0]
  cases he:iQ l with
  |some k=>
   have:=hd k (wG he)
   simp only[Int.toNat_natCast];exact this
  |none=>
   have:=hd (l.length - 1) (by omega)
   simp only[Int.toNat_natCast];exact this
theorem MF (b:Bs) (d fr to:Nat) (dg:Bool) (n:Nat):(eH b d fr to dg n).1.hd=(fr,(eE b (fr:Nat) (to:Nat)).2.toNat)∧(eH b d fr to dg n).1.bd=((eE b (fr:Nat) (to:Nat)).2.toNat,to):=by
 cases d with
 |zero=>rw[eH];exact⟨rfl,rfl⟩
 |succ d=>
  obtain⟨t,u,ps,h3⟩:∃t u ps,nH b (eE b (fr:Nat) (to:Nat)).1 dg=(t,u,ps):=⟨_,_,_,rfl⟩
  obtain⟨cs,e,h5⟩:∃cs e,eT b (eE b (fr:Nat) (to:Nat)).2.toNat to ((getF ps bdB).getD [])=(cs,e):=⟨_,_,rfl⟩
  rw[Gj b d fr to dg n rfl rfl h3 rfl h5]
  split
  ·split<;>exact⟨rfl,rfl⟩
  ·split<;>exact⟨rfl,rfl⟩
end Go.Proofs.YtdoaoaicdimbeaaGreatDoor
end
section
namespace Go.Proofs.YtdoaoaicdimbeaaGreatDoor
open Go.Ev Go
def CCh:Nat→List (Nat×Nat)→Nat→Prop
 |a,[],z=>a≤z
 |a,c::r,z=>a≤c.1∧c.1≤c.2∧CCh c.2 r z
theorem CCh.le {z:Nat}:∀{l:List (Nat×Nat)} {a:Nat},CCh a l z→a≤z
 |[],_,h=>h
 |c::r,_,h=>Nat.le_trans h.1 (Nat.le_trans h.2.1 (CCh.le h.2.2))
theorem CCh.mono {z z' :Nat} (hz:z≤z'):∀{l:List (Nat×Nat)} {a:Nat},CCh a l z→CCh a l z'
 |[],_,h=>Nat.le_trans h hz
 |c::r,_,h=>⟨h.1,h.2.1,CCh.mono hz h.2.2⟩
theorem CCh.snoc {z z' u:Nat} (h1:z≤z') (h2:z'≤u):∀{l:List (Nat×Nat)} {a:Nat},CCh a l z→CCh a (l++[(z',u)]) u
 |[],a,h=>⟨Nat.le_trans h h1,h2,Nat.le_refl _⟩
 |c::r,_,h=>⟨h.1,h.2.1,CCh.snoc h1 h2 h.2.2⟩
def LCh:Nat→List Ln→Nat→Prop
 |a,[],z=>a≤z
 |a,x::r,z=>x.1=a∧a≤x.2.1∧x.2.1≤x.2.2∧LCh x.2.2 r z
theorem Cu:∀(n a:Nat) (s:Bs),LCh a (eW n a s) (a+s.length)
 |0,a,s=>by simp[eW,LCh]
 |n+1,a,s=>by
  unfold eW
  split
  ·simp[LCh]
  ·rename_i hs
   have hp:0<s.length:=List.length_pos_iff.2 hs
   split
   ·exact⟨rfl,by simp,by simp,by simp[LCh]⟩
   ·rename_i hk
    obtain⟨q,hq⟩:∃q:Nat,Lib.indexByte s 10=q:=⟨(Lib.indexByte s 10).toNat,by omega⟩
    have hq0:=Lib.indexByte_some hq
    have hql:q<s.length:=(List.getElem?_eq_some_iff.1 hq0.1).1
    rw[hq]
    simp only[Int.toNat_natCast]
    refine⟨rfl,by simp only;split<;>omega,by simp only;split<;>omega,?_⟩
    have:=Cu n (a+q+1) (s.drop (q+1))
    rw[List.length_drop,show a+q+1+(s.length - (q+1))=a+s.length by omega]at this
    exact this
theorem Gp {fr to:Nat} {b:Bs} (h:fr≤to):LCh fr (aV (fr:Nat) (to:Nat) b) to:=by
 unfold aV
 split
 ·rename_i hh
  have:=Cu ((b.take to).drop fr).length fr ((b.take to).drop fr)
  rw[show fr+((b.take to).drop fr).length=to by rw[List.length_drop,List.length_take];omega]at this
  exact this
 ·exact h
theorem AV (b bd:Bs) (lo to:Nat):∀(l:List Ln) (out:List (Nat×Nat)) (fr a:Nat),LCh a l to→fr≤a→CCh lo out fr→
  CCh lo (iR b bd l out fr).1 ((iR b bd l out fr).2.getD (to,to)).1∧((iR b bd l out fr).2.getD (to,to)).1≤((iR b bd l out fr).2.getD (to,to)).2∧((iR b bd l out fr).2.getD (to,to)).2≤to
 |[],out,fr,a,hl,hf,ho=>by
  rw[iR]
  exact⟨ho.mono (Nat.le_trans hf hl),Nat.le_refl _,Nat.le_refl _⟩
 |x::r,out,fr,a,hl,hf,ho=>by
  obtain⟨h1,h2,h3,h4⟩:=hl
  have hz:x.2.2≤to:=by
   have:∀(l:List Ln) (a:Nat),LCh a l to→a≤to:=by
    intro l
    induction l with
    |nil=>intro a h;exact h
    |cons y r ih=>intro a h;obtain⟨_,g2,g3,g4⟩:=h;have:=ih _ g4;omega
   exact this _ _ h4
  rw[iR]
  split
  ·exact AV b bd lo to r out x.2.1 x.2.2 h4 h3 (ho.mono (by omega))
  ·split
   ·exact⟨ho,by simp only[Option.getD_some];omega,hz⟩
   ·exact AV b bd lo to r _ x.2.2 x.2.2 h4 (Nat.le_refl _) (ho.snoc (by omega) (by omega))
theorem Kv (b bd:Bs) {fr to:Nat} (h:fr≤to):CCh fr (eT b fr to bd).1 (eT b fr to bd).2.1∧(eT b fr to bd).2.1≤(eT b fr to bd).2.2∧(eT b fr to bd).2.2≤to:=
 AV b bd fr to _ [] fr fr (Gp h) (Nat.le_refl _) (Nat.le_refl fr)
def KR (Q:Nat→Nat→Pt→Prop) (fin:Nat):List (Nat×Nat)→List Pt→Prop
 |[],[]=>True
 |c::r,q::ks=>Q c.2 (sD fin r) q∧KR Q fin r ks
 |_,_=>False
theorem KR.len {Q:Nat→Nat→Pt→Prop} {fin:Nat}:∀{cs:List (Nat×Nat)} {ks:List Pt},KR Q fin cs ks→ks.length=cs.length
 |[],[],_=>rfl
 |c::r,q::ks,h=>by simp[KR.len h.2]
 |[],_::_,h=>h.elim
 |_::_,[],h=>h.elim
theorem E3 (ent:Nat→Nat→Nat→Pt×Nat) (Q:Nat→Nat→Pt→Prop) (len fin:Nat) (hf:fin≤len) (h:∀fr to n,fr≤to→to≤len→Q fr to (ent fr to n).1):∀(cs:List (Nat×Nat)) (n a:Nat),CCh a cs fin→KR Q fin cs (fH ent fin cs n).1
 |[],n,a,_=>by rw[fH];trivial
 |c::r,n,a,hc=>by
  obtain⟨h1,h2,h3⟩:=hc
  have hx:c.2≤sD fin r∧sD fin r≤len:=by
   cases r with
   |nil=>exact⟨h3,hf⟩
   |cons x r=>have h5:=h3.2.2.le;have h4:=h3.2.1;have h6:=h3.1;simp only[sD];omega
  rw[fH]
  refine⟨?_,E3 ent Q len fin hf h r _ _ h3⟩
  rw[Nat.max_eq_left hx.1]
  exact h _ _ _ hx.1 hx.2
theorem AW (b:Bs) (P:Nat→Nat→Nat→Pt→Prop)
  (leaf:∀d fr at_ to,fr≤at_→at_≤to→to≤b.length→P d fr to (eF fr at_ to))
  (multi:∀d fr at_ to cs (e:Nat×Nat) ks,fr≤at_→at_≤to→to≤b.length→CCh at_ cs e.1→e.1≤e.2→e.2≤to→0<cs.length→KR (P d) e.1 cs ks→P (d+1) fr to (.mk 1 (fr,at_) (at_,to) ks cs e))
  (msg:∀d fr at_ to q,fr≤at_→at_≤to→to≤b.length→q.hd.1=at_→q.bd.2=to→P d at_ to q→P (d+1) fr to (.mk 2 (fr,at_) (at_,to) [q] [] (0,0))):
  ∀(d fr to:Nat) (dg:Bool) (n:Nat),fr≤to→to≤b.length→P d fr to (eH b d fr to dg n).1
 |0,fr,to,dg,n,hft,htl=>by
  have:=AU b hft
  rw[eH]
  exact leaf _ _ _ _ this.1 this.2 htl
 |d+1,fr,to,dg,n,hft,htl=>by
  have hsp:=AU b hft
  generalize h1:(eE b (fr:Nat) (to:Nat)).1=l
  generalize h2:(eE b (fr:Nat) (to:Nat)).2.toNat=at_ at hsp
  obtain⟨t,u,ps,h3⟩:∃t u ps,nH b l dg=(t,u,ps):=⟨_,_,_,rfl⟩
  generalize h4:(getF ps bdB).getD []=bd
  obtain⟨cs,e,h5⟩:∃cs e,eT b at_ to bd=(cs,e):=⟨_,_,rfl⟩
  have hch:=Kv b bd hsp.2
  rw[h5]at hch
  have hle:e.1≤b.length:=by have:=hch.2.1;have:=hch.2.2;simp only at *;omega
  have ih:=AW b P leaf multi msg d
  rw[Gj b d fr to dg n h1 h2 h3 h4 h5]
  split
  ·split
   ·rename_i g
    exact multi d fr at_ to cs e _ hsp.1 hsp.2 htl hch.1 hch.2.1 hch.2.2 g.1 (E3 _ (P d) b.length e.1 hle (fun fr to n a1 a2=>ih fr to _ n a1 a2) cs _ _ hch.1)
   ·exact leaf _ _ _ _ hsp.1 hsp.2 htl
  ·split
   ·obtain⟨k1,k2⟩:=MF b d at_ to false (n+1)
    exact msg d fr at_ to _ hsp.1 hsp.2 htl (by rw[k1]) (by rw[k2]) (ih _ _ _ _ hsp.2 htl)
   ·exact leaf _ _ _ _ hsp.1 hsp.2 htl
def Chn:Nat→List (Nat×Nat×Nat)→Nat→Prop
 |a,[],z=>a=z
 |a,t::r,z=>t.1≤5∧t.2.1=a∧a≤t.2.2∧Chn t.2.2 r z
theorem Chn.le {z:Nat}:∀{l:List (Nat×Nat×Nat)} {a:Nat},Chn a l z→a≤z
 |[],a,h=>Nat.le_of_eq h
 |t::r,a,h=>Nat.le_trans h.2.2.1 (Chn.le h.2.2.2)
mutual
def oZ:Pt→Prop
 | .mk k h b kids cuts e=>((k=0∧cuts=[]∧e=(0,0)∧kids=[])∨(k=1∧0<kids.length∧kids.length=cuts.length)∨(k=2∧cuts=[]∧e=(0,0)∧∃q,kids=[q]∧q.hd.1=b.1∧q.bd.2=b.2))∧h.2=b.1∧b.1≤b.2∧sE kids
def sE:List Pt→Prop
 |[]=>True
 |p::r=>oZ p∧sE r
end
theorem Hf {fin:Nat}:∀{cs:List (Nat×Nat)} {ks:List Pt},KR (fun _ _ q=>oZ q) fin cs ks→sE ks
 |[],[],_=>by rw[sE];trivial
 |c::r,q::ks,h=>by rw[sE];exact⟨h.1,Hf h.2⟩
 |[],_::_,h=>h.elim
 |_::_,[],h=>h.elim
theorem Ii (b:Bs) (d fr to:Nat) (dg:Bool) (n:Nat) (h1:fr≤to) (h2:to≤b.length):oZ (eH b d fr to dg n).1:=by
 refine AW b (fun _ _ _ p=>oZ p) ?_ ?_ ?_ d fr to dg n h1 h2
 ·intro d fr at_ to k1 k2 k3
  unfold eF
  rw[oZ,sE]
  exact⟨.inl ⟨rfl,rfl,rfl,rfl⟩,rfl,k2,trivial⟩
 ·intro d fr at_ to cs e ks k1 k2 k3 k4 k5 k6 k7 k8
  have hl:=k8.len
  rw[oZ]
  exact⟨.inr (.inl ⟨rfl,by omega,hl⟩),rfl,k2,Hf k8⟩
 ·intro d fr at_ to q k1 k2 k3 k4 k5 k6
  rw[oZ,sE,sE]
  exact⟨.inr (.inr ⟨rfl,rfl,rfl,q,rfl,k4,k5⟩),rfl,k2,k6,trivial⟩
end Go.Proofs.YtdoaoaicdimbeaaGreatDoor
end
section
namespace Go.Proofs.YtdoaoaicdimbeaaGreatDoor
open Go.Ev Go
open List (headD tail getD length drop take)
open V (getI getL getT getS getB)
set_option maxRecDepth 100000
variable (call : FuncId → Fun) (icall : aO (V × List Ob)) (again : List It → St → Option (V × List Ob))
def T49 (call:FuncId→Fun) (a0:List V) (a1:Int) (a2:Int) (a3:Int) (a4:Int) (a5:Int) (a6:List V) (a7:List V) (a8:Int) (a9:Int):Option (V×List Ob):=
 Option.bind (call 83 [(V.lst 5 false a0),(V.agg [(V.int .i64 a1),(V.int .i64 a2),(V.int .i64 a3),(V.int .i64 a4),(V.int .i64 a5),(V.lst 36 false a6),(V.lst 32 false a7),(V.int .i64 a8),(V.int .i64 a9)]),(V.str [99,111,110,116,101,110,116,45,100,105,115,112,111,115,105,116,105,111,110]),(V.bool false)] []) fun z0=>
 if(getB (headD (tail (getT z0.1)) V.bot))=true then
 Option.bind (call 45 [(V.str (getS (headD (V.cells (headD (getT z0.1) V.bot)) V.bot)))] []) fun z1=>
 Option.bind (call 84 [(V.lst 176 false (getL (headD (tail (tail (V.cells (headD (getT z0.1) V.bot)))) V.bot)))] []) fun z2=>
 Option.bind (call 50 [(V.lst 9 false [(V.str (getS z1.1)),(V.str (getS z2.1))])] []) fun z3=>
 Option.bind (call 46 [(V.lst 5 false a0),(V.agg [(V.int .i64 a1),(V.int .i64 a2),(V.int .i64 a3),(V.int .i64 a4),(V.int .i64 a5),(V.lst 36 false a6),(V.lst 32 false a7),(V.int .i64 a8),(V.int .i64 a9)]),(V.str [99,111,110,116,101,110,116,45,108,97,110,103,117,97,103,101])] []) fun z4=>
 Option.bind (call 46 [(V.lst 5 false a0),(V.agg [(V.int .i64 a1),(V.int .i64 a2),(V.int .i64 a3),(V.int .i64 a4),(V.int .i64 a5),(V.lst 36 false a6),(V.lst 32 false a7),(V.int .i64 a8),(V.int .i64 a9)]),(V.str [99,111,110,116,101,110,116,45,108,111,99,97,116,105,111,110])] []) fun z5=>
 some ((V.lst 9 false [(V.str (getS z3.1)),(V.str (getS z4.1)),(V.str (getS z5.1))]),[])
 else
 Option.bind (call 46 [(V.lst 5 false a0),(V.agg [(V.int .i64 a1),(V.int .i64 a2),(V.int .i64 a3),(V.int .i64 a4),(V.int .i64 a5),(V.lst 36 false a6),(V.lst 32 false a7),(V.int .i64 a8),(V.int .i64 a9)]),(V.str [99,111,110,116,101,110,116,45,108,97,110,103,117,97,103,101])] []) fun z1=>
 Option.bind (call 46 [(V.lst 5 false a0),(V.agg [(V.int .i64 a1),(V.int .i64 a2),(V.int .i64 a3),(V.int .i64 a4),(V.int .i64 a5),(V.lst 36 false a6),(V.lst 32 false a7),(V.int .i64 a8),(V.int .i64 a9)]),(V.str [99,111,110,116,101,110,116,45,108,111,99,97,116,105,111,110])] []) fun z2=>
 some ((V.lst 9 false [(V.str [78,73,76]),(V.str (getS z1.1)),(V.str (getS z2.1))]),[])
def A49 (a0:List V) (a1:Int) (a2:Int) (a3:Int) (a4:Int) (a5:Int) (a6:List V) (a7:List V) (a8:Int) (a9:Int):List V:=[V.lst 5 false a0,V.agg [V.int IntKind.i64 a1,V.int IntKind.i64 a2,V.int IntKind.i64 a3,V.int IntKind.i64 a4,V.int IntKind.i64 a5,V.lst 36 false a6,V.lst 32 false a7,V.int IntKind.i64 a8,V.int IntKind.i64 a9]]
theorem E49 (a0:List V) (a1:Int) (a2:Int) (a3:Int) (a4:Int) (a5:Int) (a6:List V) (a7:List V) (a8:Int) (a9:Int):GO 49 Tryz.f49 (A49 a0 a1 a2 a3 a4 a5 a6 a7 a8 a9) [] call icall again=T49 call a0 a1 a2 a3 a4 a5 a6 a7 a8 a9:=by kernel_rfl
theorem C49 (k:Nat) (a0:List V) (a1:Int) (a2:Int) (a3:Int) (a4:Int) (a5:Int) (a6:List V) (a7:List V) (a8:Int) (a9:Int):aA cfg (k+1) 49 (A49 a0 a1 a2 a3 a4 a5 a6 a7 a8 a9) []=T49 (aA cfg k) a0 a1 a2 a3 a4 a5 a6 a7 a8 a9:=
 (show aA cfg (k+1) 49 (A49 a0 a1 a2 a3 a4 a5 a6 a7 a8 a9) []=GO 49 Tryz.f49 (A49 a0 a1 a2 a3 a4 a5 a6 a7 a8 a9) [] (aA cfg k) (aE cfg (aA cfg k) 20) (RN 49 Tryz.f49 [] (aA cfg k) (aE cfg (aA cfg k) 20) k)by kernel_rfl).trans (E49 _ _ _ a0 a1 a2 a3 a4 a5 a6 a7 a8 a9)
theorem M49 (a0:List V) (a1:Int) (a2:Int) (a3:Int) (a4:Int) (a5:Int) (a6:List V) (a7:List V) (a8:Int) (a9:Int) {r:V×List Ob} (h:Evt (fun k n=>T49 (aA cfg k) a0 a1 a2 a3 a4 a5 a6 a7 a8 a9) r):Ret 49 [V.lst 5 false a0,V.agg [V.int IntKind.i64 a1,V.int IntKind.i64 a2,V.int IntKind.i64 a3,V.int IntKind.i64 a4,V.int IntKind.i64 a5,V.lst 36 false a6,V.lst 32 false a7,V.int IntKind.i64 a8,V.int IntKind.i64 a9]] [] r:=aK (g:=fun k n=>T49 (aA cfg k) a0 a1 a2 a3 a4 a5 a6 a7 a8 a9) (fun k=>C49 k a0 a1 a2 a3 a4 a5 a6 a7 a8 a9) h
def E4 (call:FuncId→Fun) (ag0:List V→Bool→List V→Int→Int→Int→Int→Int→Int→Int→List V→List V→Int→Int→List V→Option (V×List Ob)) (l0:List V) (b1:Bool) (l2:List V) (i3:Int) (i4:Int) (i5:Int) (i6:Int) (i7:Int) (i8:Int) (i9:Int) (l10:List V) (l11:List V) (i12:Int) (i13:Int) (l14:List V):Option (V×List Ob):=
 if(decide (i4<i3))=true then
 chk (decide (0≤i4)) (chk (decide (i4<((length l2:Nat):Int))) (Option.bind (call 23 [(V.lst 5 false l0),(V.agg [(V.int .i64 (getI (headD (V.cells (getD l2 (Int.toNat i4) V.bot)) V.bot))),(V.int .i64 (getI (headD (tail (V.cells (getD l2 (Int.toNat i4) V.bot))) V.bot))),(V.int .i64 (getI (headD (tail (tail (V.cells (getD l2 (Int.toNat i4) V.bot)))) V.bot))),(V.int .i64 (getI (headD (tail (tail (tail (V.cells (getD l2 (Int.toNat i4) V.bot))))) V.bot))),(V.int .i64 (getI (headD (tail (tail (tail (tail (V.cells (getD l2 (Int.toNat i4) V.bot)))))) V.bot))),(V.lst 36 false (getL (headD (tail (tail (tail (tail (tail (V.cells (getD l2 (Int.toNat i4) V.bot))))))) V.bot))),(V.lst 32 false (getL (headD (tail (tail (tail (tail (tail (tail (V.cells (getD l2 (Int.toNat i4) V.bot)))))))) V.bot))),(V.int .i64 (getI (headD (tail (tail (tail (tail (tail (tail (tail (V.cells (getD l2 (Int.toNat i4) V.bot))))))))) V.bot))),(V.int .i64 (getI (headD (tail (tail (tail (tail (tail (tail (tail (tail (V.cells (getD l2 (Int.toNat i4) V.bot)))))))))) V.bot)))]),(V.bool b1)] []) fun z0=>
 Option.bind (call 27 [(V.ref 0 0),(V.str (getS z0.1))] [(Ob.cells [(V.opt 0 0),(V.lst 5 true l14)])]) fun z1=>
 (ag0 (l0) (b1) (l2) (i3) ((IntKind.wrap .i64 (i4+(1:Int)))) (i5) (i6) (i7) (i8) (i9) (l10) (l11) (i12) (i13) ((getL (headD (tail (Ob.getC (headD z1.2 Ob.dead))) V.bot))))))
 else
 Option.bind (call 43 [(V.lst 5 false l0),(V.agg [(V.int .i64 i5),(V.int .i64 i6),(V.int .i64 i7),(V.int .i64 i8),(V.int .i64 i9),(V.lst 36 false l10),(V.lst 32 false l11),(V.int .i64 i12),(V.int .i64 i13)])] []) fun z0=>
 Option.bind (call 45 [(V.str (getS (headD (tail (getT z0.1)) V.bot)))] []) fun z1=>
 if b1=true then
 chk (aW [(V.str []),(V.str (getS z1.1))] [(V.str (getS (headD (tail (tail (getT z0.1))) V.bot)))] 17) (Option.bind (call 49 [(V.lst 5 false l0),(V.agg [(V.int .i64 i5),(V.int .i64 i6),(V.int .i64 i7),(V.int .i64 i8),(V.int .i64 i9),(V.lst 36 false l10),(V.lst 32 false l11),(V.int .i64 i12),(V.int .i64 i13)])] []) fun z2=>
 chk (aW ([(V.str []),(V.str (getS z1.1))]++[(V.str (getS (headD (tail (tail (getT z0.1))) V.bot)))]) (getL z2.1) 17) (Option.bind (call 85 [(V.lst 9 false (([(V.str []),(V.str (getS z1.1))]++[(V.str (getS (headD (tail (tail (getT z0.1))) V.bot)))])++(getL z2.1))),(V.str [32])] []) fun z3=>
 chk (bO (getS z3.1) [41]) (Option.bind (call 27 [(V.ref 0 0),(V.str ((getS z3.1)++[41]))] [(Ob.cells [(V.opt 0 0),(V.lst 5 true l14)])]) fun z4=>
 Option.bind (call 29 [(V.ref 0 0)] [(Ob.cells [(V.opt 0 0),(V.lst 5 true (getL (headD (tail (Ob.getC (headD z4.2 Ob.dead))) V.bot)))])]) fun z5=>
 some ((V.str (getS z5.1)),[]))))
 else
 Option.bind (call 85 [(V.lst 9 false [(V.str []),(V.str (getS z1.1))]),(V.str [32])] []) fun z2=>
 chk (bO (getS z2.1) [41]) (Option.bind (call 27 [(V.ref 0 0),(V.str ((getS z2.1)++[41]))] [(Ob.cells [(V.opt 0 0),(V.lst 5 true l14)])]) fun z3=>
 Option.bind (call 29 [(V.ref 0 0)] [(Ob.cells [(V.opt 0 0),(V.lst 5 true (getL (headD (tail (Ob.getC (headD z3.2 Ob.dead))) V.bot)))])]) fun z4=>
 some ((V.str (getS z4.1)),[]))
def T44 (call:FuncId→Fun) (ag0:List V→Bool→List V→Int→Int→Int→Int→Int→Int→Int→List V→List V→Int→Int→List V→Option (V×List Ob)) (a0:List V) (a1:Int) (a2:Int) (a3:Int) (a4:Int) (a5:Int) (a6:List V) (a7:List V) (a8:Int) (a9:Int) (a10:Bool):Option (V×List Ob):=
 Option.bind (call 27 [(V.ref 0 0),(V.str [40])] [(Ob.cells [(V.opt 0 0),(V.lst 5 true [])])]) fun z0=>
 (ag0 (a0) (a10) (a6) (((length a6:Nat):Int)) ((0:Int)) (a1) (a2) (a3) (a4) (a5) (a6) (a7) (a8) (a9) ((getL (headD (tail (Ob.getC (headD z0.2 Ob.dead))) V.bot))))
def A44 (a0:List V) (a1:Int) (a2:Int) (a3:Int) (a4:Int) (a5:Int) (a6:List V) (a7:List V) (a8:Int) (a9:Int) (a10:Bool):List V:=[V.lst 5 false a0,V.agg [V.int IntKind.i64 a1,V.int IntKind.i64 a2,V.int IntKind.i64 a3,V.int IntKind.i64 a4,V.int IntKind.i64 a5,V.lst 36 false a6,V.lst 32 false a7,V.int IntKind.i64 a8,V.int IntKind.i64 a9],V.bool a10]
def Cv (l0:List V) (b1:Bool) (l2:List V) (i3:Int) (i4:Int) (i5:Int) (i6:Int) (i7:Int) (i8:Int) (i9:Int) (l10:List V) (l11:List V) (i12:Int) (i13:Int) (l14:List V):St:=⟨[(V.lst 5 false l0),V.bot,(V.bool b1),V.bot,(V.ref 0 0),V.bot,V.bot,(V.ref 1 0),V.bot,V.bot,V.bot,V.bot,V.bot,V.bot,V.bot,V.bot,(V.lst 36 false l2),(V.int IntKind.i64 i3),(V.int IntKind.i64 i4)]++List.replicate 33 V.bot,[(Ob.cells [(V.int IntKind.i64 i5),(V.int IntKind.i64 i6),(V.int IntKind.i64 i7),(V.int IntKind.i64 i8),(V.int IntKind.i64 i9),(V.lst 36 false l10),(V.lst 32 false l11),(V.int IntKind.i64 i12),(V.int IntKind.i64 i13)]),(Ob.cells [(V.opt 1 0),(V.lst 5 true l14)])]⟩
theorem RH (l0:List V) (b1:Bool) (l2:List V) (i3:Int) (i4:Int) (i5:Int) (i6:Int) (i7:Int) (i8:Int) (i9:Int) (l10:List V) (l11:List V) (i12:Int) (i13:Int) (l14:List V):
 RM 44 Tryz.f44 [] call icall again (aJ Tryz.f44 0) (Cv l0 b1 l2 i3 i4 i5 i6 i7 i8 i9 l10 l11 i12 i13 l14)=E4 call (fun l0 b1 l2 i3 i4 i5 i6 i7 i8 i9 l10 l11 i12 i13 l14=>again (aJ Tryz.f44 0) (Cv l0 b1 l2 i3 i4 i5 i6 i7 i8 i9 l10 l11 i12 i13 l14)) l0 b1 l2 i3 i4 i5 i6 i7 i8 i9 l10 l11 i12 i13 l14:=by kernel_rfl
theorem E44 (a0:List V) (a1:Int) (a2:Int) (a3:Int) (a4:Int) (a5:Int) (a6:List V) (a7:List V) (a8:Int) (a9:Int) (a10:Bool):GO 44 Tryz.f44 (A44 a0 a1 a2 a3 a4 a5 a6 a7 a8 a9 a10) [] call icall again=T44 call (fun l0 b1 l2 i3 i4 i5 i6 i7 i8 i9 l10 l11 i12 i13 l14=>again (aJ Tryz.f44 0) (Cv l0 b1 l2 i3 i4 i5 i6 i7 i8 i9 l10 l11 i12 i13 l14)) a0 a1 a2 a3 a4 a5 a6 a7 a8 a9 a10:=by kernel_rfl
def L44 (call:FuncId→Fun):Nat→(List V→Bool→List V→Int→Int→Int→Int→Int→Int→Int→List V→List V→Int→Int→List V→Option (V×List Ob))
 |0=>fun _ _ _ _ _ _ _ _ _ _ _ _ _ _ _=>none
 |n+1=>E4 call (L44 call n)
theorem R44 (call:FuncId→Fun) (icall:aO (V×List Ob)):∀n,(∀(l0:List V) (b1:Bool) (l2:List V) (i3:Int) (i4:Int) (i5:Int) (i6:Int) (i7:Int) (i8:Int) (i9:Int) (l10:List V) (l11:List V) (i12:Int) (i13:Int) (l14:List V),RN 44 Tryz.f44 [] call icall n (aJ Tryz.f44 0) (Cv l0 b1 l2 i3 i4 i5 i6 i7 i8 i9 l10 l11 i12 i13 l14)=(L44 call n) l0 b1 l2 i3 i4 i5 i6 i7 i8 i9 l10 l11 i12 i13 l14)
 |0=>fun l0 b1 l2 i3 i4 i5 i6 i7 i8 i9 l10 l11 i12 i13 l14=>rfl
 |n+1=>by
  have ih:=R44 call icall n
  exact fun l0 b1 l2 i3 i4 i5 i6 i7 i8 i9 l10 l11 i12 i13 l14=>(RH call icall (RN 44 Tryz.f44 [] call icall n) l0 b1 l2 i3 i4 i5 i6 i7 i8 i9 l10 l11 i12 i13 l14).trans (by rw[show(fun l0 b1 l2 i3 i4 i5 i6 i7 i8 i9 l10 l11 i12 i13 l14=>RN 44 Tryz.f44 [] call icall n (aJ Tryz.f44 0) (Cv l0 b1 l2 i3 i4 i5 i6 i7 i8 i9 l10 l11 i12 i13 l14))=(L44 call n)from(funext fun l0=>funext fun b1=>funext fun l2=>funext fun i3=>funext fun i4=>funext fun i5=>funext fun i6=>funext fun i7=>funext fun i8=>funext fun i9=>funext fun l10=>funext fun l11=>funext fun i12=>funext fun i13=>funext fun l14=>ih l0 b1 l2 i3 i4 i5 i6 i7 i8 i9 l10 l11 i12 i13 l14)];rfl)
theorem C44 (k:Nat) (a0:List V) (a1:Int) (a2:Int) (a3:Int) (a4:Int) (a5:Int) (a6:List V) (a7:List V) (a8:Int) (a9:Int) (a10:Bool):aA cfg (k+1) 44 (A44 a0 a1 a2 a3 a4 a5 a6 a7 a8 a9 a10) []=T44 (aA cfg k) (L44 (aA cfg k) k) a0 a1 a2 a3 a4 a5 a6 a7 a8 a9 a10:=by
 have ih:=R44 (aA cfg k) (aE cfg (aA cfg k) 20) k
 refine(show aA cfg (k+1) 44 (A44 a0 a1 a2 a3 a4 a5 a6 a7 a8 a9 a10) []=GO 44 Tryz.f44 (A44 a0 a1 a2 a3 a4 a5 a6 a7 a8 a9 a10) [] (aA cfg k) (aE cfg (aA cfg k) 20) (RN 44 Tryz.f44 [] (aA cfg k) (aE cfg (aA cfg k) 20) k)by kernel_rfl).trans ((E44 _ _ _ a0 a1 a2 a3 a4 a5 a6 a7 a8 a9 a10).trans ?_)
 rw[show(fun l0 b1 l2 i3 i4 i5 i6 i7 i8 i9 l10 l11 i12 i13 l14=>RN 44 Tryz.f44 [] (aA cfg k) (aE cfg (aA cfg k) 20) k (aJ Tryz.f44 0) (Cv l0 b1 l2 i3 i4 i5 i6 i7 i8 i9 l10 l11 i12 i13 l14))=(L44 (aA cfg k) k)from(funext fun l0=>funext fun b1=>funext fun l2=>funext fun i3=>funext fun i4=>funext fun i5=>funext fun i6=>funext fun i7=>funext fun i8=>funext fun i9=>funext fun l10=>funext fun l11=>funext fun i12=>funext fun i13=>funext fun l14=>ih l0 b1 l2 i3 i4 i5 i6 i7 i8 i9 l10 l11 i12 i13 l14)]
theorem M44 (a0:List V) (a1:Int) (a2:Int) (a3:Int) (a4:Int) (a5:Int) (a6:List V) (a7:List V) (a8:Int) (a9:Int) (a10:Bool) {r:V×List Ob} (h:Evt (fun k n=>T44 (aA cfg k) (L44 (aA cfg k) n) a0 a1 a2 a3 a4 a5 a6 a7 a8 a9 a10) r):Ret 44 [V.lst 5 false a0,V.agg [V.int IntKind.i64 a1,V.int IntKind.i64 a2,V.int IntKind.i64 a3,V.int IntKind.i64 a4,V.int IntKind.i64 a5,V.lst 36 false a6,V.lst 32 false a7,V.int IntKind.i64 a8,V.int IntKind.i64 a9],V.bool a10] [] r:=aK (g:=fun k n=>T44 (aA cfg k) (L44 (aA cfg k) n) a0 a1 a2 a3 a4 a5 a6 a7 a8 a9 a10) (fun k=>C44 k a0 a1 a2 a3 a4 a5 a6 a7 a8 a9 a10) h
theorem NW (l0:List V) (b1:Bool) (l2:List V) (i3:Int) (i4:Int) (i5:Int) (i6:Int) (i7:Int) (i8:Int) (i9:Int) (l10:List V) (l11:List V) (i12:Int) (i13:Int) (l14:List V) {r:V×List Ob} (h:Evt (fun k n=>E4 (aA cfg k) (L44 (aA cfg k) n) l0 b1 l2 i3 i4 i5 i6 i7 i8 i9 l10 l11 i12 i13 l14) r):Evt (fun k n=>(L44 (aA cfg k) n) l0 b1 l2 i3 i4 i5 i6 i7 i8 i9 l10 l11 i12 i13 l14) r:=aY (fun k n=>rfl) h
end Go.Proofs.YtdoaoaicdimbeaaGreatDoor
end
section
namespace Go.Proofs.YtdoaoaicdimbeaaGreatDoor
open Go.Ev Go
theorem cK (a:Bs) (l:List Bs):wz (a::l)=a.length+1+wz l:=by simp[wz]
theorem lM:wz []=0:=rfl
theorem Du (l:List Bs):(kO l).length≤wz l+2:=by
 have:=(mB l [32] (by simp)).1
 simp only[kO,List.length_append,List.length_cons,List.length_nil];omega
def uK:Nat:=13510000000
theorem Hg (n m:Nat):∀ps:Ps,(∀p∈ps,p.1.length≤n∧p.2.length≤m)→wz (mM ps)≤ps.length* (2*n+2*m+14)
 |[],_=>by simp[mM,wz]
 |p::r,h=>by
  have h1:=h p (by simp)
  have h2:=Hg n m r fun q hq=>h q (by simp[hq])
  have e1:=eY p.1
  have e2:=eY p.2
  have e:mM (p::r)=[dN p.1,dN p.2]++mM r:=by simp[mM]
  rw[e,tB,cK,cK,lM,List.length_cons,Nat.add_mul]
  omega
theorem Dv {s:Bs} {two:Bool} {t u:Bs} {ps:Ps} (hs:s.length≤1500) (h:dY s two=some (t,u,ps)):(oO ps).length≤uK:=by
 obtain⟨g1,g2⟩:=fZ h
 obtain⟨_,_,g5⟩:=fU h
 have a3:(s.length+1)*s.length≤1501*1500:=Nat.mul_le_mul (by omega) (by omega)
 have h1:=Hg 1500 2251500 ps fun p hp=>by
  have:=g2 p hp
  have:=g5 p hp
  omega
 have h2:ps.length* (2*1500+2*2251500+14)≤1500* (2*1500+2*2251500+14):=Nat.mul_le_mul_right _ (by omega)
 have h3:=Du (mM ps)
 unfold oO uK
 split
 ·simp[jG]
 ·omega
def KOk (r:Bs×Bs×Bs):Prop:=r.1.length≤1520∧r.2.1.length≤1520∧r.2.2.length≤uK
theorem nJ (b:Bs) (hb:b.length≤1500) (p:Pt):KOk (dW b p):=by
 have hv:=bI b (hdL b p) ctN
 have hM:1000≤uK:=by decide
 unfold dW
 generalize p.kd=kd
 cases ho:dY (aT b (hdL b p) ctN) true with
 |none=>
  have e:(kO [dN csW,dN usW]).length≤1000:=by decide+kernel
  rw[AI]
  split
  ·exact⟨by decide,by decide,by decide⟩
  ·split
   ·exact⟨by decide,by decide,by decide⟩
   ·exact⟨by decide,by decide,Nat.le_trans e hM⟩
 |some o=>
  obtain⟨t,u,ps⟩:=o
  have hp:=Dv (by omega) ho
  obtain⟨g3,g4,_⟩:=fU ho
  have own:KOk (t,u,oO ps):=⟨by simp only;omega,by simp only;omega,hp⟩
  rw[AI]
  split
  ·split
   ·exact own
   ·exact⟨by decide,by decide,by decide⟩
  ·split
   ·split
    ·exact own
    ·exact⟨by decide,by decide,by decide⟩
   ·split
    ·exact⟨by decide,by decide,by decide⟩
    ·exact own
def cdN:Bs:=[99,111,110,116,101,110,116,45,100,105,115,112,111,115,105,116,105,111,110]
def clN:Bs:=[99,111,110,116,101,110,116,45,108,97,110,103,117,97,103,101]
def coN:Bs:=[99,111,110,116,101,110,116,45,108,111,99,97,116,105,111,110]
def cmN:Bs:=[99,111,110,116,101,110,116,45,109,100,53]
def cxN:Bs:=[99,111,110,116,101,110,116,45,105,100]
def cyN:Bs:=[99,111,110,116,101,110,116,45,100,101,115,99,114,105,112,116,105,111,110]
theorem uL (b:Bs) (p:Pt) (n:Bs):(qK b p n).length≤2*b.length+6:=by
 have:=bI b (hdL b p) n
 have:=gJ (aT b (hdL b p) n) (eX (hdL b p) n).isSome
 unfold qK;omega
def E5:Option (Bs×Bs×Ps)→Bs
 |none=>jG
 |some (t,_,ps)=>kO [dN t,oO ps]
def jZ (b:Bs) (p:Pt):List Bs:=[E5 (dY (aT b (hdL b p) cdN) false),qK b p clN,qK b p coN]
theorem Kw (b:Bs) (hb:b.length≤1500) (p:Pt):(E5 (dY (aT b (hdL b p) cdN) false)).length≤uK+3020:=by
 have hv:=bI b (hdL b p) cdN
 cases ho:dY (aT b (hdL b p) cdN) false with
 |none=>decide
 |some o=>
  obtain⟨t,u,ps⟩:=o
  have hp:=Dv (by omega) ho
  obtain⟨g3,_⟩:=fU ho
  have h1:=eY t
  have:=Du [dN t,oO ps]
  rw[cK,cK,lM]at this
  rw[E5]
  omega
theorem E6 (b:Bs) (hb:b.length≤1500) (p:Pt):wz (jZ b p)≤uK+9050:=by
 have h1:=Kw b hb p
 have h2:=uL b p clN
 have h3:=uL b p coN
 unfold jZ
 rw[cK,cK,cK,lM]
 omega
theorem Hh (l:List Bs) (hl:l.length≤10000000) (hj:wz l≤100000000000000):Ret 50 [.lst 9 false (l.map V.str)] [] (.str (kO l),[]):=
 G3 l hl (Nat.le_trans (mB l [32] (by simp)).1 hj)
theorem NX (b:Bs) (hb:b.length≤1500) (p:Pt):Ret 49 [.lst 5 false (ofBytes b),partV p] [] (.lst 9 false ((jZ b p).map V.str),[]):=by
 have hval:=NP b (by omega) p cdN (by simp[cdN]) false
 have hf1:=AH b (by omega) p clN (by simp[clN])
 have hf2:=AH b (by omega) p coN (by simp[coN])
 have hvl:=bI b (hdL b p) cdN
 unfold jZ
 rw[←eR p]at hval hf1 hf2 ⊢
 refine M49 (ofBytes b) (p.kd:Nat) (p.hd.1:Nat) (p.hd.2:Nat) (p.bd.1:Nat) (p.bd.2:Nat) (p.ks.map partV) (p.cs.map cutV) (p.en.1:Nat) (p.en.2:Nat) ?_
 simp only[T49]
 refine aB hval ?_
 cases ho:dY (aT b (hdL b p) cdN) false with
 |none=>
  simp only[mK,bC,List.headD_cons,List.tail_cons,aU,Bool.false_eq_true,if_false]
  refine aB hf1 ?_
  refine aB hf2 ?_
  exact aD _
 |some o=>
  obtain⟨t,u,ps⟩:=o
  obtain⟨_,g2⟩:=fZ ho
  obtain⟨g3,g4,g5⟩:=fU ho
  have gp:∀q∈ps,q.1.length≤10000000∧q.2.length≤10000000:=fun q hq=>by
   have a1:=g2 q hq
   have a2:=g5 q hq
   have a3:((aT b (hdL b p) cdN).length+1)* (aT b (hdL b p) cdN).length≤1501*1500:=Nat.mul_le_mul (by omega) (by omega)
   omega
  have hps:=(fZ ho).1
  have rp:=NM ps (by omega) gp
  have c0:V.cells (.agg [.str t, .str u, .lst 176 false (ps.map pV)])=[.str t, .str u, .lst 176 false (ps.map pV)]:=rfl
  have e1:=eY t
  have e2:=Dv (by omega) ho
  have hM:uK=13510000000:=rfl
  have hr:Ret 50 [.lst 9 false [.str (dN t), .str (oO ps)]] [] (.str (kO [dN t,oO ps]),[]):=Hh [dN t,oO ps] (by simp) (by rw[cK,cK,lM];omega)
  simp only[mK,bC,List.headD_cons,List.tail_cons,c0,aR,aU,bE,if_true]
  refine aB (lK t (by omega)) ?_
  refine aB rp ?_
  simp only[aR]
  refine aB hr ?_
  refine aB hf1 ?_
  refine aB hf2 ?_
  exact aD _
def lnN (b:Bs) (s:Nat×Nat):Nat:=(aV (s.1:Nat) (s.2:Nat) b).length
def kA (b:Bs) (p:Pt):List Bs:=[dN (dW b p).1,dN (dW b p).2.1,(dW b p).2.2,qK b p cxN,qK b p cyN,dN (EX b p),bR (p.bd.2 - p.bd.1)]
noncomputable def oS (b:Bs) (p:Pt) (subs:List Bs):List Bs:=
 if p.kd=2∧¬p.ks=[]then[E2 (ofS b (p.ks.headD NN)),subs.headD [],bR (lnN b p.bd)]else if(dW b p).1=textW then[bR (lnN b p.bd)]else[]
def rP (b:Bs) (p:Pt) (all:Bool):List Bs:=if all=true then qK b p cmN::jZ b p else[]
def fJ (b:Bs) (p:Pt) (all:Bool):List Bs:=[[],dN (dW b p).2.1]++if all=true then(dW b p).2.2::jZ b p else[]
noncomputable def Gq (b:Bs) (all:Bool) (p:Pt) (subs:List Bs):Bs:=
 if p.kd=1 then([40]++subs.flatten)++(Lib.join (fJ b p all) [32]++[41])else kO (kA b p++oS b p subs++rP b p all)
mutual
noncomputable def tC (b:Bs) (all:Bool):Pt→Bs
 | .mk k h bd ks cs e=>Gq b all (.mk k h bd ks cs e) (bX b all ks)
noncomputable def bX (b:Bs) (all:Bool):List Pt→List Bs
 |[]=>[]
 |p::r=>tC b all p::bX b all r
end
theorem Hi (b:Bs) (all:Bool) (p:Pt):tC b all p=Gq b all p (bX b all p.ks):=by cases p;rw[tC];rfl
theorem kV (b:Bs) (all:Bool):∀l:List Pt,bX b all l=l.map (tC b all)
 |[]=>by rw[bX];rfl
 |p::r=>by rw[bX,kV b all r];rfl
def putK:Nat:=30000000000
theorem Kx (b:Bs) (s:Nat×Nat):lnN b s≤b.length:=cZ _ _ b
theorem Hj (n:Nat) (h:n≤100000):(bR n).length≤100001:=Nat.le_trans (lW n) (by omega)
theorem E7 (b:Bs) (hb:b.length≤1500) (p:Pt) (all:Bool):wz (fJ b p all)≤2*uK+20000:=by
 obtain⟨_,k2,k3⟩:=nJ b hb p
 have h1:=eY (dW b p).2.1
 have h2:=E6 b hb p
 unfold fJ
 rw[tB,cK,cK,lM]
 split
 ·rw[cK];simp only[List.length_nil];omega
 ·rw[lM];simp only[List.length_nil];omega
theorem E8 (b:Bs) (hb:b.length≤1500) (p:Pt) (hp:p.bd.2 - p.bd.1≤100000):wz (kA b p)≤uK+120000:=by
 obtain⟨k1,k2,k3⟩:=nJ b hb p
 have h1:=eY (dW b p).1
 have h2:=eY (dW b p).2.1
 have h3:=uL b p cxN
 have h4:=uL b p cyN
 have h5:=eY (EX b p)
 have h6:=Do b p
 have h7:=Hj _ hp
 unfold kA
 rw[cK,cK,cK,cK,cK,cK,cK,lM]
 omega
theorem Hk (b:Bs) (hb:b.length≤1500) (p:Pt) (all:Bool):wz (rP b p all)≤uK+13000:=by
 have h1:=uL b p cmN
 have h2:=E6 b hb p
 unfold rP
 split
 ·rw[cK];omega
 ·rw[lM];omega
theorem Hl (b:Bs) (hb:b.length≤1500) (p:Pt) (subs:List Bs):wz (oS b p subs)≤1200000+(subs.headD []).length:=by
 have h1:=ME b (by omega) (p.ks.headD NN)
 have h2:=Kx b p.bd
 have h3:=Hj (lnN b p.bd) (by omega)
 unfold oS
 split
 ·rw[cK,cK,cK,lM];omega
 ·split
  ·rw[cK,lM];omega
  ·rw[lM];omega
theorem AX (l:List Bs):(l.headD []).length≤l.flatten.length:=by cases l<;>simp
theorem MG (b:Bs) (hb:b.length≤1500) (all:Bool) (p:Pt) (hp:p.bd.2 - p.bd.1≤100000) (subs:List Bs) (m:Nat) (hm:subs.flatten.length≤putK*m):(Gq b all p subs).length≤putK* (m+1):=by
 have h1:=E7 b hb p all
 have h2:=E8 b hb p hp
 have h3:=Hk b hb p all
 have h4:=Hl b hb p subs
 have h5:=AX subs
 have hM:uK=13510000000:=rfl
 have hK:putK=30000000000:=rfl
 have j1:=(mB (fJ b p all) [32] (by simp)).1
 have j2:=Du (kA b p++oS b p subs++rP b p all)
 rw[tB,tB]at j2
 rw[Nat.mul_add,Nat.mul_one]
 unfold Gq
 split
 ·simp only[List.length_append,List.length_cons,List.length_nil];omega
 ·omega
mutual
def BdP (m:Nat):Pt→Prop
 | .mk _ _ bd ks _ _=>bd.2≤m∧BdL m ks
def BdL (m:Nat):List Pt→Prop
 |[]=>True
 |p::r=>BdP m p∧BdL m r
end
mutual
theorem Hm (b:Bs) (hb:b.length≤1500) (all:Bool):∀p:Pt,BdP 100000 p→(tC b all p).length≤putK*cntF p
 | .mk k h bd ks cs e,hf=>by
  rw[BdP]at hf
  have h1:=AY b hb all ks hf.2
  rw[tC,cntF,Nat.add_comm 1]
  exact MG b hb all (.mk k h bd ks cs e) (Nat.le_trans (Nat.sub_le bd.2 bd.1) hf.1) _ _ h1
theorem AY (b:Bs) (hb:b.length≤1500) (all:Bool):∀l:List Pt,BdL 100000 l→(bX b all l).flatten.length≤putK*jY l
 |[],_=>by rw[bX];simp
 |p::r,hf=>by
  rw[BdL]at hf
  have h1:=Hm b hb all p hf.1
  have h2:=AY b hb all r hf.2
  rw[bX,jY,List.flatten_cons,List.length_append,Nat.mul_add]
  omega
end
theorem NY {m fin:Nat}:∀{cs:List (Nat×Nat)} {ks:List Pt},KR (fun _ _ q=>BdP m q) fin cs ks→BdL m ks
 |[],[],_=>by rw[BdL];trivial
 |c::r,q::ks,h=>by rw[BdL];exact⟨h.1,NY h.2⟩
 |[],_::_,h=>h.elim
 |_::_,[],h=>h.elim
theorem MH (b:Bs) (m:Nat) (hm:b.length≤m) (d fr to:Nat) (dg:Bool) (n:Nat) (h1:fr≤to) (h2:to≤b.length):BdP m (eH b d fr to dg n).1:=by
 refine AW b (fun _ _ _ p=>BdP m p) ?_ ?_ ?_ d fr to dg n h1 h2
 ·intro d fr at_ to k1 k2 k3
  unfold eF
  rw[BdP,BdL]
  exact⟨by simp only;omega,trivial⟩
 ·intro d fr at_ to cs e ks k1 k2 k3 k4 k5 k6 k7 k8
  rw[BdP]
  exact⟨by simp only;omega,NY k8⟩
 ·intro d fr at_ to q k1 k2 k3 k4 k5 k6
  rw[BdP,BdL,BdL]
  exact⟨by simp only;omega,k6,trivial⟩
end Go.Proofs.YtdoaoaicdimbeaaGreatDoor
end
section
namespace Go.Proofs.YtdoaoaicdimbeaaGreatDoor
open Go.Ev Go
def AZ (b:Bs) (all:Bool) (p:Pt):Prop:=Ret 23 [.lst 5 false (ofBytes b),partV p, .bool all] [] (.str (tC b all p),[])
theorem ca (l m:List V) (x:Option (V×List Ob)) (h:l.length+m.length≤100):chk (aW l m 17) x=x:=bL (dM (by omega)) x
theorem rJ (b:Bs) (p:Pt):(jZ b p).length=3:=rfl
theorem MI {ks:List Pt} {i:Nat} (h:i<ks.length):List.getD (ks.map partV) i V.bot=partV ks[i]:=by simp[List.getD,h]
noncomputable def wT (b:Bs) (all:Bool) (ks:List Pt) (i:Nat):Bs:=[40]++(bX b all (ks.take i)).flatten
theorem Cw (b:Bs) (all:Bool) {ks:List Pt} {i:Nat} (h:i<ks.length):wT b all ks (i+1)=wT b all ks i++tC b all ks[i]:=by
 unfold wT
 rw[kV,kV,List.take_succ_eq_append_getElem h,List.map_append,List.flatten_append]
 simp
theorem MJ (b:Bs) (all:Bool) (ks:List Pt) (i:Nat):(wT b all ks i).length≤1+(bX b all ks).flatten.length:=by
 have e:(bX b all ks).flatten=(bX b all (ks.take i)).flatten++(bX b all (ks.drop i)).flatten:=by
  rw[kV,kV,kV,←List.flatten_append,←List.map_append,List.take_append_drop]
 rw[e]
 unfold wT
 simp only[List.length_append,List.length_cons,List.length_nil];omega
theorem Ky (b:Bs) (hb:b.length≤1500) (all:Bool) (p:Pt) (hf:(bX b all p.ks).flatten.length≤30000000000000) (hn:p.ks.length≤1000) (ih:∀q∈p.ks,AZ b all q):∀(n i:Nat),p.ks.length - i=n→i≤p.ks.length→
  Evt (fun k j=>L44 (aA cfg k) j (ofBytes b) all (p.ks.map partV) (p.ks.length:Nat) (i:Nat) (p.kd:Nat) (p.hd.1:Nat) (p.hd.2:Nat) (p.bd.1:Nat) (p.bd.2:Nat) (p.ks.map partV) (p.cs.map cutV) (p.en.1:Nat) (p.en.2:Nat) (ofBytes (wT b all p.ks i)))
   (.str (([40]++(bX b all p.ks).flatten)++(Lib.join (fJ b p all) [32]++[41])),[])
 |0,i,h,hi=>by
  refine NW (ofBytes b) all (p.ks.map partV) (p.ks.length:Nat) (i:Nat) (p.kd:Nat) (p.hd.1:Nat) (p.hd.2:Nat) (p.bd.1:Nat) (p.bd.2:Nat) (p.ks.map partV) (p.cs.map cutV) (p.en.1:Nat) (p.en.2:Nat) (ofBytes (wT b all p.ks i)) ?_
  have h1:¬((i:Int)<(p.ks.length:Int)):=by omega
  have ea:wT b all p.ks i=[40]++(bX b all p.ks).flatten:=by unfold wT;rw[List.take_of_length_le (by omega)]
  rw[ea]
  have hK:=G4 b (by omega) p
  have hR:=NX b hb p
  obtain⟨k1,k2,k3⟩:=nJ b hb p
  have hw:=E7 b hb p all
  have hj:=(mB (fJ b p all) [32] (by simp)).1
  have hM:uK=13510000000:=rfl
  have hlen:(fJ b p all).length≤10:=by unfold fJ;cases all<;>simp[rJ]
  have hJ:=kU (fJ b p all) [32] (by omega) (by omega)
  have c1:bO (Lib.join (fJ b p all) [32]) [41]=true:=fD (by simp only[List.length_cons,List.length_nil];omega)
  have hW:=EM ([40]++(bX b all p.ks).flatten) (Lib.join (fJ b p all) [32]++[41]) (by simp only[List.length_append,List.length_cons,List.length_nil];omega)
  have hS:=Hd (([40]++(bX b all p.ks).flatten)++(Lib.join (fJ b p all) [32]++[41])) (by simp only[List.length_append,List.length_cons,List.length_nil];omega)
  have fin:Evt (fun(k _:Nat)=>Option.bind (aA cfg k 85 [V.lst 9 false ((fJ b p all).map V.str),V.str [32]] []) fun z3=>
   chk (bO (V.getS z3.1) [41]) (Option.bind (aA cfg k 27 [(V.ref 0 0),(V.str ((V.getS z3.1)++[41]))] [(Ob.cells [(V.opt 0 0),(V.lst 5 true (ofBytes ([40]++(bX b all p.ks).flatten)))])]) fun z4=>
   Option.bind (aA cfg k 29 [(V.ref 0 0)] [(Ob.cells [(V.opt 0 0),(V.lst 5 true (V.getL (List.headD (List.tail (Ob.getC (List.headD z4.2 Ob.dead))) V.bot)))])]) fun z5=>
   some ((V.str (V.getS z5.1)),([]:List Ob)))) (.str (([40]++(bX b all p.ks).flatten)++(Lib.join (fJ b p all) [32]++[41])),[]):=by
   refine aB hJ ?_
   simp only[aR,bL c1]
   refine aB hW ?_
   simp only[List.headD_cons,Ob.getC,List.tail_cons,V.getL]
   refine aB hS ?_
   exact aD _
  rw[←eR p]at hK hR
  simp only[E4,h1,decide_false,Bool.false_eq_true,if_false]
  refine aB hK ?_
  simp only[EY,bC,List.headD_cons,List.tail_cons,aR]
  refine aB (lK (dW b p).2.1 (by omega)) ?_
  cases all with
  |true=>
   have e1:(([V.str [],V.str (dN (dW b p).2.1)]++[V.str (dW b p).2.2])++(jZ b p).map V.str)=(fJ b p true).map V.str:=by simp[fJ]
   simp only[aR,if_true,ca,List.length_append,List.length_cons,List.length_nil,Nat.reduceAdd,Nat.reduceLeDiff]
   refine aB hR ?_
   simp only[bE,ca,List.length_append,List.length_cons,List.length_nil,List.length_map,rJ,Nat.reduceAdd,Nat.reduceLeDiff,e1]
   exact fin
  |false=>
   have e1:[V.str [],V.str (dN (dW b p).2.1)]=(fJ b p false).map V.str:=by simp[fJ]
   simp only[aR,Bool.false_eq_true,if_false,e1]
   exact fin
 |n+1,i,h,hi=>by
  have hlt:i<p.ks.length:=by omega
  refine NW (ofBytes b) all (p.ks.map partV) (p.ks.length:Nat) (i:Nat) (p.kd:Nat) (p.hd.1:Nat) (p.hd.2:Nat) (p.bd.1:Nat) (p.bd.2:Nat) (p.ks.map partV) (p.cs.map cutV) (p.en.1:Nat) (p.en.2:Nat) (ofBytes (wT b all p.ks i)) ?_
  have h1:((i:Int)<(p.ks.length:Int)):=by omega
  have h2:(0:Int)≤(i:Nat):=by omega
  have hw:IntKind.wrap .i64 (((i:Nat):Int)+1)=((i+1:Nat):Int):=by rw[wrap64 (by omega) (by omega)];omega
  have hle:=MJ b all p.ks (i+1)
  rw[Cw b all hlt,List.length_append]at hle
  simp only[E4,h1,decide_true,if_true,aH h2,List.length_map,cA,Int.toNat_natCast,MI hlt,hw,lJ]
  refine aB (ih p.ks[i] (List.getElem_mem hlt)) ?_
  simp only[aR]
  refine aB (EM (wT b all p.ks i) (tC b all p.ks[i]) (by omega)) ?_
  simp only[List.headD_cons,Ob.getC,List.tail_cons,V.getL]
  rw[←Cw b all hlt]
  exact Ky b hb all p hf hn ih n (i+1) (by omega) (by omega)
theorem RI (b:Bs) (hb:b.length≤1500) (all:Bool) (p:Pt) (hf:(bX b all p.ks).flatten.length≤30000000000000) (hn:p.ks.length≤1000) (ih:∀q∈p.ks,AZ b all q):
  Ret 44 [.lst 5 false (ofBytes b),partV p, .bool all] [] (.str (([40]++(bX b all p.ks).flatten)++(Lib.join (fJ b p all) [32]++[41])),[]):=by
 rw[←eR p]
 refine M44 (ofBytes b) (p.kd:Nat) (p.hd.1:Nat) (p.hd.2:Nat) (p.bd.1:Nat) (p.bd.2:Nat) (p.ks.map partV) (p.cs.map cutV) (p.en.1:Nat) (p.en.2:Nat) all ?_
 simp only[T44,List.length_map]
 refine aB (EM [] [40] (by simp)) ?_
 simp only[List.headD_cons,Ob.getC,List.tail_cons,V.getL]
 have e0:[]++[40]=wT b all p.ks 0:=by unfold wT;rw[List.take_zero,bX];rfl
 rw[e0]
 exact Ky b hb all p hf hn ih _ 0 rfl (by omega)
theorem MK (b:Bs) (hb:b.length≤1500) (x y:Nat):Ret 48 [.lst 5 false (ofBytes b), .agg [.int .i64 (x:Nat), .int .i64 (y:Nat)]] [] (.int .i64 (lnN b (x,y):Nat),[]):=by
 refine eD (h:=vQ) (by kernel_rfl) ?_
 have h1:=jM b
 have h2:(ofBytes b).length<1099511627776:=by rw[bB];omega
 simp only[vQ,h1,h2,decide_true,Bool.and_self,if_true,bT]
 rfl
theorem Kz (b:Bs) (hb:b.length≤1500) (all:Bool) (p:Pt) (L:List Bs) {Lv:List V} (e:Lv=L.map V.str) (hl:L.length≤20) (hw:wz L≤40000000000000):
  Evt (fun(k _:Nat)=>if all=true then
    Option.bind (aA cfg k 46 [.lst 5 false (ofBytes b), .agg [.int .i64 (p.kd:Nat), .int .i64 (p.hd.1:Nat), .int .i64 (p.hd.2:Nat), .int .i64 (p.bd.1:Nat), .int .i64 (p.bd.2:Nat), .lst 36 false (p.ks.map partV), .lst 32 false (p.cs.map cutV), .int .i64 (p.en.1:Nat), .int .i64 (p.en.2:Nat)], .str cmN] []) fun z14=>
    chk (aW Lv [(V.str (V.getS z14.1))] 17) (Option.bind (aA cfg k 49 [.lst 5 false (ofBytes b), .agg [.int .i64 (p.kd:Nat), .int .i64 (p.hd.1:Nat), .int .i64 (p.hd.2:Nat), .int .i64 (p.bd.1:Nat), .int .i64 (p.bd.2:Nat), .lst 36 false (p.ks.map partV), .lst 32 false (p.cs.map cutV), .int .i64 (p.en.1:Nat), .int .i64 (p.en.2:Nat)]] []) fun z15=>
    chk (aW (Lv++[(V.str (V.getS z14.1))]) (V.getL z15.1) 17) (Option.bind (aA cfg k 50 [.lst 9 false ((Lv++[(V.str (V.getS z14.1))])++(V.getL z15.1))] []) fun z16=>
    some ((V.str (V.getS z16.1)),([]:List Ob))))
   else Option.bind (aA cfg k 50 [.lst 9 false Lv] []) fun z14=>some ((V.str (V.getS z14.1)),[])) (.str (kO (L++rP b p all)),[]):=by
 have hF:=AH b (by omega) p cmN (by simp[cmN])
 have hR:=NX b hb p
 have hE:=Hk b hb p all
 have hM:uK=13510000000:=rfl
 have hel:(rP b p all).length≤4:=by unfold rP;split<;>simp[rJ]
 have hrow:=Hh (L++rP b p all) (by rw[List.length_append];omega) (by rw[tB];omega)
 rw[←eR p]at hF hR
 subst e
 cases all with
 |true=>
  have e1:((L.map V.str)++[V.str (qK b p cmN)])++(jZ b p).map V.str=(L++rP b p true).map V.str:=by simp[rP]
  simp only[if_true]
  refine aB hF ?_
  simp only[aR]
  have a1:aW (L.map V.str) [V.str (qK b p cmN)] 17=true:=dM (by simp only[List.length_map,List.length_cons,List.length_nil];omega)
  have a2:aW (L.map V.str++[V.str (qK b p cmN)]) ((jZ b p).map V.str) 17=true:=dM (by simp only[List.length_append,List.length_map,List.length_cons,List.length_nil,rJ];omega)
  simp only[bL a1]
  refine aB hR ?_
  simp only[bE,bL a2,e1]
  refine aB hrow ?_
  exact aD _
 |false=>
  have e1:L++rP b p false=L:=by simp[rP]
  rw[e1]at hrow ⊢
  simp only[Bool.false_eq_true,if_false]
  refine aB hrow ?_
  exact aD _
theorem KA (b:Bs) (hb:b.length≤1500) (all:Bool) (p:Pt) (hp:p.bd.2 - p.bd.1≤100000) (subs:List Bs) (hs:(subs.headD []).length≤30000000000000) {Lv:List V} (e:Lv=(kA b p++oS b p subs).map V.str):
  Evt (fun(k _:Nat)=>if all=true then
    Option.bind (aA cfg k 46 [.lst 5 false (ofBytes b), .agg [.int .i64 (p.kd:Nat), .int .i64 (p.hd.1:Nat), .int .i64 (p.hd.2:Nat), .int .i64 (p.bd.1:Nat), .int .i64 (p.bd.2:Nat), .lst 36 false (p.ks.map partV), .lst 32 false (p.cs.map cutV), .int .i64 (p.en.1:Nat), .int .i64 (p.en.2:Nat)], .str cmN] []) fun z14=>
    chk (aW Lv [(V.str (V.getS z14.1))] 17) (Option.bind (aA cfg k 49 [.lst 5 false (ofBytes b), .agg [.int .i64 (p.kd:Nat), .int .i64 (p.hd.1:Nat), .int .i64 (p.hd.2:Nat), .int .i64 (p.bd.1:Nat), .int .i64 (p.bd.2:Nat), .lst 36 false (p.ks.map partV), .lst 32 false (p.cs.map cutV), .int .i64 (p.en.1:Nat), .int .i64 (p.en.2:Nat)]] []) fun z15=>
    chk (aW (Lv++[(V.str (V.getS z14.1))]) (V.getL z15.1) 17) (Option.bind (aA cfg k 50 [.lst 9 false ((Lv++[(V.str (V.getS z14.1))])++(V.getL z15.1))] []) fun z16=>
    some ((V.str (V.getS z16.1)),([]:List Ob))))
   else Option.bind (aA cfg k 50 [.lst 9 false Lv] []) fun z14=>some ((V.str (V.getS z14.1)),[])) (.str (kO (kA b p++oS b p subs++rP b p all)),[]):=by
 have h1:=E8 b hb p hp
 have h2:=Hl b hb p subs
 have hM:uK=13510000000:=rfl
 refine Kz b hb all p (kA b p++oS b p subs) e ?_ (by rw[tB];omega)
 have:(oS b p subs).length≤3:=by unfold oS;split;(· simp);split<;>simp
 rw[List.length_append]
 have e7:(kA b p).length=7:=rfl
 omega
theorem Pz (b:Bs) (hb:b.length≤1500) (all:Bool) (p:Pt) (hfit:oZ p) (hbd:BdP 100000 p) (hc:cntF p≤1000) (ih:∀q∈p.ks,AZ b all q):AZ b all p:=by
 have hK:=G4 b (by omega) p
 have hF1:=AH b (by omega) p cxN (by simp[cxN])
 have hF2:=AH b (by omega) p cyN (by simp[cyN])
 have hE:=NQ b (by omega) p
 have hC:=MK b hb p.bd.1 p.bd.2
 obtain⟨k1,k2,k3⟩:=nJ b hb p
 have hel:=Do b p
 have hln:=Kx b p.bd
 have hsub:(bX b all p.ks).flatten.length≤putK*jY p.ks:=AY b hb all p.ks (by cases p;rw[BdP]at hbd;exact hbd.2)
 have hcl:jY p.ks+1≤1000:=by cases p;rw[cntF]at hc;simp only[Pt.ks];omega
 have hsub2:(bX b all p.ks).flatten.length≤30000000000000:=Nat.le_trans hsub (Nat.le_trans (Nat.mul_le_mul_left _ (show jY p.ks≤1000 by omega)) (by decide))
 have hhd:=AX (bX b all p.ks)
 have hkn:=ES p.ks
 have hbb:p.bd.1≤p.bd.2∧p.bd.2≤100000:=by
  cases p;rw[oZ]at hfit;rw[BdP]at hbd;exact⟨hfit.2.2.1,hbd.1⟩
 have hks:p.kd=2→∃q,p.ks=[q]:=fun h=>by
  cases p with
  |mk k h' bd ks cs e=>
   rw[oZ]at hfit
   replace h:k=2:=h
   rcases hfit.1 with⟨h0,_⟩|⟨h0,_⟩|⟨_,_,_,q,hq,_⟩
   ·omega
   ·omega
   ·exact⟨q,hq⟩
 have hw:IntKind.wrap .i64 (((p.bd.2:Nat):Int) - ((p.bd.1:Nat):Int))=((p.bd.2 - p.bd.1:Nat):Int):=by rw[wrap64 (by omega) (by omega)];omega
 have hD:=EE (p.bd.2 - p.bd.1) (by omega)
 have hN:=EE (lnN b p.bd) (by omega)
 unfold AZ
 rw[Hi]
 by_cases h1:p.kd=1
 ·have z1:(((p.kd:Nat):Int)==1)=true:=by rw[h1];rfl
  have hM:=RI b hb all p hsub2 (by omega) ih
  unfold Gq
  rw[if_pos h1]
  rw[←eR p]at hM ⊢
  refine M23 (ofBytes b) (p.kd:Nat) (p.hd.1:Nat) (p.hd.2:Nat) (p.bd.1:Nat) (p.bd.2:Nat) (p.ks.map partV) (p.cs.map cutV) (p.en.1:Nat) (p.en.2:Nat) all ?_
  simp only[T23,z1,if_true]
  refine aB hM ?_
  exact aD _
 ·have z1:(((p.kd:Nat):Int)==1)=false:=by
   have:¬(((p.kd:Nat):Int)=1):=by omega
   simpa using this
  have tl:=fun(subs:List Bs) (hs:(subs.headD []).length≤30000000000000) {Lv:List V} (e:Lv=(kA b p++oS b p subs).map V.str)=>KA b hb all p (by omega) subs hs e
  unfold Gq
  rw[if_neg h1]
  rw[←eR p]at hK hF1 hF2 hE ⊢
  refine M23 (ofBytes b) (p.kd:Nat) (p.hd.1:Nat) (p.hd.2:Nat) (p.bd.1:Nat) (p.bd.2:Nat) (p.ks.map partV) (p.cs.map cutV) (p.en.1:Nat) (p.en.2:Nat) all ?_
  simp only[T23,z1,Bool.false_eq_true,if_false]
  refine aB hK ?_
  simp only[EY,bC,List.headD_cons,List.tail_cons,aR]
  refine aB (lK (dW b p).1 (by omega)) ?_
  refine aB (lK (dW b p).2.1 (by omega)) ?_
  refine aB hF1 ?_
  refine aB hF2 ?_
  refine aB hE ?_
  simp only[aR]
  refine aB (lK (EX b p) (by omega)) ?_
  rw[hw]
  refine aB hD ?_
  simp only[aR]
  by_cases h2:p.kd=2
  ·obtain⟨q,hq⟩:=hks h2
   have z2:(((p.kd:Nat):Int)==2)=true:=by rw[h2];rfl
   have hO:=RG b (by omega) q
   have hP:=Ih b (by omega) q
   have hI:=ih q (by rw[hq];simp)
   have o1:oS b p (bX b all p.ks)=[E2 (ofS b q),tC b all q,bR (lnN b p.bd)]:=by
    unfold oS
    rw[if_pos ⟨h2,by rw[hq];simp⟩,hq,bX,bX]
    rfl
   have hh:((bX b all p.ks).headD []).length≤30000000000000:=by omega
   have g0:List.getD (p.ks.map partV) (Int.toNat 0) V.bot=partV q:=by rw[hq];rfl
   have g1:((0:Int)<(((p.ks.map partV).length:Nat):Int)):=by rw[hq];simp
   have g2:decide ((((p.ks.map partV).length:Nat):Int)>(0:Int))=true:=by rw[hq];simp
   refine bY (v:=true) (by rw[if_pos z2,g2]) ?_
   simp only[if_true,aH (show(0:Int)≤0 by omega),aH g1,g0,lJ]
   refine aB hO ?_
   refine aB hP ?_
   refine aB hI ?_
   simp only[aR,ca,List.length_cons,List.length_nil,Nat.reduceAdd,Nat.reduceLeDiff]
   refine aB hC ?_
   simp only[cC]
   refine aB hN ?_
   simp only[aR,ca,List.length_append,List.length_cons,List.length_nil,Nat.reduceAdd,Nat.reduceLeDiff]
   exact tl (bX b all p.ks) hh (by rw[o1];simp[kA])
  ·have z2:(((p.kd:Nat):Int)==2)=false:=by
    have:¬(((p.kd:Nat):Int)=2):=by omega
    simpa using this
   have hh:((bX b all p.ks).headD []).length≤30000000000000:=by omega
   refine bY (v:=false) (by rw[z2];rfl) ?_
   simp only[Bool.false_eq_true,if_false]
   by_cases ht:(dW b p).1=textW
   ·have o1:oS b p (bX b all p.ks)=[bR (lnN b p.bd)]:=by
     unfold oS
     rw[if_neg (fun h=>h2 h.1),if_pos ht]
    simp only[show sEq (dW b p).1 [116,101,120,116]=true from lZ ht,if_true]
    refine aB hC ?_
    simp only[cC]
    refine aB hN ?_
    simp only[aR,ca,List.length_append,List.length_cons,List.length_nil,Nat.reduceAdd,Nat.reduceLeDiff]
    exact tl (bX b all p.ks) hh (by rw[o1];simp[kA])
   ·have o1:oS b p (bX b all p.ks)=[]:=by
     unfold oS
     rw[if_neg (fun h=>h2 h.1),if_neg ht]
    simp only[show sEq (dW b p).1 [116,101,120,116]=false from mA ht,Bool.false_eq_true,if_false]
    exact tl (bX b all p.ks) hh (by rw[o1];simp[kA])
mutual
theorem Hn (b:Bs) (hb:b.length≤1500) (all:Bool):∀p:Pt,oZ p→BdP 100000 p→cntF p≤1000→AZ b all p
 | .mk k h bd ks cs e,hfit,hbd,hc=>Pz b hb all (.mk k h bd ks cs e) hfit hbd hc (E9 b hb all ks (by rw[oZ]at hfit;exact hfit.2.2.2) (by rw[BdP]at hbd;exact hbd.2) (by rw[cntF]at hc;omega))
theorem E9 (b:Bs) (hb:b.length≤1500) (all:Bool):∀ks:List Pt,sE ks→BdL 100000 ks→jY ks≤1000→∀q∈ks,AZ b all q
 |[],_,_,_=>by simp
 |p::r,hfit,hbd,hc=>by
  rw[sE]at hfit
  rw[BdL]at hbd
  rw[jY]at hc
  have h1:=Hn b hb all p hfit.1 hbd.1 (by omega)
  have h2:=E9 b hb all r hfit.2 hbd.2 (by omega)
  intro q hq
  rcases List.mem_cons.1 hq with rfl|hq
  ·exact h1
  ·exact h2 q hq
end
end Go.Proofs.YtdoaoaicdimbeaaGreatDoor
end
section
namespace Go.Proofs.YtdoaoaicdimbeaaGreatDoor
open Go.Ev Go
theorem Gr (b:Bs) (p:Pt) (all:Bool):∃w:Bs,Lib.join (fJ b p all) [32]=[32]++w:=by
 unfold fJ
 rw[List.cons_append,Lib.join_cons]
 exact⟨_,rfl⟩
end Go.Proofs.YtdoaoaicdimbeaaGreatDoor
end
section
namespace Go.Proofs.YtdoaoaicdimbeaaGreatDoor
open Go.Ev Go
open List (headD tail getD length drop take)
open V (getI getL getT getS getB)
set_option maxRecDepth 100000
variable (call : FuncId → Fun) (icall : aO (V × List Ob)) (again : List It → St → Option (V × List Ob))
def Fa (call:FuncId→Fun) (ag0:List V→Int→Int→Option (V×List Ob)) (l0:List V) (i1:Int) (i2:Int):Option (V×List Ob):=
 if(decide (i2<((length l0:Nat):Int)))=true then
 chk (decide (0≤i2)) (chk (decide (i2<((length l0:Nat):Int))) (if((getI (headD (V.cells (getD l0 (Int.toNat i2) V.bot)) V.bot))==(3:Int))=true then
 chk (decide (0≤i2)) (chk (decide (i2<((length l0:Nat):Int))) (if((getI (headD (V.cells (getD l0 (Int.toNat i2) V.bot)) V.bot))==(4:Int))=true then
 Option.bind (if(decide ((IntKind.wrap .i64 ((IntKind.wrap .i64 (i1+(1:Int))) - (1:Int)))<(0:Int)))=false then
 if((IntKind.wrap .i64 ((IntKind.wrap .i64 (i1+(1:Int))) - (1:Int)))==(0:Int))=true then
 some (decide (i2<(IntKind.wrap .i64 (((length l0:Nat):Int) - (1:Int)))))
 else
 some false
 else
 some true) fun y0=>
 if y0=true then
 some ((V.bool false),[])
 else
 (ag0 (l0) ((IntKind.wrap .i64 ((IntKind.wrap .i64 (i1+(1:Int))) - (1:Int)))) ((IntKind.wrap .i64 (i2+(1:Int)))))
 else
 Option.bind (if(decide ((IntKind.wrap .i64 (i1+(1:Int)))<(0:Int)))=false then
 if((IntKind.wrap .i64 (i1+(1:Int)))==(0:Int))=true then
 some (decide (i2<(IntKind.wrap .i64 (((length l0:Nat):Int) - (1:Int)))))
 else
 some false
 else
 some true) fun y0=>
 if y0=true then
 some ((V.bool false),[])
 else
 (ag0 (l0) ((IntKind.wrap .i64 (i1+(1:Int)))) ((IntKind.wrap .i64 (i2+(1:Int)))))))
 else
 chk (decide (0≤i2)) (chk (decide (i2<((length l0:Nat):Int))) (if((getI (headD (V.cells (getD l0 (Int.toNat i2) V.bot)) V.bot))==(4:Int))=true then
 Option.bind (if(decide ((IntKind.wrap .i64 (i1 - (1:Int)))<(0:Int)))=false then
 if((IntKind.wrap .i64 (i1 - (1:Int)))==(0:Int))=true then
 some (decide (i2<(IntKind.wrap .i64 (((length l0:Nat):Int) - (1:Int)))))
 else
 some false
 else
 some true) fun y0=>
 if y0=true then
 some ((V.bool false),[])
 else
 (ag0 (l0) ((IntKind.wrap .i64 (i1 - (1:Int)))) ((IntKind.wrap .i64 (i2+(1:Int)))))
 else
 Option.bind (if(decide (i1<(0:Int)))=false then
 if(i1==(0:Int))=true then
 some (decide (i2<(IntKind.wrap .i64 (((length l0:Nat):Int) - (1:Int)))))
 else
 some false
 else
 some true) fun y0=>
 if y0=true then
 some ((V.bool false),[])
 else
 (ag0 (l0) (i1) ((IntKind.wrap .i64 (i2+(1:Int)))))))))
 else
 Option.bind (if(i1==(0:Int))=true then
 some (decide (((length l0:Nat):Int)>(2:Int)))
 else
 some false) fun y0=>
 some ((V.bool y0),[])
def T10 (call:FuncId→Fun) (ag0:List V→Int→Int→Option (V×List Ob)) (a0:List V) (a1:Bool):Option (V×List Ob):=
 Option.bind (call 22 [] []) fun z0=>
 if(!(getB z0.1))=true then
 some ((V.bool false),[])
 else
 if(decide (((length a0:Nat):Int)>(1500:Int)))=true then
 some ((V.bool true),[])
 else
 Option.bind (call 14 [(V.lst 5 false a0)] []) fun z1=>
 Option.bind (call 23 [(V.lst 5 false a0),(V.agg [(V.int .i64 (getI (headD (V.cells (headD (getT z1.1) V.bot)) V.bot))),(V.int .i64 (getI (headD (tail (V.cells (headD (getT z1.1) V.bot))) V.bot))),(V.int .i64 (getI (headD (tail (tail (V.cells (headD (getT z1.1) V.bot)))) V.bot))),(V.int .i64 (getI (headD (tail (tail (tail (V.cells (headD (getT z1.1) V.bot))))) V.bot))),(V.int .i64 (getI (headD (tail (tail (tail (tail (V.cells (headD (getT z1.1) V.bot)))))) V.bot))),(V.lst 36 false (getL (headD (tail (tail (tail (tail (tail (V.cells (headD (getT z1.1) V.bot))))))) V.bot))),(V.lst 32 false (getL (headD (tail (tail (tail (tail (tail (tail (V.cells (headD (getT z1.1) V.bot)))))))) V.bot))),(V.int .i64 (getI (headD (tail (tail (tail (tail (tail (tail (tail (V.cells (headD (getT z1.1) V.bot))))))))) V.bot))),(V.int .i64 (getI (headD (tail (tail (tail (tail (tail (tail (tail (tail (V.cells (headD (getT z1.1) V.bot)))))))))) V.bot)))]),(V.bool a1)] []) fun z2=>
 Option.bind (call 25 [(V.lst 5 false (ofBytes (getS z2.1)))] []) fun z3=>
 if((getI (headD (tail (getT z3.1)) V.bot)) != (0:Int))=true then
 some ((V.bool false),[])
 else
 (ag0 ((getL (headD (getT z3.1) V.bot))) ((0:Int)) ((0:Int)))
def A10 (a0:List V) (a1:Bool):List V:=[V.lst 5 false a0,V.bool a1]
def Cx (l0:List V) (i1:Int) (i2:Int):St:=⟨[V.bot,V.bot,V.bot,V.bot,V.bot,V.bot,V.bot,V.bot,(V.lst 68 false l0),V.bot,(V.int IntKind.i64 i1),(V.int IntKind.i64 i2)]++List.replicate 64 V.bot,[]⟩
theorem RJ (l0:List V) (i1:Int) (i2:Int):
 RM 10 Tryz.f10 [] call icall again (aJ Tryz.f10 0) (Cx l0 i1 i2)=Fa call (fun l0 i1 i2=>again (aJ Tryz.f10 0) (Cx l0 i1 i2)) l0 i1 i2:=by kernel_rfl
theorem E10 (a0:List V) (a1:Bool):GO 10 Tryz.f10 (A10 a0 a1) [] call icall again=T10 call (fun l0 i1 i2=>again (aJ Tryz.f10 0) (Cx l0 i1 i2)) a0 a1:=by kernel_rfl
def L10 (call:FuncId→Fun):Nat→(List V→Int→Int→Option (V×List Ob))
 |0=>fun _ _ _=>none
 |n+1=>Fa call (L10 call n)
theorem R10 (call:FuncId→Fun) (icall:aO (V×List Ob)):∀n,(∀(l0:List V) (i1:Int) (i2:Int),RN 10 Tryz.f10 [] call icall n (aJ Tryz.f10 0) (Cx l0 i1 i2)=(L10 call n) l0 i1 i2)
 |0=>fun l0 i1 i2=>rfl
 |n+1=>by
  have ih:=R10 call icall n
  exact fun l0 i1 i2=>(RJ call icall (RN 10 Tryz.f10 [] call icall n) l0 i1 i2).trans (by rw[show(fun l0 i1 i2=>RN 10 Tryz.f10 [] call icall n (aJ Tryz.f10 0) (Cx l0 i1 i2))=(L10 call n)from(funext fun l0=>funext fun i1=>funext fun i2=>ih l0 i1 i2)];rfl)
theorem C10 (k:Nat) (a0:List V) (a1:Bool):aA cfg (k+1) 10 (A10 a0 a1) []=T10 (aA cfg k) (L10 (aA cfg k) k) a0 a1:=by
 have ih:=R10 (aA cfg k) (aE cfg (aA cfg k) 20) k
 refine(show aA cfg (k+1) 10 (A10 a0 a1) []=GO 10 Tryz.f10 (A10 a0 a1) [] (aA cfg k) (aE cfg (aA cfg k) 20) (RN 10 Tryz.f10 [] (aA cfg k) (aE cfg (aA cfg k) 20) k)by kernel_rfl).trans ((E10 _ _ _ a0 a1).trans ?_)
 rw[show(fun l0 i1 i2=>RN 10 Tryz.f10 [] (aA cfg k) (aE cfg (aA cfg k) 20) k (aJ Tryz.f10 0) (Cx l0 i1 i2))=(L10 (aA cfg k) k)from(funext fun l0=>funext fun i1=>funext fun i2=>ih l0 i1 i2)]
theorem M10 (a0:List V) (a1:Bool) {r:V×List Ob} (h:Evt (fun k n=>T10 (aA cfg k) (L10 (aA cfg k) n) a0 a1) r):Ret 10 [V.lst 5 false a0,V.bool a1] [] r:=aK (g:=fun k n=>T10 (aA cfg k) (L10 (aA cfg k) n) a0 a1) (fun k=>C10 k a0 a1) h
theorem NZ (l0:List V) (i1:Int) (i2:Int) {r:V×List Ob} (h:Evt (fun k n=>Fa (aA cfg k) (L10 (aA cfg k) n) l0 i1 i2) r):Evt (fun k n=>(L10 (aA cfg k) n) l0 i1 i2) r:=aY (fun k n=>rfl) h
def Fb (call:FuncId→Fun) (ag0:List V→List UInt8→Option (V×List Ob)) (l0:List V) (s1:List UInt8):Option (V×List Ob):=
 if(!(sEq s1 []))=true then
 Option.bind (call 51 [(V.str s1)] []) fun z0=>
 if(!(getB (headD (tail (tail (getT z0.1))) V.bot)))=true then
 some ((V.tup [(V.lst 68 false []),(V.int .i64 50)]),[])
 else
 chk (aW l0 [(V.agg [(V.int .i64 (getI (headD (V.cells (headD (getT z0.1) V.bot)) V.bot))),(V.str (getS (headD (tail (V.cells (headD (getT z0.1) V.bot))) V.bot)))])] 25) ((ag0 ((l0++[(V.agg [(V.int .i64 (getI (headD (V.cells (headD (getT z0.1) V.bot)) V.bot))),(V.str (getS (headD (tail (V.cells (headD (getT z0.1) V.bot))) V.bot)))])])) ((getS (headD (tail (getT z0.1)) V.bot)))))
 else
 some ((V.tup [(V.lst 68 false l0),(V.int .i64 0)]),[])
def T25 (call:FuncId→Fun) (ag0:List V→List UInt8→Option (V×List Ob)) (a0:List V):Option (V×List Ob):=
 (ag0 ([]) ((bytesOf a0)))
def A25 (a0:List V):List V:=[V.lst 5 false a0]
def Cy (l0:List V) (s1:List UInt8):St:=⟨[V.bot,V.bot,V.bot,V.bot,(V.lst 68 true l0),(V.str s1)]++List.replicate 21 V.bot,[]⟩
theorem RL (l0:List V) (s1:List UInt8):
 RM 25 Tryz.f25 [] call icall again (aJ Tryz.f25 0) (Cy l0 s1)=Fb call (fun l0 s1=>again (aJ Tryz.f25 0) (Cy l0 s1)) l0 s1:=by kernel_rfl
theorem E25 (a0:List V):GO 25 Tryz.f25 (A25 a0) [] call icall again=T25 call (fun l0 s1=>again (aJ Tryz.f25 0) (Cy l0 s1)) a0:=by kernel_rfl
def L25 (call:FuncId→Fun):Nat→(List V→List UInt8→Option (V×List Ob))
 |0=>fun _ _=>none
 |n+1=>Fb call (L25 call n)
theorem R25 (call:FuncId→Fun) (icall:aO (V×List Ob)):∀n,(∀(l0:List V) (s1:List UInt8),RN 25 Tryz.f25 [] call icall n (aJ Tryz.f25 0) (Cy l0 s1)=(L25 call n) l0 s1)
 |0=>fun l0 s1=>rfl
 |n+1=>by
  have ih:=R25 call icall n
  exact fun l0 s1=>(RL call icall (RN 25 Tryz.f25 [] call icall n) l0 s1).trans (by rw[show(fun l0 s1=>RN 25 Tryz.f25 [] call icall n (aJ Tryz.f25 0) (Cy l0 s1))=(L25 call n)from(funext fun l0=>funext fun s1=>ih l0 s1)];rfl)
theorem C25 (k:Nat) (a0:List V):aA cfg (k+1) 25 (A25 a0) []=T25 (aA cfg k) (L25 (aA cfg k) k) a0:=by
 have ih:=R25 (aA cfg k) (aE cfg (aA cfg k) 20) k
 refine(show aA cfg (k+1) 25 (A25 a0) []=GO 25 Tryz.f25 (A25 a0) [] (aA cfg k) (aE cfg (aA cfg k) 20) (RN 25 Tryz.f25 [] (aA cfg k) (aE cfg (aA cfg k) 20) k)by kernel_rfl).trans ((E25 _ _ _ a0).trans ?_)
 rw[show(fun l0 s1=>RN 25 Tryz.f25 [] (aA cfg k) (aE cfg (aA cfg k) 20) k (aJ Tryz.f25 0) (Cy l0 s1))=(L25 (aA cfg k) k)from(funext fun l0=>funext fun s1=>ih l0 s1)]
theorem M25 (a0:List V) {r:V×List Ob} (h:Evt (fun k n=>T25 (aA cfg k) (L25 (aA cfg k) n) a0) r):Ret 25 [V.lst 5 false a0] [] r:=aK (g:=fun k n=>T25 (aA cfg k) (L25 (aA cfg k) n) a0) (fun k=>C25 k a0) h
theorem N1 (l0:List V) (s1:List UInt8) {r:V×List Ob} (h:Evt (fun k n=>Fb (aA cfg k) (L25 (aA cfg k) n) l0 s1) r):Evt (fun k n=>(L25 (aA cfg k) n) l0 s1) r:=aY (fun k n=>rfl) h
def T51 (call:FuncId→Fun) (a0:List UInt8):Option (V×List Ob):=
 chk (decide (0≤(0:Int))) (chk (decide ((0:Int)<((length a0:Nat):Int))) (if(((UInt8.toNat (getD a0 (Int.toNat (0:Int)) 0):Nat):Int)==(40:Int))=true then
 chk (decide (0≤(1:Int))) (chk (decide ((1:Int)≤((length a0:Nat):Int))) (some ((V.tup [(V.agg [(V.int .i64 3),(V.str [])]),(V.str (drop (Int.toNat (1:Int)) a0)),(V.bool true)]),[])))
 else
 if(((UInt8.toNat (getD a0 (Int.toNat (0:Int)) 0):Nat):Int)==(41:Int))=true then
 chk (decide (0≤(1:Int))) (chk (decide ((1:Int)≤((length a0:Nat):Int))) (some ((V.tup [(V.agg [(V.int .i64 4),(V.str [])]),(V.str (drop (Int.toNat (1:Int)) a0)),(V.bool true)]),[])))
 else
 if(((UInt8.toNat (getD a0 (Int.toNat (0:Int)) 0):Nat):Int)==(32:Int))=true then
 chk (decide (0≤(1:Int))) (chk (decide ((1:Int)≤((length a0:Nat):Int))) (some ((V.tup [(V.agg [(V.int .i64 5),(V.str [])]),(V.str (drop (Int.toNat (1:Int)) a0)),(V.bool true)]),[])))
 else
 if(((UInt8.toNat (getD a0 (Int.toNat (0:Int)) 0):Nat):Int)==(34:Int))=true then
 Option.bind (call 91 [(V.str a0)] []) fun z0=>
 some ((V.tup [(V.agg [(V.int .i64 2),(V.str (getS (headD (getT z0.1) V.bot)))]),(V.str (getS (headD (tail (getT z0.1)) V.bot))),(V.bool (getB (headD (tail (tail (getT z0.1))) V.bot)))]),[])
 else
 Option.bind (call 92 [(V.str a0)] []) fun z0=>
 if(getB (headD (tail (tail (getT z0.1))) V.bot))=true then
 some ((V.tup [(V.agg [(V.int .i64 2),(V.str (getS (headD (getT z0.1) V.bot)))]),(V.str (getS (headD (tail (getT z0.1)) V.bot))),(V.bool true)]),[])
 else
 Option.bind (call 93 [(V.str a0)] []) fun z1=>
 chk (decide (0≤(getI z1.1))) (chk (decide ((getI z1.1)≤((length a0:Nat):Int))) (chk (decide (0≤(0:Int))) (chk (decide ((0:Int)≤(getI z1.1))) (chk (decide (0≤(getI z1.1))) (chk (decide ((getI z1.1)≤((length a0:Nat):Int))) (some ((V.tup [(V.agg [(V.int .i64 1),(V.str (drop (Int.toNat (0:Int)) (take (Int.toNat (getI z1.1)) a0)))]),(V.str (drop (Int.toNat (getI z1.1)) a0)),(V.bool (decide ((getI z1.1)>(0:Int))))]),[])))))))))
def A51 (a0:List UInt8):List V:=[V.str a0]
theorem E51 (a0:List UInt8):GO 51 Tryz.f51 (A51 a0) [] call icall again=T51 call a0:=by kernel_rfl
theorem C51 (k:Nat) (a0:List UInt8):aA cfg (k+1) 51 (A51 a0) []=T51 (aA cfg k) a0:=
 (show aA cfg (k+1) 51 (A51 a0) []=GO 51 Tryz.f51 (A51 a0) [] (aA cfg k) (aE cfg (aA cfg k) 20) (RN 51 Tryz.f51 [] (aA cfg k) (aE cfg (aA cfg k) 20) k)by kernel_rfl).trans (E51 _ _ _ a0)
theorem M51 (a0:List UInt8) {r:V×List Ob} (h:Evt (fun k n=>T51 (aA cfg k) a0) r):Ret 51 [V.str a0] [] r:=aK (g:=fun k n=>T51 (aA cfg k) a0) (fun k=>C51 k a0) h
def Cz (call:FuncId→Fun) (ag0:List UInt8→List V→Int→Option (V×List Ob)) (s0:List UInt8) (l1:List V) (i2:Int):Option (V×List Ob):=
 if(decide (i2<((length s0:Nat):Int)))=true then
 chk (decide (0≤i2)) (chk (decide (i2<((length s0:Nat):Int))) (if(((UInt8.toNat (getD s0 (Int.toNat i2) 0):Nat):Int)==(34:Int))=true then
 chk (decide (0≤(IntKind.wrap .i64 (i2+(1:Int))))) (chk (decide ((IntKind.wrap .i64 (i2+(1:Int)))≤((length s0:Nat):Int))) (some ((V.tup [(V.str (bytesOf l1)),(V.str (drop (Int.toNat (IntKind.wrap .i64 (i2+(1:Int)))) s0)),(V.bool true)]),[])))
 else
 if(((UInt8.toNat (getD s0 (Int.toNat i2) 0):Nat):Int)==(92:Int))=true then
 Option.bind (if((IntKind.wrap .i64 (i2+(1:Int)))==((length s0:Nat):Int))=false then
 chk (decide (0≤(IntKind.wrap .i64 (i2+(1:Int))))) (chk (decide ((IntKind.wrap .i64 (i2+(1:Int)))<((length s0:Nat):Int))) (if(((UInt8.toNat (getD s0 (Int.toNat (IntKind.wrap .i64 (i2+(1:Int)))) 0):Nat):Int) != (34:Int))=true then
 chk (decide (0≤(IntKind.wrap .i64 (i2+(1:Int))))) (chk (decide ((IntKind.wrap .i64 (i2+(1:Int)))<((length s0:Nat):Int))) (some (((UInt8.toNat (getD s0 (Int.toNat (IntKind.wrap .i64 (i2+(1:Int)))) 0):Nat):Int) != (92:Int))))
 else
 some false))
 else
 some true) fun y0=>
 if y0=true then
 some ((V.tup [(V.str []),(V.str []),(V.bool false)]),[])
 else
 chk (decide (0≤(IntKind.wrap .i64 (i2+(1:Int))))) (chk (decide ((IntKind.wrap .i64 (i2+(1:Int)))<((length s0:Nat):Int))) (chk (aW l1 [(V.int .u8 ((UInt8.toNat (getD s0 (Int.toNat (IntKind.wrap .i64 (i2+(1:Int)))) 0):Nat):Int))] 2) ((ag0 (s0) ((l1++[(V.int .u8 ((UInt8.toNat (getD s0 (Int.toNat (IntKind.wrap .i64 (i2+(1:Int)))) 0):Nat):Int))])) ((IntKind.wrap .i64 ((IntKind.wrap .i64 (i2+(1:Int)))+(1:Int))))))))
 else
 chk (decide (0≤i2)) (chk (decide (i2<((length s0:Nat):Int))) (chk (aW l1 [(V.int .u8 ((UInt8.toNat (getD s0 (Int.toNat i2) 0):Nat):Int))] 2) ((ag0 (s0) ((l1++[(V.int .u8 ((UInt8.toNat (getD s0 (Int.toNat i2) 0):Nat):Int))])) ((IntKind.wrap .i64 (i2+(1:Int))))))))))
 else
 some ((V.tup [(V.str []),(V.str []),(V.bool false)]),[])
def T91 (call:FuncId→Fun) (ag0:List UInt8→List V→Int→Option (V×List Ob)) (a0:List UInt8):Option (V×List Ob):=
 (ag0 (a0) ([]) ((1:Int)))
def A91 (a0:List UInt8):List V:=[V.str a0]
def CB (s0:List UInt8) (l1:List V) (i2:Int):St:=⟨[(V.str s0),V.bot,V.bot,V.bot,V.bot,(V.lst 5 true l1),(V.int IntKind.i64 i2)]++List.replicate 45 V.bot,[]⟩
theorem RO (s0:List UInt8) (l1:List V) (i2:Int):
 RM 91 Tryz.f91 [] call icall again (aJ Tryz.f91 0) (CB s0 l1 i2)=Cz call (fun s0 l1 i2=>again (aJ Tryz.f91 0) (CB s0 l1 i2)) s0 l1 i2:=by kernel_rfl
theorem E91 (a0:List UInt8):GO 91 Tryz.f91 (A91 a0) [] call icall again=T91 call (fun s0 l1 i2=>again (aJ Tryz.f91 0) (CB s0 l1 i2)) a0:=by kernel_rfl
def L91 (call:FuncId→Fun):Nat→(List UInt8→List V→Int→Option (V×List Ob))
 |0=>fun _ _ _=>none
 |n+1=>Cz call (L91 call n)
theorem R91 (call:FuncId→Fun) (icall:aO (V×List Ob)):∀n,(∀(s0:List UInt8) (l1:List V) (i2:Int),RN 91 Tryz.f91 [] call icall n (aJ Tryz.f91 0) (CB s0 l1 i2)=(L91 call n) s0 l1 i2)
 |0=>fun s0 l1 i2=>rfl
 |n+1=>by
  have ih:=R91 call icall n
  exact fun s0 l1 i2=>(RO call icall (RN 91 Tryz.f91 [] call icall n) s0 l1 i2).trans (by rw[show(fun s0 l1 i2=>RN 91 Tryz.f91 [] call icall n (aJ Tryz.f91 0) (CB s0 l1 i2))=(L91 call n)from(funext fun s0=>funext fun l1=>funext fun i2=>ih s0 l1 i2)];rfl)
theorem C91 (k:Nat) (a0:List UInt8):aA cfg (k+1) 91 (A91 a0) []=T91 (aA cfg k) (L91 (aA cfg k) k) a0:=by
 have ih:=R91 (aA cfg k) (aE cfg (aA cfg k) 20) k
 refine(show aA cfg (k+1) 91 (A91 a0) []=GO 91 Tryz.f91 (A91 a0) [] (aA cfg k) (aE cfg (aA cfg k) 20) (RN 91 Tryz.f91 [] (aA cfg k) (aE cfg (aA cfg k) 20) k)by kernel_rfl).trans ((E91 _ _ _ a0).trans ?_)
 rw[show(fun s0 l1 i2=>RN 91 Tryz.f91 [] (aA cfg k) (aE cfg (aA cfg k) 20) k (aJ Tryz.f91 0) (CB s0 l1 i2))=(L91 (aA cfg k) k)from(funext fun s0=>funext fun l1=>funext fun i2=>ih s0 l1 i2)]
theorem M91 (a0:List UInt8) {r:V×List Ob} (h:Evt (fun k n=>T91 (aA cfg k) (L91 (aA cfg k) n) a0) r):Ret 91 [V.str a0] [] r:=aK (g:=fun k n=>T91 (aA cfg k) (L91 (aA cfg k) n) a0) (fun k=>C91 k a0) h
theorem N2 (s0:List UInt8) (l1:List V) (i2:Int) {r:V×List Ob} (h:Evt (fun k n=>Cz (aA cfg k) (L91 (aA cfg k) n) s0 l1 i2) r):Evt (fun k n=>(L91 (aA cfg k) n) s0 l1 i2) r:=aY (fun k n=>rfl) h
def T92 (call:FuncId→Fun) (a0:List UInt8):Option (V×List Ob):=
 Option.bind (call 125 [(V.str a0)] []) fun z0=>
 if((getI (headD (getT z0.1) V.bot))==(0:Int))=true then
 some ((V.tup [(V.str []),(V.str []),(V.bool false)]),[])
 else
 chk (decide (0≤(getI (headD (getT z0.1) V.bot)))) (chk (decide ((getI (headD (getT z0.1) V.bot))≤((length a0:Nat):Int))) (Option.bind (call 126 [(V.str (drop (Int.toNat (getI (headD (getT z0.1) V.bot))) a0)),(V.str [13,10])] []) fun z1=>
 Option.bind (if(!(getB (headD (tail (getT z1.1)) V.bot)))=false then
 some (decide (((length (getS (headD (getT z1.1) V.bot)):Nat):Int)<(getI (headD (tail (getT z0.1)) V.bot))))
 else
 some true) fun y2=>
 if y2=true then
 some ((V.tup [(V.str []),(V.str []),(V.bool false)]),[])
 else
 chk (decide (0≤(getI (headD (tail (getT z0.1)) V.bot)))) (chk (decide ((getI (headD (tail (getT z0.1)) V.bot))≤((length (getS (headD (getT z1.1) V.bot)):Nat):Int))) (chk (decide (0≤(0:Int))) (chk (decide ((0:Int)≤(getI (headD (tail (getT z0.1)) V.bot)))) (chk (decide (0≤(getI (headD (tail (getT z0.1)) V.bot)))) (chk (decide ((getI (headD (tail (getT z0.1)) V.bot))≤((length (getS (headD (getT z1.1) V.bot)):Nat):Int))) (some ((V.tup [(V.str (drop (Int.toNat (0:Int)) (take (Int.toNat (getI (headD (tail (getT z0.1)) V.bot))) (getS (headD (getT z1.1) V.bot))))),(V.str (drop (Int.toNat (getI (headD (tail (getT z0.1)) V.bot))) (getS (headD (getT z1.1) V.bot)))),(V.bool true)]),[])))))))))
def A92 (a0:List UInt8):List V:=[V.str a0]
theorem E92 (a0:List UInt8):GO 92 Tryz.f92 (A92 a0) [] call icall again=T92 call a0:=by kernel_rfl
theorem C92 (k:Nat) (a0:List UInt8):aA cfg (k+1) 92 (A92 a0) []=T92 (aA cfg k) a0:=
 (show aA cfg (k+1) 92 (A92 a0) []=GO 92 Tryz.f92 (A92 a0) [] (aA cfg k) (aE cfg (aA cfg k) 20) (RN 92 Tryz.f92 [] (aA cfg k) (aE cfg (aA cfg k) 20) k)by kernel_rfl).trans (E92 _ _ _ a0)
theorem M92 (a0:List UInt8) {r:V×List Ob} (h:Evt (fun k n=>T92 (aA cfg k) a0) r):Ret 92 [V.str a0] [] r:=aK (g:=fun k n=>T92 (aA cfg k) a0) (fun k=>C92 k a0) h
def Ij (call:FuncId→Fun) (a0:List UInt8):Option (V×List Ob):=
 Option.bind (call 147 [(V.str a0),(V.str [126])] []) fun z0=>
 Option.bind (if(sEq (getS z0.1) [])=false then
 chk (decide (0≤(0:Int))) (chk (decide ((0:Int)<((length (getS z0.1):Nat):Int))) (some (((UInt8.toNat (getD (getS z0.1) (Int.toNat (0:Int)) 0):Nat):Int) != (123:Int))))
 else
 some true) fun y1=>
 if y1=true then
 some ((V.tup [(V.int .i64 0),(V.int .i64 0),(V.bool false)]),[])
 else
 Option.bind (call 89 [(V.str (getS z0.1)),(V.int .u8 125)] []) fun z2=>
 if(decide ((getI z2.1)<(0:Int)))=true then
 some ((V.tup [(V.int .i64 0),(V.int .i64 0),(V.bool false)]),[])
 else
 chk (decide (0≤(getI z2.1))) (chk (decide ((getI z2.1)≤((length (getS z0.1):Nat):Int))) (chk (decide (0≤(1:Int))) (chk (decide ((1:Int)≤(getI z2.1))) (Option.bind (call 148 [(V.str (drop (Int.toNat (1:Int)) (take (Int.toNat (getI z2.1)) (getS z0.1)))),(V.str [43])] []) fun z3=>
 Option.bind (call 149 [(V.str (getS (headD (getT z3.1) V.bot)))] []) fun z4=>
 if(!(getB (headD (tail (getT z4.1)) V.bot)))=true then
 some ((V.tup [(V.int .i64 0),(V.int .i64 0),(V.bool false)]),[])
 else
 some ((V.tup [(V.int .i64 (IntKind.wrap .i64 ((IntKind.wrap .i64 ((IntKind.wrap .i64 (((length a0:Nat):Int) - ((length (getS z0.1):Nat):Int)))+(getI z2.1)))+(1:Int)))),(V.int .i64 (getI (headD (getT z4.1) V.bot))),(V.bool (!(getB (headD (tail (getT z3.1)) V.bot))))]),[])))))
def ML (a0:List UInt8):List V:=[V.str a0]
theorem Uw (a0:List UInt8):GO 125 Tryz.f125 (ML a0) [] call icall again=Ij call a0:=by kernel_rfl
theorem Ux (k:Nat) (a0:List UInt8):aA cfg (k+1) 125 (ML a0) []=Ij (aA cfg k) a0:=
 (show aA cfg (k+1) 125 (ML a0) []=GO 125 Tryz.f125 (ML a0) [] (aA cfg k) (aE cfg (aA cfg k) 20) (RN 125 Tryz.f125 [] (aA cfg k) (aE cfg (aA cfg k) 20) k)by kernel_rfl).trans (Uw _ _ _ a0)
theorem RP (a0:List UInt8) {r:V×List Ob} (h:Evt (fun k n=>Ij (aA cfg k) a0) r):Ret 125 [V.str a0] [] r:=aK (g:=fun k n=>Ij (aA cfg k) a0) (fun k=>Ux k a0) h
def CC (call:FuncId→Fun) (ag0:List UInt8→Int→Option (V×List Ob)) (s0:List UInt8) (i1:Int):Option (V×List Ob):=
 if(decide (i1<((length s0:Nat):Int)))=true then
 chk (decide (0≤i1)) (chk (decide (i1<((length s0:Nat):Int))) (Option.bind (if(decide (((UInt8.toNat (getD s0 (Int.toNat i1) 0):Nat):Int)≤(32:Int)))=false then
 if(decide (((UInt8.toNat (getD s0 (Int.toNat i1) 0):Nat):Int)≥(127:Int)))=false then
 if(((UInt8.toNat (getD s0 (Int.toNat i1) 0):Nat):Int)==(40:Int))=false then
 if(((UInt8.toNat (getD s0 (Int.toNat i1) 0):Nat):Int)==(41:Int))=false then
 some (((UInt8.toNat (getD s0 (Int.toNat i1) 0):Nat):Int)==(34:Int))
 else
 some true
 else
 some true
 else
 some true
 else
 some true) fun y0=>
 if y0=true then
 some ((V.int .i64 i1),[])
 else
 Option.bind (if(((UInt8.toNat (getD s0 (Int.toNat i1) 0):Nat):Int)==(123:Int))=false then
 some (((UInt8.toNat (getD s0 (Int.toNat i1) 0):Nat):Int)==(126:Int))
 else
 some true) fun y1=>
 if y1=true then
 chk (decide (0≤i1)) (chk (decide (i1≤((length s0:Nat):Int))) (Option.bind (call 92 [(V.str (drop (Int.toNat i1) s0))] []) fun z2=>
 if(getB (headD (tail (tail (getT z2.1))) V.bot))=true then
 some ((V.int .i64 i1),[])
 else
 (ag0 (s0) ((IntKind.wrap .i64 (i1+(1:Int)))))))
 else
 if(((UInt8.toNat (getD s0 (Int.toNat i1) 0):Nat):Int)==(91:Int))=true then
 chk (decide (0≤i1)) (chk (decide (i1≤((length s0:Nat):Int))) (Option.bind (call 127 [(V.str (drop (Int.toNat i1) s0))] []) fun z2=>
 if((getI z2.1)==(0:Int))=true then
 some ((V.int .i64 0),[])
 else
 (ag0 (s0) ((IntKind.wrap .i64 (i1+(getI z2.1)))))))
 else
 (ag0 (s0) ((IntKind.wrap .i64 (i1+(1:Int)))))))
 else
 some ((V.int .i64 i1),[])
def T93 (call:FuncId→Fun) (ag0:List UInt8→Int→Option (V×List Ob)) (a0:List UInt8):Option (V×List Ob):=
 (ag0 (a0) ((0:Int)))
def A93 (a0:List UInt8):List V:=[V.str a0]
def CE (s0:List UInt8) (i1:Int):St:=⟨[(V.str s0),V.bot,V.bot,(V.int IntKind.i64 i1)]++List.replicate 64 V.bot,[]⟩
theorem RQ (s0:List UInt8) (i1:Int):
 RM 93 Tryz.f93 [] call icall again (aJ Tryz.f93 0) (CE s0 i1)=CC call (fun s0 i1=>again (aJ Tryz.f93 0) (CE s0 i1)) s0 i1:=by kernel_rfl
theorem E93 (a0:List UInt8):GO 93 Tryz.f93 (A93 a0) [] call icall again=T93 call (fun s0 i1=>again (aJ Tryz.f93 0) (CE s0 i1)) a0:=by kernel_rfl
def L93 (call:FuncId→Fun):Nat→(List UInt8→Int→Option (V×List Ob))
 |0=>fun _ _=>none
 |n+1=>CC call (L93 call n)
theorem R93 (call:FuncId→Fun) (icall:aO (V×List Ob)):∀n,(∀(s0:List UInt8) (i1:Int),RN 93 Tryz.f93 [] call icall n (aJ Tryz.f93 0) (CE s0 i1)=(L93 call n) s0 i1)
 |0=>fun s0 i1=>rfl
 |n+1=>by
  have ih:=R93 call icall n
  exact fun s0 i1=>(RQ call icall (RN 93 Tryz.f93 [] call icall n) s0 i1).trans (by rw[show(fun s0 i1=>RN 93 Tryz.f93 [] call icall n (aJ Tryz.f93 0) (CE s0 i1))=(L93 call n)from(funext fun s0=>funext fun i1=>ih s0 i1)];rfl)
theorem C93 (k:Nat) (a0:List UInt8):aA cfg (k+1) 93 (A93 a0) []=T93 (aA cfg k) (L93 (aA cfg k) k) a0:=by
 have ih:=R93 (aA cfg k) (aE cfg (aA cfg k) 20) k
 refine(show aA cfg (k+1) 93 (A93 a0) []=GO 93 Tryz.f93 (A93 a0) [] (aA cfg k) (aE cfg (aA cfg k) 20) (RN 93 Tryz.f93 [] (aA cfg k) (aE cfg (aA cfg k) 20) k)by kernel_rfl).trans ((E93 _ _ _ a0).trans ?_)
 rw[show(fun s0 i1=>RN 93 Tryz.f93 [] (aA cfg k) (aE cfg (aA cfg k) 20) k (aJ Tryz.f93 0) (CE s0 i1))=(L93 (aA cfg k) k)from(funext fun s0=>funext fun i1=>ih s0 i1)]
theorem M93 (a0:List UInt8) {r:V×List Ob} (h:Evt (fun k n=>T93 (aA cfg k) (L93 (aA cfg k) n) a0) r):Ret 93 [V.str a0] [] r:=aK (g:=fun k n=>T93 (aA cfg k) (L93 (aA cfg k) n) a0) (fun k=>C93 k a0) h
theorem N3 (s0:List UInt8) (i1:Int) {r:V×List Ob} (h:Evt (fun k n=>CC (aA cfg k) (L93 (aA cfg k) n) s0 i1) r):Evt (fun k n=>(L93 (aA cfg k) n) s0 i1) r:=aY (fun k n=>rfl) h
def Ik (call:FuncId→Fun) (a0:List UInt8) (a1:List UInt8):Option (V×List Ob):=
 Option.bind (call 165 [(V.str a0),(V.str a1)] []) fun z0=>
 if(getB z0.1)=true then
 chk (decide (0≤((length a1:Nat):Int))) (chk (decide (((length a1:Nat):Int)≤((length a0:Nat):Int))) (some ((V.str (drop (Int.toNat ((length a1:Nat):Int)) a0)),[])))
 else
 some ((V.str a0),[])
def MM (a0:List UInt8) (a1:List UInt8):List V:=[V.str a0,V.str a1]
theorem Uy (a0:List UInt8) (a1:List UInt8):GO 163 Tryz.f163 (MM a0 a1) [] call icall again=Ik call a0 a1:=by kernel_rfl
theorem Uz (k:Nat) (a0:List UInt8) (a1:List UInt8):aA cfg (k+1) 163 (MM a0 a1) []=Ik (aA cfg k) a0 a1:=
 (show aA cfg (k+1) 163 (MM a0 a1) []=GO 163 Tryz.f163 (MM a0 a1) [] (aA cfg k) (aE cfg (aA cfg k) 20) (RN 163 Tryz.f163 [] (aA cfg k) (aE cfg (aA cfg k) 20) k)by kernel_rfl).trans (Uy _ _ _ a0 a1)
theorem RR (a0:List UInt8) (a1:List UInt8) {r:V×List Ob} (h:Evt (fun k n=>Ik (aA cfg k) a0 a1) r):Ret 163 [V.str a0,V.str a1] [] r:=aK (g:=fun k n=>Ik (aA cfg k) a0 a1) (fun k=>Uz k a0 a1) h
def Il (call:FuncId→Fun) (a0:List UInt8) (a1:List UInt8):Option (V×List Ob):=
 Option.bind (call 163 [(V.str a0),(V.str a1)] []) fun z0=>
 some ((V.str (getS z0.1)),[])
def MN (a0:List UInt8) (a1:List UInt8):List V:=[V.str a0,V.str a1]
theorem UA (a0:List UInt8) (a1:List UInt8):GO 147 Tryz.f147 (MN a0 a1) [] call icall again=Il call a0 a1:=by kernel_rfl
theorem UB (k:Nat) (a0:List UInt8) (a1:List UInt8):aA cfg (k+1) 147 (MN a0 a1) []=Il (aA cfg k) a0 a1:=
 (show aA cfg (k+1) 147 (MN a0 a1) []=GO 147 Tryz.f147 (MN a0 a1) [] (aA cfg k) (aE cfg (aA cfg k) 20) (RN 147 Tryz.f147 [] (aA cfg k) (aE cfg (aA cfg k) 20) k)by kernel_rfl).trans (UA _ _ _ a0 a1)
theorem RS (a0:List UInt8) (a1:List UInt8) {r:V×List Ob} (h:Evt (fun k n=>Il (aA cfg k) a0 a1) r):Ret 147 [V.str a0,V.str a1] [] r:=aK (g:=fun k n=>Il (aA cfg k) a0 a1) (fun k=>UB k a0 a1) h
def KB (call:FuncId→Fun) (a0:List UInt8) (a1:List UInt8):Option (V×List Ob):=
 Option.bind (call 164 [(V.str a0),(V.str a1)] []) fun z0=>
 some ((V.tup [(V.str (getS (headD (getT z0.1) V.bot))),(V.bool (getB (headD (tail (getT z0.1)) V.bot)))]),[])
def MO (a0:List UInt8) (a1:List UInt8):List V:=[V.str a0,V.str a1]
theorem UC (a0:List UInt8) (a1:List UInt8):GO 148 Tryz.f148 (MO a0 a1) [] call icall again=KB call a0 a1:=by kernel_rfl
theorem UD (k:Nat) (a0:List UInt8) (a1:List UInt8):aA cfg (k+1) 148 (MO a0 a1) []=KB (aA cfg k) a0 a1:=
 (show aA cfg (k+1) 148 (MO a0 a1) []=GO 148 Tryz.f148 (MO a0 a1) [] (aA cfg k) (aE cfg (aA cfg k) 20) (RN 148 Tryz.f148 [] (aA cfg k) (aE cfg (aA cfg k) 20) k)by kernel_rfl).trans (UC _ _ _ a0 a1)
theorem UE (a0:List UInt8) (a1:List UInt8) {r:V×List Ob} (h:Evt (fun k n=>KB (aA cfg k) a0 a1) r):Ret 148 [V.str a0,V.str a1] [] r:=aK (g:=fun k n=>KB (aA cfg k) a0 a1) (fun k=>UD k a0 a1) h
def KC (call:FuncId→Fun) (a0:List UInt8) (a1:List UInt8):Option (V×List Ob):=
 Option.bind (call 171 [(V.str a0),(V.str a1)] []) fun z0=>
 if(!(getB z0.1))=true then
 some ((V.tup [(V.str a0),(V.bool false)]),[])
 else
 chk (decide (0≤(IntKind.wrap .i64 (((length a0:Nat):Int) - ((length a1:Nat):Int))))) (chk (decide ((IntKind.wrap .i64 (((length a0:Nat):Int) - ((length a1:Nat):Int)))≤((length a0:Nat):Int))) (chk (decide (0≤(0:Int))) (chk (decide ((0:Int)≤(IntKind.wrap .i64 (((length a0:Nat):Int) - ((length a1:Nat):Int))))) (some ((V.tup [(V.str (drop (Int.toNat (0:Int)) (take (Int.toNat (IntKind.wrap .i64 (((length a0:Nat):Int) - ((length a1:Nat):Int)))) a0))),(V.bool true)]),[])))))
def MP (a0:List UInt8) (a1:List UInt8):List V:=[V.str a0,V.str a1]
theorem UF (a0:List UInt8) (a1:List UInt8):GO 164 Tryz.f164 (MP a0 a1) [] call icall again=KC call a0 a1:=by kernel_rfl
theorem UG (k:Nat) (a0:List UInt8) (a1:List UInt8):aA cfg (k+1) 164 (MP a0 a1) []=KC (aA cfg k) a0 a1:=
 (show aA cfg (k+1) 164 (MP a0 a1) []=GO 164 Tryz.f164 (MP a0 a1) [] (aA cfg k) (aE cfg (aA cfg k) 20) (RN 164 Tryz.f164 [] (aA cfg k) (aE cfg (aA cfg k) 20) k)by kernel_rfl).trans (UF _ _ _ a0 a1)
theorem UH (a0:List UInt8) (a1:List UInt8) {r:V×List Ob} (h:Evt (fun k n=>KC (aA cfg k) a0 a1) r):Ret 164 [V.str a0,V.str a1] [] r:=aK (g:=fun k n=>KC (aA cfg k) a0 a1) (fun k=>UG k a0 a1) h
def KD (call:FuncId→Fun) (a0:List UInt8) (a1:List UInt8):Option (V×List Ob):=
 Option.bind (call 150 [(V.str a0),(V.str a1)] []) fun z0=>
 some ((V.tup [(V.str (getS (headD (getT z0.1) V.bot))),(V.bool (getB (headD (tail (getT z0.1)) V.bot)))]),[])
def MQ (a0:List UInt8) (a1:List UInt8):List V:=[V.str a0,V.str a1]
theorem UI (a0:List UInt8) (a1:List UInt8):GO 126 Tryz.f126 (MQ a0 a1) [] call icall again=KD call a0 a1:=by kernel_rfl
theorem UJ (k:Nat) (a0:List UInt8) (a1:List UInt8):aA cfg (k+1) 126 (MQ a0 a1) []=KD (aA cfg k) a0 a1:=
 (show aA cfg (k+1) 126 (MQ a0 a1) []=GO 126 Tryz.f126 (MQ a0 a1) [] (aA cfg k) (aE cfg (aA cfg k) 20) (RN 126 Tryz.f126 [] (aA cfg k) (aE cfg (aA cfg k) 20) k)by kernel_rfl).trans (UI _ _ _ a0 a1)
theorem UK (a0:List UInt8) (a1:List UInt8) {r:V×List Ob} (h:Evt (fun k n=>KD (aA cfg k) a0 a1) r):Ret 126 [V.str a0,V.str a1] [] r:=aK (g:=fun k n=>KD (aA cfg k) a0 a1) (fun k=>UJ k a0 a1) h
def KE (call:FuncId→Fun) (a0:List UInt8) (a1:List UInt8):Option (V×List Ob):=
 Option.bind (call 165 [(V.str a0),(V.str a1)] []) fun z0=>
 if(!(getB z0.1))=true then
 some ((V.tup [(V.str a0),(V.bool false)]),[])
 else
 chk (decide (0≤((length a1:Nat):Int))) (chk (decide (((length a1:Nat):Int)≤((length a0:Nat):Int))) (some ((V.tup [(V.str (drop (Int.toNat ((length a1:Nat):Int)) a0)),(V.bool true)]),[])))
def MR (a0:List UInt8) (a1:List UInt8):List V:=[V.str a0,V.str a1]
theorem UL (a0:List UInt8) (a1:List UInt8):GO 150 Tryz.f150 (MR a0 a1) [] call icall again=KE call a0 a1:=by kernel_rfl
theorem UM (k:Nat) (a0:List UInt8) (a1:List UInt8):aA cfg (k+1) 150 (MR a0 a1) []=KE (aA cfg k) a0 a1:=
 (show aA cfg (k+1) 150 (MR a0 a1) []=GO 150 Tryz.f150 (MR a0 a1) [] (aA cfg k) (aE cfg (aA cfg k) 20) (RN 150 Tryz.f150 [] (aA cfg k) (aE cfg (aA cfg k) 20) k)by kernel_rfl).trans (UL _ _ _ a0 a1)
theorem UN (a0:List UInt8) (a1:List UInt8) {r:V×List Ob} (h:Evt (fun k n=>KE (aA cfg k) a0 a1) r):Ret 150 [V.str a0,V.str a1] [] r:=aK (g:=fun k n=>KE (aA cfg k) a0 a1) (fun k=>UM k a0 a1) h
def KF (call:FuncId→Fun) (a0:List UInt8) (a1:List UInt8):Option (V×List Ob):=
 Option.bind (if(decide (((length a0:Nat):Int)≥((length a1:Nat):Int)))=true then
 chk (decide (0≤((length a1:Nat):Int))) (chk (decide (((length a1:Nat):Int)≤((length a0:Nat):Int))) (chk (decide (0≤(0:Int))) (chk (decide ((0:Int)≤((length a1:Nat):Int))) (some (sEq (drop (Int.toNat (0:Int)) (take (Int.toNat ((length a1:Nat):Int)) a0)) a1)))))
 else
 some false) fun y0=>
 some ((V.bool y0),[])
def MS (a0:List UInt8) (a1:List UInt8):List V:=[V.str a0,V.str a1]
theorem UO (a0:List UInt8) (a1:List UInt8):GO 165 Tryz.f165 (MS a0 a1) [] call icall again=KF call a0 a1:=by kernel_rfl
theorem UP (k:Nat) (a0:List UInt8) (a1:List UInt8):aA cfg (k+1) 165 (MS a0 a1) []=KF (aA cfg k) a0 a1:=
 (show aA cfg (k+1) 165 (MS a0 a1) []=GO 165 Tryz.f165 (MS a0 a1) [] (aA cfg k) (aE cfg (aA cfg k) 20) (RN 165 Tryz.f165 [] (aA cfg k) (aE cfg (aA cfg k) 20) k)by kernel_rfl).trans (UO _ _ _ a0 a1)
theorem UQ (a0:List UInt8) (a1:List UInt8) {r:V×List Ob} (h:Evt (fun k n=>KF (aA cfg k) a0 a1) r):Ret 165 [V.str a0,V.str a1] [] r:=aK (g:=fun k n=>KF (aA cfg k) a0 a1) (fun k=>UP k a0 a1) h
def KG (call:FuncId→Fun) (a0:List UInt8) (a1:List UInt8):Option (V×List Ob):=
 Option.bind (if(decide (((length a0:Nat):Int)≥((length a1:Nat):Int)))=true then
 chk (decide (0≤(IntKind.wrap .i64 (((length a0:Nat):Int) - ((length a1:Nat):Int))))) (chk (decide ((IntKind.wrap .i64 (((length a0:Nat):Int) - ((length a1:Nat):Int)))≤((length a0:Nat):Int))) (some (sEq (drop (Int.toNat (IntKind.wrap .i64 (((length a0:Nat):Int) - ((length a1:Nat):Int)))) a0) a1)))
 else
 some false) fun y0=>
 some ((V.bool y0),[])
def MU (a0:List UInt8) (a1:List UInt8):List V:=[V.str a0,V.str a1]
theorem UR (a0:List UInt8) (a1:List UInt8):GO 171 Tryz.f171 (MU a0 a1) [] call icall again=KG call a0 a1:=by kernel_rfl
theorem US (k:Nat) (a0:List UInt8) (a1:List UInt8):aA cfg (k+1) 171 (MU a0 a1) []=KG (aA cfg k) a0 a1:=
 (show aA cfg (k+1) 171 (MU a0 a1) []=GO 171 Tryz.f171 (MU a0 a1) [] (aA cfg k) (aE cfg (aA cfg k) 20) (RN 171 Tryz.f171 [] (aA cfg k) (aE cfg (aA cfg k) 20) k)by kernel_rfl).trans (UR _ _ _ a0 a1)
theorem UT (a0:List UInt8) (a1:List UInt8) {r:V×List Ob} (h:Evt (fun k n=>KG (aA cfg k) a0 a1) r):Ret 171 [V.str a0,V.str a1] [] r:=aK (g:=fun k n=>KG (aA cfg k) a0 a1) (fun k=>US k a0 a1) h
def A0 (call:FuncId→Fun) (ag0:List UInt8→Int→Int→Int→Option (V×List Ob)) (s0:List UInt8) (i1:Int) (i2:Int) (i3:Int):Option (V×List Ob):=
 if(decide (i3<i2))=true then
 Option.bind (chk (decide (0≤i3)) (chk (decide (i3<((length s0:Nat):Int))) (if(decide (((UInt8.toNat (getD s0 (Int.toNat i3) 0):Nat):Int)<(48:Int)))=false then
 chk (decide (0≤i3)) (chk (decide (i3<((length s0:Nat):Int))) (some (decide (((UInt8.toNat (getD s0 (Int.toNat i3) 0):Nat):Int)>(57:Int)))))
 else
 some true))) fun y0=>
 if y0=true then
 some ((V.tup [(V.int .i64 0),(V.bool false)]),[])
 else
 chk (decide (0≤i3)) (chk (decide (i3<((length s0:Nat):Int))) ((ag0 (s0) ((IntKind.wrap .i64 ((IntKind.wrap .i64 ((10:Int)*i1))+(IntKind.wrap .i64 (IntKind.wrap .u8 (((UInt8.toNat (getD s0 (Int.toNat i3) 0):Nat):Int) - (48:Int))))))) (i2) ((IntKind.wrap .i64 (i3+(1:Int)))))))
 else
 if(decide (i1>(4294967295:Int)))=true then
 some ((V.tup [(V.int .i64 0),(V.bool false)]),[])
 else
 some ((V.tup [(V.int .i64 i1),(V.bool true)]),[])
def KH (call:FuncId→Fun) (ag0:List UInt8→Int→Int→Int→Option (V×List Ob)) (a0:List UInt8):Option (V×List Ob):=
 Option.bind (if(decide (((length a0:Nat):Int)<(1:Int)))=false then
 if(decide (((length a0:Nat):Int)>(10:Int)))=false then
 if(decide (((length a0:Nat):Int)>(1:Int)))=true then
 chk (decide (0≤(0:Int))) (chk (decide ((0:Int)<((length a0:Nat):Int))) (some (((UInt8.toNat (getD a0 (Int.toNat (0:Int)) 0):Nat):Int)==(48:Int))))
 else
 some false
 else
 some true
 else
 some true) fun y0=>
 if y0=true then
 some ((V.tup [(V.int .i64 0),(V.bool false)]),[])
 else
 (ag0 (a0) ((0:Int)) (((length a0:Nat):Int)) ((0:Int)))
def MV (a0:List UInt8):List V:=[V.str a0]
def wU (s0:List UInt8) (i1:Int) (i2:Int) (i3:Int):St:=⟨[(V.str s0),V.bot,V.bot,V.bot,(V.int IntKind.i64 i1),V.bot,V.bot,V.bot,V.bot,V.bot,V.bot,V.bot,V.bot,V.bot,V.bot,V.bot,V.bot,V.bot,V.bot,V.bot,V.bot,V.bot,V.bot,V.bot,V.bot,(V.int IntKind.i64 i2),(V.int IntKind.i64 i3)]++List.replicate 24 V.bot,[]⟩
theorem PC (s0:List UInt8) (i1:Int) (i2:Int) (i3:Int):
 RM 149 Tryz.f149 [] call icall again (aJ Tryz.f149 0) (wU s0 i1 i2 i3)=A0 call (fun s0 i1 i2 i3=>again (aJ Tryz.f149 0) (wU s0 i1 i2 i3)) s0 i1 i2 i3:=by kernel_rfl
theorem UU (a0:List UInt8):GO 149 Tryz.f149 (MV a0) [] call icall again=KH call (fun s0 i1 i2 i3=>again (aJ Tryz.f149 0) (wU s0 i1 i2 i3)) a0:=by kernel_rfl
def Bu (call:FuncId→Fun):Nat→(List UInt8→Int→Int→Int→Option (V×List Ob))
 |0=>fun _ _ _ _=>none
 |n+1=>A0 call (Bu call n)
theorem RU (call:FuncId→Fun) (icall:aO (V×List Ob)):∀n,(∀(s0:List UInt8) (i1:Int) (i2:Int) (i3:Int),RN 149 Tryz.f149 [] call icall n (aJ Tryz.f149 0) (wU s0 i1 i2 i3)=(Bu call n) s0 i1 i2 i3)
 |0=>fun s0 i1 i2 i3=>rfl
 |n+1=>by
  have ih:=RU call icall n
  exact fun s0 i1 i2 i3=>(PC call icall (RN 149 Tryz.f149 [] call icall n) s0 i1 i2 i3).trans (by rw[show(fun s0 i1 i2 i3=>RN 149 Tryz.f149 [] call icall n (aJ Tryz.f149 0) (wU s0 i1 i2 i3))=(Bu call n)from(funext fun s0=>funext fun i1=>funext fun i2=>funext fun i3=>ih s0 i1 i2 i3)];rfl)
theorem UV (k:Nat) (a0:List UInt8):aA cfg (k+1) 149 (MV a0) []=KH (aA cfg k) (Bu (aA cfg k) k) a0:=by
 have ih:=RU (aA cfg k) (aE cfg (aA cfg k) 20) k
 refine(show aA cfg (k+1) 149 (MV a0) []=GO 149 Tryz.f149 (MV a0) [] (aA cfg k) (aE cfg (aA cfg k) 20) (RN 149 Tryz.f149 [] (aA cfg k) (aE cfg (aA cfg k) 20) k)by kernel_rfl).trans ((UU _ _ _ a0).trans ?_)
 rw[show(fun s0 i1 i2 i3=>RN 149 Tryz.f149 [] (aA cfg k) (aE cfg (aA cfg k) 20) k (aJ Tryz.f149 0) (wU s0 i1 i2 i3))=(Bu (aA cfg k) k)from(funext fun s0=>funext fun i1=>funext fun i2=>funext fun i3=>ih s0 i1 i2 i3)]
theorem UW (a0:List UInt8) {r:V×List Ob} (h:Evt (fun k n=>KH (aA cfg k) (Bu (aA cfg k) n) a0) r):Ret 149 [V.str a0] [] r:=aK (g:=fun k n=>KH (aA cfg k) (Bu (aA cfg k) n) a0) (fun k=>UV k a0) h
theorem KI (s0:List UInt8) (i1:Int) (i2:Int) (i3:Int) {r:V×List Ob} (h:Evt (fun k n=>A0 (aA cfg k) (Bu (aA cfg k) n) s0 i1 i2 i3) r):Evt (fun k n=>(Bu (aA cfg k) n) s0 i1 i2 i3) r:=aY (fun k n=>rfl) h
end Go.Proofs.YtdoaoaicdimbeaaGreatDoor
end
section
namespace Go.Proofs.YtdoaoaicdimbeaaGreatDoor
open Go.Ev Go
abbrev Tkn:=Nat×Bs
def tkV (t:Tkn):V:= .agg [.int .i64 (t.1:Nat), .str t.2]
inductive Sq:Nat→List Tkn→Prop
 |nil:Sq 0 []
 |leaf {k:Nat} {ts:List Tkn} (n:Nat) (s:Bs) (h:n=1∨n=2) (hs:Sq k ts):Sq (k+1) ((n,s)::ts)
 |space {k:Nat} {ts:List Tkn} (hs:Sq k ts):Sq k ((5,[])::ts)
 |grp {a k:Nat} {us ts:List Tkn} (hu:Sq a us) (hs:Sq k ts):Sq (k+1) ((3,[])::(us++(4,[])::ts))
theorem PD {a b:Nat} {us ts:List Tkn} (h:Sq a us) (ht:Sq b ts):Sq (a+b) (us++ts):=by
 induction h with
 |nil=>simpa using ht
 |leaf n s hn _ ih=>rw[Nat.add_right_comm];exact .leaf n s hn ih
 |space _ ih=>exact .space ih
 |grp hu _ _ ih=>
  rw[Nat.add_right_comm,List.cons_append,List.append_assoc]
  exact .grp hu ih
def dn (d n:Nat):Option Nat:=if n=3 then some (d+1)else if n=4 then(if d=0 then none else some (d - 1))else some d
def run:Nat→Nat→List Tkn→Option (Nat×Nat)
 |d,p,[]=>some (d,p)
 |d,p,t::ts=>match dn d t.1 with
  |none=>none
  |some e=>if e=0∧ts≠[]then none else run e (p+if d=1∧(t.1=1∨t.1=2∨t.1=3)then 1 else 0) ts
theorem PE {k:Nat} {us:List Tkn} (h:Sq k us):∀(d p:Nat) (ts:List Tkn),run (d+1) p (us++ts)=run (d+1) (p+if d=0 then k else 0) ts:=by
 induction h with
 |nil=>intro d p ts;simp
 |leaf n s hn _ ih=>
  intro d p ts
  have e:dn (d+1) n=some (d+1):=by rcases hn with rfl|rfl<;>rfl
  have hn3:n=1∨n=2∨n=3:=by omega
  rw[List.cons_append,run]
  simp only[e]
  rw[if_neg (by omega),ih]
  by_cases hd:d=0<;>simp[hd,hn3]<;>congr 1<;>omega
 |space _ ih=>
  intro d p ts
  have e:dn (d+1) 5=some (d+1):=rfl
  rw[List.cons_append,run]
  simp only[e]
  rw[if_neg (by omega),ih]
  simp
 |grp hu _ ihu ih=>
  intro d p ts
  have e:dn (d+1) 3=some (d+1+1):=rfl
  have e4:dn (d+1+1) 4=some (d+1):=rfl
  rw[List.cons_append,run]
  simp only[e]
  rw[if_neg (by omega),List.append_assoc,ihu,List.cons_append,run]
  simp only[e4]
  rw[if_neg (by omega),ih]
  by_cases hd:d=0<;>simp[hd]<;>congr 1<;>omega
theorem MW {k:Nat} {us:List Tkn} (h:Sq k us):run 0 0 ((3,[])::(us++[(4,[])]))=some (0,k):=by
 have e:dn 0 3=some (0+1):=rfl
 have e4:dn (0+1) 4=some 0:=rfl
 rw[run]
 simp only[e]
 rw[if_neg (by omega),PE h,run]
 simp only[e4]
 rw[if_neg (by simp),run]
 simp
def wV (s:Bs) (t:Tkn) (r:Bs):Prop:=Ret 51 [.str s] [] (.tup [tkV t, .str r, .bool true],[])
inductive Tks:Bs→List Tkn→Prop
 |nil:Tks [] []
 |cons {s r:Bs} {t:Tkn} {ts:List Tkn} (h0:s≠[]) (h:wV s t r) (hr:Tks r ts):Tks s (t::ts)
def Dl (r:Bs):Prop:=r=[]∨∃c q,r=c::q∧(c=32∨c=40∨c=41)
theorem KJ {c:UInt8} (q:Bs) (h:c=32∨c=40∨c=41):Dl (c::q):=Or.inr ⟨c,q,rfl,h⟩
def Lex (x:Bs) (ts:List Tkn):Prop:=∀(r:Bs) (us:List Tkn),Dl r→x.length+r.length≤100000000000000→Tks r us→Tks (x++r) (ts++us)
theorem MX:Lex [] []:=fun _ _ _ _ h=>h
theorem MY {x y:Bs} {ts us:List Tkn} (hx:Lex x ts) (hy:Lex y us) (hd:∀r,Dl r→Dl (y++r)):Lex (x++y) (ts++us):=by
 intro r vs hr hl h
 rw[List.length_append]at hl
 rw[List.append_assoc,List.append_assoc]
 exact hx _ _ (hd r hr) (by rw[List.length_append];omega) (hy r vs hr (by omega) h)
theorem yG {x:Bs} {t:Tkn} (h0:x≠[]) (h:∀r,Dl r→x.length+r.length≤100000000000000→wV (x++r) t r):Lex x [t]:=
 fun r _ hr hl hs=> .cons (by simp[h0]) (h r hr hl) hs
theorem nK (c:UInt8) (n:Nat) (h:(c=40∧n=3)∨(c=41∧n=4)∨(c=32∧n=5)) (r:Bs):wV (c::r) (n,[]) r:=by
 refine M51 (c::r) ?_
 have h1:((0:Int)<((List.length (c::r):Nat):Int)):=by rw[List.length_cons];omega
 have h2:((1:Int)≤((List.length (c::r):Nat):Int)):=by rw[List.length_cons];omega
 have g:List.getD (c::r) (Int.toNat 0) 0=c:=rfl
 have g1:List.drop (Int.toNat 1) (c::r)=r:=rfl
 simp only[T51,aH h1,aH h2,g,g1,aH (show(0:Int)≤0 by omega),aH (show(0:Int)≤1 by omega)]
 rcases h with⟨rfl,rfl⟩|⟨rfl,rfl⟩|⟨rfl,rfl⟩
 ·exact aD _
 ·exact aD _
 ·exact aD _
def Tx (k n:Nat) (x:Bs):Prop:=∃ts,Sq k ts∧ts.length≤n∧Lex x ts
theorem bW {k n m:Nat} {x:Bs} (h:Tx k n x) (hm:n≤m):Tx k m x:=by
 obtain⟨ts,h1,h2,h3⟩:=h
 exact⟨ts,h1,by omega,h3⟩
theorem A1:Tx 0 0 []:=⟨[], .nil,by simp,MX⟩
theorem KL {x:Bs} {n:Nat} {s:Bs} (hn:n=1∨n=2) (h:Lex x [(n,s)]):Tx 1 1 x:=⟨_, .leaf n s hn .nil,by simp,h⟩
theorem Dw {a b n m:Nat} {x y:Bs} (hx:Tx a n x) (hy:Tx b m y) (hd:∀r,Dl r→Dl (y++r)):Tx (a+b) (n+m) (x++y):=by
 obtain⟨ts,h1,h2,h3⟩:=hx
 obtain⟨us,g1,g2,g3⟩:=hy
 exact⟨ts++us,PD h1 g1,by rw[List.length_append];omega,MY h3 g3 hd⟩
theorem Gs {k n:Nat} {x:Bs} (h:Tx k n x):Tx 1 (n+2) (([40]++x)++[41]):=by
 obtain⟨ts,h1,h2,h3⟩:=h
 refine⟨(3,[])::(ts++(4,[])::[]), .grp h1 .nil,by simp;omega,?_⟩
 intro r us hr hl hs
 have e:(([40]++x)++[41])++r=40::(x++(41::r)):=by simp
 have e2:((3,[])::(ts++(4,[])::[]))++us=((3,[]):Tkn)::(ts++(((4,[]):Tkn)::us)):=by simp
 rw[e,e2]
 simp only[List.length_append,List.length_cons,List.length_nil]at hl
 refine .cons (by simp) (nK 40 3 (by simp) _) (h3 _ _ (KJ _ (by simp)) (by rw[List.length_cons];omega) ?_)
 exact .cons (by simp) (nK 41 4 (by simp) _) hs
inductive TxL:Nat→Nat→List Bs→Prop
 |nil:TxL 0 0 []
 |cons {a b n m:Nat} {x:Bs} {l:List Bs} (h:Tx a n x) (hs:TxL b m l):TxL (a+b) (n+m) (x::l)
theorem Ho {a b n m:Nat} {l l2:List Bs} (h:TxL a n l) (h2:TxL b m l2):TxL (a+b) (n+m) (l++l2):=by
 induction h with
 |nil=>simpa using h2
 |cons h _ ih=>rw[Nat.add_assoc,Nat.add_assoc,List.cons_append];exact .cons h ih
theorem MZ {k n:Nat} {l:List Bs} (h:TxL k n l):Tx k (n+l.length) (l.flatMap fun x=>[32]++x)∧∀r,Dl r→Dl ((l.flatMap fun x=>[32]++x)++r):=by
 induction h with
 |nil=>exact⟨A1,fun r h=>h⟩
 |cons h htl ih=>
  rename_i a b n m x l
  obtain⟨i1,i2⟩:=ih
  refine⟨?_,fun r _=>?_⟩
  ·rw[List.flatMap_cons,List.append_assoc]
   have hx:Tx (a+b) (n+(m+l.length)) (x++l.flatMap fun x=>[32]++x):=Dw h i1 i2
   obtain⟨ts,h1,h2,h3⟩:=hx
   refine⟨(5,[])::ts, .space h1,by simp only[List.length_cons];omega,?_⟩
   intro r us hr hl hs
   simp only[List.length_append,List.length_cons,List.length_nil]at hl
   exact .cons (by simp) (nK 32 5 (by simp) _) (h3 r us hr (by simp only[List.length_append];omega) hs)
  ·rw[List.flatMap_cons]
   exact KJ _ (by simp)
theorem Im (x:Bs):∀l:List Bs,Lib.join (x::l) [32]=x++l.flatMap fun y=>[32]++y:=by
 intro l
 rw[Lib.join_cons]
 rfl
theorem Dx {k n:Nat} {l:List Bs} (h:TxL k n l):Tx k (n+l.length) (Lib.join l [32]):=by
 cases h with
 |nil=>exact A1
 |cons h hs=>
  rename_i a b n m x l
  obtain⟨i1,i2⟩:=MZ hs
  rw[Im]
  refine bW (Dw h i1 i2) ?_
  simp only[List.length_cons];omega
theorem uM {k n:Nat} {l:List Bs} (h:TxL k n l):Tx 1 (n+l.length+2) (kO l):=Gs (Dx h)
theorem Hp {k n:Nat} {l:List Bs} (h:TxL k n l):(∀x∈l,∃q,x=40::q)→Tx k n l.flatten∧∀r,Dl r→Dl (l.flatten++r):=by
 induction h with
 |nil=>exact fun _=>⟨A1,fun r h=>h⟩
 |cons h htl ih=>
  rename_i a b n m x l
  intro hh
  obtain⟨i1,i2⟩:=ih fun y hy=>hh y (by simp[hy])
  obtain⟨q,hq⟩:=hh x (by simp)
  refine⟨?_,fun r _=>?_⟩
  ·rw[List.flatten_cons];exact Dw h i1 i2
  ·rw[List.flatten_cons,hq];exact KJ _ (by simp)
theorem mN {n:Nat}:∀l:List Bs,(∀x∈l,Tx 1 n x)→TxL l.length (l.length*n) l
 |[],_=>by rw[List.length_nil,Nat.zero_mul];exact .nil
 |x::l,h=>by
  have:=TxL.cons (h x (by simp)) (mN l fun y hy=>h y (by simp[hy]))
  rw[List.length_cons,Nat.add_mul,Nat.one_mul,Nat.add_comm l.length 1,Nat.add_comm (l.length*n) n]
  exact this
theorem Hq {n:Nat} {x:Bs} (h:Tx 1 n x):TxL 1 n [x]:= .cons h .nil
end Go.Proofs.YtdoaoaicdimbeaaGreatDoor
end
section
namespace Go.Proofs.YtdoaoaicdimbeaaGreatDoor
open Go.Ev Go
theorem lN (pre:Bs) (c:UInt8) (q:Bs):List.getD (pre++c::q) pre.length 0=c:=by simp[List.getD]
theorem Io (pre:Bs) (a c:UInt8) (q:Bs):List.getD (pre++a::c::q) (pre.length+1) 0=c:=by
 have e:pre++a::c::q=(pre++[a])++c::q:=by simp
 have e2:pre.length+1=(pre++[a]).length:=by simp
 rw[e,e2]
 exact lN _ _ _
theorem Ip (pre:Bs) (c:UInt8) (q:Bs):List.drop (pre.length+1) (pre++c::q)=q:=by
 have e:pre++c::q=(pre++[c])++q:=by simp
 have e2:pre.length+1=(pre++[c]).length:=by simp
 rw[e,e2]
 exact List.drop_left
theorem wr1 {n:Nat} (h:n≤1000000000000000):IntKind.wrap .i64 (((n:Nat):Int)+1)=((n+1:Nat):Int):=by rw[wrap64 (by omega) (by omega)];omega
theorem Gt (r S:Bs) (hS:S.length≤200000000000000):∀(v pre out:Bs),S=pre++(v.flatMap wK++34::r)→out.length+v.length≤1000000→
  Evt (fun k j=>L91 (aA cfg k) j S (ofBytes out) (pre.length:Nat)) (.tup [.str (out++v), .str r, .bool true],[])
 |[],pre,out,h,ho=>by
  rw[List.flatMap_nil,List.nil_append]at h
  refine N2 S (ofBytes out) (pre.length:Nat) ?_
  have hl:S.length=pre.length+(r.length+1):=by rw[h];simp
  have h1:((pre.length:Int)<((S.length:Nat):Int)):=by omega
  have h2:(0:Int)≤(pre.length:Nat):=by omega
  have h3:(0:Int)≤((pre.length+1:Nat):Int):=by omega
  have h4:((pre.length+1:Nat):Int)≤((S.length:Nat):Int):=by omega
  have g:List.getD S pre.length 0=34:=by rw[h];exact lN _ _ _
  have gd:List.drop (pre.length+1) S=r:=by rw[h];exact Ip _ _ _
  have e:((((34:UInt8).toNat:Nat):Int)==(34:Int))=true:=rfl
  simp only[Cz,h1,decide_true,if_true,aH h2,cA,Int.toNat_natCast,g,e,wr1 (show pre.length≤1000000000000000 by omega),aH h3,aH h4,gd,bT,List.append_nil]
  exact aD _
 |c::v,pre,out,h,ho=>by
  rw[List.flatMap_cons,List.append_assoc]at h
  rw[List.length_cons]at ho
  refine N2 S (ofBytes out) (pre.length:Nat) ?_
  have hap:∀n:Int,aW (ofBytes out) [V.int IntKind.u8 n] 2=true:=fun n=>dM (by rw[bB];simp only[List.length_cons,List.length_nil];omega)
  have h2:(0:Int)≤(pre.length:Nat):=by omega
  by_cases hc:c=34∨c=92
  ·have hx:S=pre++92::c::(v.flatMap wK++34::r):=by rw[h,wK,if_pos hc];simp
   have hl:pre.length+2≤S.length:=by rw[hx];simp
   have hl2:S.length≠pre.length+1:=by omega
   have h1:((pre.length:Int)<((S.length:Nat):Int)):=by omega
   have h3:(0:Int)≤((pre.length+1:Nat):Int):=by omega
   have h4:((pre.length+1:Nat):Int)<((S.length:Nat):Int):=by omega
   have h5:(((pre.length+1:Nat):Int)==((S.length:Nat):Int))=false:=by
    have:¬(((pre.length+1:Nat):Int)=((S.length:Nat):Int)):=by omega
    simpa using this
   have g:List.getD S pre.length 0=92:=by rw[hx];exact lN _ _ _
   have g1:List.getD S (pre.length+1) 0=c:=by rw[hx];exact Io _ _ _ _
   have e:((((92:UInt8).toNat:Nat):Int)==(34:Int))=false:=rfl
   have e2:((((92:UInt8).toNat:Nat):Int)==(92:Int))=true:=rfl
   have ih:=Gt r S hS v (pre++[92,c]) (out++[c]) (by rw[hx];simp) (by simp only[List.length_append,List.length_cons,List.length_nil];omega)
   have e3:(pre++[92,c]).length=pre.length+1+1:=by simp
   rw[e3,List.append_assoc,List.singleton_append]at ih
   simp only[Cz,h1,decide_true,if_true,aH h2,cA,Int.toNat_natCast,g,e,e2,Bool.false_eq_true,if_false,wr1 (show pre.length≤1000000000000000 by omega),wr1 (show pre.length+1≤1000000000000000 by omega),h5,aH h3,aH h4,g1]
   refine bY (v:=false) ?_ ?_
   ·rcases hc with rfl|rfl<;>rfl
   ·simp only[Bool.false_eq_true,if_false,bL (hap _),cP]
    exact ih
  ·have hx:S=pre++c::(v.flatMap wK++34::r):=by rw[h,wK,if_neg hc];simp
   have hl:pre.length+1≤S.length:=by rw[hx];simp
   have h1:((pre.length:Int)<((S.length:Nat):Int)):=by omega
   have g:List.getD S pre.length 0=c:=by rw[hx];exact lN _ _ _
   have e:(((c.toNat:Nat):Int)==(34:Int))=false:=(dG c 34 (by omega)).trans (by simpa using fun h=>hc (Or.inl h))
   have e2:(((c.toNat:Nat):Int)==(92:Int))=false:=(dG c 92 (by omega)).trans (by simpa using fun h=>hc (Or.inr h))
   have ih:=Gt r S hS v (pre++[c]) (out++[c]) (by rw[hx];simp) (by simp only[List.length_append,List.length_cons,List.length_nil];omega)
   have e3:(pre++[c]).length=pre.length+1:=by simp
   rw[e3,List.append_assoc,List.singleton_append]at ih
   simp only[Cz,h1,decide_true,if_true,aH h2,cA,Int.toNat_natCast,g,e,e2,Bool.false_eq_true,if_false,wr1 (show pre.length≤1000000000000000 by omega),bL (hap _),cP]
   exact ih
theorem RV (s r:Bs) (hs:s.length≤1000000) (hr:(gA s++r).length≤200000000000000):Ret 91 [.str (gA s++r)] [] (.tup [.str s, .str r, .bool true],[]):=by
 refine M91 (gA s++r) ?_
 simp only[T91]
 exact Gt r (gA s++r) hr s [34] [] (by simp[gA]) (by simpa using hs)
def hpB (s p:Bs):Bool:=if p.length≤s.length then sEq (s.take p.length) p else false
theorem Gu (s p:Bs):Ret 165 [.str s, .str p] [] (.bool (hpB s p),[]):=by
 refine UQ s p ?_
 simp only[KF]
 refine bY (v:=hpB s p) ?_ (aD _)
 unfold hpB
 by_cases h:p.length≤s.length
 ·have h1:((s.length:Nat):Int)≥((p.length:Nat):Int):=by omega
  have h2:(0:Int)≤((p.length:Nat):Int):=by omega
  have h3:((p.length:Nat):Int)≤((s.length:Nat):Int):=by omega
  simp only[h1,decide_true,if_true,aH h2,aH h3,aH (show(0:Int)≤0 by omega),Int.toNat_natCast,if_pos h]
  rfl
 ·have h1:¬(((s.length:Nat):Int)≥((p.length:Nat):Int)):=by omega
  simp only[h1,decide_false,Bool.false_eq_true,if_false,if_neg h]
theorem Hr (s:Bs) (h:hpB s [126]=false):Ret 147 [.str s, .str [126]] [] (.str s,[]):=by
 refine RS s [126] ?_
 simp only[Il]
 have:Ret 163 [.str s, .str [126]] [] (.str s,[]):=by
  refine RR s [126] ?_
  simp only[Ik]
  refine aB (Gu s [126]) ?_
  simp only[aU,h,Bool.false_eq_true,if_false]
  exact aD _
 refine aB this ?_
 exact aD _
theorem KN (s:Bs):Ret 147 [.str (126::s), .str [126]] [] (.str s,[]):=by
 refine RS (126::s) [126] ?_
 simp only[Il]
 have:Ret 163 [.str (126::s), .str [126]] [] (.str s,[]):=by
  refine RR (126::s) [126] ?_
  simp only[Ik]
  refine aB (Gu (126::s) [126]) ?_
  have h:hpB (126::s) [126]=true:=by simp[hpB,sEq]
  have h2:(0:Int)≤((List.length [(126:UInt8)]:Nat):Int):=by omega
  have h3:((List.length [(126:UInt8)]:Nat):Int)≤((List.length (126::s):Nat):Int):=by simp only[List.length_cons,List.length_nil];omega
  simp only[aU,h,if_true,aH h2,aH h3]
  exact aD _
 refine aB this ?_
 exact aD _
theorem KO (p s:Bs):Ret 126 [.str (p++s), .str p] [] (.tup [.str s, .bool true],[]):=by
 refine UK (p++s) p ?_
 simp only[KD]
 have:Ret 150 [.str (p++s), .str p] [] (.tup [.str s, .bool true],[]):=by
  refine UN (p++s) p ?_
  simp only[KE]
  refine aB (Gu (p++s) p) ?_
  have h:hpB (p++s) p=true:=by simp[hpB,sEq]
  have h2:(0:Int)≤((List.length p:Nat):Int):=by omega
  have h3:((List.length p:Nat):Int)≤((List.length (p++s):Nat):Int):=by rw[List.length_append];omega
  simp only[aU,h,Bool.not_true,Bool.false_eq_true,if_false,aH h2,aH h3,Int.toNat_natCast,List.drop_left]
  exact aD _
 refine aB this ?_
 exact aD _
theorem M1 (u:Bs) (c:UInt8) (hc:c≠43) (hu:u.length≤1000000):Ret 148 [.str (u++[c]), .str [43]] [] (.tup [.str (u++[c]), .bool false],[]):=by
 refine UE (u++[c]) [43] ?_
 simp only[KB]
 have h0:Ret 171 [.str (u++[c]), .str [43]] [] (.bool false,[]):=by
  refine UT (u++[c]) [43] ?_
  simp only[KG]
  refine bY (v:=false) ?_ (aD _)
  have hl:(u++[c]).length=u.length+1:=by simp
  have h1:(((u++[c]).length:Nat):Int)≥((List.length [(43:UInt8)]:Nat):Int):=by rw[hl];simp only[List.length_cons,List.length_nil];omega
  have hw:IntKind.wrap .i64 ((((u++[c]).length:Nat):Int) - ((List.length [(43:UInt8)]:Nat):Int))=((u.length:Nat):Int):=by rw[hl];simp only[List.length_cons,List.length_nil];rw[wrap64 (by omega) (by omega)];omega
  have h2:(0:Int)≤((u.length:Nat):Int):=by omega
  have h3:((u.length:Nat):Int)≤(((u++[c]).length:Nat):Int):=by omega
  have e:sEq [c] [43]=false:=mA (by simpa using hc)
  simp only[h1,decide_true,if_true,hw,aH h2,aH h3,Int.toNat_natCast,List.drop_left,e]
 have:Ret 164 [.str (u++[c]), .str [43]] [] (.tup [.str (u++[c]), .bool false],[]):=by
  refine UH (u++[c]) [43] ?_
  simp only[KC]
  refine aB h0 ?_
  simp only[aU,Bool.not_false,if_true]
  exact aD _
 refine aB this ?_
 exact aD _
def isD (c:UInt8):Prop:=48≤c.toNat∧c.toNat≤57
def Iq (a:Nat) (ds:Bs):Nat:=ds.foldl (fun a d=>10*a+(d.toNat - 48)) a
theorem Ht:∀(ds:Bs) (a:Nat),a≤Iq a ds
 |[],a=>Nat.le_refl _
 |d::ds,a=>by
  have:=Ht ds (10*a+(d.toNat - 48))
  show a≤Iq (10*a+(d.toNat - 48)) ds
  omega
theorem Dy:∀n:Nat,∀d∈bR n,isD d:=by
 intro n
 induction n using Nat.strongRecOn with
 |_ n ih=>
  intro d hd
  by_cases h:n<10
  ·rw[dT h,List.mem_singleton]at hd
   subst hd
   unfold isD;rw[kT h];omega
  ·rw[jV h,List.mem_append]at hd
   rcases hd with hd|hd
   ·exact ih (n / 10) (by omega) d hd
   ·rw[List.mem_singleton]at hd;subst hd
    unfold isD;rw[kT (by omega)];omega
theorem yH (n:Nat):bR n≠[]:=by
 by_cases h:n<10
 ·rw[dT h];simp
 ·rw[jV h];simp
theorem Fc:∀(k n:Nat),1≤k→n<10 ^ k→(bR n).length≤k:=by
 intro k
 induction k with
 |zero=>intro n h;omega
 |succ k ih=>
  intro n _ h
  by_cases hn:n<10
  ·rw[dT hn];simp
  ·rw[jV hn,List.length_append,List.length_singleton]
   by_cases hk:k=0
   ·subst hk;omega
   ·have:=ih (n / 10) (by omega) (by rw[Nat.pow_succ]at h;omega)
    omega
theorem Ir:∀n:Nat,1≤n→(bR n).getD 0 0≠48:=by
 intro n
 induction n using Nat.strongRecOn with
 |_ n ih=>
  intro h1
  by_cases h:n<10
  ·rw[dT h]
   intro e
   have e2:=congrArg UInt8.toNat e
   have:=kT h
   simp only[List.getD,List.getElem?_cons_zero,Option.getD_some]at e2
   rw[this]at e2
   have:(48:UInt8).toNat=48:=rfl
   omega
  ·have:=ih (n / 10) (by omega) (by omega)
   rw[jV h]
   have hne:=yH (n / 10)
   cases hd:bR (n / 10)with
   |nil=>exact absurd hd hne
   |cons c q=>rw[hd]at this;exact this
theorem Hu (s:Bs) (hs:s.length≤10):∀(v pre:Bs) (a:Nat),s=pre++v→(∀d∈v,isD d)→Iq a v≤4294967295→
  Evt (fun k j=>Bu (aA cfg k) j s (a:Nat) (s.length:Nat) (pre.length:Nat)) (.tup [.int .i64 (Iq a v:Nat), .bool true],[])
 |[],pre,a,h,hd,hv=>by
  refine KI s (a:Nat) (s.length:Nat) (pre.length:Nat) ?_
  have h1:¬((pre.length:Int)<((s.length:Nat):Int)):=by rw[h];simp
  have h2:¬(((a:Nat):Int)>4294967295):=by have:a≤4294967295:=hv;omega
  simp only[A0,h1,h2,decide_false,Bool.false_eq_true,if_false]
  exact aD _
 |d::v,pre,a,h,hd,hv=>by
  refine KI s (a:Nat) (s.length:Nat) (pre.length:Nat) ?_
  have hl:s.length=pre.length+(v.length+1):=by rw[h];simp
  have h1:((pre.length:Int)<((s.length:Nat):Int)):=by omega
  have h2:(0:Int)≤(pre.length:Nat):=by omega
  have g:List.getD s pre.length 0=d:=by rw[h];exact lN _ _ _
  obtain⟨d1,d2⟩:=hd d (by simp)
  have e1:¬(((d.toNat:Nat):Int)<48):=by omega
  have e2:¬(((d.toNat:Nat):Int)>57):=by omega
  have hge:=Ht v (10*a+(d.toNat - 48))
  have hv' :Iq (10*a+(d.toNat - 48)) v≤4294967295:=hv
  have w1:IntKind.wrap .i64 ((10:Int)* ((a:Nat):Int))=10* (a:Int):=wrap64 (by omega) (by omega)
  have w2:IntKind.wrap .u8 (((d.toNat:Nat):Int) - 48)=((d.toNat:Nat):Int) - 48:=BW (by omega) (by omega)
  have w3:IntKind.wrap .i64 (((d.toNat:Nat):Int) - 48)=((d.toNat:Nat):Int) - 48:=wrap64 (by omega) (by omega)
  have w4:IntKind.wrap .i64 (10* (a:Int)+(((d.toNat:Nat):Int) - 48))=((10*a+(d.toNat - 48):Nat):Int):=by rw[wrap64 (by omega) (by omega)];omega
  have ih:=Hu s hs v (pre++[d]) (10*a+(d.toNat - 48)) (by rw[h];simp) (fun x hx=>hd x (by simp[hx])) hv'
  have e3:(pre++[d]).length=pre.length+1:=by simp
  rw[e3]at ih
  simp only[A0,h1,decide_true,if_true,aH h2,cA,Int.toNat_natCast,g,e1,e2,decide_false,w1,w2,w3,w4,wr1 (show pre.length≤1000000000000000 by omega)]
  refine bY (v:=false) rfl ?_
  simp only[Bool.false_eq_true,if_false]
  exact ih
theorem PG (n:Nat) (hn:n≤4294967295):Ret 149 [.str (bR n)] [] (.tup [.int .i64 (n:Nat), .bool true],[]):=by
 refine UW (bR n) ?_
 simp only[KH]
 have hl:=Fc 10 n (by omega) (by have:(10:Nat) ^ 10=10000000000:=rfl;omega)
 have hne:=yH n
 have hl1:1≤(bR n).length:=by cases hd:bR n with|nil=>exact absurd hd hne|cons c q=>simp
 have h1:¬((((bR n).length:Nat):Int)<1):=by omega
 have h2:¬((((bR n).length:Nat):Int)>10):=by omega
 have h3:(0:Int)<(((bR n).length:Nat):Int):=by omega
 have hv:Iq 0 (bR n)=n:=wE n
 have lp:=Hu (bR n) hl (bR n) [] 0 rfl (Dy n) (by rw[hv];exact hn)
 rw[hv]at lp
 refine bY (v:=false) ?_ ?_
 ·simp only[h1,h2,decide_false,if_true,aH h3,aH (show(0:Int)≤0 by omega)]
  by_cases hb:n<10
  ·rw[dT hb];rfl
  ·have:=Ir n (by omega)
   have e:(((((bR n).getD 0 0).toNat:Nat):Int)==(48:Int))=false:=(dG _ 48 (by omega)).trans (by simpa using this)
   split
   ·exact congrArg some e
   ·rfl
 ·simp only[Bool.false_eq_true,if_false]
  exact lp
end Go.Proofs.YtdoaoaicdimbeaaGreatDoor
end
section
namespace Go.Proofs.YtdoaoaicdimbeaaGreatDoor
open Go.Ev Go
theorem eqI (c:UInt8) (n:Nat) (hn:n<256) (h:c≠UInt8.ofNat n):(((c.toNat:Nat):Int)==(n:Int))=false:=(dG c n hn).trans (by simpa using h)
theorem KP {s:Bs} {p:UInt8} (h:∀q,s≠p::q):hpB s [p]=false:=by
 unfold hpB
 split
 ·cases s with
  |nil=>exact mA (by simp)
  |cons c q=>exact mA (by
    intro e
    simp only[List.length_cons,List.length_nil,Nat.zero_add,List.take_succ_cons,List.take_zero,List.cons.injEq,and_true]at e
    exact h q (by rw[e]))
 ·rfl
theorem M3 (c:UInt8) (q:Bs) (h1:c≠126) (h2:c≠123):Ret 125 [.str (c::q)] [] (.tup [.int .i64 0, .int .i64 0, .bool false],[]):=by
 refine RP (c::q) ?_
 simp only[Ij]
 refine aB (Hr (c::q) (KP fun q' e=>h1 (List.cons.inj e).1)) ?_
 have e0:sEq (c::q) []=false:=mA (by simp)
 have h3:((0:Int)<((List.length (c::q):Nat):Int)):=by rw[List.length_cons];omega
 have g:List.getD (c::q) (Int.toNat 0) 0=c:=rfl
 have e:(((c.toNat:Nat):Int) != (123:Int))=true:=by
  have h:(((c.toNat:Nat):Int)==(123:Int))=false:=eqI c 123 (by omega) h2
  show(!(((c.toNat:Nat):Int)==(123:Int)))=true
  rw[h];rfl
 dsimp+instances only[aR]
 simp only[e0,if_true,aH (show(0:Int)≤0 by omega),aH h3,g,e]
 refine bY (v:=true) rfl ?_
 simp only[if_true]
 exact aD _
theorem Gv (c:UInt8) (q:Bs) (h1:c≠126) (h2:c≠123):Ret 92 [.str (c::q)] [] (.tup [.str [], .str [], .bool false],[]):=by
 refine M92 (c::q) ?_
 simp only[T92]
 refine aB (M3 c q h1 h2) ?_
 have e:((0:Int)==0)=true:=rfl
 simp only[bC,List.headD_cons,cC,e,if_true]
 exact aD _
theorem PH (ds:Bs) (q:Bs) (hd:∀d∈ds,isD d):Lib.indexByte (123::(ds++125::q)) 125=((ds.length+1:Nat):Int):=by
 have key:∀(ds:Bs),(∀d∈ds,isD d)→Lib.indexByte (ds++125::q) 125=(ds.length:Int):=by
  intro ds
  induction ds with
  |nil=>intro _;simp[Lib.indexByte]
  |cons d ds ih=>
   intro hd
   have hne:d≠125:=fun e=>by
    have:=(hd d (by simp)).2
    rw[e]at this
    exact absurd this (by decide)
   have:=ih fun x hx=>hd x (by simp[hx])
   have hm:(((ds.length:Nat):Int)== -1)=false:=by simp
   rw[List.cons_append,Lib.indexByte,if_neg (by simpa using hne),this,hm]
   simp
 have hm:(((ds.length:Nat):Int)== -1)=false:=by simp
 rw[Lib.indexByte,if_neg (by decide),key ds hd,hm]
 simp
theorem KQ (u:Bs) (hu:u=[]∨u=[126]) (n:Nat) (hn:n≤4294967295) (q:Bs) (hq:q.length≤200000000000000):
  Ret 125 [.str (u++123::(bR n++125::q))] [] (.tup [.int .i64 ((u++123::(bR n++[125])).length:Nat), .int .i64 (n:Nat), .bool true],[]):=by
 have hdl:=Fc 10 n (by omega) (by have:(10:Nat) ^ 10=10000000000:=rfl;omega)
 refine RP (u++123::(bR n++125::q)) ?_
 simp only[Ij]
 have ht:Ret 147 [.str (u++123::(bR n++125::q)), .str [126]] [] (.str (123::(bR n++125::q)),[]):=by
  rcases hu with rfl|rfl
  ·exact Hr _ (KP fun q' e=>by simp at e)
  ·exact KN _
 refine aB ht ?_
 generalize hT:(123::(bR n++125::q):Bs)=T
 have e0:sEq T []=false:=mA (by rw[←hT];simp)
 have hTl:T.length=(bR n).length+2+q.length:=by rw[←hT];simp;omega
 have h3:((0:Int)<((List.length T:Nat):Int)):=by omega
 have g:List.getD T (Int.toNat 0) 0=123:=by rw[←hT];rfl
 have e:((((123:UInt8).toNat:Nat):Int) != (123:Int))=false:=rfl
 dsimp+instances only[aR]
 simp only[e0,if_true,aH (show(0:Int)≤0 by omega),aH h3,g,e]
 refine bY (v:=false) rfl ?_
 simp only[Bool.false_eq_true,if_false]
 have hix:Ret 89 [.str T, .int .u8 125] [] (.int .i64 (((bR n).length+1:Nat):Int),[]):=by
  have:=yD T 125
  rw[←hT,PH (bR n) q (Dy n),hT]at this
  exact this
 refine aB hix ?_
 have h4:¬((((bR n).length+1:Nat):Int)<0):=by omega
 have h5:(0:Int)≤(((bR n).length+1:Nat):Int):=by omega
 have h6:(((bR n).length+1:Nat):Int)≤((T.length:Nat):Int):=by omega
 have h7:(1:Int)≤(((bR n).length+1:Nat):Int):=by omega
 have ed:List.drop (Int.toNat 1) (List.take ((bR n).length+1) T)=bR n:=by
  rw[←hT,List.take_succ_cons,List.take_left];rfl
 dsimp+instances only[cC]
 simp only[h4,decide_false,Bool.false_eq_true,if_false,aH h5,aH h6,aH (show(0:Int)≤1 by omega),aH h7,Int.toNat_natCast,ed]
 have hcs:Ret 148 [.str (bR n), .str [43]] [] (.tup [.str (bR n), .bool false],[]):=by
  have hne:=yH n
  rcases List.eq_nil_or_concat (bR n)with h|⟨v,c,h⟩
  ·exact absurd h hne
  ·have hc:isD c:=Dy n c (by rw[h];simp)
   have:c≠43:=fun e=>by
    have:=hc.1
    rw[e]at this
    exact absurd this (by decide)
   have hv:v.length≤1000000:=by
    have:=congrArg List.length h
    simp at this;omega
   rw[h]
   simpa using M1 v c this hv
 refine aB hcs ?_
 simp only[bC,List.headD_cons,List.tail_cons,aR,aU,Bool.not_false]
 refine aB (PG n hn) ?_
 have hul:u.length≤1:=by rcases hu with rfl|rfl<;>simp
 have hS:(u++123::(bR n++125::q)).length=u.length+T.length:=by rw[hT,List.length_append]
 have w1:IntKind.wrap .i64 ((((u++T).length:Nat):Int) - ((T.length:Nat):Int))=((u.length:Nat):Int):=by rw[List.length_append,wrap64 (by omega) (by omega)];omega
 have w2:IntKind.wrap .i64 (((u.length:Nat):Int)+(((bR n).length+1:Nat):Int))=((u.length+(bR n).length+1:Nat):Int):=by rw[wrap64 (by omega) (by omega)];omega
 have hE:(u++123::(bR n++[125])).length=u.length+(bR n).length+1+1:=by simp;omega
 rw[hT]at hS
 rw[hE]
 simp only[bC,List.headD_cons,List.tail_cons,aU,cC,Bool.not_true,Bool.false_eq_true,if_false,w1,w2,wr1 (show u.length+(bR n).length+1≤1000000000000000 by omega)]
 exact aD _
theorem M4 (u:Bs) (hu:u=[]∨u=[126]) (s r:Bs) (hn:s.length≤4294967295) (hr:r.length≤100000000000000):
  Ret 92 [.str ((u++nI s)++r)] [] (.tup [.str s, .str r, .bool true],[]):=by
 have hh:=KQ u hu s.length hn (13::10::(s++r)) (by simp;omega)
 have eS:(u++nI s)++r=u++123::(bR s.length++125::(13::10::(s++r))):=by simp[nI]
 have eS2:(u++nI s)++r=(u++123::(bR s.length++[125]))++([13,10]++(s++r)):=by simp[nI]
 rw[←eS]at hh
 generalize(u++nI s)++r=S at*
 generalize hP:u++123::(bR s.length++[125])=P at*
 have hPl:0<P.length:=by rw[←hP];simp;omega
 refine M92 S ?_
 simp only[T92]
 refine aB hh ?_
 have e1:(((P.length:Nat):Int)==0)=false:=by
  have:¬(((P.length:Nat):Int)=0):=by omega
  simpa using this
 have h1:(0:Int)≤((P.length:Nat):Int):=by omega
 have h2:((P.length:Nat):Int)≤((S.length:Nat):Int):=by rw[eS2,List.length_append];omega
 have ed:List.drop P.length S=[13,10]++(s++r):=by rw[eS2,List.drop_left]
 have h3:¬((((s++r).length:Nat):Int)<((s.length:Nat):Int)):=by rw[List.length_append];omega
 have h4:(0:Int)≤((s.length:Nat):Int):=by omega
 have h5:((s.length:Nat):Int)≤(((s++r).length:Nat):Int):=by rw[List.length_append];omega
 dsimp+instances only[bC,List.headD_cons,List.tail_cons,cC]
 simp only[e1,Bool.false_eq_true,if_false,aH h1,aH h2,Int.toNat_natCast,ed]
 refine aB (KO [13,10] (s++r)) ?_
 dsimp+instances only[bC,List.headD_cons,List.tail_cons,aU,aR]
 simp only[Bool.not_true,if_true,h3,decide_false]
 refine bY (v:=false) rfl ?_
 simp only[Bool.false_eq_true,if_false,aH h4,aH h5,aH (show(0:Int)≤0 by omega),Int.toNat_natCast,List.take_left,List.drop_left]
 exact aD _
theorem Fe (u:Bs) (hu:u=[]∨u=[126]) (s r:Bs) (hn:s.length≤4294967295) (hr:r.length≤100000000000000):wV ((u++nI s)++r) (2,s) r:=by
 have hl:=M4 u hu s r hn hr
 obtain⟨c,q,hS,hc⟩:∃c q,(u++nI s)++r=c::q∧(c=123∨c=126):=by
  rcases hu with rfl|rfl
  ·exact⟨123,_,rfl,Or.inl rfl⟩
  ·exact⟨126,_,rfl,Or.inr rfl⟩
 rw[hS]at hl ⊢
 refine M51 (c::q) ?_
 have h1:((0:Int)<((List.length (c::q):Nat):Int)):=by rw[List.length_cons];omega
 have g:List.getD (c::q) (Int.toNat 0) 0=c:=rfl
 have e:(((c.toNat:Nat):Int)==(40:Int))=false∧(((c.toNat:Nat):Int)==(41:Int))=false∧(((c.toNat:Nat):Int)==(32:Int))=false∧(((c.toNat:Nat):Int)==(34:Int))=false:=by
  rcases hc with rfl|rfl<;>exact⟨rfl,rfl,rfl,rfl⟩
 simp only[T51,aH h1,g,e,Bool.false_eq_true,if_false,aH (show(0:Int)≤0 by omega)]
 refine aB hl ?_
 simp only[bC,List.headD_cons,List.tail_cons,aU,aR,if_true]
 exact aD _
theorem KT (s r:Bs) (hs:s.length≤1000000) (hr:(gA s++r).length≤200000000000000):wV (gA s++r) (2,s) r:=by
 have hq:=RV s r hs hr
 obtain⟨q,hS⟩:∃q,gA s++r=34::q:=⟨_,rfl⟩
 rw[hS]at hq ⊢
 refine M51 (34::q) ?_
 have h1:((0:Int)<((List.length ((34:UInt8)::q):Nat):Int)):=by rw[List.length_cons];omega
 have g:List.getD ((34:UInt8)::q) (Int.toNat 0) 0=34:=rfl
 have e:((((34:UInt8).toNat:Nat):Int)==(40:Int))=false∧((((34:UInt8).toNat:Nat):Int)==(41:Int))=false∧((((34:UInt8).toNat:Nat):Int)==(32:Int))=false∧((((34:UInt8).toNat:Nat):Int)==(34:Int))=true:=⟨rfl,rfl,rfl,rfl⟩
 simp only[T51,aH h1,g,e,Bool.false_eq_true,if_false,if_true,aH (show(0:Int)≤0 by omega)]
 refine aB hq ?_
 simp only[bC,List.headD_cons,List.tail_cons,aU,aR]
 exact aD _
def Gw (c:UInt8):Bool:=decide (32<c.toNat)&&decide (c.toNat<127)&&c != 40&&c != 41&&c != 34&&c != 123&&c != 126&&c != 91
theorem KU {c:UInt8} (h:Gw c=true):32<c.toNat∧c.toNat<127∧c≠40∧c≠41∧c≠34∧c≠123∧c≠126∧c≠91:=by
 simpa[Gw,and_assoc]using h
theorem KV (r S:Bs) (hr:Dl r) (hS:S.length≤200000000000000):∀(v pre:Bs),S=pre++(v++r)→v.all Gw=true→
  Evt (fun k j=>L93 (aA cfg k) j S (pre.length:Nat)) (.int .i64 ((pre.length+v.length:Nat):Int),[])
 |[],pre,h,_=>by
  rw[List.nil_append]at h
  refine N3 S (pre.length:Nat) ?_
  rcases hr with rfl|⟨c,q,rfl,hc⟩
  ·have h1:¬((pre.length:Int)<((S.length:Nat):Int)):=by rw[h];simp
   simp only[CC,h1,decide_false,Bool.false_eq_true,if_false]
   exact aD _
  ·have hl:pre.length+1≤S.length:=by rw[h];simp
   have h1:((pre.length:Int)<((S.length:Nat):Int)):=by omega
   have h2:(0:Int)≤(pre.length:Nat):=by omega
   have g:List.getD S pre.length 0=c:=by rw[h];exact lN _ _ _
   simp only[CC,h1,decide_true,if_true,aH h2,cA,Int.toNat_natCast,g]
   refine bY (v:=true) ?_ ?_
   ·rcases hc with rfl|rfl|rfl<;>rfl
   ·simp only[if_true]
    exact aD _
 |c::v,pre,h,hv=>by
  rw[List.all_cons,Bool.and_eq_true]at hv
  obtain⟨p1,p2,p3,p4,p5,p6,p7,p8⟩:=KU hv.1
  refine N3 S (pre.length:Nat) ?_
  have hl:pre.length+1≤S.length:=by rw[h];simp
  have h1:((pre.length:Int)<((S.length:Nat):Int)):=by omega
  have h2:(0:Int)≤(pre.length:Nat):=by omega
  have g:List.getD S pre.length 0=c:=by rw[h];exact lN _ _ _
  have e1:¬(((c.toNat:Nat):Int)≤32):=by omega
  have e2:¬(((c.toNat:Nat):Int)≥127):=by omega
  have e3:(((c.toNat:Nat):Int)==(40:Int))=false:=eqI c 40 (by omega) p3
  have e4:(((c.toNat:Nat):Int)==(41:Int))=false:=eqI c 41 (by omega) p4
  have e5:(((c.toNat:Nat):Int)==(34:Int))=false:=eqI c 34 (by omega) p5
  have e6:(((c.toNat:Nat):Int)==(123:Int))=false:=eqI c 123 (by omega) p6
  have e7:(((c.toNat:Nat):Int)==(126:Int))=false:=eqI c 126 (by omega) p7
  have e8:(((c.toNat:Nat):Int)==(91:Int))=false:=eqI c 91 (by omega) p8
  have ih:=KV r S hr hS v (pre++[c]) (by rw[h];simp) hv.2
  have e9:(pre++[c]).length=pre.length+1:=by simp
  have e10:pre.length+(c::v).length=pre.length+1+v.length:=by rw[List.length_cons];omega
  rw[e9]at ih
  rw[e10]
  simp only[CC,h1,decide_true,if_true,aH h2,cA,Int.toNat_natCast,g,e1,e2,e3,e4,e5,e6,e7,e8,decide_false,Bool.false_eq_true,if_false,cV,wr1 (show pre.length≤1000000000000000 by omega)]
  exact ih
theorem Is (v r:Bs) (h0:v≠[]) (hv:v.all Gw=true) (hr:Dl r) (hl:(v++r).length≤200000000000000):wV (v++r) (1,v) r:=by
 have hw:Ret 93 [.str (v++r)] [] (.int .i64 (v.length:Nat),[]):=by
  refine M93 (v++r) ?_
  simp only[T93]
  have:=KV r (v++r) hr hl v [] rfl hv
  rw[List.length_nil,Nat.zero_add]at this
  exact this
 obtain⟨c,q,hS,hc⟩:∃c q,v++r=c::q∧Gw c=true:=by
  cases v with
  |nil=>exact absurd rfl h0
  |cons c q=>rw[List.all_cons,Bool.and_eq_true]at hv;exact⟨c,q++r,rfl,hv.1⟩
 obtain⟨p1,p2,p3,p4,p5,p6,p7,p8⟩:=KU hc
 have e3:(((c.toNat:Nat):Int)==(40:Int))=false:=eqI c 40 (by omega) p3
 have e4:(((c.toNat:Nat):Int)==(41:Int))=false:=eqI c 41 (by omega) p4
 have e5:(((c.toNat:Nat):Int)==(34:Int))=false:=eqI c 34 (by omega) p5
 have e6:(((c.toNat:Nat):Int)==(32:Int))=false:=eqI c 32 (by omega) fun e=>by rw[e]at p1;exact absurd p1 (by decide)
 have hno:=Gv c q p7 p6
 have hvl:0<v.length:=by cases v with|nil=>exact absurd rfl h0|cons c q=>simp
 have t1:List.take v.length (c::q)=v:=by rw[←hS,List.take_left]
 have t2:List.drop v.length (c::q)=r:=by rw[←hS,List.drop_left]
 have h2:(0:Int)≤((v.length:Nat):Int):=by omega
 have h3:((v.length:Nat):Int)≤(((c::q).length:Nat):Int):=by rw[←hS,List.length_append];omega
 have h4:((v.length:Nat):Int)>0:=by omega
 rw[hS]at hw ⊢
 refine M51 (c::q) ?_
 have h1:((0:Int)<((List.length (c::q):Nat):Int)):=by rw[List.length_cons];omega
 have g:List.getD (c::q) (Int.toNat 0) 0=c:=rfl
 simp only[T51,aH h1,g,e3,e4,e5,e6,Bool.false_eq_true,if_false,aH (show(0:Int)≤0 by omega)]
 refine aB hno ?_
 simp only[bC,List.headD_cons,List.tail_cons,aU,Bool.false_eq_true,if_false]
 refine aB hw ?_
 dsimp+instances only[cC]
 simp only[aH h2,aH h3,aH (show(0:Int)≤0 by omega),Int.toNat_natCast,t1,t2,h4,decide_true]
 exact aD _
theorem Hv {v:Bs} (h0:v≠[]) (hv:v.all Gw=true):Tx 1 1 v:=KL (n:=1) (s:=v) (Or.inl rfl) (yG h0 fun r hr hl=>Is v r h0 hv hr (by rw[List.length_append];omega))
theorem rK:Tx 1 1 jG:=Hv (by decide) (by decide)
theorem Gx (n:Nat):Tx 1 1 (bR n):=by
 refine Hv (yH n) ?_
 rw[List.all_eq_true]
 intro d hd
 obtain⟨h1,h2⟩:=Dy n d hd
 have key:∀m:Nat,48≤m→m≤57→Gw (UInt8.ofNat m)=true:=by
  intro m a b
  obtain rfl|rfl|rfl|rfl|rfl|rfl|rfl|rfl|rfl|rfl:m=48∨m=49∨m=50∨m=51∨m=52∨m=53∨m=54∨m=55∨m=56∨m=57:=by omega
  all_goals rfl
 have:=key d.toNat h1 h2
 rwa [UInt8.ofNat_toNat]at this
theorem Hw (u s:Bs):u++nI s≠[]:=by simp[nI]
theorem kG (s:Bs) (hs:s.length≤4294967295):Tx 1 1 (dN s):=by
 refine KL (n:=2) (s:=s) (Or.inr rfl) ?_
 unfold dN
 split
 ·rename_i h
  refine yG (by simp[gA]) fun r hr hl=>KT s r (by omega) (by rw[List.length_append];omega)
 ·split
  ·refine yG (Hw [] s) fun r hr hl=>Fe [] (Or.inl rfl) s r hs (by omega)
  ·refine yG (Hw [126] s) fun r hr hl=>Fe [126] (Or.inr rfl) s r hs (by omega)
theorem rL (s:Bs) (is:Bool) (hs:s.length≤4294967295):Tx 1 1 (qJ s is):=by
 unfold qJ
 split
 ·exact kG s hs
 ·exact rK
theorem PI {s:Bs} {ts:List Tkn} (h:Tks s ts):∀(out:List V),out.length+ts.length≤1000000000000→
  Evt (fun k j=>L25 (aA cfg k) j out s) (.tup [.lst 68 false (out++ts.map tkV), .int .i64 0],[]):=by
 induction h with
 |nil=>
  intro out ho
  refine N1 out [] ?_
  simp only[Fb,lZ rfl,Bool.not_true,Bool.false_eq_true,if_false,List.map_nil,List.append_nil]
  exact aD _
 |cons h0 h hr ih=>
  rename_i s r t ts
  intro out ho
  rw[List.length_cons]at ho
  refine N1 out s ?_
  have e0:sEq s []=false:=mA h0
  have ap:aW out [tkV t] 25=true:=dM (by simp only[List.length_cons,List.length_nil];omega)
  have:=ih (out++[tkV t]) (by simp only[List.length_append,List.length_cons,List.length_nil];omega)
  rw[List.append_assoc,List.singleton_append]at this
  simp only[Fb,e0,Bool.not_false,if_true]
  refine aB h ?_
  simp only[bC,List.headD_cons,List.tail_cons,aU,Bool.not_true,Bool.false_eq_true,if_false,aR]
  show Evt (fun k j=>chk (aW out [tkV t] 25) (L25 (aA cfg k) j (out++[tkV t]) r)) _
  simp only[bL ap]
  exact this
theorem RX {s:Bs} {ts:List Tkn} (h:Tks s ts) (hn:ts.length≤1000000000000):Ret 25 [.lst 5 false (ofBytes s)] [] (.tup [.lst 68 false (ts.map tkV), .int .i64 0],[]):=by
 refine M25 (ofBytes s) ?_
 simp only[T25,bT]
 exact PI h [] (by simpa using hn)
theorem KW {k n:Nat} {x:Bs} (h:Tx k n x) (hl:x.length≤99999999999900):∃ts,Sq k ts∧ts.length≤n∧Tks (([40]++x)++[41]) ((3,[])::(ts++[(4,[])])):=by
 obtain⟨ts,h1,h2,h3⟩:=h
 refine⟨ts,h1,h2,?_⟩
 have e:([40]++x)++[41]=40::(x++[41]):=by simp
 rw[e]
 refine .cons (by simp) (nK 40 3 (by simp) _) (h3 _ _ (KJ _ (by simp)) (by simp only[List.length_cons,List.length_nil];omega) ?_)
 exact .cons (by simp) (nK 41 4 (by simp) _) .nil
end Go.Proofs.YtdoaoaicdimbeaaGreatDoor
end
