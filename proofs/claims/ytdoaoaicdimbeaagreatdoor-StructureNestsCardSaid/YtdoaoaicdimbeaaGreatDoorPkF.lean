/- Lemmas for the claim, merged: the plain reading of the program's functions, its soundness, and what they compute. -/
import Derived.Test.YtdoaoaicdimbeaaGreatDoorPkE
import Derived.KernelRfl
import Derived.ChangeSlices
set_option linter.all false
set_option linter.unusedVariables false
set_option linter.unusedSimpArgs false
section
namespace Go.Proofs.YtdoaoaicdimbeaaGreatDoor
open Go.Ev Go
def lH:Bs:=[13,10,120]
theorem KL:dZ lH 32 0 lH.length false 1=(dX 0 2 3,1):=by kernel_rfl
theorem Re:partV (dX 0 2 3)= .agg [.int .i64 0, .int .i64 0, .int .i64 2, .int .i64 2, .int .i64 3, .lst 36 false [], .lst 32 false [], .int .i64 0, .int .i64 0]:=by kernel_rfl
def csB:Bs:=[40,34,99,104,97,114,115,101,116,34,32,34,117,115,45,97,115,99,105,105,34,41]
theorem Gk:fN lH (dX 0 2 3)=(textW,plainW,csB):=by kernel_rfl
def Nf:Bs:=[99,111,110,116,101,110,116,45,105,100]
def Ng:Bs:=[99,111,110,116,101,110,116,45,100,101,115,99,114,105,112,116,105,111,110]
theorem Pk:vW lH (dX 0 2 3) Nf=jY:=by kernel_rfl
theorem Pl:vW lH (dX 0 2 3) Ng=jY:=by kernel_rfl
theorem Rf:Eu lH (dX 0 2 3)=[55,98,105,116]:=by kernel_rfl
theorem Pm:eK textW=[34,116,101,120,116,34]:=by kernel_rfl
theorem Pn:eK plainW=[34,112,108,97,105,110,34]:=by kernel_rfl
theorem Po:eK [55,98,105,116]=[34,55,98,105,116,34]:=by kernel_rfl
def Nh:Bs:=[40,34,116,101,120,116,34,32,34,112,108,97,105,110,34,32,40,34,99,104,97,114,115,101,116,34,32,34,117,115,45,97,115,99,105,105,34,41,32,78,73,76,32,78,73,76,32,34,55,98,105,116,34,32,49,32,49,41]
def Hk:List Bs:=[[34,116,101,120,116,34],[34,112,108,97,105,110,34],csB,jY,jY,[34,55,98,105,116,34],[49],[49]]
theorem Rh:mC Hk=Nh:=by kernel_rfl
theorem Ri:(Lib.join Hk [32]).length=56:=by kernel_rfl
theorem Ni:Ret 23 [.lst 5 false (ofBytes lH),partV (dX 0 2 3), .bool false] [] (.str Nh,[]):=by
 have hK:=Gj lH (by simp[lH]) (dX 0 2 3)
 have hF1:=Ao lH (by simp[lH]) (dX 0 2 3) Nf (by simp[Nf])
 have hF2:=Ao lH (by simp[lH]) (dX 0 2 3) Ng (by simp[Ng])
 have hE:=LY lH (by simp[lH]) (dX 0 2 3)
 have h1:=lC textW (by simp[textW])
 have h2:=lC plainW (by simp[plainW])
 have h3:=lC [55,98,105,116] (by simp)
 have hd:Ret 47 [.int .i64 1] [] (.str [49],[]):=by
  have:=Ea 1 (by omega)
  rw[jB (by omega)]at this
  exact this
 have hc:Ret 48 [.lst 5 false (ofBytes lH), .agg [.int .i64 2, .int .i64 3]] [] (.int .i64 1,[]):=dV (h:=vD) (by kernel_rfl) (by kernel_rfl)
 have hr:Ret 50 [.lst 9 false (Hk.map V.str)] [] (.str (mC Hk),[]):=Gg Hk (by simp[Hk]) (by rw[Ri];omega)
 rw[Rh]at hr
 rw[Gk]at hK
 rw[Pk]at hF1
 rw[Pl]at hF2
 rw[Rf]at hE
 rw[Pm]at h1
 rw[Pn]at h2
 rw[Po]at h3
 rw[Re]at hK hF1 hF2 hE ⊢
 refine M23 (ofBytes lH) 0 0 2 2 3 [] [] 0 0 false ?_
 have z1:((0:Int)==(1:Int))=false:=rfl
 have z2:((0:Int)==(2:Int))=false:=rfl
 have hw:IntKind.wrap .i64 ((3:Int) - 2)=1:=by kernel_rfl
 have ht:sEq textW [116,101,120,116]=true:=lR rfl
 have ap:∀a b c d e f g h:Bs,aW [V.str a,V.str b,V.str c,V.str d,V.str e,V.str f,V.str g] [V.str h] 17=true:=fun a b c d e f g h=>dQ (by simp)
 simp only[T23,z1,Bool.false_eq_true,if_false]
 refine aB hK ?_
 simp only[Ex,bV,List.headD_cons,List.tail_cons,aS]
 refine aB h1 ?_
 refine aB h2 ?_
 refine aB hF1 ?_
 refine aB hF2 ?_
 refine aB hE ?_
 simp only[aS]
 refine aB h3 ?_
 rw[hw]
 refine aB hd ?_
 refine eR (v:=false) (by rw[z2];rfl) ?_
 simp only[Bool.false_eq_true,if_false,ht,if_true]
 refine aB hc ?_
 simp only[dC]
 refine aB hd ?_
 simp only[aS,bM (ap _ _ _ _ _ _ _ _)]
 refine aB hr ?_
 exact aD _
theorem Pp:Ret 22 [] [] (.bool true,[]):=by
 have hP:=LP lH (by simp[lH])
 rw[KL]at hP
 have hK:=Gj lH (by simp[lH]) (dX 0 2 3)
 rw[Gk]at hK
 refine M22 ?_
 refine Nc (g' :=fun k _=>Option.bind (aA cfg k 14 [.lst 5 false (ofBytes lH)] []) fun z0=>_) (fun k n=>by rw[T22];rfl) ?_
 refine aB hP ?_
 simp only[bV,List.headD_cons,List.tail_cons,dC,jR]
 refine aB hK ?_
 have z0:((0:Int)==(0:Int))=true:=rfl
 simp only[z0,if_true]
 refine aB Ni ?_
 have q1:sEq Nh [40,34,116,101,120,116,34,32,34,112,108,97,105,110,34,32,40,34,99,104,97,114,115,101,116,34,32,34,117,115,45,97,115,99,105,105,34,41,32,78,73,76,32,78,73,76,32,34,55,98,105,116,34,32,49,32,49,41]=true:=lR rfl
 have q2:sEq textW [116,101,120,116]=true:=lR rfl
 have q3:sEq plainW [112,108,97,105,110]=true:=lR rfl
 simp only[Ex,bV,List.headD_cons,List.tail_cons,aS,q1,q2,q3,if_true]
 exact aD _
end Go.Proofs.YtdoaoaicdimbeaaGreatDoor
end
section
namespace Go.Proofs.YtdoaoaicdimbeaaGreatDoor
open Go.Ev Go
open List (headD tail getD length drop take)
open V (getI getL getT getS getB)
set_option maxRecDepth 100000
variable (call : FuncId → Fun) (icall : aO (V × List Ob)) (again : List It → St → Option (V × List Ob))
def Ap (call:FuncId→Fun) (ag0:List UInt8→Int→Int→Option (V×List Ob)) (s0:List UInt8) (i1:Int) (i2:Int):Option (V×List Ob):=
 if(decide (i2<((length s0:Nat):Int)))=true then
 chk (decide (0≤i2)) (chk (decide (i2<((length s0:Nat):Int))) (if(((UInt8.toNat (getD s0 (Int.toNat i2) 0):Nat):Int)==(92:Int))=true then
 (ag0 (s0) (i1) ((IntKind.wrap .i64 ((IntKind.wrap .i64 (i2+(1:Int)))+(1:Int)))))
 else
 if(((UInt8.toNat (getD s0 (Int.toNat i2) 0):Nat):Int)==(40:Int))=true then
 (ag0 (s0) ((IntKind.wrap .i64 (i1+(1:Int)))) ((IntKind.wrap .i64 (i2+(1:Int)))))
 else
 if(((UInt8.toNat (getD s0 (Int.toNat i2) 0):Nat):Int)==(41:Int))=true then
 if((IntKind.wrap .i64 (i1 - (1:Int)))==(0:Int))=true then
 some ((V.int .i64 (IntKind.wrap .i64 (i2+(1:Int)))),[])
 else
 (ag0 (s0) ((IntKind.wrap .i64 (i1 - (1:Int)))) ((IntKind.wrap .i64 (i2+(1:Int)))))
 else
 (ag0 (s0) (i1) ((IntKind.wrap .i64 (i2+(1:Int)))))))
 else
 some ((V.int .i64 ((length s0:Nat):Int)),[])
def Jf (call:FuncId→Fun) (ag0:List UInt8→Int→Int→Option (V×List Ob)) (a0:List UInt8):Option (V×List Ob):=
 (ag0 (a0) ((0:Int)) ((0:Int)))
def KN (a0:List UInt8):List V:=[V.str a0]
def vX (s0:List UInt8) (i1:Int) (i2:Int):St:=⟨[(V.str s0),V.bot,V.bot,(V.int IntKind.i64 i1),(V.int IntKind.i64 i2)]++List.replicate 27 V.bot,[]⟩
theorem Nj (s0:List UInt8) (i1:Int) (i2:Int):
 RM 137 Tryz.f137 [] call icall again (aI Tryz.f137 0) (vX s0 i1 i2)=Ap call (fun s0 i1 i2=>again (aI Tryz.f137 0) (vX s0 i1 i2)) s0 i1 i2:=by kernel_rfl
theorem Rj (a0:List UInt8):GO 137 Tryz.f137 (KN a0) [] call icall again=Jf call (fun s0 i1 i2=>again (aI Tryz.f137 0) (vX s0 i1 i2)) a0:=by kernel_rfl
def AY (call:FuncId→Fun):Nat→(List UInt8→Int→Int→Option (V×List Ob))
 |0=>fun _ _ _=>none
 |n+1=>Ap call (AY call n)
theorem Pq (call:FuncId→Fun) (icall:aO (V×List Ob)):∀n,(∀(s0:List UInt8) (i1:Int) (i2:Int),RN 137 Tryz.f137 [] call icall n (aI Tryz.f137 0) (vX s0 i1 i2)=(AY call n) s0 i1 i2)
 |0=>fun s0 i1 i2=>rfl
 |n+1=>by
  have ih:=Pq call icall n
  exact fun s0 i1 i2=>(Nj call icall (RN 137 Tryz.f137 [] call icall n) s0 i1 i2).trans (by rw[show(fun s0 i1 i2=>RN 137 Tryz.f137 [] call icall n (aI Tryz.f137 0) (vX s0 i1 i2))=(AY call n)from(funext fun s0=>funext fun i1=>funext fun i2=>ih s0 i1 i2)];rfl)
theorem Rk (k:Nat) (a0:List UInt8):aA cfg (k+1) 137 (KN a0) []=Jf (aA cfg k) (AY (aA cfg k) k) a0:=by
 have ih:=Pq (aA cfg k) (aE cfg (aA cfg k) 20) k
 refine(show aA cfg (k+1) 137 (KN a0) []=GO 137 Tryz.f137 (KN a0) [] (aA cfg k) (aE cfg (aA cfg k) 20) (RN 137 Tryz.f137 [] (aA cfg k) (aE cfg (aA cfg k) 20) k)by kernel_rfl).trans ((Rj _ _ _ a0).trans ?_)
 rw[show(fun s0 i1 i2=>RN 137 Tryz.f137 [] (aA cfg k) (aE cfg (aA cfg k) 20) k (aI Tryz.f137 0) (vX s0 i1 i2))=(AY (aA cfg k) k)from(funext fun s0=>funext fun i1=>funext fun i2=>ih s0 i1 i2)]
theorem Rl (a0:List UInt8) {r:V×List Ob} (h:Evt (fun k n=>Jf (aA cfg k) (AY (aA cfg k) n) a0) r):Ret 137 [V.str a0] [] r:=aR (g:=fun k n=>Jf (aA cfg k) (AY (aA cfg k) n) a0) (fun k=>Rk k a0) h
theorem Nk (s0:List UInt8) (i1:Int) (i2:Int) {r:V×List Ob} (h:Evt (fun k n=>Ap (aA cfg k) (AY (aA cfg k) n) s0 i1 i2) r):Evt (fun k n=>(AY (aA cfg k) n) s0 i1 i2) r:=aZ (fun k n=>rfl) h
def Aq (call:FuncId→Fun) (ag0:List UInt8→Option (V×List Ob)) (s0:List UInt8):Option (V×List Ob):=
 if(!(sEq s0 []))=true then
 chk (decide (0≤(0:Int))) (chk (decide ((0:Int)<((length s0:Nat):Int))) (Option.bind (call 104 [(V.int .u8 ((UInt8.toNat (getD s0 (Int.toNat (0:Int)) 0):Nat):Int))] []) fun z0=>
 if(getB z0.1)=true then
 chk (decide (0≤(1:Int))) (chk (decide ((1:Int)≤((length s0:Nat):Int))) ((ag0 ((drop (Int.toNat (1:Int)) s0)))))
 else
 if(((UInt8.toNat (getD s0 (Int.toNat (0:Int)) 0):Nat):Int)==(40:Int))=true then
 Option.bind (call 137 [(V.str s0)] []) fun z1=>
 chk (decide (0≤(getI z1.1))) (chk (decide ((getI z1.1)≤((length s0:Nat):Int))) ((ag0 ((drop (Int.toNat (getI z1.1)) s0)))))
 else
 some ((V.str s0),[])))
 else
 some ((V.str s0),[])
def Jg (call:FuncId→Fun) (ag0:List UInt8→Option (V×List Ob)) (a0:List UInt8):Option (V×List Ob):=
 (ag0 (a0))
def KO (a0:List UInt8):List V:=[V.str a0]
def vY (s0:List UInt8):St:=⟨[(V.str s0)]++List.replicate 21 V.bot,[]⟩
theorem Nl (s0:List UInt8):
 RM 106 Tryz.f106 [] call icall again (aI Tryz.f106 0) (vY s0)=Aq call (fun s0=>again (aI Tryz.f106 0) (vY s0)) s0:=by kernel_rfl
theorem Rm (a0:List UInt8):GO 106 Tryz.f106 (KO a0) [] call icall again=Jg call (fun s0=>again (aI Tryz.f106 0) (vY s0)) a0:=by kernel_rfl
def AZ (call:FuncId→Fun):Nat→(List UInt8→Option (V×List Ob))
 |0=>fun _=>none
 |n+1=>Aq call (AZ call n)
theorem Pr (call:FuncId→Fun) (icall:aO (V×List Ob)):∀n,(∀(s0:List UInt8),RN 106 Tryz.f106 [] call icall n (aI Tryz.f106 0) (vY s0)=(AZ call n) s0)
 |0=>fun s0=>rfl
 |n+1=>by
  have ih:=Pr call icall n
  exact fun s0=>(Nl call icall (RN 106 Tryz.f106 [] call icall n) s0).trans (by rw[show(fun s0=>RN 106 Tryz.f106 [] call icall n (aI Tryz.f106 0) (vY s0))=(AZ call n)from(funext fun s0=>ih s0)];rfl)
theorem Rn (k:Nat) (a0:List UInt8):aA cfg (k+1) 106 (KO a0) []=Jg (aA cfg k) (AZ (aA cfg k) k) a0:=by
 have ih:=Pr (aA cfg k) (aE cfg (aA cfg k) 20) k
 refine(show aA cfg (k+1) 106 (KO a0) []=GO 106 Tryz.f106 (KO a0) [] (aA cfg k) (aE cfg (aA cfg k) 20) (RN 106 Tryz.f106 [] (aA cfg k) (aE cfg (aA cfg k) 20) k)by kernel_rfl).trans ((Rm _ _ _ a0).trans ?_)
 rw[show(fun s0=>RN 106 Tryz.f106 [] (aA cfg k) (aE cfg (aA cfg k) 20) k (aI Tryz.f106 0) (vY s0))=(AZ (aA cfg k) k)from(funext fun s0=>ih s0)]
theorem Ro (a0:List UInt8) {r:V×List Ob} (h:Evt (fun k n=>Jg (aA cfg k) (AZ (aA cfg k) n) a0) r):Ret 106 [V.str a0] [] r:=aR (g:=fun k n=>Jg (aA cfg k) (AZ (aA cfg k) n) a0) (fun k=>Rn k a0) h
theorem Nm (s0:List UInt8) {r:V×List Ob} (h:Evt (fun k n=>Aq (aA cfg k) (AZ (aA cfg k) n) s0) r):Evt (fun k n=>(AZ (aA cfg k) n) s0) r:=aZ (fun k n=>rfl) h
def Ar (call:FuncId→Fun) (ag0:List UInt8→List V→Int→Option (V×List Ob)) (s0:List UInt8) (l1:List V) (i2:Int):Option (V×List Ob):=
 if(decide (i2<((length s0:Nat):Int)))=true then
 chk (decide (0≤i2)) (chk (decide (i2<((length s0:Nat):Int))) (if(((UInt8.toNat (getD s0 (Int.toNat i2) 0):Nat):Int)==(34:Int))=true then
 chk (decide (0≤(IntKind.wrap .i64 (i2+(1:Int))))) (chk (decide ((IntKind.wrap .i64 (i2+(1:Int)))≤((length s0:Nat):Int))) (some ((V.tup [(V.str (bytesOf l1)),(V.str (drop (Int.toNat (IntKind.wrap .i64 (i2+(1:Int)))) s0)),(V.bool true)]),[])))
 else
 if(((UInt8.toNat (getD s0 (Int.toNat i2) 0):Nat):Int)==(92:Int))=true then
 if(decide ((IntKind.wrap .i64 (i2+(1:Int)))<((length s0:Nat):Int)))=true then
 chk (decide (0≤(IntKind.wrap .i64 (i2+(1:Int))))) (chk (decide ((IntKind.wrap .i64 (i2+(1:Int)))<((length s0:Nat):Int))) (chk (aW l1 [(V.int .u8 ((UInt8.toNat (getD s0 (Int.toNat (IntKind.wrap .i64 (i2+(1:Int)))) 0):Nat):Int))] 2) ((ag0 (s0) ((l1++[(V.int .u8 ((UInt8.toNat (getD s0 (Int.toNat (IntKind.wrap .i64 (i2+(1:Int)))) 0):Nat):Int))])) ((IntKind.wrap .i64 ((IntKind.wrap .i64 (i2+(1:Int)))+(1:Int))))))))
 else
 (ag0 (s0) (l1) ((IntKind.wrap .i64 ((IntKind.wrap .i64 (i2+(1:Int)))+(1:Int)))))
 else
 chk (aW l1 [(V.int .u8 ((UInt8.toNat (getD s0 (Int.toNat i2) 0):Nat):Int))] 2) ((ag0 (s0) ((l1++[(V.int .u8 ((UInt8.toNat (getD s0 (Int.toNat i2) 0):Nat):Int))])) ((IntKind.wrap .i64 (i2+(1:Int))))))))
 else
 some ((V.tup [(V.str []),(V.str []),(V.bool false)]),[])
def Jh (call:FuncId→Fun) (ag0:List UInt8→List V→Int→Option (V×List Ob)) (a0:List UInt8):Option (V×List Ob):=
 (ag0 (a0) ([]) ((1:Int)))
def KP (a0:List UInt8):List V:=[V.str a0]
def vZ (s0:List UInt8) (l1:List V) (i2:Int):St:=⟨[(V.str s0),V.bot,V.bot,V.bot,V.bot,(V.lst 5 true l1),(V.int IntKind.i64 i2)]++List.replicate 37 V.bot,[]⟩
theorem Nn (s0:List UInt8) (l1:List V) (i2:Int):
 RM 107 Tryz.f107 [] call icall again (aI Tryz.f107 0) (vZ s0 l1 i2)=Ar call (fun s0 l1 i2=>again (aI Tryz.f107 0) (vZ s0 l1 i2)) s0 l1 i2:=by kernel_rfl
theorem Rp (a0:List UInt8):GO 107 Tryz.f107 (KP a0) [] call icall again=Jh call (fun s0 l1 i2=>again (aI Tryz.f107 0) (vZ s0 l1 i2)) a0:=by kernel_rfl
def A0 (call:FuncId→Fun):Nat→(List UInt8→List V→Int→Option (V×List Ob))
 |0=>fun _ _ _=>none
 |n+1=>Ar call (A0 call n)
theorem Pu (call:FuncId→Fun) (icall:aO (V×List Ob)):∀n,(∀(s0:List UInt8) (l1:List V) (i2:Int),RN 107 Tryz.f107 [] call icall n (aI Tryz.f107 0) (vZ s0 l1 i2)=(A0 call n) s0 l1 i2)
 |0=>fun s0 l1 i2=>rfl
 |n+1=>by
  have ih:=Pu call icall n
  exact fun s0 l1 i2=>(Nn call icall (RN 107 Tryz.f107 [] call icall n) s0 l1 i2).trans (by rw[show(fun s0 l1 i2=>RN 107 Tryz.f107 [] call icall n (aI Tryz.f107 0) (vZ s0 l1 i2))=(A0 call n)from(funext fun s0=>funext fun l1=>funext fun i2=>ih s0 l1 i2)];rfl)
theorem Rq (k:Nat) (a0:List UInt8):aA cfg (k+1) 107 (KP a0) []=Jh (aA cfg k) (A0 (aA cfg k) k) a0:=by
 have ih:=Pu (aA cfg k) (aE cfg (aA cfg k) 20) k
 refine(show aA cfg (k+1) 107 (KP a0) []=GO 107 Tryz.f107 (KP a0) [] (aA cfg k) (aE cfg (aA cfg k) 20) (RN 107 Tryz.f107 [] (aA cfg k) (aE cfg (aA cfg k) 20) k)by kernel_rfl).trans ((Rp _ _ _ a0).trans ?_)
 rw[show(fun s0 l1 i2=>RN 107 Tryz.f107 [] (aA cfg k) (aE cfg (aA cfg k) 20) k (aI Tryz.f107 0) (vZ s0 l1 i2))=(A0 (aA cfg k) k)from(funext fun s0=>funext fun l1=>funext fun i2=>ih s0 l1 i2)]
theorem Rr (a0:List UInt8) {r:V×List Ob} (h:Evt (fun k n=>Jh (aA cfg k) (A0 (aA cfg k) n) a0) r):Ret 107 [V.str a0] [] r:=aR (g:=fun k n=>Jh (aA cfg k) (A0 (aA cfg k) n) a0) (fun k=>Rq k a0) h
theorem No (s0:List UInt8) (l1:List V) (i2:Int) {r:V×List Ob} (h:Evt (fun k n=>Ar (aA cfg k) (A0 (aA cfg k) n) s0 l1 i2) r):Evt (fun k n=>(A0 (aA cfg k) n) s0 l1 i2) r:=aZ (fun k n=>rfl) h
def As (call:FuncId→Fun) (ag0:List UInt8→Int→Option (V×List Ob)) (s0:List UInt8) (i1:Int):Option (V×List Ob):=
 if(decide (i1<((length s0:Nat):Int)))=true then
 chk (decide (0≤i1)) (chk (decide (i1<((length s0:Nat):Int))) (if(decide (((UInt8.toNat (getD s0 (Int.toNat i1) 0):Nat):Int)≤(32:Int)))=false then
 if(((UInt8.toNat (getD s0 (Int.toNat i1) 0):Nat):Int)==(127:Int))=false then
 Option.bind (call 89 [(V.str [60,62,58,59,44,64,40,41,34]),(V.int .u8 ((UInt8.toNat (getD s0 (Int.toNat i1) 0):Nat):Int))] []) fun z0=>
 if(decide ((getI z0.1)≥(0:Int)))=true then
 chk (decide (0≤i1)) (chk (decide (i1≤((length s0:Nat):Int))) (chk (decide (0≤(0:Int))) (chk (decide ((0:Int)≤i1)) (chk (decide (0≤i1)) (chk (decide (i1≤((length s0:Nat):Int))) (some ((V.tup [(V.str (drop (Int.toNat (0:Int)) (take (Int.toNat i1) s0))),(V.str (drop (Int.toNat i1) s0))]),[])))))))
 else
 if(((UInt8.toNat (getD s0 (Int.toNat i1) 0):Nat):Int)==(91:Int))=true then
 chk (decide (0≤i1)) (chk (decide (i1≤((length s0:Nat):Int))) (Option.bind (call 89 [(V.str (drop (Int.toNat i1) s0)),(V.int .u8 93)] []) fun z1=>
 if(decide ((getI z1.1)<(0:Int)))=true then
 some ((V.tup [(V.str []),(V.str s0)]),[])
 else
 (ag0 (s0) ((IntKind.wrap .i64 (i1+(IntKind.wrap .i64 ((getI z1.1)+(1:Int)))))))))
 else
 (ag0 (s0) ((IntKind.wrap .i64 (i1+(1:Int)))))
 else
 chk (decide (0≤i1)) (chk (decide (i1≤((length s0:Nat):Int))) (chk (decide (0≤(0:Int))) (chk (decide ((0:Int)≤i1)) (chk (decide (0≤i1)) (chk (decide (i1≤((length s0:Nat):Int))) (some ((V.tup [(V.str (drop (Int.toNat (0:Int)) (take (Int.toNat i1) s0))),(V.str (drop (Int.toNat i1) s0))]),[])))))))
 else
 chk (decide (0≤i1)) (chk (decide (i1≤((length s0:Nat):Int))) (chk (decide (0≤(0:Int))) (chk (decide ((0:Int)≤i1)) (chk (decide (0≤i1)) (chk (decide (i1≤((length s0:Nat):Int))) (some ((V.tup [(V.str (drop (Int.toNat (0:Int)) (take (Int.toNat i1) s0))),(V.str (drop (Int.toNat i1) s0))]),[])))))))))
 else
 chk (decide (0≤i1)) (chk (decide (i1≤((length s0:Nat):Int))) (chk (decide (0≤(0:Int))) (chk (decide ((0:Int)≤i1)) (chk (decide (0≤i1)) (chk (decide (i1≤((length s0:Nat):Int))) (some ((V.tup [(V.str (drop (Int.toNat (0:Int)) (take (Int.toNat i1) s0))),(V.str (drop (Int.toNat i1) s0))]),[])))))))
def Ji (call:FuncId→Fun) (ag0:List UInt8→Int→Option (V×List Ob)) (a0:List UInt8):Option (V×List Ob):=
 (ag0 (a0) ((0:Int)))
def KQ (a0:List UInt8):List V:=[V.str a0]
def wA (s0:List UInt8) (i1:Int):St:=⟨[(V.str s0),V.bot,V.bot,V.bot,(V.int IntKind.i64 i1)]++List.replicate 43 V.bot,[]⟩
theorem Np (s0:List UInt8) (i1:Int):
 RM 108 Tryz.f108 [] call icall again (aI Tryz.f108 0) (wA s0 i1)=As call (fun s0 i1=>again (aI Tryz.f108 0) (wA s0 i1)) s0 i1:=by kernel_rfl
theorem Rs (a0:List UInt8):GO 108 Tryz.f108 (KQ a0) [] call icall again=Ji call (fun s0 i1=>again (aI Tryz.f108 0) (wA s0 i1)) a0:=by kernel_rfl
def A1 (call:FuncId→Fun):Nat→(List UInt8→Int→Option (V×List Ob))
 |0=>fun _ _=>none
 |n+1=>As call (A1 call n)
theorem Pv (call:FuncId→Fun) (icall:aO (V×List Ob)):∀n,(∀(s0:List UInt8) (i1:Int),RN 108 Tryz.f108 [] call icall n (aI Tryz.f108 0) (wA s0 i1)=(A1 call n) s0 i1)
 |0=>fun s0 i1=>rfl
 |n+1=>by
  have ih:=Pv call icall n
  exact fun s0 i1=>(Np call icall (RN 108 Tryz.f108 [] call icall n) s0 i1).trans (by rw[show(fun s0 i1=>RN 108 Tryz.f108 [] call icall n (aI Tryz.f108 0) (wA s0 i1))=(A1 call n)from(funext fun s0=>funext fun i1=>ih s0 i1)];rfl)
theorem Rt (k:Nat) (a0:List UInt8):aA cfg (k+1) 108 (KQ a0) []=Ji (aA cfg k) (A1 (aA cfg k) k) a0:=by
 have ih:=Pv (aA cfg k) (aE cfg (aA cfg k) 20) k
 refine(show aA cfg (k+1) 108 (KQ a0) []=GO 108 Tryz.f108 (KQ a0) [] (aA cfg k) (aE cfg (aA cfg k) 20) (RN 108 Tryz.f108 [] (aA cfg k) (aE cfg (aA cfg k) 20) k)by kernel_rfl).trans ((Rs _ _ _ a0).trans ?_)
 rw[show(fun s0 i1=>RN 108 Tryz.f108 [] (aA cfg k) (aE cfg (aA cfg k) 20) k (aI Tryz.f108 0) (wA s0 i1))=(A1 (aA cfg k) k)from(funext fun s0=>funext fun i1=>ih s0 i1)]
theorem Ru (a0:List UInt8) {r:V×List Ob} (h:Evt (fun k n=>Ji (aA cfg k) (A1 (aA cfg k) n) a0) r):Ret 108 [V.str a0] [] r:=aR (g:=fun k n=>Ji (aA cfg k) (A1 (aA cfg k) n) a0) (fun k=>Rt k a0) h
theorem Nq (s0:List UInt8) (i1:Int) {r:V×List Ob} (h:Evt (fun k n=>As (aA cfg k) (A1 (aA cfg k) n) s0 i1) r):Evt (fun k n=>(A1 (aA cfg k) n) s0 i1) r:=aZ (fun k n=>rfl) h
def Ey (call:FuncId→Fun) (ag0:List UInt8→List V→Option (V×List Ob)) (s0:List UInt8) (l1:List V):Option (V×List Ob):=
 if(!(sEq s0 []))=true then
 chk (decide (0≤(0:Int))) (chk (decide ((0:Int)<((length s0:Nat):Int))) (Option.bind (call 89 [(V.str [60,62,58,59,44,64]),(V.int .u8 ((UInt8.toNat (getD s0 (Int.toNat (0:Int)) 0):Nat):Int))] []) fun z0=>
 if(decide ((getI z0.1)≥(0:Int)))=true then
 chk (decide (0≤(0:Int))) (chk (decide ((0:Int)<((length s0:Nat):Int))) (chk (aW l1 [(V.ifc 182 (V.int .u8 ((UInt8.toNat (getD s0 (Int.toNat (0:Int)) 0):Nat):Int)))] 17) (chk (decide (0≤(1:Int))) (chk (decide ((1:Int)≤((length s0:Nat):Int))) (Option.bind (call 106 [(V.str (drop (Int.toNat (1:Int)) s0))] []) fun z1=>
 (ag0 ((getS z1.1)) ((l1++[(V.ifc 182 (V.int .u8 ((UInt8.toNat (getD s0 (Int.toNat (0:Int)) 0):Nat):Int)))]))))))))
 else
 chk (decide (0≤(0:Int))) (chk (decide ((0:Int)<((length s0:Nat):Int))) (if(((UInt8.toNat (getD s0 (Int.toNat (0:Int)) 0):Nat):Int)==(34:Int))=true then
 Option.bind (call 107 [(V.str s0)] []) fun z1=>
 if(!(getB (headD (tail (tail (getT z1.1))) V.bot)))=true then
 some ((V.tup [(V.lst 213 false []),(V.bool false)]),[])
 else
 chk (aW l1 [(V.ifc 183 (V.str (getS (headD (getT z1.1) V.bot))))] 17) (Option.bind (call 106 [(V.str (getS (headD (tail (getT z1.1)) V.bot)))] []) fun z2=>
 (ag0 ((getS z2.1)) ((l1++[(V.ifc 183 (V.str (getS (headD (getT z1.1) V.bot))))]))))
 else
 Option.bind (call 108 [(V.str s0)] []) fun z1=>
 if(sEq (getS (headD (getT z1.1) V.bot)) [])=true then
 some ((V.tup [(V.lst 213 false []),(V.bool false)]),[])
 else
 chk (aW l1 [(V.ifc 183 (V.str (getS (headD (getT z1.1) V.bot))))] 17) (Option.bind (call 106 [(V.str (getS (headD (tail (getT z1.1)) V.bot)))] []) fun z2=>
 (ag0 ((getS z2.1)) ((l1++[(V.ifc 183 (V.str (getS (headD (getT z1.1) V.bot))))]))))))))
 else
 some ((V.tup [(V.lst 213 false l1),(V.bool true)]),[])
def T71 (call:FuncId→Fun) (ag0:List UInt8→List V→Option (V×List Ob)) (a0:List UInt8):Option (V×List Ob):=
 Option.bind (call 106 [(V.str a0)] []) fun z0=>
 (ag0 ((getS z0.1)) ([]))
def A71 (a0:List UInt8):List V:=[V.str a0]
def B0 (s0:List UInt8) (l1:List V):St:=⟨[(V.str s0),V.bot,V.bot,V.bot,(V.lst 213 true l1)]++List.replicate 56 V.bot,[]⟩
theorem Pw (s0:List UInt8) (l1:List V):
 RM 71 Tryz.f71 [] call icall again (aI Tryz.f71 0) (B0 s0 l1)=Ey call (fun s0 l1=>again (aI Tryz.f71 0) (B0 s0 l1)) s0 l1:=by kernel_rfl
theorem E71 (a0:List UInt8):GO 71 Tryz.f71 (A71 a0) [] call icall again=T71 call (fun s0 l1=>again (aI Tryz.f71 0) (B0 s0 l1)) a0:=by kernel_rfl
def L71 (call:FuncId→Fun):Nat→(List UInt8→List V→Option (V×List Ob))
 |0=>fun _ _=>none
 |n+1=>Ey call (L71 call n)
theorem R71 (call:FuncId→Fun) (icall:aO (V×List Ob)):∀n,(∀(s0:List UInt8) (l1:List V),RN 71 Tryz.f71 [] call icall n (aI Tryz.f71 0) (B0 s0 l1)=(L71 call n) s0 l1)
 |0=>fun s0 l1=>rfl
 |n+1=>by
  have ih:=R71 call icall n
  exact fun s0 l1=>(Pw call icall (RN 71 Tryz.f71 [] call icall n) s0 l1).trans (by rw[show(fun s0 l1=>RN 71 Tryz.f71 [] call icall n (aI Tryz.f71 0) (B0 s0 l1))=(L71 call n)from(funext fun s0=>funext fun l1=>ih s0 l1)];rfl)
theorem C71 (k:Nat) (a0:List UInt8):aA cfg (k+1) 71 (A71 a0) []=T71 (aA cfg k) (L71 (aA cfg k) k) a0:=by
 have ih:=R71 (aA cfg k) (aE cfg (aA cfg k) 20) k
 refine(show aA cfg (k+1) 71 (A71 a0) []=GO 71 Tryz.f71 (A71 a0) [] (aA cfg k) (aE cfg (aA cfg k) 20) (RN 71 Tryz.f71 [] (aA cfg k) (aE cfg (aA cfg k) 20) k)by kernel_rfl).trans ((E71 _ _ _ a0).trans ?_)
 rw[show(fun s0 l1=>RN 71 Tryz.f71 [] (aA cfg k) (aE cfg (aA cfg k) 20) k (aI Tryz.f71 0) (B0 s0 l1))=(L71 (aA cfg k) k)from(funext fun s0=>funext fun l1=>ih s0 l1)]
theorem M71 (a0:List UInt8) {r:V×List Ob} (h:Evt (fun k n=>T71 (aA cfg k) (L71 (aA cfg k) n) a0) r):Ret 71 [V.str a0] [] r:=aR (g:=fun k n=>T71 (aA cfg k) (L71 (aA cfg k) n) a0) (fun k=>C71 k a0) h
theorem Px (s0:List UInt8) (l1:List V) {r:V×List Ob} (h:Evt (fun k n=>Ey (aA cfg k) (L71 (aA cfg k) n) s0 l1) r):Evt (fun k n=>(L71 (aA cfg k) n) s0 l1) r:=aZ (fun k n=>rfl) h
noncomputable def Hl (call:FuncId→Fun) (a0:List V) (a1:List V) (a2:Int):Option (V×List Ob):=
 if(((length a0:Nat):Int)==(0:Int))=true then
  some ((V.bool false),[(Ob.cells [(V.lst 213 false a0),(V.lst 26 true a1)])])
 else
  chk (decide (0≤(0:Int))) (chk (decide ((0:Int)<((length a0:Nat):Int))) (if((V.ifT (getD a0 (Int.toNat (0:Int)) V.bot))==(182:Go.TypeId))=true then
   chk (bW cfg 182 (V.ifV (getD a0 (Int.toNat (0:Int)) V.bot))) (if((getI (V.ifV (getD a0 (Int.toNat (0:Int)) V.bot)))==a2)=true then
    chk (decide (0≤(1:Int))) (chk (decide ((1:Int)≤((length a0:Nat):Int))) (some ((V.bool true),[(Ob.cells [(V.lst 213 false (drop (Int.toNat (1:Int)) a0)),(V.lst 26 true a1)])])))
   else
    some ((V.bool false),[(Ob.cells [(V.lst 213 false a0),(V.lst 26 true a1)])]))
  else
   some ((V.bool false),[(Ob.cells [(V.lst 213 false a0),(V.lst 26 true a1)])])))
def Jj (a0:List V) (a1:List V):List Ob:=[Ob.cells [V.lst 213 false a0,V.lst 26 true a1]]
def KT (a2:Int):List V:=[V.ref 0 0,V.int IntKind.u8 a2]
theorem Rv (a0:List V) (a1:List V) (a2:Int):GO 110 Tryz.f110 (KT a2) (Jj a0 a1) call icall again=Hl call a0 a1 a2:=by kernel_rfl
theorem Rw (k:Nat) (a0:List V) (a1:List V) (a2:Int):aA cfg (k+1) 110 (KT a2) (Jj a0 a1)=Hl (aA cfg k) a0 a1 a2:=
 (show aA cfg (k+1) 110 (KT a2) (Jj a0 a1)=GO 110 Tryz.f110 (KT a2) (Jj a0 a1) (aA cfg k) (aE cfg (aA cfg k) 20) (RN 110 Tryz.f110 (Jj a0 a1) (aA cfg k) (aE cfg (aA cfg k) 20) k)by kernel_rfl).trans (Rv _ _ _ a0 a1 a2)
theorem Rx (a0:List V) (a1:List V) (a2:Int) {r:V×List Ob} (h:Evt (fun k n=>Hl (aA cfg k) a0 a1 a2) r):Ret 110 [V.ref 0 0,V.int IntKind.u8 a2] [Ob.cells [V.lst 213 false a0,V.lst 26 true a1]] r:=aR (g:=fun k n=>Hl (aA cfg k) a0 a1 a2) (fun k=>Rw k a0 a1 a2) h
noncomputable def Au (call:FuncId→Fun) (ag0:List V→List V→List V→Option (V×List Ob)) (l0:List V) (l1:List V) (l2:List V):Option (V×List Ob):=
 if(decide (((length l1:Nat):Int)>(0:Int)))=true then
  chk (decide (0≤(0:Int))) (chk (decide ((0:Int)<((length l1:Nat):Int))) (if((V.ifT (getD l1 (Int.toNat (0:Int)) V.bot))==(183:Go.TypeId))=true then
   chk (bW cfg 183 (V.ifV (getD l1 (Int.toNat (0:Int)) V.bot))) (chk (aW l0 [(V.str (getS (V.ifV (getD l1 (Int.toNat (0:Int)) V.bot))))] 17) (chk (decide (0≤(1:Int))) (chk (decide ((1:Int)≤((length l1:Nat):Int))) ((ag0 ((l0++[(V.str (getS (V.ifV (getD l1 (Int.toNat (0:Int)) V.bot))))])) ((drop (Int.toNat (1:Int)) l1)) (l2))))))
  else
   some ((V.lst 9 false l0),[(Ob.cells [(V.lst 213 false l1),(V.lst 26 true l2)])])))
 else
  some ((V.lst 9 false l0),[(Ob.cells [(V.lst 213 false l1),(V.lst 26 true l2)])])
noncomputable def Jk (call:FuncId→Fun) (ag0:List V→List V→List V→Option (V×List Ob)) (a0:List V) (a1:List V):Option (V×List Ob):=
 (ag0 ([]) (a0) (a1))
def A2 (a0:List V) (a1:List V):List Ob:=[Ob.cells [V.lst 213 false a0,V.lst 26 true a1]]
def KU:List V:=[V.ref 0 0]
def wB (l0:List V) (l1:List V) (l2:List V):St:=⟨[(V.ref 0 0),V.bot,V.bot,(V.lst 9 true l0)]++List.replicate 31 V.bot,[(Ob.cells [(V.lst 213 false l1),(V.lst 26 true l2)])]⟩
theorem Nr (a0:List V) (a1:List V) (l0:List V) (l1:List V) (l2:List V):
 RM 138 Tryz.f138 (A2 a0 a1) call icall again (aI Tryz.f138 0) (wB l0 l1 l2)=Au call (fun l0 l1 l2=>again (aI Tryz.f138 0) (wB l0 l1 l2)) l0 l1 l2:=by kernel_rfl
theorem Ry (a0:List V) (a1:List V):GO 138 Tryz.f138 KU (A2 a0 a1) call icall again=Jk call (fun l0 l1 l2=>again (aI Tryz.f138 0) (wB l0 l1 l2)) a0 a1:=by kernel_rfl
noncomputable def A3 (call:FuncId→Fun):Nat→(List V→List V→List V→Option (V×List Ob))
 |0=>fun _ _ _=>none
 |n+1=>Au call (A3 call n)
theorem Py (call:FuncId→Fun) (icall:aO (V×List Ob)) (a0:List V) (a1:List V):∀n,(∀(l0:List V) (l1:List V) (l2:List V),RN 138 Tryz.f138 (A2 a0 a1) call icall n (aI Tryz.f138 0) (wB l0 l1 l2)=(A3 call n) l0 l1 l2)
 |0=>fun l0 l1 l2=>rfl
 |n+1=>by
  have ih:=Py call icall a0 a1 n
  exact fun l0 l1 l2=>(Nr call icall (RN 138 Tryz.f138 (A2 a0 a1) call icall n) a0 a1 l0 l1 l2).trans (by rw[show(fun l0 l1 l2=>RN 138 Tryz.f138 (A2 a0 a1) call icall n (aI Tryz.f138 0) (wB l0 l1 l2))=(A3 call n)from(funext fun l0=>funext fun l1=>funext fun l2=>ih l0 l1 l2)];rfl)
theorem Rz (k:Nat) (a0:List V) (a1:List V):aA cfg (k+1) 138 KU (A2 a0 a1)=Jk (aA cfg k) (A3 (aA cfg k) k) a0 a1:=by
 have ih:=Py (aA cfg k) (aE cfg (aA cfg k) 20) a0 a1 k
 refine(show aA cfg (k+1) 138 KU (A2 a0 a1)=GO 138 Tryz.f138 KU (A2 a0 a1) (aA cfg k) (aE cfg (aA cfg k) 20) (RN 138 Tryz.f138 (A2 a0 a1) (aA cfg k) (aE cfg (aA cfg k) 20) k)by kernel_rfl).trans ((Ry _ _ _ a0 a1).trans ?_)
 rw[show(fun l0 l1 l2=>RN 138 Tryz.f138 (A2 a0 a1) (aA cfg k) (aE cfg (aA cfg k) 20) k (aI Tryz.f138 0) (wB l0 l1 l2))=(A3 (aA cfg k) k)from(funext fun l0=>funext fun l1=>funext fun l2=>ih l0 l1 l2)]
theorem RA (a0:List V) (a1:List V) {r:V×List Ob} (h:Evt (fun k n=>Jk (aA cfg k) (A3 (aA cfg k) n) a0 a1) r):Ret 138 [V.ref 0 0] [Ob.cells [V.lst 213 false a0,V.lst 26 true a1]] r:=aR (g:=fun k n=>Jk (aA cfg k) (A3 (aA cfg k) n) a0 a1) (fun k=>Rz k a0 a1) h
theorem Jl (l0:List V) (l1:List V) (l2:List V) {r:V×List Ob} (h:Evt (fun k n=>Au (aA cfg k) (A3 (aA cfg k) n) l0 l1 l2) r):Evt (fun k n=>(A3 (aA cfg k) n) l0 l1 l2) r:=aZ (fun k n=>rfl) h
noncomputable def Jm (call:FuncId→Fun) (a0:List V) (a1:List V):Option (V×List Ob):=
 Option.bind (call 110 [(V.ref 0 0),(V.int .u8 (64:Int))] [(Ob.cells [(V.lst 213 false a0),(V.lst 26 true a1)])]) fun z0=>
 if(!(getB z0.1))=true then
  some ((V.tup [(V.str []),(V.bool true)]),[(Ob.cells [(V.lst 213 false (getL (headD (Ob.getC (headD z0.2 Ob.dead)) V.bot))),(V.lst 26 true (getL (headD (tail (Ob.getC (headD z0.2 Ob.dead))) V.bot)))])])
 else
  if(((length (getL (headD (Ob.getC (headD z0.2 Ob.dead)) V.bot)):Nat):Int)==(0:Int))=true then
   some ((V.tup [(V.str []),(V.bool false)]),[(Ob.cells [(V.lst 213 false (getL (headD (Ob.getC (headD z0.2 Ob.dead)) V.bot))),(V.lst 26 true (getL (headD (tail (Ob.getC (headD z0.2 Ob.dead))) V.bot)))])])
  else
   chk (decide (0≤(0:Int))) (chk (decide ((0:Int)<((length (getL (headD (Ob.getC (headD z0.2 Ob.dead)) V.bot)):Nat):Int))) (if((V.ifT (getD (getL (headD (Ob.getC (headD z0.2 Ob.dead)) V.bot)) (Int.toNat (0:Int)) V.bot))==(183:Go.TypeId))=true then
    chk (bW cfg 183 (V.ifV (getD (getL (headD (Ob.getC (headD z0.2 Ob.dead)) V.bot)) (Int.toNat (0:Int)) V.bot))) (chk (decide (0≤(1:Int))) (chk (decide ((1:Int)≤((length (getL (headD (Ob.getC (headD z0.2 Ob.dead)) V.bot)):Nat):Int))) (some ((V.tup [(V.str (getS (V.ifV (getD (getL (headD (Ob.getC (headD z0.2 Ob.dead)) V.bot)) (Int.toNat (0:Int)) V.bot)))),(V.bool true)]),[(Ob.cells [(V.lst 213 false (drop (Int.toNat (1:Int)) (getL (headD (Ob.getC (headD z0.2 Ob.dead)) V.bot)))),(V.lst 26 true (getL (headD (tail (Ob.getC (headD z0.2 Ob.dead))) V.bot)))])]))))
   else
    some ((V.tup [(V.str []),(V.bool false)]),[(Ob.cells [(V.lst 213 false (getL (headD (Ob.getC (headD z0.2 Ob.dead)) V.bot))),(V.lst 26 true (getL (headD (tail (Ob.getC (headD z0.2 Ob.dead))) V.bot)))])])))
def Jn (a0:List V) (a1:List V):List Ob:=[Ob.cells [V.lst 213 false a0,V.lst 26 true a1]]
def KV:List V:=[V.ref 0 0]
theorem RB (a0:List V) (a1:List V):GO 140 Tryz.f140 KV (Jn a0 a1) call icall again=Jm call a0 a1:=by kernel_rfl
theorem RD (k:Nat) (a0:List V) (a1:List V):aA cfg (k+1) 140 KV (Jn a0 a1)=Jm (aA cfg k) a0 a1:=
 (show aA cfg (k+1) 140 KV (Jn a0 a1)=GO 140 Tryz.f140 KV (Jn a0 a1) (aA cfg k) (aE cfg (aA cfg k) 20) (RN 140 Tryz.f140 (Jn a0 a1) (aA cfg k) (aE cfg (aA cfg k) 20) k)by kernel_rfl).trans (RB _ _ _ a0 a1)
theorem RE (a0:List V) (a1:List V) {r:V×List Ob} (h:Evt (fun k n=>Jm (aA cfg k) a0 a1) r):Ret 140 [V.ref 0 0] [Ob.cells [V.lst 213 false a0,V.lst 26 true a1]] r:=aR (g:=fun k n=>Jm (aA cfg k) a0 a1) (fun k=>RD k a0 a1) h
def Av (call:FuncId→Fun) (ag0:Bool→List V→List V→Option (V×List Ob)) (b0:Bool) (l1:List V) (l2:List V):Option (V×List Ob):=
 if(decide (((length l1:Nat):Int)>(0:Int)))=true then
 chk (decide (0≤(0:Int))) (chk (decide ((0:Int)<((length l1:Nat):Int))) (if((V.ifT (getD l1 (Int.toNat (0:Int)) V.bot))==(182:Go.TypeId))=true then
 chk (CSh.fits (CSh.int .u8) (V.ifV (getD l1 (Int.toNat (0:Int)) V.bot))) (if((getI (V.ifV (getD l1 (Int.toNat (0:Int)) V.bot)))==(64:Int))=true then
 Option.bind (call 140 [(V.ref 0 0)] [(Ob.cells [(V.lst 213 false l1),(V.lst 26 true l2)])]) fun z0=>
 if(!(getB (headD (tail (getT z0.1)) V.bot)))=true then
 some ((V.bool false),[(Ob.cells [(V.lst 213 false (getL (headD (Ob.getC (headD z0.2 Ob.dead)) V.bot))),(V.lst 26 true (getL (headD (tail (Ob.getC (headD z0.2 Ob.dead))) V.bot)))])])
 else
 Option.bind (call 110 [(V.ref 0 0),(V.int .u8 44)] [(Ob.cells [(V.lst 213 false (getL (headD (Ob.getC (headD z0.2 Ob.dead)) V.bot))),(V.lst 26 true (getL (headD (tail (Ob.getC (headD z0.2 Ob.dead))) V.bot)))])]) fun z1=>
 (ag0 (true) ((getL (headD (Ob.getC (headD z1.2 Ob.dead)) V.bot))) ((getL (headD (tail (Ob.getC (headD z1.2 Ob.dead))) V.bot))))
 else
 if(!b0)=false then
 Option.bind (call 110 [(V.ref 0 0),(V.int .u8 58)] [(Ob.cells [(V.lst 213 false l1),(V.lst 26 true l2)])]) fun z0=>
 some ((V.bool (getB z0.1)),[(Ob.cells [(V.lst 213 false (getL (headD (Ob.getC (headD z0.2 Ob.dead)) V.bot))),(V.lst 26 true (getL (headD (tail (Ob.getC (headD z0.2 Ob.dead))) V.bot)))])])
 else
 some ((V.bool true),[(Ob.cells [(V.lst 213 false l1),(V.lst 26 true l2)])]))
 else
 if(!b0)=false then
 Option.bind (call 110 [(V.ref 0 0),(V.int .u8 58)] [(Ob.cells [(V.lst 213 false l1),(V.lst 26 true l2)])]) fun z0=>
 some ((V.bool (getB z0.1)),[(Ob.cells [(V.lst 213 false (getL (headD (Ob.getC (headD z0.2 Ob.dead)) V.bot))),(V.lst 26 true (getL (headD (tail (Ob.getC (headD z0.2 Ob.dead))) V.bot)))])])
 else
 some ((V.bool true),[(Ob.cells [(V.lst 213 false l1),(V.lst 26 true l2)])])))
 else
 if(!b0)=false then
 Option.bind (call 110 [(V.ref 0 0),(V.int .u8 58)] [(Ob.cells [(V.lst 213 false l1),(V.lst 26 true l2)])]) fun z0=>
 some ((V.bool (getB z0.1)),[(Ob.cells [(V.lst 213 false (getL (headD (Ob.getC (headD z0.2 Ob.dead)) V.bot))),(V.lst 26 true (getL (headD (tail (Ob.getC (headD z0.2 Ob.dead))) V.bot)))])])
 else
 some ((V.bool true),[(Ob.cells [(V.lst 213 false l1),(V.lst 26 true l2)])])
def Jo (call:FuncId→Fun) (ag0:Bool→List V→List V→Option (V×List Ob)) (a0:List V) (a1:List V):Option (V×List Ob):=
 (ag0 (false) (a0) (a1))
def A4 (a0:List V) (a1:List V):List Ob:=[Ob.cells [V.lst 213 false a0,V.lst 26 true a1]]
def KW:List V:=[V.ref 0 0]
def wC (b0:Bool) (l1:List V) (l2:List V):St:=⟨[(V.ref 0 0),V.bot,V.bot,(V.bool b0)]++List.replicate 33 V.bot,[(Ob.cells [(V.lst 213 false l1),(V.lst 26 true l2)])]⟩
theorem Ns (a0:List V) (a1:List V) (b0:Bool) (l1:List V) (l2:List V):
 RM 160 Tryz.f160 (A4 a0 a1) call icall again (aI Tryz.f160 0) (wC b0 l1 l2)=Av call (fun b0 l1 l2=>again (aI Tryz.f160 0) (wC b0 l1 l2)) b0 l1 l2:=by kernel_rfl
theorem RF (a0:List V) (a1:List V):GO 160 Tryz.f160 KW (A4 a0 a1) call icall again=Jo call (fun b0 l1 l2=>again (aI Tryz.f160 0) (wC b0 l1 l2)) a0 a1:=by kernel_rfl
def A5 (call:FuncId→Fun):Nat→(Bool→List V→List V→Option (V×List Ob))
 |0=>fun _ _ _=>none
 |n+1=>Av call (A5 call n)
theorem Pz (call:FuncId→Fun) (icall:aO (V×List Ob)) (a0:List V) (a1:List V):∀n,(∀(b0:Bool) (l1:List V) (l2:List V),RN 160 Tryz.f160 (A4 a0 a1) call icall n (aI Tryz.f160 0) (wC b0 l1 l2)=(A5 call n) b0 l1 l2)
 |0=>fun b0 l1 l2=>rfl
 |n+1=>by
  have ih:=Pz call icall a0 a1 n
  exact fun b0 l1 l2=>(Ns call icall (RN 160 Tryz.f160 (A4 a0 a1) call icall n) a0 a1 b0 l1 l2).trans (by rw[show(fun b0 l1 l2=>RN 160 Tryz.f160 (A4 a0 a1) call icall n (aI Tryz.f160 0) (wC b0 l1 l2))=(A5 call n)from(funext fun b0=>funext fun l1=>funext fun l2=>ih b0 l1 l2)];rfl)
theorem RG (k:Nat) (a0:List V) (a1:List V):aA cfg (k+1) 160 KW (A4 a0 a1)=Jo (aA cfg k) (A5 (aA cfg k) k) a0 a1:=by
 have ih:=Pz (aA cfg k) (aE cfg (aA cfg k) 20) a0 a1 k
 refine(show aA cfg (k+1) 160 KW (A4 a0 a1)=GO 160 Tryz.f160 KW (A4 a0 a1) (aA cfg k) (aE cfg (aA cfg k) 20) (RN 160 Tryz.f160 (A4 a0 a1) (aA cfg k) (aE cfg (aA cfg k) 20) k)by kernel_rfl).trans ((RF _ _ _ a0 a1).trans ?_)
 rw[show(fun b0 l1 l2=>RN 160 Tryz.f160 (A4 a0 a1) (aA cfg k) (aE cfg (aA cfg k) 20) k (aI Tryz.f160 0) (wC b0 l1 l2))=(A5 (aA cfg k) k)from(funext fun b0=>funext fun l1=>funext fun l2=>ih b0 l1 l2)]
theorem RH (a0:List V) (a1:List V) {r:V×List Ob} (h:Evt (fun k n=>Jo (aA cfg k) (A5 (aA cfg k) n) a0 a1) r):Ret 160 [V.ref 0 0] [Ob.cells [V.lst 213 false a0,V.lst 26 true a1]] r:=aR (g:=fun k n=>Jo (aA cfg k) (A5 (aA cfg k) n) a0 a1) (fun k=>RG k a0 a1) h
theorem Nt (b0:Bool) (l1:List V) (l2:List V) {r:V×List Ob} (h:Evt (fun k n=>Av (aA cfg k) (A5 (aA cfg k) n) b0 l1 l2) r):Evt (fun k n=>(A5 (aA cfg k) n) b0 l1 l2) r:=aZ (fun k n=>rfl) h
def Jp (call:FuncId→Fun) (a0:List V) (a1:List V) (a2:List V):Option (V×List Ob):=
 Option.bind (call 160 [(V.ref 0 0)] [(Ob.cells [(V.lst 213 false a0),(V.lst 26 true a1)])]) fun z0=>
 if(!(getB z0.1))=true then
 some ((V.bool false),[(Ob.cells [(V.lst 213 false (getL (headD (Ob.getC (headD z0.2 Ob.dead)) V.bot))),(V.lst 26 true (getL (headD (tail (Ob.getC (headD z0.2 Ob.dead))) V.bot)))])])
 else
 Option.bind (call 138 [(V.ref 0 0)] [(Ob.cells [(V.lst 213 false (getL (headD (Ob.getC (headD z0.2 Ob.dead)) V.bot))),(V.lst 26 true (getL (headD (tail (Ob.getC (headD z0.2 Ob.dead))) V.bot)))])]) fun z1=>
 Option.bind (call 140 [(V.ref 0 0)] [(Ob.cells [(V.lst 213 false (getL (headD (Ob.getC (headD z1.2 Ob.dead)) V.bot))),(V.lst 26 true (getL (headD (tail (Ob.getC (headD z1.2 Ob.dead))) V.bot)))])]) fun z2=>
 if(!(getB (headD (tail (getT z2.1)) V.bot)))=false then
 if(((length (getL z1.1):Nat):Int)==(0:Int))=false then
 Option.bind (call 110 [(V.ref 0 0),(V.int .u8 62)] [(Ob.cells [(V.lst 213 false (getL (headD (Ob.getC (headD z2.2 Ob.dead)) V.bot))),(V.lst 26 true (getL (headD (tail (Ob.getC (headD z2.2 Ob.dead))) V.bot)))])]) fun z3=>
 if(!(getB z3.1))=true then
 some ((V.bool false),[(Ob.cells [(V.lst 213 false (getL (headD (Ob.getC (headD z3.2 Ob.dead)) V.bot))),(V.lst 26 true (getL (headD (tail (Ob.getC (headD z3.2 Ob.dead))) V.bot)))])])
 else
 Option.bind (call 85 [(V.lst 9 false a2),(V.str [32])] []) fun z4=>
 Option.bind (call 85 [(V.lst 9 false (getL z1.1)),(V.str [])] []) fun z5=>
 chk (aW (getL (headD (tail (Ob.getC (headD z3.2 Ob.dead))) V.bot)) [(V.agg [(V.int .i64 0),(V.str (getS z4.1)),(V.str (getS z5.1)),(V.str (getS (headD (getT z2.1) V.bot)))])] 57) (some ((V.bool true),[(Ob.cells [(V.lst 213 false (getL (headD (Ob.getC (headD z3.2 Ob.dead)) V.bot))),(V.lst 26 true ((getL (headD (tail (Ob.getC (headD z3.2 Ob.dead))) V.bot))++[(V.agg [(V.int .i64 0),(V.str (getS z4.1)),(V.str (getS z5.1)),(V.str (getS (headD (getT z2.1) V.bot)))])]))])]))
 else
 some ((V.bool false),[(Ob.cells [(V.lst 213 false (getL (headD (Ob.getC (headD z2.2 Ob.dead)) V.bot))),(V.lst 26 true (getL (headD (tail (Ob.getC (headD z2.2 Ob.dead))) V.bot)))])])
 else
 some ((V.bool false),[(Ob.cells [(V.lst 213 false (getL (headD (Ob.getC (headD z2.2 Ob.dead)) V.bot))),(V.lst 26 true (getL (headD (tail (Ob.getC (headD z2.2 Ob.dead))) V.bot)))])])
def Jq (a0:List V) (a1:List V):List Ob:=[Ob.cells [V.lst 213 false a0,V.lst 26 true a1]]
def KX (a2:List V):List V:=[V.ref 0 0,V.lst 9 false a2]
theorem RI (a0:List V) (a1:List V) (a2:List V):GO 139 Tryz.f139 (KX a2) (Jq a0 a1) call icall again=Jp call a0 a1 a2:=by kernel_rfl
theorem RJ (k:Nat) (a0:List V) (a1:List V) (a2:List V):aA cfg (k+1) 139 (KX a2) (Jq a0 a1)=Jp (aA cfg k) a0 a1 a2:=
 (show aA cfg (k+1) 139 (KX a2) (Jq a0 a1)=GO 139 Tryz.f139 (KX a2) (Jq a0 a1) (aA cfg k) (aE cfg (aA cfg k) 20) (RN 139 Tryz.f139 (Jq a0 a1) (aA cfg k) (aE cfg (aA cfg k) 20) k)by kernel_rfl).trans (RI _ _ _ a0 a1 a2)
theorem RL (a0:List V) (a1:List V) (a2:List V) {r:V×List Ob} (h:Evt (fun k n=>Jp (aA cfg k) a0 a1 a2) r):Ret 139 [V.ref 0 0,V.lst 9 false a2] [Ob.cells [V.lst 213 false a0,V.lst 26 true a1]] r:=aR (g:=fun k n=>Jp (aA cfg k) a0 a1 a2) (fun k=>RJ k a0 a1 a2) h
def Jr (call:FuncId→Fun) (a0:List V) (a1:List V) (a2:Bool):Option (V×List Ob):=
 Option.bind (call 138 [(V.ref 0 0)] [(Ob.cells [(V.lst 213 false a0),(V.lst 26 true a1)])]) fun z0=>
 Option.bind (call 110 [(V.ref 0 0),(V.int .u8 60)] [(Ob.cells [(V.lst 213 false (getL (headD (Ob.getC (headD z0.2 Ob.dead)) V.bot))),(V.lst 26 true (getL (headD (tail (Ob.getC (headD z0.2 Ob.dead))) V.bot)))])]) fun z1=>
 if(getB z1.1)=true then
 Option.bind (call 139 [(V.ref 0 0),(V.lst 9 false (getL z0.1))] [(Ob.cells [(V.lst 213 false (getL (headD (Ob.getC (headD z1.2 Ob.dead)) V.bot))),(V.lst 26 true (getL (headD (tail (Ob.getC (headD z1.2 Ob.dead))) V.bot)))])]) fun z2=>
 some ((V.bool (getB z2.1)),[(Ob.cells [(V.lst 213 false (getL (headD (Ob.getC (headD z2.2 Ob.dead)) V.bot))),(V.lst 26 true (getL (headD (tail (Ob.getC (headD z2.2 Ob.dead))) V.bot)))])])
 else
 if(!a2)=true then
 Option.bind (call 110 [(V.ref 0 0),(V.int .u8 58)] [(Ob.cells [(V.lst 213 false (getL (headD (Ob.getC (headD z1.2 Ob.dead)) V.bot))),(V.lst 26 true (getL (headD (tail (Ob.getC (headD z1.2 Ob.dead))) V.bot)))])]) fun z2=>
 if(getB z2.1)=true then
 Option.bind (call 85 [(V.lst 9 false (getL z0.1)),(V.str [32])] []) fun z3=>
 chk (aW (getL (headD (tail (Ob.getC (headD z2.2 Ob.dead))) V.bot)) [(V.agg [(V.int .i64 1),(V.str (getS z3.1)),(V.str []),(V.str [])])] 57) (Option.bind (call 72 [(V.ref 0 0),(V.bool true)] [(Ob.cells [(V.lst 213 false (getL (headD (Ob.getC (headD z2.2 Ob.dead)) V.bot))),(V.lst 26 true ((getL (headD (tail (Ob.getC (headD z2.2 Ob.dead))) V.bot))++[(V.agg [(V.int .i64 1),(V.str (getS z3.1)),(V.str []),(V.str [])])]))])]) fun z4=>
 if(!(getB z4.1))=false then
 Option.bind (call 110 [(V.ref 0 0),(V.int .u8 59)] [(Ob.cells [(V.lst 213 false (getL (headD (Ob.getC (headD z4.2 Ob.dead)) V.bot))),(V.lst 26 true (getL (headD (tail (Ob.getC (headD z4.2 Ob.dead))) V.bot)))])]) fun z5=>
 if(!(getB z5.1))=true then
 some ((V.bool false),[(Ob.cells [(V.lst 213 false (getL (headD (Ob.getC (headD z5.2 Ob.dead)) V.bot))),(V.lst 26 true (getL (headD (tail (Ob.getC (headD z5.2 Ob.dead))) V.bot)))])])
 else
 chk (aW (getL (headD (tail (Ob.getC (headD z5.2 Ob.dead))) V.bot)) [(V.agg [(V.int .i64 2),(V.str []),(V.str []),(V.str [])])] 57) (some ((V.bool true),[(Ob.cells [(V.lst 213 false (getL (headD (Ob.getC (headD z5.2 Ob.dead)) V.bot))),(V.lst 26 true ((getL (headD (tail (Ob.getC (headD z5.2 Ob.dead))) V.bot))++[(V.agg [(V.int .i64 2),(V.str []),(V.str []),(V.str [])])]))])]))
 else
 some ((V.bool false),[(Ob.cells [(V.lst 213 false (getL (headD (Ob.getC (headD z4.2 Ob.dead)) V.bot))),(V.lst 26 true (getL (headD (tail (Ob.getC (headD z4.2 Ob.dead))) V.bot)))])]))
 else
 if(((length (getL z0.1):Nat):Int)==(0:Int))=true then
 some ((V.bool true),[(Ob.cells [(V.lst 213 false (getL (headD (Ob.getC (headD z2.2 Ob.dead)) V.bot))),(V.lst 26 true (getL (headD (tail (Ob.getC (headD z2.2 Ob.dead))) V.bot)))])])
 else
 Option.bind (call 140 [(V.ref 0 0)] [(Ob.cells [(V.lst 213 false (getL (headD (Ob.getC (headD z2.2 Ob.dead)) V.bot))),(V.lst 26 true (getL (headD (tail (Ob.getC (headD z2.2 Ob.dead))) V.bot)))])]) fun z3=>
 Option.bind (call 85 [(V.lst 9 false (getL z0.1)),(V.str [])] []) fun z4=>
 chk (aW (getL (headD (tail (Ob.getC (headD z3.2 Ob.dead))) V.bot)) [(V.agg [(V.int .i64 0),(V.str []),(V.str (getS z4.1)),(V.str (getS (headD (getT z3.1) V.bot)))])] 57) (some ((V.bool (getB (headD (tail (getT z3.1)) V.bot))),[(Ob.cells [(V.lst 213 false (getL (headD (Ob.getC (headD z3.2 Ob.dead)) V.bot))),(V.lst 26 true ((getL (headD (tail (Ob.getC (headD z3.2 Ob.dead))) V.bot))++[(V.agg [(V.int .i64 0),(V.str []),(V.str (getS z4.1)),(V.str (getS (headD (getT z3.1) V.bot)))])]))])]))
 else
 if(((length (getL z0.1):Nat):Int)==(0:Int))=true then
 some ((V.bool true),[(Ob.cells [(V.lst 213 false (getL (headD (Ob.getC (headD z1.2 Ob.dead)) V.bot))),(V.lst 26 true (getL (headD (tail (Ob.getC (headD z1.2 Ob.dead))) V.bot)))])])
 else
 Option.bind (call 140 [(V.ref 0 0)] [(Ob.cells [(V.lst 213 false (getL (headD (Ob.getC (headD z1.2 Ob.dead)) V.bot))),(V.lst 26 true (getL (headD (tail (Ob.getC (headD z1.2 Ob.dead))) V.bot)))])]) fun z2=>
 Option.bind (call 85 [(V.lst 9 false (getL z0.1)),(V.str [])] []) fun z3=>
 chk (aW (getL (headD (tail (Ob.getC (headD z2.2 Ob.dead))) V.bot)) [(V.agg [(V.int .i64 0),(V.str []),(V.str (getS z3.1)),(V.str (getS (headD (getT z2.1) V.bot)))])] 57) (some ((V.bool (getB (headD (tail (getT z2.1)) V.bot))),[(Ob.cells [(V.lst 213 false (getL (headD (Ob.getC (headD z2.2 Ob.dead)) V.bot))),(V.lst 26 true ((getL (headD (tail (Ob.getC (headD z2.2 Ob.dead))) V.bot))++[(V.agg [(V.int .i64 0),(V.str []),(V.str (getS z3.1)),(V.str (getS (headD (getT z2.1) V.bot)))])]))])]))
def Js (a0:List V) (a1:List V):List Ob:=[Ob.cells [V.lst 213 false a0,V.lst 26 true a1]]
def KY (a2:Bool):List V:=[V.ref 0 0,V.bool a2]
theorem RO (a0:List V) (a1:List V) (a2:Bool):GO 109 Tryz.f109 (KY a2) (Js a0 a1) call icall again=Jr call a0 a1 a2:=by kernel_rfl
theorem RP (k:Nat) (a0:List V) (a1:List V) (a2:Bool):aA cfg (k+1) 109 (KY a2) (Js a0 a1)=Jr (aA cfg k) a0 a1 a2:=
 (show aA cfg (k+1) 109 (KY a2) (Js a0 a1)=GO 109 Tryz.f109 (KY a2) (Js a0 a1) (aA cfg k) (aE cfg (aA cfg k) 20) (RN 109 Tryz.f109 (Js a0 a1) (aA cfg k) (aE cfg (aA cfg k) 20) k)by kernel_rfl).trans (RO _ _ _ a0 a1 a2)
theorem RQ (a0:List V) (a1:List V) (a2:Bool) {r:V×List Ob} (h:Evt (fun k n=>Jr (aA cfg k) a0 a1 a2) r):Ret 109 [V.ref 0 0,V.bool a2] [Ob.cells [V.lst 213 false a0,V.lst 26 true a1]] r:=aR (g:=fun k n=>Jr (aA cfg k) a0 a1 a2) (fun k=>RP k a0 a1 a2) h
def Gl (call:FuncId→Fun) (ag0:Bool→List V→List V→Option (V×List Ob)) (b0:Bool) (l1:List V) (l2:List V):Option (V×List Ob):=
 Option.bind (call 109 [(V.ref 0 0),(V.bool b0)] [(Ob.cells [(V.lst 213 false l1),(V.lst 26 true l2)])]) fun z0=>
 if(!(getB z0.1))=true then
 some ((V.bool false),[(Ob.cells [(V.lst 213 false (getL (headD (Ob.getC (headD z0.2 Ob.dead)) V.bot))),(V.lst 26 true (getL (headD (tail (Ob.getC (headD z0.2 Ob.dead))) V.bot)))])])
 else
 Option.bind (call 110 [(V.ref 0 0),(V.int .u8 44)] [(Ob.cells [(V.lst 213 false (getL (headD (Ob.getC (headD z0.2 Ob.dead)) V.bot))),(V.lst 26 true (getL (headD (tail (Ob.getC (headD z0.2 Ob.dead))) V.bot)))])]) fun z1=>
 if(!(getB z1.1))=true then
 some ((V.bool true),[(Ob.cells [(V.lst 213 false (getL (headD (Ob.getC (headD z1.2 Ob.dead)) V.bot))),(V.lst 26 true (getL (headD (tail (Ob.getC (headD z1.2 Ob.dead))) V.bot)))])])
 else
 (ag0 (b0) ((getL (headD (Ob.getC (headD z1.2 Ob.dead)) V.bot))) ((getL (headD (tail (Ob.getC (headD z1.2 Ob.dead))) V.bot))))
def T72 (call:FuncId→Fun) (ag0:Bool→List V→List V→Option (V×List Ob)) (a0:List V) (a1:List V) (a2:Bool):Option (V×List Ob):=
 (ag0 (a2) (a0) (a1))
def O72 (a0:List V) (a1:List V):List Ob:=[Ob.cells [V.lst 213 false a0,V.lst 26 true a1]]
def A72 (a2:Bool):List V:=[V.ref 0 0,V.bool a2]
def B1 (b0:Bool) (l1:List V) (l2:List V):St:=⟨[(V.ref 0 0),(V.bool b0)]++List.replicate 10 V.bot,[(Ob.cells [(V.lst 213 false l1),(V.lst 26 true l2)])]⟩
theorem PC (a0:List V) (a1:List V) (b0:Bool) (l1:List V) (l2:List V):
 RM 72 Tryz.f72 (O72 a0 a1) call icall again (aI Tryz.f72 0) (B1 b0 l1 l2)=Gl call (fun b0 l1 l2=>again (aI Tryz.f72 0) (B1 b0 l1 l2)) b0 l1 l2:=by kernel_rfl
theorem E72 (a0:List V) (a1:List V) (a2:Bool):GO 72 Tryz.f72 (A72 a2) (O72 a0 a1) call icall again=T72 call (fun b0 l1 l2=>again (aI Tryz.f72 0) (B1 b0 l1 l2)) a0 a1 a2:=by kernel_rfl
def L72 (call:FuncId→Fun):Nat→(Bool→List V→List V→Option (V×List Ob))
 |0=>fun _ _ _=>none
 |n+1=>Gl call (L72 call n)
theorem R72 (call:FuncId→Fun) (icall:aO (V×List Ob)) (a0:List V) (a1:List V):∀n,(∀(b0:Bool) (l1:List V) (l2:List V),RN 72 Tryz.f72 (O72 a0 a1) call icall n (aI Tryz.f72 0) (B1 b0 l1 l2)=(L72 call n) b0 l1 l2)
 |0=>fun b0 l1 l2=>rfl
 |n+1=>by
  have ih:=R72 call icall a0 a1 n
  exact fun b0 l1 l2=>(PC call icall (RN 72 Tryz.f72 (O72 a0 a1) call icall n) a0 a1 b0 l1 l2).trans (by rw[show(fun b0 l1 l2=>RN 72 Tryz.f72 (O72 a0 a1) call icall n (aI Tryz.f72 0) (B1 b0 l1 l2))=(L72 call n)from(funext fun b0=>funext fun l1=>funext fun l2=>ih b0 l1 l2)];rfl)
theorem C72 (k:Nat) (a0:List V) (a1:List V) (a2:Bool):aA cfg (k+1) 72 (A72 a2) (O72 a0 a1)=T72 (aA cfg k) (L72 (aA cfg k) k) a0 a1 a2:=by
 have ih:=R72 (aA cfg k) (aE cfg (aA cfg k) 20) a0 a1 k
 refine(show aA cfg (k+1) 72 (A72 a2) (O72 a0 a1)=GO 72 Tryz.f72 (A72 a2) (O72 a0 a1) (aA cfg k) (aE cfg (aA cfg k) 20) (RN 72 Tryz.f72 (O72 a0 a1) (aA cfg k) (aE cfg (aA cfg k) 20) k)by kernel_rfl).trans ((E72 _ _ _ a0 a1 a2).trans ?_)
 rw[show(fun b0 l1 l2=>RN 72 Tryz.f72 (O72 a0 a1) (aA cfg k) (aE cfg (aA cfg k) 20) k (aI Tryz.f72 0) (B1 b0 l1 l2))=(L72 (aA cfg k) k)from(funext fun b0=>funext fun l1=>funext fun l2=>ih b0 l1 l2)]
theorem M72 (a0:List V) (a1:List V) (a2:Bool) {r:V×List Ob} (h:Evt (fun k n=>T72 (aA cfg k) (L72 (aA cfg k) n) a0 a1 a2) r):Ret 72 [V.ref 0 0,V.bool a2] [Ob.cells [V.lst 213 false a0,V.lst 26 true a1]] r:=aR (g:=fun k n=>T72 (aA cfg k) (L72 (aA cfg k) n) a0 a1 a2) (fun k=>C72 k a0 a1 a2) h
theorem PD (b0:Bool) (l1:List V) (l2:List V) {r:V×List Ob} (h:Evt (fun k n=>Gl (aA cfg k) (L72 (aA cfg k) n) b0 l1 l2) r):Evt (fun k n=>(L72 (aA cfg k) n) b0 l1 l2) r:=aZ (fun k n=>rfl) h
def T35 (call:FuncId→Fun) (a0:List UInt8):Option (V×List Ob):=
 Option.bind (call 71 [(V.str a0)] []) fun z0=>
 if(!(getB (headD (tail (getT z0.1)) V.bot)))=false then
 Option.bind (call 72 [(V.ref 0 0),(V.bool false)] [(Ob.cells [(V.lst 213 false (getL (headD (getT z0.1) V.bot))),(V.lst 26 true [])])]) fun z1=>
 if(!(getB z1.1))=false then
 if(decide (((length (getL (headD (Ob.getC (headD z1.2 Ob.dead)) V.bot)):Nat):Int)>(0:Int)))=true then
 some ((V.tup [(V.lst 26 false []),(V.bool false)]),[])
 else
 some ((V.tup [(V.lst 26 false (getL (headD (tail (Ob.getC (headD z1.2 Ob.dead))) V.bot))),(V.bool true)]),[])
 else
 some ((V.tup [(V.lst 26 false []),(V.bool false)]),[])
 else
 some ((V.tup [(V.lst 26 false []),(V.bool false)]),[])
def A35 (a0:List UInt8):List V:=[V.str a0]
theorem E35 (a0:List UInt8):GO 35 Tryz.f35 (A35 a0) [] call icall again=T35 call a0:=by kernel_rfl
theorem C35 (k:Nat) (a0:List UInt8):aA cfg (k+1) 35 (A35 a0) []=T35 (aA cfg k) a0:=
 (show aA cfg (k+1) 35 (A35 a0) []=GO 35 Tryz.f35 (A35 a0) [] (aA cfg k) (aE cfg (aA cfg k) 20) (RN 35 Tryz.f35 [] (aA cfg k) (aE cfg (aA cfg k) 20) k)by kernel_rfl).trans (E35 _ _ _ a0)
theorem M35 (a0:List UInt8) {r:V×List Ob} (h:Evt (fun k n=>T35 (aA cfg k) a0) r):Ret 35 [V.str a0] [] r:=aR (g:=fun k n=>T35 (aA cfg k) a0) (fun k=>C35 k a0) h
end Go.Proofs.YtdoaoaicdimbeaaGreatDoor
end
section
namespace Go.Proofs.YtdoaoaicdimbeaaGreatDoor
open Go.Ev Go
def EvE {α:Type} (g:Nat→Nat→Option α) (P:α→Prop):Prop:=∃r,Evt g r∧P r
def nZ (f:FuncId) (args:List V) (objs:List Ob) (P:V×List Ob→Prop):Prop:=∃r,Ret f args objs r∧P r
theorem aX {α:Type} {P:α→Prop} {r:α} (h:P r):EvE (fun _ _=>some r) P:=⟨r,aD r,h⟩
theorem iM {α:Type} {f:FuncId} {args:List V} {objs:List Ob} {p:V×List Ob} {F:Nat→Nat→V×List Ob→Option α} {P:α→Prop} (h:Ret f args objs p) (h2:EvE (fun k n=>F k n p) P):
  EvE (fun k n=>Option.bind (aA cfg k f args objs) (F k n)) P:=by
 obtain⟨r,e,hp⟩:=h2
 exact⟨r,aB h e,hp⟩
theorem bE {α:Type} {f:FuncId} {args:List V} {objs:List Ob} {Q:V×List Ob→Prop} {F:Nat→Nat→V×List Ob→Option α} {P:α→Prop} (h:nZ f args objs Q) (h2:∀p,Q p→EvE (fun k n=>F k n p) P):
  EvE (fun k n=>Option.bind (aA cfg k f args objs) (F k n)) P:=by
 obtain⟨p,e,hp⟩:=h
 exact iM e (h2 p hp)
theorem cG {α:Type} {c:Prop} [Decidable c] {a b:Nat→Nat→Option α} {P:α→Prop} (h1:c→EvE a P) (h2:¬c→EvE b P):EvE (fun k n=>if c then a k n else b k n) P:=by
 by_cases h:c
 ·simp only[if_pos h];exact h1 h
 ·simp only[if_neg h];exact h2 h
theorem tQ {α:Type} {g g' :Nat→Nat→Option α} {P:α→Prop} (m:∀r,Evt g' r→Evt g r) (h:EvE g' P):EvE g P:=by
 obtain⟨r,e,hp⟩:=h
 exact⟨r,m r e,hp⟩
theorem jC {f:FuncId} {args:List V} {objs:List Ob} {g:Nat→Nat→Option (V×List Ob)} {P:V×List Ob→Prop} (m:∀r,Evt g r→Ret f args objs r) (h:EvE g P):nZ f args objs P:=by
 obtain⟨r,e,hp⟩:=h
 exact⟨r,m r e,hp⟩
theorem tR {α:Type} {g:Nat→Nat→Option α} {P Q:α→Prop} (h:EvE g P) (hq:∀r,P r→Q r):EvE g Q:=by
 obtain⟨r,e,hp⟩:=h
 exact⟨r,e,hq r hp⟩
theorem CQ (s:Bs) (c:UInt8):Ret 89 [.str s, .int .u8 (c.toNat:Nat)] [] (.int .i64 (Lib.indexByte s c),[]):=
 dV (h:=D3) (by kernel_rfl) (by
  have:=c.toNat_lt
  have h:UInt8.ofNat c.toNat=c:=by simp
  simp only[D3,Int.toNat_natCast,h]
  rw[if_pos ⟨by omega,by omega⟩])
theorem Nu {s:Bs} {c:UInt8}:Lib.indexByte s c<s.length:=by
 by_cases h:Lib.indexByte s c= -1
 ·omega
 ·have:=Lib.indexByte_ge s c
  obtain⟨k,hk⟩:∃k:Nat,Lib.indexByte s c=k:=⟨(Lib.indexByte s c).toNat,by omega⟩
  obtain⟨k1,_⟩:=Lib.indexByte_some hk
  obtain⟨h1,_⟩:=List.getElem?_eq_some_iff.1 k1
  omega
theorem KZ (s:Bs) (hs:s.length≤1000000) (h0:1≤s.length):∀(m i:Nat) (d:Int),s.length+1 - i=m→i≤s.length+1→
  EvE (fun k j=>AY (aA cfg k) j s d (i:Nat)) (fun r=>∃n:Nat,r=(.int .i64 (n:Nat),[])∧1≤n∧n≤s.length):=by
 intro m
 induction m using Nat.strongRecOn with
 |_ m ih=>
  intro i d h hi
  refine tQ (fun _ h=>Nk s d (i:Nat) h) ?_
  by_cases hlt:i<s.length
  ·have h1:((i:Int)<(s.length:Int)):=by omega
   have h2:(0:Int)≤(i:Nat):=by omega
   have hw:IntKind.wrap .i64 (((i:Nat):Int)+1)=((i+1:Nat):Int):=by rw[wrap64 (by omega) (by omega)];omega
   have hw2:IntKind.wrap .i64 (((i+1:Nat):Int)+1)=((i+2:Nat):Int):=by rw[wrap64 (by omega) (by omega)];omega
   simp only[Ap,h1,decide_true,if_true,aJ h2,cK,Int.toNat_natCast,getD_at hlt,hw,hw2]
   refine cG (fun _=>?_) (fun _=>?_)
   ·exact ih _ (by omega) (i+2) d rfl (by omega)
   ·refine cG (fun _=>?_) (fun _=>?_)
    ·exact ih _ (by omega) (i+1) _ rfl (by omega)
    ·refine cG (fun _=>?_) (fun _=>?_)
     ·refine cG (fun _=>?_) (fun _=>?_)
      ·exact aX ⟨i+1,rfl,by omega,by omega⟩
      ·exact ih _ (by omega) (i+1) _ rfl (by omega)
     ·exact ih _ (by omega) (i+1) _ rfl (by omega)
  ·have h1:¬((i:Int)<(s.length:Int)):=by omega
   simp only[Ap,h1,decide_false,Bool.false_eq_true,if_false]
   exact aX ⟨s.length,rfl,by omega,by omega⟩
theorem K0 (s:Bs) (hs:s.length≤1000000) (h0:1≤s.length):nZ 137 [.str s] [] (fun r=>∃n:Nat,r=(.int .i64 (n:Nat),[])∧1≤n∧n≤s.length):=by
 refine jC (fun _ h=>Rl s h) ?_
 simp only[Jf]
 exact KZ s hs h0 _ 0 0 rfl (by omega)
theorem K3:∀(m:Nat) (s:Bs),s.length=m→s.length≤1000000→
  EvE (fun k j=>AZ (aA cfg k) j s) (fun r=>∃t:Bs,r=(.str t,[])∧t.length≤s.length):=by
 intro m
 induction m using Nat.strongRecOn with
 |_ m ih=>
  intro s h hs
  refine tQ (fun _ h=>Nm s h) ?_
  cases s with
  |nil=>
   simp only[Aq,lR rfl,Bool.not_true,Bool.false_eq_true,if_false]
   exact aX ⟨_,rfl,Nat.le_refl _⟩
  |cons c t=>
   have e0:sEq (c::t) []=false:=wW (by simp)
   have h1:(0:Int)<(((c::t).length:Nat):Int):=by simp only[List.length_cons];omega
   have h3:(1:Int)≤(((c::t).length:Nat):Int):=by simp only[List.length_cons];omega
   have g0:(c::t).getD (Int.toNat 0) 0=c:=rfl
   have d1:(c::t).drop (Int.toNat 1)=t:=rfl
   simp only[List.length_cons]at h hs
   simp only[Aq,e0,Bool.not_false,if_true,aJ (show(0:Int)≤0 by omega),aJ h1,aJ h3,aJ (show(0:Int)≤1 by omega),g0,d1]
   refine iM (sH c) ?_
   simp only[bA]
   refine cG (fun _=>?_) (fun _=>?_)
   ·refine tR (ih _ (by omega) t rfl (by omega)) ?_
    rintro r ⟨t',rfl,hl⟩
    exact⟨t',rfl,by simp;omega⟩
   ·refine cG (fun _=>?_) (fun _=>?_)
    ·refine bE (K0 (c::t) (by simp;omega) (by simp)) ?_
     rintro _ ⟨n,rfl,n1,n2⟩
     have q1:(0:Int)≤(n:Nat):=by omega
     have q2:((n:Nat):Int)≤(((c::t).length:Nat):Int):=by omega
     dsimp+instances only[dC]
     simp only[aJ q1,aJ q2,Int.toNat_natCast]
     have hd:((c::t).drop n).length=(c::t).length - n:=List.length_drop
     simp only[List.length_cons]at hd n2
     refine tR (ih _ (by omega) ((c::t).drop n) rfl (by omega)) ?_
     rintro r ⟨t',rfl,hl⟩
     exact⟨t',rfl,by simp;omega⟩
    ·exact aX ⟨_,rfl,Nat.le_refl _⟩
theorem xK (s:Bs) (hs:s.length≤1000000):nZ 106 [.str s] [] (fun r=>∃t:Bs,r=(.str t,[])∧t.length≤s.length):=by
 refine jC (fun _ h=>Ro s h) ?_
 simp only[Jg]
 exact K3 _ s rfl hs
def PE (s:Bs) (r:V×List Ob):Prop:=∃(w t:Bs) (is:Bool),r=(.tup [.str w, .str t, .bool is],[])∧(is=true→w.length+t.length+2≤s.length)
theorem K4 (s:Bs) (hs:s.length≤1000000):∀(m i:Nat) (u:Bs),s.length+1 - i=m→i≤s.length+1→1≤i→u.length+1≤i→
  EvE (fun k j=>A0 (aA cfg k) j s (ofBytes u) (i:Nat)) (PE s):=by
 intro m
 induction m using Nat.strongRecOn with
 |_ m ih=>
  intro i u h hi h0 hu
  refine tQ (fun _ h=>No s (ofBytes u) (i:Nat) h) ?_
  by_cases hlt:i<s.length
  ·have h1:((i:Int)<(s.length:Int)):=by omega
   have h2:(0:Int)≤(i:Nat):=by omega
   have hw:IntKind.wrap .i64 (((i:Nat):Int)+1)=((i+1:Nat):Int):=by rw[wrap64 (by omega) (by omega)];omega
   have hw2:IntKind.wrap .i64 (((i+1:Nat):Int)+1)=((i+2:Nat):Int):=by rw[wrap64 (by omega) (by omega)];omega
   have h3:(0:Int)≤((i+1:Nat):Int):=by omega
   have h4:((i+1:Nat):Int)≤(s.length:Int):=by omega
   have ap:∀c:UInt8,aW (ofBytes u) [.int .u8 ((c.toNat:Nat):Int)] 2=true:=fun c=>dQ (by rw[bC];simp only[List.length_cons,List.length_nil];omega)
   simp only[Ar,h1,decide_true,if_true,aJ h2,cK,Int.toNat_natCast,getD_at hlt,hw,hw2,aJ h3,aJ h4,bM (ap _),dH,cC]
   refine cG (fun _=>?_) (fun _=>?_)
   ·refine aX ⟨u,s.drop (i+1),true,rfl,fun _=>?_⟩
    rw[List.length_drop];omega
   ·refine cG (fun _=>?_) (fun _=>?_)
    ·by_cases h5:i+1<s.length
     ·have h6:((i+1:Nat):Int)<(s.length:Int):=by omega
      simp only[h6,decide_true,if_true,cK]
      exact ih _ (by omega) (i+2) _ rfl (by omega) (by omega) (by simp;omega)
     ·have h6:¬((i+1:Nat):Int)<(s.length:Int):=by omega
      simp only[h6,decide_false,Bool.false_eq_true,if_false]
      exact ih _ (by omega) (i+2) _ rfl (by omega) (by omega) (by omega)
    ·exact ih _ (by omega) (i+1) _ rfl (by omega) (by omega) (by simp;omega)
  ·have h1:¬((i:Int)<(s.length:Int)):=by omega
   simp only[Ar,h1,decide_false,Bool.false_eq_true,if_false]
   exact aX ⟨[],[],false,rfl,by simp⟩
theorem K5 (s:Bs) (hs:s.length≤1000000):nZ 107 [.str s] [] (PE s):=by
 refine jC (fun _ h=>Rr s h) ?_
 simp only[Jh]
 exact K4 s hs _ 1 [] rfl (by omega) (by omega) (by simp)
def Nv (s:Bs) (r:V×List Ob):Prop:=∃(w t:Bs),r=(.tup [.str w, .str t],[])∧w.length+t.length≤s.length
theorem K6 (s:Bs) (hs:s.length≤1000000):∀(m i:Nat),s.length - i=m→i≤s.length→
  EvE (fun k j=>A1 (aA cfg k) j s (i:Nat)) (Nv s):=by
 intro m
 induction m using Nat.strongRecOn with
 |_ m ih=>
  intro i h hi
  refine tQ (fun _ h=>Nq s (i:Nat) h) ?_
  have h2:(0:Int)≤(i:Nat):=by omega
  have h3:((i:Nat):Int)≤(s.length:Int):=by omega
  have done:EvE (fun _ _=>some ((V.tup [(V.str (List.drop (Int.toNat (0:Int)) (List.take i s))),(V.str (List.drop i s))]),([]:List Ob))) (Nv s):=by
   refine aX ⟨_,_,rfl,?_⟩
   rw[List.length_drop,List.length_drop,List.length_take];omega
  by_cases hlt:i<s.length
  ·have h1:((i:Int)<(s.length:Int)):=by omega
   have hw:IntKind.wrap .i64 (((i:Nat):Int)+1)=((i+1:Nat):Int):=by rw[wrap64 (by omega) (by omega)];omega
   simp only[As,h1,decide_true,if_true,aJ h2,cK,Int.toNat_natCast,getD_at hlt,hw,aJ h3,aJ (show(0:Int)≤0 by omega)]
   refine cG (fun _=>?_) (fun _=>?_)
   ·refine cG (fun _=>?_) (fun _=>?_)
    ·refine iM (CQ _ _) ?_
     simp only[dC]
     refine cG (fun _=>?_) (fun _=>?_)
     ·exact done
     ·refine cG (fun _=>?_) (fun _=>?_)
      ·refine iM (CQ (s.drop i) 93) ?_
       simp only[dC]
       have hge:=Lib.indexByte_ge (s.drop i) 93
       have hlt2:=Nu (s:=s.drop i) (c:=93)
       rw[List.length_drop]at hlt2
       by_cases hn:Lib.indexByte (s.drop i) 93<0
       ·simp only[hn,decide_true,if_true]
        exact aX ⟨[],s,rfl,by simp⟩
       ·obtain⟨k,hk⟩:∃k:Nat,Lib.indexByte (s.drop i) 93=k:=⟨(Lib.indexByte (s.drop i) 93).toNat,by omega⟩
        rw[hk]at hlt2 hn ⊢
        have w1:IntKind.wrap .i64 (((k:Nat):Int)+1)=((k+1:Nat):Int):=by rw[wrap64 (by omega) (by omega)];omega
        have w2:IntKind.wrap .i64 (((i:Nat):Int)+((k+1:Nat):Int))=((i+(k+1):Nat):Int):=by rw[wrap64 (by omega) (by omega)];omega
        simp only[hn,decide_false,Bool.false_eq_true,if_false,w1,w2]
        exact ih _ (by omega) (i+(k+1)) rfl (by omega)
      ·exact ih _ (by omega) (i+1) rfl (by omega)
    ·exact done
   ·exact done
  ·have h1:¬((i:Int)<(s.length:Int)):=by omega
   simp only[As,h1,decide_false,Bool.false_eq_true,if_false,aJ h2,aJ h3,aJ (show(0:Int)≤0 by omega),Int.toNat_natCast]
   exact done
theorem K7 (s:Bs) (hs:s.length≤1000000):nZ 108 [.str s] [] (Nv s):=by
 refine jC (fun _ h=>Ru s h) ?_
 simp only[Ji]
 exact K6 s hs _ 0 rfl (by omega)
inductive Pc|w (s:Bs)|g (c:UInt8)
def pcV:Pc→V
 | .w s=> .ifc 183 (.str s)
 | .g c=> .ifc 182 (.int .u8 (c.toNat:Nat))
def pw1:Pc→Nat
 | .w s=>s.length+1
 | .g _=>1
def pw (l:List Pc):Nat:=(l.map pw1).sum
theorem jH (p:Pc) (l:List Pc):pw (p::l)=pw1 p+pw l:=by simp[pw]
theorem FH (l m:List Pc):pw (l++m)=pw l+pw m:=by simp[pw]
theorem Jt:∀l:List Pc,l.length≤pw l
 |[]=>by simp
 |p::r=>by
  have:=Jt r
  have:1≤pw1 p:=by cases p<;>simp[pw1]
  rw[jH,List.length_cons];omega
def RR (s:Bs) (r:V×List Ob):Prop:=∃(l:List Pc) (ok:Bool),r=(.tup [.lst 213 false (l.map pcV), .bool ok],[])∧pw l≤2*s.length
theorem Nw (n:Nat) (hn:n≤1000000):∀(m:Nat) (s:Bs) (l:List Pc),s.length=m→pw l+2*s.length≤2*n→
  EvE (fun k j=>L71 (aA cfg k) j s (l.map pcV)) (fun r=>∃(l:List Pc) (ok:Bool),r=(.tup [.lst 213 false (l.map pcV), .bool ok],[])∧pw l≤2*n):=by
 intro m
 induction m using Nat.strongRecOn with
 |_ m ih=>
  intro s l h hp
  have hl:=Jt l
  have ap:∀v:V,aW (l.map pcV) [v] 17=true:=fun v=>dQ (by simp only[List.length_map,List.length_cons,List.length_nil];omega)
  refine tQ (fun _ h=>Px s (l.map pcV) h) ?_
  cases s with
  |nil=>
   simp only[Ey,lR rfl,Bool.not_true,Bool.false_eq_true,if_false]
   exact aX ⟨l,true,rfl,by simp only[List.length_nil]at hp;omega⟩
  |cons c t=>
   have e0:sEq (c::t) []=false:=wW (by simp)
   have h1:(0:Int)<(((c::t).length:Nat):Int):=by simp only[List.length_cons];omega
   have h3:(1:Int)≤(((c::t).length:Nat):Int):=by simp only[List.length_cons];omega
   have g0:(c::t).getD (Int.toNat 0) 0=c:=rfl
   have d1:(c::t).drop (Int.toNat 1)=t:=rfl
   have aw:∀w:Bs,l.map pcV++[.ifc 183 (.str w)]=(l++[Pc.w w]).map pcV:=fun w=>by simp[pcV]
   have ag:l.map pcV++[.ifc 182 (.int .u8 ((c.toNat:Nat):Int))]=(l++[Pc.g c]).map pcV:=by simp[pcV]
   simp only[Ey,e0,Bool.not_false,if_true,aJ (show(0:Int)≤0 by omega),aJ h1,aJ h3,aJ (show(0:Int)≤1 by omega),g0,d1,bM (ap _),ag]
   simp only[List.length_cons]at h hp
   refine iM (CQ _ _) ?_
   simp only[dC]
   refine cG (fun _=>?_) (fun _=>?_)
   ·refine bE (xK t (by omega)) ?_
    rintro _ ⟨t',rfl,ht⟩
    simp only[aS]
    exact ih _ (by omega) t' _ rfl (by rw[FH,jH];simp only[pw1,pw,List.map_nil,List.sum_nil]at hp ⊢;omega)
   ·refine cG (fun _=>?_) (fun _=>?_)
    ·refine bE (K5 (c::t) (by simp;omega)) ?_
     rintro _ ⟨w,u,is,rfl,hq⟩
     simp only[bV,List.headD_cons,List.tail_cons,bA,aS,aw]
     cases is with
     |false=>
      simp only[Bool.not_false,if_true]
      exact aX ⟨[],false,rfl,by simp[pw]⟩
     |true=>
      have hq:=hq rfl
      simp only[List.length_cons]at hq
      simp only[Bool.not_true,Bool.false_eq_true,if_false]
      refine bE (xK u (by omega)) ?_
      rintro _ ⟨t',rfl,ht⟩
      simp only[aS]
      exact ih _ (by omega) t' _ rfl (by rw[FH,jH];simp only[pw1,pw,List.map_nil,List.sum_nil]at hp ⊢;omega)
    ·refine bE (K7 (c::t) (by simp;omega)) ?_
     rintro _ ⟨w,u,rfl,hq⟩
     simp only[List.length_cons]at hq
     simp only[bV,List.headD_cons,List.tail_cons,aS,aw]
     by_cases hw:w=[]
     ·simp only[lR hw,if_true]
      exact aX ⟨[],false,rfl,by simp[pw]⟩
     ·have:=List.length_pos_iff.2 hw
      simp only[wW hw,Bool.false_eq_true,if_false]
      refine bE (xK u (by omega)) ?_
      rintro _ ⟨t',rfl,ht⟩
      simp only[aS]
      exact ih _ (by omega) t' _ rfl (by rw[FH,jH];simp only[pw1,pw,List.map_nil,List.sum_nil]at hp ⊢;omega)
theorem Nx (s:Bs) (hs:s.length≤1000000):nZ 71 [.str s] [] (RR s):=by
 refine jC (fun _ h=>M71 s h) ?_
 simp only[T71]
 refine bE (xK s hs) ?_
 rintro _ ⟨t,rfl,ht⟩
 simp only[aS]
 exact Nw s.length hs _ t [] rfl (by simp only[pw,List.map_nil,List.sum_nil];omega)
end Go.Proofs.YtdoaoaicdimbeaaGreatDoor
end
section
namespace Go.Proofs.YtdoaoaicdimbeaaGreatDoor
open Go.Ev Go
abbrev Ad:=Int×Bs×Bs×Bs
def adV (a:Ad):V:= .agg [.int .i64 a.1, .str a.2.1, .str a.2.2.1, .str a.2.2.2]
def aw1 (a:Ad):Nat:=a.2.1.length+a.2.2.1.length+a.2.2.2.length+1
def ow (o:List Ad):Nat:=(o.map aw1).sum
theorem CU (l m:List Ad):ow (l++m)=ow l+ow m:=by simp[ow]
theorem CV (a:Ad):ow [a]=aw1 a:=by simp[ow]
theorem FI:∀l:List Ad,l.length≤ow l
 |[]=>by simp
 |p::r=>by
  have:=FI r
  have e:ow (p::r)=aw1 p+ow r:=by simp[ow]
  have:1≤aw1 p:=by simp[aw1]
  rw[e,List.length_cons];omega
def stO (l:List Pc) (o:List Ad):Ob:= .cells [.lst 213 false (l.map pcV), .lst 26 true (o.map adV)]
theorem eB (l:List Pc) (o:List Ad):Ob.getC (stO l o)=[.lst 213 false (l.map pcV), .lst 26 true (o.map adV)]:=rfl
theorem eC (l:List Pc) (o:List Ad):Ob.cells [.lst 213 false (l.map pcV), .lst 26 true (o.map adV)]=stO l o:=rfl
theorem hd0 (x:V) (xs:List V):List.getD (x::xs) (Int.toNat 0) V.bot=x:=rfl
theorem tl1 (x:V) (xs:List V):List.drop (Int.toNat 1) (x::xs)=xs:=rfl
theorem B2 (t:Go.TypeId) (v:V):V.ifT (.ifc t v)=t:=rfl
theorem Ju (t:Go.TypeId) (v:V):V.ifV (.ifc t v)=v:=rfl
theorem LZ (s:Bs):bW cfg 183 (.str s)=true:=by kernel_rfl
theorem PG (c:UInt8):bW cfg 182 (.int .u8 (c.toNat:Nat))=true:=by kernel_rfl
theorem PH (c:UInt8):CSh.fits (CSh.int IntKind.u8) (.int .u8 (c.toNat:Nat))=true:=rfl
def wz (ws:List Bs):Nat:=(ws.map fun w=>w.length+1).sum
theorem sM (l m:List Bs):wz (l++m)=wz l+wz m:=by simp[wz]
theorem Ny (a:Bs):wz [a]=a.length+1:=by simp[wz]
theorem oC:∀ws:List Bs,wz ws=Lib.lens ws+ws.length
 |[]=>rfl
 |w::r=>by
  have:=oC r
  simp only[wz,Lib.lens,List.map_cons,List.sum_cons,List.length_cons]at this ⊢;omega
theorem kG (ws:List Bs) (s:Bs) (hs:s.length≤1):(Lib.join ws s).length≤wz ws∧(¬ws=[]→(Lib.join ws s).length+1≤wz ws):=by
 cases ws with
 |nil=>simp[Lib.join]
 |cons w r=>
  rw[Lib.join_length,oC]
  have:s.length*r.length≤1*r.length:=Nat.mul_le_mul_right _ hs
  simp only[List.length_cons]
  exact⟨by omega,fun _=>by omega⟩
theorem kN (ws:List Bs) (s:Bs) (h1:ws.length≤100000000) (h2:(Lib.join ws s).length≤100000000000000):Ret 85 [.lst 9 false (ws.map V.str), .str s] [] (.str (Lib.join ws s),[]):=by
 have hm:(ws.map V.str).map V.getS=ws:=by rw[List.map_map];exact(List.map_congr_left fun x _=>rfl).trans (List.map_id ws)
 refine dV (h:=sF) (by kernel_rfl) ?_
 simp only[sF,hm,List.length_map]
 rw[if_pos ⟨by omega,by omega⟩]
def isE (c:Int) (l:List Pc) (o:List Ad) (r:V×List Ob):Prop:=∃(b:Bool) (l' :List Pc),r=(.bool b,[stO l' o])∧pw l'≤pw l∧(b=true→pw l' +1≤pw l)∧∀d t,l= .g d::t→((d.toNat:Nat):Int)=c→b=true
theorem lS (l:List Pc) (o:List Ad) (c:Int):nZ 110 [.ref 0 0, .int .u8 c] [stO l o] (isE c l o):=by
 refine jC (fun _ h=>Rx (l.map pcV) (o.map adV) c h) ?_
 cases l with
 |nil=>
  have z:(((([]:List Pc).map pcV).length:Nat):Int)==0:=rfl
  simp only[Hl,z,if_true]
  exact aX ⟨false,[],rfl,Nat.le_refl _,by simp,fun d t h=>by cases h⟩
 |cons p t=>
  have h0:(0:Int)<(((pcV p::t.map pcV).length:Nat):Int):=by simp only[List.length_cons];omega
  have h1:(1:Int)≤(((pcV p::t.map pcV).length:Nat):Int):=by simp only[List.length_cons];omega
  have z:((((pcV p::t.map pcV).length:Nat):Int)==0)=false:=by
   have:¬(((pcV p::t.map pcV).length:Nat):Int)=0:=by omega
   simpa using this
  simp only[Hl,List.map_cons,z,Bool.false_eq_true,if_false,aJ (show(0:Int)≤0 by omega),aJ (show(0:Int)≤1 by omega),aJ h0,aJ h1,hd0,tl1]
  cases p with
  |w s=>
   have e:((183:Go.TypeId)==(182:Go.TypeId))=false:=by decide
   simp only[pcV,B2,e,Bool.false_eq_true,if_false]
   exact aX ⟨false, .w s::t,rfl,Nat.le_refl _,by simp,fun d t h=>by cases h⟩
  |g d=>
   simp only[pcV,B2,beq_self_eq_true,if_true,Ju,bM (PG d),dC]
   refine cG (fun hc=>?_) (fun hc=>?_)
   ·exact aX ⟨true,t,rfl,by rw[jH];omega,fun _=>by rw[jH];simp only[pw1];omega,fun _ _ _ _=>rfl⟩
   ·refine aX ⟨false, .g d::t,rfl,Nat.le_refl _,by simp,fun d' t' h h' =>?_⟩
    cases h
    exact absurd (by simpa using h') hc
def Nz (l:List Pc) (o:List Ad) (r:V×List Ob):Prop:=∃(ws:List Bs) (l' :List Pc),r=(.lst 9 false (ws.map V.str),[stO l' o])∧wz ws+pw l'≤pw l
theorem Gm (o:List Ad) (m:Nat) (hm:m≤5000000):∀(l:List Pc) (ws:List Bs),wz ws+pw l≤m→
  EvE (fun k j=>A3 (aA cfg k) j (ws.map V.str) (l.map pcV) (o.map adV)) (fun r=>∃(ws:List Bs) (l' :List Pc),r=(.lst 9 false (ws.map V.str),[stO l' o])∧wz ws+pw l'≤m)
 |[],ws,h=>by
  refine tQ (fun _ h=>Jl (ws.map V.str) (([]:List Pc).map pcV) (o.map adV) h) ?_
  have z:¬((((([]:List Pc).map pcV).length:Nat):Int)>0):=by simp
  simp only[Au,z,decide_false,Bool.false_eq_true,if_false]
  exact aX ⟨ws,[],rfl,h⟩
 |p::t,ws,h=>by
  refine tQ (fun _ h=>Jl (ws.map V.str) ((p::t).map pcV) (o.map adV) h) ?_
  have h0:(0:Int)<(((pcV p::t.map pcV).length:Nat):Int):=by simp only[List.length_cons];omega
  have h0' :(((pcV p::t.map pcV).length:Nat):Int)>0:=h0
  have h1:(1:Int)≤(((pcV p::t.map pcV).length:Nat):Int):=by simp only[List.length_cons];omega
  have hl:=oC ws
  have ap:∀v:V,aW (ws.map V.str) [v] 17=true:=fun v=>dQ (by simp only[List.length_map,List.length_cons,List.length_nil];omega)
  simp only[Au,List.map_cons,h0',decide_true,if_true,aJ (show(0:Int)≤0 by omega),aJ (show(0:Int)≤1 by omega),aJ h0,aJ h1,hd0,tl1,bM (ap _)]
  cases p with
  |g d=>
   have e:((182:Go.TypeId)==(183:Go.TypeId))=false:=by decide
   simp only[pcV,B2,e,Bool.false_eq_true,if_false]
   exact aX ⟨ws, .g d::t,rfl,h⟩
  |w s=>
   have aw:ws.map V.str++[.str s]=(ws++[s]).map V.str:=by simp
   simp only[pcV,B2,beq_self_eq_true,if_true,Ju,bM (LZ s),aS,aw]
   exact Gm o m hm t (ws++[s]) (by rw[sM,Ny];rw[jH]at h;simp only[pw1]at h;omega)
theorem Gn (l:List Pc) (o:List Ad) (hm:pw l≤5000000):nZ 138 [.ref 0 0] [stO l o] (Nz l o):=by
 refine jC (fun _ h=>RA (l.map pcV) (o.map adV) h) ?_
 simp only[Jk]
 exact Gm o (pw l) hm l [] (by simp[wz])
def PI (l:List Pc) (o:List Ad) (r:V×List Ob):Prop:=∃(h:Bs) (ok:Bool) (l' :List Pc),r=(.tup [.str h, .bool ok],[stO l' o])∧h.length+pw l'≤pw l∧∀t,l= .g 64::t→h.length+pw l' +1≤pw l
theorem CW (l:List Pc) (o:List Ad):nZ 140 [.ref 0 0] [stO l o] (PI l o):=by
 refine jC (fun _ h=>RE (l.map pcV) (o.map adV) h) ?_
 simp only[Jm,eC]
 refine bE (lS l o 64) ?_
 rintro _ ⟨b,l',rfl,g1,g2,g3⟩
 dsimp+instances only[bA,List.headD_cons,List.tail_cons,eB,bF]
 cases b with
 |false=>
  simp only[Bool.not_false,if_true]
  refine aX ⟨[],true,l',rfl,by simpa using g1,fun t h=>?_⟩
  exact absurd (g3 64 t h rfl) (by simp)
 |true=>
  have g2:=g2 rfl
  simp only[Bool.not_true,Bool.false_eq_true,if_false]
  cases l' with
  |nil=>
   have z:((((([]:List Pc).map pcV).length:Nat):Int)==0)=true:=rfl
   simp only[z,if_true]
   exact aX ⟨[],false,[],rfl,by simpa using g1,fun t _=>by simpa using g2⟩
  |cons p t=>
   have h0:(0:Int)<(((pcV p::t.map pcV).length:Nat):Int):=by simp only[List.length_cons];omega
   have h1:(1:Int)≤(((pcV p::t.map pcV).length:Nat):Int):=by simp only[List.length_cons];omega
   have z:((((pcV p::t.map pcV).length:Nat):Int)==0)=false:=by
    have:¬(((pcV p::t.map pcV).length:Nat):Int)=0:=by omega
    simpa using this
   simp only[List.map_cons,z,Bool.false_eq_true,if_false,aJ (show(0:Int)≤0 by omega),aJ (show(0:Int)≤1 by omega),aJ h0,aJ h1,hd0,tl1]
   rw[jH]at g1 g2
   cases p with
   |g d=>
    have e:((182:Go.TypeId)==(183:Go.TypeId))=false:=by decide
    simp only[pcV,B2,e,Bool.false_eq_true,if_false]
    exact aX ⟨[],false, .g d::t,rfl,by rw[jH];simpa using g1,fun t _=>by rw[jH];simpa using g2⟩
   |w s=>
    simp only[pw1]at g1 g2
    simp only[pcV,B2,beq_self_eq_true,if_true,Ju,bM (LZ s),aS]
    exact aX ⟨s,true,t,rfl,by omega,fun t _=>by omega⟩
def NA (l:List Pc) (o:List Ad) (r:V×List Ob):Prop:=∃(b:Bool) (l' :List Pc),r=(.bool b,[stO l' o])∧pw l'≤pw l
theorem K8 (o:List Ad):∀(m:Nat) (l:List Pc) (b:Bool),pw l=m→
  EvE (fun k j=>A5 (aA cfg k) j b (l.map pcV) (o.map adV)) (NA l o):=by
 intro m
 induction m using Nat.strongRecOn with
 |_ m ih=>
  intro l b hm
  refine tQ (fun _ h=>Nt b (l.map pcV) (o.map adV) h) ?_
  have done:EvE (fun(k _:Nat)=>if(!b)=false then Option.bind (aA cfg k 110 [.ref 0 0, .int .u8 58] [stO l o]) fun z0=>
     some ((V.bool (V.getB z0.1)),[(Ob.cells [(V.lst 213 false (V.getL (List.headD (Ob.getC (List.headD z0.2 Ob.dead)) V.bot))),(V.lst 26 true (V.getL (List.headD (List.tail (Ob.getC (List.headD z0.2 Ob.dead))) V.bot)))])])
    else some ((V.bool true),[stO l o])) (NA l o):=by
   refine cG (fun _=>?_) (fun _=>?_)
   ·refine bE (lS l o 58) ?_
    rintro _ ⟨b,l',rfl,g1,g2,g3⟩
    exact aX ⟨b,l',rfl,g1⟩
   ·exact aX ⟨true,l,rfl,Nat.le_refl _⟩
  cases l with
  |nil=>
   have z:¬((((([]:List Pc).map pcV).length:Nat):Int)>0):=by simp
   simp only[Av,z,decide_false,Bool.false_eq_true,if_false,eC]
   exact done
  |cons p t=>
   have h0:(0:Int)<((((p::t).map pcV).length:Nat):Int):=by simp only[List.map_cons,List.length_cons];omega
   have h0' :((((p::t).map pcV).length:Nat):Int)>0:=h0
   have hd:List.getD ((p::t).map pcV) (Int.toNat 0) V.bot=pcV p:=rfl
   simp only[Av,h0',decide_true,if_true,aJ (show(0:Int)≤0 by omega),aJ h0,hd,eC]
   cases p with
   |w s=>
    have e:((183:Go.TypeId)==(182:Go.TypeId))=false:=by decide
    have e2:V.ifT (pcV (.w s))=183:=rfl
    simp only[e2,e,Bool.false_eq_true,if_false]
    exact done
   |g d=>
    have e2:V.ifT (pcV (.g d))=182:=rfl
    have e3:V.ifV (pcV (.g d))= .int .u8 ((d.toNat:Nat):Int):=rfl
    refine cG (fun _=>?_) (fun hc=>absurd rfl hc)
    refine cG (fun _=>?_) (fun hc=>absurd (by rw[e2];decide) hc)
    simp only[e3,bM (PH d),dC]
    refine cG (fun hc=>?_) (fun hc=>?_)
    ·have hd:d=64:=by
      have:((d.toNat:Nat):Int)=64:=by simpa using hc
      exact UInt8.toNat.inj (by show d.toNat=64;omega)
     subst hd
     refine bE (CW (.g 64::t) o) ?_
     rintro _ ⟨h,ok,l',rfl,g1,g2⟩
     have g2:=g2 t rfl
     dsimp+instances only[bA,List.headD_cons,List.tail_cons,eB,bF,bV]
     refine cG (fun _=>?_) (fun _=>?_)
     ·exact aX ⟨false,l',rfl,by omega⟩
     ·simp only[eC]
      refine bE (lS l' o 44) ?_
      rintro _ ⟨b',l'',rfl,k1,k2,k3⟩
      dsimp+instances only[bA,List.headD_cons,List.tail_cons,eB,bF]
      refine tR (ih _ (by omega) l'' true rfl) ?_
      rintro r ⟨b3,l3,rfl,hp⟩
      exact⟨b3,l3,rfl,by omega⟩
    ·exact done
theorem K9 (l:List Pc) (o:List Ad):nZ 160 [.ref 0 0] [stO l o] (NA l o):=by
 refine jC (fun _ h=>RH (l.map pcV) (o.map adV) h) ?_
 simp only[Jo]
 exact K8 o _ l false rfl
def tU (m:Nat) (r:V×List Ob):Prop:=∃(b:Bool) (l' :List Pc) (o' :List Ad),r=(.bool b,[stO l' o'])∧pw l' +ow o'≤m
theorem xM (o:List Ad) (a:Ad):o.map adV++[.agg [.int .i64 a.1, .str a.2.1, .str a.2.2.1, .str a.2.2.2]]=(o++[a]).map adV:=by simp[adV]
theorem out_ok (o:List Ad) (h:ow o≤5000000) (v:V):aW (o.map adV) [v] 57=true:=dQ (by
 have:=FI o
 simp only[List.length_map,List.length_cons,List.length_nil];omega)
theorem La (l:List Pc) (o:List Ad) (ws:List Bs) (hm:wz ws+pw l+ow o≤5000000):nZ 139 [.ref 0 0, .lst 9 false (ws.map V.str)] [stO l o] (tU (wz ws+pw l+ow o)):=by
 refine jC (fun _ h=>RL (l.map pcV) (o.map adV) (ws.map V.str) h) ?_
 simp only[Jp,eC]
 refine bE (K9 l o) ?_
 rintro _ ⟨b,l1,rfl,g1⟩
 dsimp+instances only[bA,List.headD_cons,List.tail_cons,eB,bF]
 refine cG (fun _=>?_) (fun _=>?_)
 ·exact aX ⟨false,l1,o,rfl,by omega⟩
 simp only[eC]
 refine bE (Gn l1 o (by omega)) ?_
 rintro _ ⟨lw,l2,rfl,g2⟩
 dsimp+instances only[bA,List.headD_cons,List.tail_cons,eB,bF]
 simp only[eC]
 refine bE (CW l2 o) ?_
 rintro _ ⟨h,ok,l3,rfl,g3,_⟩
 dsimp+instances only[bA,List.headD_cons,List.tail_cons,eB,bF,bV,aS]
 refine cG (fun _=>?_) (fun _=>?_)
 ·refine cG (fun hw=>?_) (fun _=>?_)
  ·have hw:¬lw=[]:=by rintro rfl;exact absurd hw (by decide)
   simp only[eC]
   refine bE (lS l3 o 62) ?_
   rintro _ ⟨b,l4,rfl,g4,g5,_⟩
   dsimp+instances only[bA,List.headD_cons,List.tail_cons,eB,bF]
   cases b with
   |false=>
    simp only[Bool.not_false,if_true]
    exact aX ⟨false,l4,o,rfl,by omega⟩
   |true=>
    have g5:=g5 rfl
    obtain⟨j1,_⟩:=kG ws [32] (by simp)
    obtain⟨_,j2⟩:=kG lw [] (by simp)
    have j2:=j2 hw
    have w1:=oC ws
    have w2:=oC lw
    simp only[Bool.not_true,Bool.false_eq_true,if_false,bM (out_ok o (by omega) _)]
    refine iM (kN ws [32] (by omega) (by omega)) ?_
    refine iM (kN lw [] (by omega) (by omega)) ?_
    refine aX ⟨true,l4,o++[(0,Lib.join ws [32],Lib.join lw [],h)],by rw[stO,←xM];rfl,?_⟩
    rw[CU,CV]
    simp only[aw1]
    omega
  ·exact aX ⟨false,l3,o,rfl,by omega⟩
 ·exact aX ⟨false,l3,o,rfl,by omega⟩
theorem Ez (l:List Pc) (o:List Ad) (ws:List Bs) (m:Nat) (hm:m≤5000000) (hw:wz ws+pw l+ow o≤m):
  EvE (fun(k _:Nat)=>if(((List.length (ws.map V.str):Nat):Int)==(0:Int))=true then some ((V.bool true),[stO l o])
   else
    Option.bind (aA cfg k 140 [(V.ref 0 0)] [stO l o]) fun z2=>
    Option.bind (aA cfg k 85 [(V.lst 9 false (ws.map V.str)),(V.str [])] []) fun z3=>
    chk (aW (V.getL (List.headD (List.tail (Ob.getC (List.headD z2.2 Ob.dead))) V.bot)) [(V.agg [(V.int IntKind.i64 (0:Int)),(V.str []),(V.str (V.getS z3.1)),(V.str (V.getS (List.headD (V.getT z2.1) V.bot)))])] 57) (some ((V.bool (V.getB (List.headD (List.tail (V.getT z2.1)) V.bot))),[(Ob.cells [(V.lst 213 false (V.getL (List.headD (Ob.getC (List.headD z2.2 Ob.dead)) V.bot))),(V.lst 26 true ((V.getL (List.headD (List.tail (Ob.getC (List.headD z2.2 Ob.dead))) V.bot))++[(V.agg [(V.int IntKind.i64 (0:Int)),(V.str []),(V.str (V.getS z3.1)),(V.str (V.getS (List.headD (V.getT z2.1) V.bot)))])]))])]))) (tU m):=by
 refine cG (fun _=>?_) (fun h0=>?_)
 ·exact aX ⟨true,l,o,rfl,by omega⟩
 ·have hne:¬ws=[]:=by rintro rfl;exact h0 rfl
  refine bE (CW l o) ?_
  rintro _ ⟨h,ok,l3,rfl,g3,_⟩
  obtain⟨_,j2⟩:=kG ws [] (by simp)
  have j2:=j2 hne
  have w1:=oC ws
  refine iM (kN ws [] (by omega) (by omega)) ?_
  dsimp+instances only[bA,List.headD_cons,List.tail_cons,eB,bF,bV,aS]
  simp only[bM (out_ok o (by omega) _)]
  refine aX ⟨ok,l3,o++[(0,[],Lib.join ws [],h)],by rw[stO,←xM],?_⟩
  rw[CU,CV]
  simp only[aw1,List.length_nil]
  omega
theorem Gp (within:Bool) (hit:within=false→∀(l:List Pc) (o:List Ad),pw l+ow o≤5000000→nZ 72 [.ref 0 0, .bool true] [stO l o] (tU (pw l+ow o)))
  (l:List Pc) (o:List Ad) (hm:pw l+ow o≤5000000):nZ 109 [.ref 0 0, .bool within] [stO l o] (tU (pw l+ow o)):=by
 refine jC (fun _ h=>RQ (l.map pcV) (o.map adV) within h) ?_
 simp only[Jr,eC]
 refine bE (Gn l o (by omega)) ?_
 rintro _ ⟨ws,l1,rfl,g1⟩
 dsimp+instances only[bA,List.headD_cons,List.tail_cons,eB,bF]
 simp only[eC]
 refine bE (lS l1 o 60) ?_
 rintro _ ⟨b,l2,rfl,g2,g3,_⟩
 dsimp+instances only[bA,List.headD_cons,List.tail_cons,eB,bF]
 simp only[eC]
 refine cG (fun _=>?_) (fun _=>?_)
 ·refine bE (La l2 o ws (by omega)) ?_
  rintro _ ⟨b,l3,o3,rfl,g4⟩
  exact aX ⟨b,l3,o3,rfl,by omega⟩
 ·cases within with
  |true=>
   simp only[Bool.not_true,Bool.false_eq_true,if_false]
   exact Ez l2 o ws _ hm (by omega)
  |false=>
   simp only[Bool.not_false,if_true]
   refine bE (lS l2 o 58) ?_
   rintro _ ⟨b,l3,rfl,g4,g5,_⟩
   dsimp+instances only[bA,List.headD_cons,List.tail_cons,eB,bF]
   cases b with
   |false=>
    simp only[Bool.false_eq_true,if_false,eC]
    exact Ez l3 o ws _ hm (by omega)
   |true=>
    have g5:=g5 rfl
    obtain⟨j1,_⟩:=kG ws [32] (by simp)
    have w1:=oC ws
    simp only[if_true,bM (out_ok o (by omega) _)]
    refine iM (kN ws [32] (by omega) (by omega)) ?_
    dsimp+instances only[aS]
    have e1:=xM o (1,Lib.join ws [32],[],[])
    dsimp only at e1
    simp only[e1,eC]
    have ho:ow (o++[(1,Lib.join ws [32],[],[])])=ow o+(Lib.join ws [32]).length+1:=by
     rw[CU,CV];simp only[aw1,List.length_nil];omega
    refine bE (hit rfl l3 (o++[(1,Lib.join ws [32],[],[])]) (by omega)) ?_
    rintro _ ⟨b,l4,o4,rfl,g6⟩
    dsimp+instances only[bA,List.headD_cons,List.tail_cons,eB,bF]
    refine cG (fun _=>?_) (fun _=>?_)
    ·simp only[eC]
     refine bE (lS l4 o4 59) ?_
     rintro _ ⟨b,l5,rfl,g7,g8,_⟩
     dsimp+instances only[bA,List.headD_cons,List.tail_cons,eB,bF]
     cases b with
     |false=>
      simp only[Bool.not_false,if_true]
      exact aX ⟨false,l5,o4,rfl,by omega⟩
     |true=>
      have g8:=g8 rfl
      simp only[Bool.not_true,Bool.false_eq_true,if_false,bM (out_ok o4 (by omega) _)]
      refine aX ⟨true,l5,o4++[(2,[],[],[])],by rw[stO,←xM],?_⟩
      rw[CU,CV]
      simp only[aw1,List.length_nil]
      omega
    ·exact aX ⟨false,l4,o4,rfl,by omega⟩
theorem Jv (b:Bool) (hit:∀(l:List Pc) (o:List Ad),pw l+ow o≤5000000→nZ 109 [.ref 0 0, .bool b] [stO l o] (tU (pw l+ow o))):
  ∀(m:Nat) (l:List Pc) (o:List Ad),pw l+ow o=m→pw l+ow o≤5000000→EvE (fun k j=>L72 (aA cfg k) j b (l.map pcV) (o.map adV)) (tU (pw l+ow o)):=by
 intro m
 induction m using Nat.strongRecOn with
 |_ m ih=>
  intro l o h hm
  refine tQ (fun _ h=>PD b (l.map pcV) (o.map adV) h) ?_
  simp only[Gl,eC]
  refine bE (hit l o hm) ?_
  rintro _ ⟨b1,l1,o1,rfl,g1⟩
  dsimp+instances only[bA,List.headD_cons,List.tail_cons,eB,bF]
  refine cG (fun _=>?_) (fun _=>?_)
  ·exact aX ⟨false,l1,o1,rfl,g1⟩
  simp only[eC]
  refine bE (lS l1 o1 44) ?_
  rintro _ ⟨b2,l2,rfl,g2,g3,_⟩
  dsimp+instances only[bA,List.headD_cons,List.tail_cons,eB,bF]
  cases b2 with
  |false=>
   simp only[Bool.not_false,if_true]
   exact aX ⟨true,l2,o1,rfl,by omega⟩
  |true=>
   have g3:=g3 rfl
   simp only[Bool.not_true,Bool.false_eq_true,if_false]
   refine tR (ih _ (by omega) l2 o1 rfl (by omega)) ?_
   rintro r ⟨b3,l3,o3,rfl,hp⟩
   exact⟨b3,l3,o3,rfl,by omega⟩
theorem B5 (b:Bool) (hit:∀(l:List Pc) (o:List Ad),pw l+ow o≤5000000→nZ 109 [.ref 0 0, .bool b] [stO l o] (tU (pw l+ow o)))
  (l:List Pc) (o:List Ad) (hm:pw l+ow o≤5000000):nZ 72 [.ref 0 0, .bool b] [stO l o] (tU (pw l+ow o)):=by
 refine jC (fun _ h=>M72 (l.map pcV) (o.map adV) b h) ?_
 simp only[T72]
 exact Jv b hit _ l o rfl hm
theorem NB (l:List Pc) (o:List Ad) (hm:pw l+ow o≤5000000):nZ 72 [.ref 0 0, .bool false] [stO l o] (tU (pw l+ow o)):=
 B5 false (Gp false fun _=>B5 true (Gp true fun h=>by cases h)) l o hm
def L0 (s:Bs) (r:V×List Ob):Prop:=∃(o:List Ad) (ok:Bool),r=(.tup [.lst 26 false (o.map adV), .bool ok],[])∧ow o≤2*s.length
theorem NC (s:Bs) (hs:s.length≤1000000):nZ 35 [.str s] [] (L0 s):=by
 refine jC (fun _ h=>M35 s h) ?_
 simp only[T35]
 refine bE (Nx s hs) ?_
 rintro _ ⟨l,ok,rfl,g1⟩
 dsimp+instances only[bA,List.headD_cons,List.tail_cons,bF,bV]
 have none:EvE (fun(_ _:Nat)=>some ((V.tup [(V.lst 26 false []),(V.bool false)]),([]:List Ob))) (L0 s):=aX ⟨[],false,rfl,by simp[ow]⟩
 refine cG (fun _=>?_) (fun _=>none)
 have e0:Ob.cells [.lst 213 false (l.map pcV), .lst 26 true []]=stO l []:=rfl
 simp only[e0]
 have o0:ow []=0:=rfl
 refine bE (NB l [] (by omega)) ?_
 rintro _ ⟨b,l1,o1,rfl,g2⟩
 dsimp+instances only[bA,List.headD_cons,List.tail_cons,eB,bF]
 refine cG (fun _=>?_) (fun _=>none)
 refine cG (fun _=>none) (fun _=>?_)
 exact aX ⟨o1,true,rfl,by omega⟩
end Go.Proofs.YtdoaoaicdimbeaaGreatDoor
end
section
namespace Go.Proofs.YtdoaoaicdimbeaaGreatDoor
open Go.Ev Go
end Go.Proofs.YtdoaoaicdimbeaaGreatDoor
end
section
namespace Go.Proofs.YtdoaoaicdimbeaaGreatDoor
open Go.Ev Go
def eN0:Bs:=[100,97,116,101]
def eN1:Bs:=[115,117,98,106,101,99,116]
def eN2:Bs:=[105,110,45,114,101,112,108,121,45,116,111]
def eN3:Bs:=[109,101,115,115,97,103,101,45,105,100]
def eM0:Bs:=[102,114,111,109]
def eM1:Bs:=[115,101,110,100,101,114]
def eM2:Bs:=[114,101,112,108,121,45,116,111]
def eM3:Bs:=[116,111]
def eM4:Bs:=[99,99]
def eM5:Bs:=[98,99,99]
def rdL (z:V×List Ob):V:= .lst 26 false (V.getL (List.headD (V.getT z.1) V.bot))
def rdS (z:V×List Ob):V:= .str (V.getS z.1)
def rdB (z:V×List Ob):V:= .bool (V.getB (List.headD (List.tail (V.getT z.1)) V.bot))
def FK (v:V):Bool:=(((List.length (V.getL v):Nat):Int)==(0:Int))
def Lb (v0 v1 v2 v3 f0 f1 f2 f3 x0 x1 x2 x3 x4 x5:V):Option (V×List Ob):=
 some (.agg [v0,v1,x0,x1,x2,x3,x4,x5,v2,v3,f0,f1,f2,f3],[])
def TOf (call:FuncId→Fun) (a0:List V) (a2 a3:Int):Option (V×List Ob):=
 Option.bind (call 32 [.lst 5 false a0, .agg [.int .i64 a2, .int .i64 a3]] []) fun z0=>
 Option.bind (call 33 [(.lst 91 false (V.getL (List.headD (V.getT z0.1) V.bot))), .str eN0] []) fun f0=>
 Option.bind (call 34 [.lst 5 false a0,(.lst 91 false (V.getL (List.headD (V.getT z0.1) V.bot))), .str eN0] []) fun v0=>
 Option.bind (call 33 [(.lst 91 false (V.getL (List.headD (V.getT z0.1) V.bot))), .str eN1] []) fun f1=>
 Option.bind (call 34 [.lst 5 false a0,(.lst 91 false (V.getL (List.headD (V.getT z0.1) V.bot))), .str eN1] []) fun v1=>
 Option.bind (call 33 [(.lst 91 false (V.getL (List.headD (V.getT z0.1) V.bot))), .str eN2] []) fun f2=>
 Option.bind (call 34 [.lst 5 false a0,(.lst 91 false (V.getL (List.headD (V.getT z0.1) V.bot))), .str eN2] []) fun v2=>
 Option.bind (call 33 [(.lst 91 false (V.getL (List.headD (V.getT z0.1) V.bot))), .str eN3] []) fun f3=>
 Option.bind (call 34 [.lst 5 false a0,(.lst 91 false (V.getL (List.headD (V.getT z0.1) V.bot))), .str eN3] []) fun v3=>
 Option.bind (call 34 [.lst 5 false a0,(.lst 91 false (V.getL (List.headD (V.getT z0.1) V.bot))), .str eM0] []) fun w0=>
 Option.bind (call 35 [rdS w0] []) fun x0=>
 Option.bind (call 34 [.lst 5 false a0,(.lst 91 false (V.getL (List.headD (V.getT z0.1) V.bot))), .str eM1] []) fun w1=>
 Option.bind (call 35 [rdS w1] []) fun x1=>
 Option.bind (call 34 [.lst 5 false a0,(.lst 91 false (V.getL (List.headD (V.getT z0.1) V.bot))), .str eM2] []) fun w2=>
 Option.bind (call 35 [rdS w2] []) fun x2=>
 Option.bind (call 34 [.lst 5 false a0,(.lst 91 false (V.getL (List.headD (V.getT z0.1) V.bot))), .str eM3] []) fun w3=>
 Option.bind (call 35 [rdS w3] []) fun x3=>
 Option.bind (call 34 [.lst 5 false a0,(.lst 91 false (V.getL (List.headD (V.getT z0.1) V.bot))), .str eM4] []) fun w4=>
 Option.bind (call 35 [rdS w4] []) fun x4=>
 Option.bind (call 34 [.lst 5 false a0,(.lst 91 false (V.getL (List.headD (V.getT z0.1) V.bot))), .str eM5] []) fun w5=>
 Option.bind (call 35 [rdS w5] []) fun x5=>
 if FK (rdL x1)=true then(if FK (rdL x2)=true then Lb (rdS v0) (rdS v1) (rdS v2) (rdS v3) (rdB f0) (rdB f1) (rdB f2) (rdB f3) (rdL x0) (rdL x0) (rdL x0) (rdL x3) (rdL x4) (rdL x5)else Lb (rdS v0) (rdS v1) (rdS v2) (rdS v3) (rdB f0) (rdB f1) (rdB f2) (rdB f3) (rdL x0) (rdL x0) (rdL x2) (rdL x3) (rdL x4) (rdL x5))
 else(if FK (rdL x2)=true then Lb (rdS v0) (rdS v1) (rdS v2) (rdS v3) (rdB f0) (rdB f1) (rdB f2) (rdB f3) (rdL x0) (rdL x1) (rdL x0) (rdL x3) (rdL x4) (rdL x5)else Lb (rdS v0) (rdS v1) (rdS v2) (rdS v3) (rdB f0) (rdB f1) (rdB f2) (rdB f3) (rdL x0) (rdL x1) (rdL x2) (rdL x3) (rdL x4) (rdL x5))
theorem COf (m:Nat) (a0:List V) (a1 a2 a3 a4 a5:Int) (a6 a7:List V) (a8 a9:Int):aA cfg (m+40) 15 [.lst 5 false a0,(V.agg [.int .i64 a1, .int .i64 a2, .int .i64 a3, .int .i64 a4, .int .i64 a5, .lst 36 false a6, .lst 32 false a7, .int .i64 a8, .int .i64 a9])] []=TOf (aA cfg (m+39)) a0 a2 a3:=by kernel_rfl
end Go.Proofs.YtdoaoaicdimbeaaGreatDoor
end
section
namespace Go.Proofs.YtdoaoaicdimbeaaGreatDoor
open Go.Ev Go
open List (headD tail getD length drop take)
open V (getI getL getT getS getB)
set_option maxRecDepth 100000
variable (call : FuncId → Fun) (icall : aO (V × List Ob)) (again : List It → St → Option (V × List Ob))
def T55 (call:FuncId→Fun) (a0:List UInt8):Option (V×List Ob):=
 Option.bind (call 52 [(V.str a0),(V.bool (!(sEq a0 [])))] []) fun z0=>
 some ((V.str (getS z0.1)),[])
def A55 (a0:List UInt8):List V:=[V.str a0]
theorem E55 (a0:List UInt8):GO 55 Tryz.f55 (A55 a0) [] call icall again=T55 call a0:=by kernel_rfl
theorem C55 (k:Nat) (a0:List UInt8):aA cfg (k+1) 55 (A55 a0) []=T55 (aA cfg k) a0:=
 (show aA cfg (k+1) 55 (A55 a0) []=GO 55 Tryz.f55 (A55 a0) [] (aA cfg k) (aE cfg (aA cfg k) 20) (RN 55 Tryz.f55 [] (aA cfg k) (aE cfg (aA cfg k) 20) k)by kernel_rfl).trans (E55 _ _ _ a0)
theorem M55 (a0:List UInt8) {r:V×List Ob} (h:Evt (fun k n=>T55 (aA cfg k) a0) r):Ret 55 [V.str a0] [] r:=aR (g:=fun k n=>T55 (aA cfg k) a0) (fun k=>C55 k a0) h
def T53 (call:FuncId→Fun) (a0:List V):Option (V×List Ob):=
 Option.bind (call 85 [(V.lst 9 false a0),(V.str [32])] []) fun z0=>
 chk (bJ [40] (getS z0.1)) (chk (bJ ([40]++(getS z0.1)) [41]) (some ((V.str (([40]++(getS z0.1))++[41])),[])))
def A53 (a0:List V):List V:=[V.lst 9 false a0]
theorem E53 (a0:List V):GO 53 Tryz.f53 (A53 a0) [] call icall again=T53 call a0:=by kernel_rfl
theorem C53 (k:Nat) (a0:List V):aA cfg (k+1) 53 (A53 a0) []=T53 (aA cfg k) a0:=
 (show aA cfg (k+1) 53 (A53 a0) []=GO 53 Tryz.f53 (A53 a0) [] (aA cfg k) (aE cfg (aA cfg k) 20) (RN 53 Tryz.f53 [] (aA cfg k) (aE cfg (aA cfg k) 20) k)by kernel_rfl).trans (E53 _ _ _ a0)
theorem M53 (a0:List V) {r:V×List Ob} (h:Evt (fun k n=>T53 (aA cfg k) a0) r):Ret 53 [V.lst 9 false a0] [] r:=aR (g:=fun k n=>T53 (aA cfg k) a0) (fun k=>C53 k a0) h
def T28 (call:FuncId→Fun) (a0:Int) (a1:List UInt8) (a2:List UInt8) (a3:List UInt8):Option (V×List Ob):=
 if(a0==(0:Int))=true then
 Option.bind (call 55 [(V.str a1)] []) fun z0=>
 Option.bind (call 45 [(V.str a2)] []) fun z1=>
 Option.bind (call 55 [(V.str a3)] []) fun z2=>
 Option.bind (call 53 [(V.lst 9 false [(V.str (getS z0.1)),(V.str [78,73,76]),(V.str (getS z1.1)),(V.str (getS z2.1))])] []) fun z3=>
 some ((V.str (getS z3.1)),[])
 else
 if(a0==(1:Int))=true then
 Option.bind (call 45 [(V.str a1)] []) fun z0=>
 Option.bind (call 53 [(V.lst 9 false [(V.str [78,73,76]),(V.str [78,73,76]),(V.str (getS z0.1)),(V.str [78,73,76])])] []) fun z1=>
 some ((V.str (getS z1.1)),[])
 else
 Option.bind (call 53 [(V.lst 9 false [(V.str [78,73,76]),(V.str [78,73,76]),(V.str [78,73,76]),(V.str [78,73,76])])] []) fun z0=>
 some ((V.str (getS z0.1)),[])
def A28 (a0:Int) (a1:List UInt8) (a2:List UInt8) (a3:List UInt8):List V:=[V.agg [V.int IntKind.i64 a0,V.str a1,V.str a2,V.str a3]]
theorem E28 (a0:Int) (a1:List UInt8) (a2:List UInt8) (a3:List UInt8):GO 28 Tryz.f28 (A28 a0 a1 a2 a3) [] call icall again=T28 call a0 a1 a2 a3:=by kernel_rfl
theorem C28 (k:Nat) (a0:Int) (a1:List UInt8) (a2:List UInt8) (a3:List UInt8):aA cfg (k+1) 28 (A28 a0 a1 a2 a3) []=T28 (aA cfg k) a0 a1 a2 a3:=
 (show aA cfg (k+1) 28 (A28 a0 a1 a2 a3) []=GO 28 Tryz.f28 (A28 a0 a1 a2 a3) [] (aA cfg k) (aE cfg (aA cfg k) 20) (RN 28 Tryz.f28 [] (aA cfg k) (aE cfg (aA cfg k) 20) k)by kernel_rfl).trans (E28 _ _ _ a0 a1 a2 a3)
theorem M28 (a0:Int) (a1:List UInt8) (a2:List UInt8) (a3:List UInt8) {r:V×List Ob} (h:Evt (fun k n=>T28 (aA cfg k) a0 a1 a2 a3) r):Ret 28 [V.agg [V.int IntKind.i64 a0,V.str a1,V.str a2,V.str a3]] [] r:=aR (g:=fun k n=>T28 (aA cfg k) a0 a1 a2 a3) (fun k=>C28 k a0 a1 a2 a3) h
def EA (call:FuncId→Fun) (ag0:List V→Int→Int→List V→Option (V×List Ob)) (l0:List V) (i1:Int) (i2:Int) (l3:List V):Option (V×List Ob):=
 if(decide (i2<i1))=true then
 chk (decide (0≤i2)) (chk (decide (i2<((length l0:Nat):Int))) (Option.bind (call 28 [(V.agg [(V.int .i64 (getI (headD (V.cells (getD l0 (Int.toNat i2) V.bot)) V.bot))),(V.str (getS (headD (tail (V.cells (getD l0 (Int.toNat i2) V.bot))) V.bot))),(V.str (getS (headD (tail (tail (V.cells (getD l0 (Int.toNat i2) V.bot)))) V.bot))),(V.str (getS (headD (tail (tail (tail (V.cells (getD l0 (Int.toNat i2) V.bot))))) V.bot)))])] []) fun z0=>
 Option.bind (call 27 [(V.ref 0 0),(V.str (getS z0.1))] [(Ob.cells [(V.opt 0 0),(V.lst 5 true l3)])]) fun z1=>
 (ag0 (l0) (i1) ((IntKind.wrap .i64 (i2+(1:Int)))) ((getL (headD (tail (Ob.getC (headD z1.2 Ob.dead))) V.bot))))))
 else
 Option.bind (call 29 [(V.ref 0 0)] [(Ob.cells [(V.opt 0 0),(V.lst 5 true l3)])]) fun z0=>
 chk (bJ [40] (getS z0.1)) (chk (bJ ([40]++(getS z0.1)) [41]) (some ((V.str (([40]++(getS z0.1))++[41])),[])))
def T12 (call:FuncId→Fun) (ag0:List V→Int→Int→List V→Option (V×List Ob)) (a0:List V):Option (V×List Ob):=
 if(((length a0:Nat):Int)==(0:Int))=true then
 some ((V.str [78,73,76]),[])
 else
 (ag0 (a0) (((length a0:Nat):Int)) ((0:Int)) ([]))
def A12 (a0:List V):List V:=[V.lst 26 false a0]
def B6 (l0:List V) (i1:Int) (i2:Int) (l3:List V):St:=⟨[V.bot,V.bot,V.bot,(V.ref 0 0),V.bot,V.bot,V.bot,V.bot,V.bot,(V.lst 26 false l0),(V.int IntKind.i64 i1),(V.int IntKind.i64 i2)]++List.replicate 10 V.bot,[(Ob.cells [(V.opt 0 0),(V.lst 5 true l3)])]⟩
theorem PK (l0:List V) (i1:Int) (i2:Int) (l3:List V):
 RM 12 Tryz.f12 [] call icall again (aI Tryz.f12 0) (B6 l0 i1 i2 l3)=EA call (fun l0 i1 i2 l3=>again (aI Tryz.f12 0) (B6 l0 i1 i2 l3)) l0 i1 i2 l3:=by kernel_rfl
theorem E12 (a0:List V):GO 12 Tryz.f12 (A12 a0) [] call icall again=T12 call (fun l0 i1 i2 l3=>again (aI Tryz.f12 0) (B6 l0 i1 i2 l3)) a0:=by kernel_rfl
def L12 (call:FuncId→Fun):Nat→(List V→Int→Int→List V→Option (V×List Ob))
 |0=>fun _ _ _ _=>none
 |n+1=>EA call (L12 call n)
theorem R12 (call:FuncId→Fun) (icall:aO (V×List Ob)):∀n,(∀(l0:List V) (i1:Int) (i2:Int) (l3:List V),RN 12 Tryz.f12 [] call icall n (aI Tryz.f12 0) (B6 l0 i1 i2 l3)=(L12 call n) l0 i1 i2 l3)
 |0=>fun l0 i1 i2 l3=>rfl
 |n+1=>by
  have ih:=R12 call icall n
  exact fun l0 i1 i2 l3=>(PK call icall (RN 12 Tryz.f12 [] call icall n) l0 i1 i2 l3).trans (by rw[show(fun l0 i1 i2 l3=>RN 12 Tryz.f12 [] call icall n (aI Tryz.f12 0) (B6 l0 i1 i2 l3))=(L12 call n)from(funext fun l0=>funext fun i1=>funext fun i2=>funext fun l3=>ih l0 i1 i2 l3)];rfl)
theorem C12 (k:Nat) (a0:List V):aA cfg (k+1) 12 (A12 a0) []=T12 (aA cfg k) (L12 (aA cfg k) k) a0:=by
 have ih:=R12 (aA cfg k) (aE cfg (aA cfg k) 20) k
 refine(show aA cfg (k+1) 12 (A12 a0) []=GO 12 Tryz.f12 (A12 a0) [] (aA cfg k) (aE cfg (aA cfg k) 20) (RN 12 Tryz.f12 [] (aA cfg k) (aE cfg (aA cfg k) 20) k)by kernel_rfl).trans ((E12 _ _ _ a0).trans ?_)
 rw[show(fun l0 i1 i2 l3=>RN 12 Tryz.f12 [] (aA cfg k) (aE cfg (aA cfg k) 20) k (aI Tryz.f12 0) (B6 l0 i1 i2 l3))=(L12 (aA cfg k) k)from(funext fun l0=>funext fun i1=>funext fun i2=>funext fun l3=>ih l0 i1 i2 l3)]
theorem M12 (a0:List V) {r:V×List Ob} (h:Evt (fun k n=>T12 (aA cfg k) (L12 (aA cfg k) n) a0) r):Ret 12 [V.lst 26 false a0] [] r:=aR (g:=fun k n=>T12 (aA cfg k) (L12 (aA cfg k) n) a0) (fun k=>C12 k a0) h
theorem L1 (l0:List V) (i1:Int) (i2:Int) (l3:List V) {r:V×List Ob} (h:Evt (fun k n=>EA (aA cfg k) (L12 (aA cfg k) n) l0 i1 i2 l3) r):Evt (fun k n=>(L12 (aA cfg k) n) l0 i1 i2 l3) r:=aZ (fun k n=>rfl) h
end Go.Proofs.YtdoaoaicdimbeaaGreatDoor
end
section
namespace Go.Proofs.YtdoaoaicdimbeaaGreatDoor
open Go.Ev Go
def CX (s:Bs):Bs:=tN s (!(sEq s []))
theorem L2 (s:Bs) (hs:s.length≤1000000000):Ret 55 [.str s] [] (.str (CX s),[]):=by
 refine M55 s ?_
 simp only[T55]
 refine aB (BY s hs _) ?_
 exact aD _
theorem Gq (m:Nat) (l:List Bs) (h:∀x∈l,x.length≤m):(mC l).length≤l.length* (m+1)+2:=by
 have:=tO m l h
 simp only[mC,List.length_append,List.length_cons,List.length_nil];omega
theorem L6 (l:List Bs) (hl:l.length≤10000000) (hj:(Lib.join l [32]).length≤100000000000000):Ret 53 [.lst 9 false (l.map V.str)] [] (.str (mC l),[]):=by
 refine M53 (l.map V.str) ?_
 simp only[T53]
 refine aB (kN l [32] (by omega) hj) ?_
 have c1:bJ [40] (Lib.join l [32])=true:=eJ (by simp;omega)
 have c2:bJ ([40]++Lib.join l [32]) [41]=true:=eJ (by simp;omega)
 simp only[aS,bM c1,bM c2]
 exact aD _
def EB (a:Ad):List Bs:=if a.1=0 then[CX a.2.1,jY,eK a.2.2.1,CX a.2.2.2]else if a.1=1 then[jY,jY,eK a.2.1,jY]else[jY,jY,jY,jY]
def EC (a:Ad):Bs:=mC (EB a)
theorem B7 (s:Bs):(CX s).length≤2*s.length+6:=fZ s _
theorem Gr (a:Ad):∀x∈EB a,x.length≤2*aw1 a+4:=by
 intro x hx
 have h1:=B7 a.2.1
 have h2:=eS a.2.2.1
 have h3:=B7 a.2.2.2
 have h4:=eS a.2.1
 have h5:jY.length=3:=rfl
 unfold EB at hx
 unfold aw1
 split at hx
 ·simp only[List.mem_cons,List.not_mem_nil,or_false]at hx
  rcases hx with rfl|rfl|rfl|rfl<;>omega
 ·split at hx
  ·simp only[List.mem_cons,List.not_mem_nil,or_false]at hx
   rcases hx with rfl|rfl|rfl|rfl<;>omega
  ·simp only[List.mem_cons,List.not_mem_nil,or_false]at hx
   rcases hx with rfl|rfl|rfl|rfl<;>omega
theorem Aw (a:Ad):(EB a).length=4:=by unfold EB;split;rfl;split<;>rfl
theorem Lc (a:Ad):(EC a).length≤8*aw1 a+22:=by
 have:=Gq _ _ (Gr a)
 rw[Aw]at this
 unfold EC
 omega
theorem PL (a:Ad) (ha:aw1 a≤1000000000):Ret 28 [adV a] [] (.str (EC a),[]):=by
 have hrow:Ret 53 [.lst 9 false ((EB a).map V.str)] [] (.str (EC a),[]):=by
  refine L6 (EB a) (by rw[Aw];omega) ?_
  have:=tO _ _ (Gr a)
  rw[Aw]at this
  omega
 obtain⟨k,n,l,h⟩:=a
 have hs:n.length≤1000000000∧l.length≤1000000000∧h.length≤1000000000:=by simp only[aw1]at ha;omega
 refine M28 k n l h ?_
 simp only[T28]
 unfold EB at hrow
 dsimp only at hrow
 by_cases h0:k=0
 ·subst h0
  have z:((0:Int)==(0:Int))=true:=rfl
  rw[if_pos rfl]at hrow
  simp only[z,if_true]
  refine aB (L2 n (by omega)) ?_
  refine aB (lC l (by omega)) ?_
  refine aB (L2 h (by omega)) ?_
  simp only[aS]
  refine aB hrow ?_
  exact aD _
 ·have z:(k==(0:Int))=false:=by simpa using h0
  rw[if_neg h0]at hrow
  simp only[z,Bool.false_eq_true,if_false]
  by_cases h1:k=1
  ·subst h1
   have z:((1:Int)==(1:Int))=true:=rfl
   rw[if_pos rfl]at hrow
   simp only[z,if_true]
   refine aB (lC n (by omega)) ?_
   simp only[aS]
   refine aB hrow ?_
   exact aD _
  ·have z:(k==(1:Int))=false:=by simpa using h1
   rw[if_neg h1]at hrow
   simp only[z,Bool.false_eq_true,if_false]
   refine aB hrow ?_
   exact aD _
def iN (o:List Ad):Bs:=o.flatMap EC
def A6 (o:List Ad):Bs:=if o=[]then jY else([40]++iN o)++[41]
theorem tV:∀o:List Ad,(iN o).length≤30*ow o
 |[]=>by simp[iN,ow]
 |a::r=>by
  have h1:=tV r
  have h2:=Lc a
  have h3:1≤aw1 a:=by simp[aw1]
  have h4:ow (a::r)=aw1 a+ow r:=by simp[ow]
  have h5:iN (a::r)=EC a++iN r:=by simp[iN]
  rw[h4,h5,List.length_append];omega
theorem gC (o:List Ad):(A6 o).length≤30*ow o+3:=by
 have:=tV o
 unfold A6
 split
 ·simp[jY]
 ·simp only[List.length_append,List.length_cons,List.length_nil];omega
theorem ND {o:List Ad} {i:Nat} (h:i<o.length):aw1 o[i]≤ow o:=by
 induction o generalizing i with
 |nil=>simp at h
 |cons a r ih=>
  have e:ow (a::r)=aw1 a+ow r:=by simp[ow]
  rw[e]
  cases i with
  |zero=>simp
  |succ j=>
   have:=ih (i:=j) (by simpa using h)
   simp only[List.getElem_cons_succ];omega
theorem Ld {o:List Ad} {i:Nat} (h:i<o.length):List.getD (o.map adV) i V.bot=adV o[i]:=by simp[List.getD,h]
theorem Jw (a:Ad):V.cells (adV a)=[.int .i64 a.1, .str a.2.1, .str a.2.2.1, .str a.2.2.2]:=rfl
theorem Le (a:Ad):V.agg [.int .i64 a.1, .str a.2.1, .str a.2.2.1, .str a.2.2.2]=adV a:=rfl
theorem Gs (o:Bs) (h:o.length≤1000000000000000000):Ret 29 [.ref 0 0] [.cells [.opt 0 0, .lst 5 true (ofBytes o)]] (.str o,[.cells [.opt 0 0, .lst 5 false (ofBytes o)]]):=by
 refine dV (h:=Go.Ev.textF) (by kernel_rfl) ?_
 have h2:=jG o
 have h3:(ofBytes o).length<1152921504606846976:=by rw[bC];omega
 simp only[Go.Ev.textF,h2,h3,decide_true,Bool.and_self,if_true,cC]
theorem Jy (o:List Ad) (ho:ow o≤1000000000):∀(n i:Nat),o.length - i=n→i≤o.length→
  Evt (fun k j=>L12 (aA cfg k) j (o.map adV) (o.length:Nat) (i:Nat) (ofBytes (iN (o.take i)))) (.str (([40]++iN o)++[41]),[])
 |0,i,h,hi=>by
  have hle:=tV o
  refine L1 (o.map adV) (o.length:Nat) (i:Nat) (ofBytes (iN (o.take i))) ?_
  have h1:¬((i:Int)<(o.length:Int)):=by omega
  simp only[EA,h1,decide_false,Bool.false_eq_true,if_false]
  rw[List.take_of_length_le (by omega)]
  refine aB (Gs _ (by omega)) ?_
  have c1:bJ [40] (iN o)=true:=eJ (by simp;omega)
  have c2:bJ ([40]++iN o) [41]=true:=eJ (by simp;omega)
  simp only[aS,bM c1,bM c2]
  exact aD _
 |n+1,i,h,hi=>by
  have hlt:i<o.length:=by omega
  have hle:=tV o
  have hol:=FI o
  have ha:=ND hlt
  have htake:iN (o.take (i+1))=iN (o.take i)++EC o[i]:=by
   unfold iN
   rw[List.take_succ_eq_append_getElem hlt,List.flatMap_append,List.flatMap_cons,List.flatMap_nil,List.append_nil]
  have hpre:(iN (o.take (i+1))).length≤(iN o).length:=by
   conv=>rhs;rw[←List.take_append_drop (i+1) o,iN,List.flatMap_append,List.length_append]
   exact Nat.le_add_right _ _
  refine L1 (o.map adV) (o.length:Nat) (i:Nat) (ofBytes (iN (o.take i))) ?_
  have h1:((i:Int)<(o.length:Int)):=by omega
  have h2:(0:Int)≤(i:Nat):=by omega
  have hw:IntKind.wrap .i64 (((i:Nat):Int)+1)=((i+1:Nat):Int):=by rw[wrap64 (by omega) (by omega)];omega
  simp only[EA,h1,decide_true,if_true,aJ h2,cK,Int.toNat_natCast,Ld hlt,hw,List.length_map,Jw,List.headD_cons,List.tail_cons,dC,aS,Le]
  refine aB (PL o[i] (by omega)) ?_
  rw[htake,List.length_append]at hpre
  refine aB (Ei (iN (o.take i)) (EC o[i]) (by omega)) ?_
  simp only[List.headD_cons,Ob.getC,List.tail_cons,V.getL]
  rw[←htake]
  exact Jy o ho n (i+1) (by omega) (by omega)
theorem B8 (o:List Ad) (ho:ow o≤1000000000):Ret 12 [.lst 26 false (o.map adV)] [] (.str (A6 o),[]):=by
 refine M12 (o.map adV) ?_
 simp only[T12,List.length_map]
 unfold A6
 by_cases h:o=[]
 ·subst h
  have z:(((([]:List Ad).length:Nat):Int)==0)=true:=rfl
  simp only[z,if_true]
  exact aD _
 ·have hp:=List.length_pos_iff.2 h
  have z:(((o.length:Nat):Int)==0)=false:=by
   have:¬((o.length:Nat):Int)=0:=by omega
   simpa using this
  simp only[z,Bool.false_eq_true,if_false,if_neg h]
  exact Jy o ho _ 0 rfl (by omega)
structure En where
 d:Bs
 s:Bs
 l0:List Ad
 l1:List Ad
 l2:List Ad
 l3:List Ad
 l4:List Ad
 l5:List Ad
 r:Bs
 i:Bs
 h0:Bool
 h1:Bool
 h2:Bool
 h3:Bool
def lsV (o:List Ad):V:= .lst 26 false (o.map adV)
def enV (e:En):V:= .agg [.str e.d, .str e.s,lsV e.l0,lsV e.l1,lsV e.l2,lsV e.l3,lsV e.l4,lsV e.l5, .str e.r, .str e.i, .bool e.h0, .bool e.h1, .bool e.h2, .bool e.h3]
def enL (e:En):List Bs:=[tN e.d e.h0,tN e.s e.h1,A6 e.l0,A6 e.l1,A6 e.l2,A6 e.l3,A6 e.l4,A6 e.l5,tN e.r e.h2,tN e.i e.h3]
def FM (e:En):Bs:=mC (enL e)
def NE (call:FuncId→Fun) (d s:Bs) (x0 x1 x2 x3 x4 x5:List V) (r i:Bs) (h0 h1 h2 h3:Bool):Option (V×List Ob):=
 Option.bind (call 52 [.str d, .bool h0] []) fun z0=>
 Option.bind (call 52 [.str s, .bool h1] []) fun z1=>
 Option.bind (call 12 [.lst 26 false x0] []) fun y0=>chk (aW [rdS z0,rdS z1] [rdS y0] 17) (
 Option.bind (call 12 [.lst 26 false x1] []) fun y1=>chk (aW ([rdS z0,rdS z1]++[rdS y0]) [rdS y1] 17) (
 Option.bind (call 12 [.lst 26 false x2] []) fun y2=>chk (aW (([rdS z0,rdS z1]++[rdS y0])++[rdS y1]) [rdS y2] 17) (
 Option.bind (call 12 [.lst 26 false x3] []) fun y3=>chk (aW ((([rdS z0,rdS z1]++[rdS y0])++[rdS y1])++[rdS y2]) [rdS y3] 17) (
 Option.bind (call 12 [.lst 26 false x4] []) fun y4=>chk (aW (((([rdS z0,rdS z1]++[rdS y0])++[rdS y1])++[rdS y2])++[rdS y3]) [rdS y4] 17) (
 Option.bind (call 12 [.lst 26 false x5] []) fun y5=>chk (aW ((((([rdS z0,rdS z1]++[rdS y0])++[rdS y1])++[rdS y2])++[rdS y3])++[rdS y4]) [rdS y5] 17) (
 Option.bind (call 52 [.str r, .bool h2] []) fun z2=>
 Option.bind (call 52 [.str i, .bool h3] []) fun z3=>
 chk (aW (((((([rdS z0,rdS z1]++[rdS y0])++[rdS y1])++[rdS y2])++[rdS y3])++[rdS y4])++[rdS y5]) [rdS z2,rdS z3] 17) (Option.bind (call 53 [.lst 9 false ((((((([rdS z0,rdS z1]++[rdS y0])++[rdS y1])++[rdS y2])++[rdS y3])++[rdS y4])++[rdS y5])++[rdS z2,rdS z3])] []) fun z4=>some (rdS z4,[]))))))))
theorem RS (m:Nat) (d s:Bs) (x0 x1 x2 x3 x4 x5:List V) (r i:Bs) (h0 h1 h2 h3:Bool):aA cfg (m+20) 26 [.agg [.str d, .str s, .lst 26 false x0, .lst 26 false x1, .lst 26 false x2, .lst 26 false x3, .lst 26 false x4, .lst 26 false x5, .str r, .str i, .bool h0, .bool h1, .bool h2, .bool h3]] []=NE (aA cfg (m+19)) d s x0 x1 x2 x3 x4 x5 r i h0 h1 h2 h3:=by kernel_rfl
theorem Gt {f:FuncId} {args:List V} {objs:List Ob} {r:V×List Ob} {g:Nat→Option (V×List Ob)} (K:Nat) (hc:∀m,aA cfg (m+(K+1)) f args objs=g (m+K)) (h:Evt (fun k _=>g k) r):Ret f args objs r:=by
 obtain⟨K2,h⟩:=h
 refine⟨K2+(K+1),fun k hk=>?_⟩
 obtain⟨m,rfl⟩:∃m,k=m+(K+1):=⟨k - (K+1),by omega⟩
 rw[hc];exact h (m+K) K2 (by omega) (by omega)
theorem kH (s:Bs) (o:List Ob):rdS (.str s,o)= .str s:=rfl
theorem PM (e:En) (hd:e.d.length≤100000000) (hs:e.s.length≤100000000) (hr:e.r.length≤100000000) (hi:e.i.length≤100000000)
  (g0:ow e.l0≤100000000) (g1:ow e.l1≤100000000) (g2:ow e.l2≤100000000) (g3:ow e.l3≤100000000) (g4:ow e.l4≤100000000) (g5:ow e.l5≤100000000):
  Ret 26 [enV e] [] (.str (FM e),[]):=by
 refine Gt (g:=fun k=>NE (aA cfg k) e.d e.s (e.l0.map adV) (e.l1.map adV) (e.l2.map adV) (e.l3.map adV) (e.l4.map adV) (e.l5.map adV) e.r e.i e.h0 e.h1 e.h2 e.h3) 19 (fun m=>RS m e.d e.s (e.l0.map adV) (e.l1.map adV) (e.l2.map adV) (e.l3.map adV) (e.l4.map adV) (e.l5.map adV) e.r e.i e.h0 e.h1 e.h2 e.h3) ?_
 have ca:∀(l:List V) (v:V) (x:Option (V×List Ob)),l.length≤20→chk (aW l [v] 17) x=x:=fun l v x h=>bM (dQ (by simp only[List.length_cons,List.length_nil];omega)) x
 have ca2:∀(l:List V) (v u:V) (x:Option (V×List Ob)),l.length≤20→chk (aW l [v,u] 17) x=x:=fun l v u x h=>bM (dQ (by simp only[List.length_cons,List.length_nil];omega)) x
 have hrow:Ret 53 [.lst 9 false ((enL e).map V.str)] [] (.str (FM e),[]):=by
  have hm:∀x∈enL e,x.length≤4000000000:=by
   have q0:=fZ e.d e.h0
   have q1:=fZ e.s e.h1
   have q2:=fZ e.r e.h2
   have q3:=fZ e.i e.h3
   have p0:=gC e.l0
   have p1:=gC e.l1
   have p2:=gC e.l2
   have p3:=gC e.l3
   have p4:=gC e.l4
   have p5:=gC e.l5
   intro x hx
   simp only[enL,List.mem_cons,List.not_mem_nil,or_false]at hx
   rcases hx with rfl|rfl|rfl|rfl|rfl|rfl|rfl|rfl|rfl|rfl<;>omega
  have:=tO _ _ hm
  have e1:(enL e).length=10:=rfl
  rw[e1]at this
  exact L6 (enL e) (by rw[e1];omega) (by omega)
 simp only[NE]
 refine aB (BY e.d (by omega) e.h0) ?_
 refine aB (BY e.s (by omega) e.h1) ?_
 simp only[kH]
 refine aB (B8 e.l0 (by omega)) ?_
 simp only[kH,ca,List.length_append,List.length_cons,List.length_nil,Nat.reduceAdd,Nat.reduceLeDiff]
 refine aB (B8 e.l1 (by omega)) ?_
 simp only[kH,ca,List.length_append,List.length_cons,List.length_nil,Nat.reduceAdd,Nat.reduceLeDiff]
 refine aB (B8 e.l2 (by omega)) ?_
 simp only[kH,ca,List.length_append,List.length_cons,List.length_nil,Nat.reduceAdd,Nat.reduceLeDiff]
 refine aB (B8 e.l3 (by omega)) ?_
 simp only[kH,ca,List.length_append,List.length_cons,List.length_nil,Nat.reduceAdd,Nat.reduceLeDiff]
 refine aB (B8 e.l4 (by omega)) ?_
 simp only[kH,ca,List.length_append,List.length_cons,List.length_nil,Nat.reduceAdd,Nat.reduceLeDiff]
 refine aB (B8 e.l5 (by omega)) ?_
 simp only[kH,ca,List.length_append,List.length_cons,List.length_nil,Nat.reduceAdd,Nat.reduceLeDiff]
 refine aB (BY e.r (by omega) e.h2) ?_
 refine aB (BY e.i (by omega) e.h3) ?_
 simp only[kH,ca2,List.length_append,List.length_cons,List.length_nil,Nat.reduceAdd,Nat.reduceLeDiff]
 refine aB hrow ?_
 exact aD _
end Go.Proofs.YtdoaoaicdimbeaaGreatDoor
end
section
namespace Go.Proofs.YtdoaoaicdimbeaaGreatDoor
open Go.Ev Go
open Classical in
noncomputable def eZ (s:Bs):List Ad×Bool:=
 if h:∃q:List Ad×Bool,Ret 35 [.str s] [] (.tup [lsV q.1, .bool q.2],[])∧ow q.1≤2*s.length then h.choose else([],false)
theorem lD (s:Bs) (hs:s.length≤1000000):Ret 35 [.str s] [] (.tup [lsV (eZ s).1, .bool (eZ s).2],[])∧ow (eZ s).1≤2*s.length:=by
 obtain⟨_,h,o,ok,rfl,ho⟩:=NC s hs
 have h:∃q:List Ad×Bool,Ret 35 [.str s] [] (.tup [lsV q.1, .bool q.2],[])∧ow q.1≤2*s.length:=⟨(o,ok),h,ho⟩
 unfold eZ
 rw[dif_pos h]
 exact h.choose_spec
def orL (x y:List Ad):List Ad:=if x=[]then y else x
theorem CY (x y:List Ad) (m:Nat) (h1:ow x≤m) (h2:ow y≤m):ow (orL x y)≤m:=by unfold orL;split<;>assumption
noncomputable def ofS (b:Bs) (p:Pt):En where
 d:=aT b (hdL b p) eN0
 s:=aT b (hdL b p) eN1
 r:=aT b (hdL b p) eN2
 i:=aT b (hdL b p) eN3
 h0:=(eQ (hdL b p) eN0).isSome
 h1:=(eQ (hdL b p) eN1).isSome
 h2:=(eQ (hdL b p) eN2).isSome
 h3:=(eQ (hdL b p) eN3).isSome
 l0:=(eZ (aT b (hdL b p) eM0)).1
 l1:=orL (eZ (aT b (hdL b p) eM1)).1 (eZ (aT b (hdL b p) eM0)).1
 l2:=orL (eZ (aT b (hdL b p) eM2)).1 (eZ (aT b (hdL b p) eM0)).1
 l3:=(eZ (aT b (hdL b p) eM3)).1
 l4:=(eZ (aT b (hdL b p) eM4)).1
 l5:=(eZ (aT b (hdL b p) eM5)).1
theorem jZ (b:Bs) (hb:b.length≤1000000) (l:List Fd) (n:Bs):ow (eZ (aT b l n)).1≤2*b.length:=by
 have h1:=bQ b l n
 have:=(lD (aT b l n) (by omega)).2
 omega
theorem PN (o:List Ad) (ok:Bool) (u:List Ob):rdL (.tup [lsV o, .bool ok],u)=lsV o:=rfl
theorem NF (x:Option Fd) (u:List Ob):rdB (pR x,u)= .bool x.isSome:=by cases x<;>rfl
theorem qT (o:List Ad):FK (lsV o)=true↔o=[]:=by
 cases o with
 |nil=>exact⟨fun _=>rfl,fun _=>rfl⟩
 |cons a r=>
  refine⟨fun h=>?_,fun h=>by cases h⟩
  have h:(((((a::r).map adV).length:Nat):Int)==0)=true:=h
  have:((((a::r).map adV).length:Nat):Int)=0:=by simpa using h
  simp only[List.map_cons,List.length_cons]at this
  omega
theorem PO (b:Bs) (hb:b.length≤3000) (p:Pt):Ret 15 [.lst 5 false (ofBytes b),partV p] [] (enV (ofS b p),[]):=by
 obtain⟨k1,k2⟩:=pT b (p.hd.1:Nat) (p.hd.2:Nat)
 have hl:(hdL b p).length≤1000000:=by unfold hdL;omega
 have hl2:∀f∈hdL b p,f.1.length≤1000000:=fun f hf=>by have:=k1 f hf;omega
 have hv:∀n,(aT b (hdL b p) n).length≤1000000:=fun n=>by have:=bQ b (hdL b p) n;omega
 rw[←eL p]
 refine Gt (g:=fun k=>TOf (aA cfg k) (ofBytes b) (p.hd.1:Nat) (p.hd.2:Nat)) 39 (fun m=>COf m (ofBytes b) (p.kd:Nat) (p.hd.1:Nat) (p.hd.2:Nat) (p.bd.1:Nat) (p.bd.2:Nat) (p.ks.map partV) (p.cs.map cutV) (p.en.1:Nat) (p.en.2:Nat)) ?_
 simp only[TOf]
 refine aB (BN b (by omega) (p.hd.1:Nat) (p.hd.2:Nat)) ?_
 simp only[bV,List.headD_cons,bF]
 refine aB (Ag (hdL b p) hl hl2 eN0 (by simp[eN0])) ?_
 refine aB (lQ b (by omega) (hdL b p) hl hl2 eN0 (by simp[eN0])) ?_
 refine aB (Ag (hdL b p) hl hl2 eN1 (by simp[eN1])) ?_
 refine aB (lQ b (by omega) (hdL b p) hl hl2 eN1 (by simp[eN1])) ?_
 refine aB (Ag (hdL b p) hl hl2 eN2 (by simp[eN2])) ?_
 refine aB (lQ b (by omega) (hdL b p) hl hl2 eN2 (by simp[eN2])) ?_
 refine aB (Ag (hdL b p) hl hl2 eN3 (by simp[eN3])) ?_
 refine aB (lQ b (by omega) (hdL b p) hl hl2 eN3 (by simp[eN3])) ?_
 refine aB (lQ b (by omega) (hdL b p) hl hl2 eM0 (by simp[eM0])) ?_
 refine aB (lD (aT b (hdL b p) eM0) (hv _)).1 ?_
 refine aB (lQ b (by omega) (hdL b p) hl hl2 eM1 (by simp[eM1])) ?_
 refine aB (lD (aT b (hdL b p) eM1) (hv _)).1 ?_
 refine aB (lQ b (by omega) (hdL b p) hl hl2 eM2 (by simp[eM2])) ?_
 refine aB (lD (aT b (hdL b p) eM2) (hv _)).1 ?_
 refine aB (lQ b (by omega) (hdL b p) hl hl2 eM3 (by simp[eM3])) ?_
 refine aB (lD (aT b (hdL b p) eM3) (hv _)).1 ?_
 refine aB (lQ b (by omega) (hdL b p) hl hl2 eM4 (by simp[eM4])) ?_
 refine aB (lD (aT b (hdL b p) eM4) (hv _)).1 ?_
 refine aB (lQ b (by omega) (hdL b p) hl hl2 eM5 (by simp[eM5])) ?_
 refine aB (lD (aT b (hdL b p) eM5) (hv _)).1 ?_
 simp only[PN,NF,kH]
 by_cases h1:(eZ (aT b (hdL b p) eM1)).1=[]
 ·have o1:orL (eZ (aT b (hdL b p) eM1)).1 (eZ (aT b (hdL b p) eM0)).1=(eZ (aT b (hdL b p) eM0)).1:=if_pos h1
  simp only[(qT _).2 h1,if_true]
  by_cases h2:(eZ (aT b (hdL b p) eM2)).1=[]
  ·have o2:orL (eZ (aT b (hdL b p) eM2)).1 (eZ (aT b (hdL b p) eM0)).1=(eZ (aT b (hdL b p) eM0)).1:=if_pos h2
   simp only[(qT _).2 h2,if_true]
   unfold ofS;rw[o1,o2]
   exact aD _
  ·have o2:orL (eZ (aT b (hdL b p) eM2)).1 (eZ (aT b (hdL b p) eM0)).1=(eZ (aT b (hdL b p) eM2)).1:=if_neg h2
   simp only[show¬FK (lsV (eZ (aT b (hdL b p) eM2)).1)=true from fun h=>h2 ((qT _).1 h),if_false]
   unfold ofS;rw[o1,o2]
   exact aD _
 ·have o1:orL (eZ (aT b (hdL b p) eM1)).1 (eZ (aT b (hdL b p) eM0)).1=(eZ (aT b (hdL b p) eM1)).1:=if_neg h1
  simp only[show¬FK (lsV (eZ (aT b (hdL b p) eM1)).1)=true from fun h=>h1 ((qT _).1 h),if_false]
  by_cases h2:(eZ (aT b (hdL b p) eM2)).1=[]
  ·have o2:orL (eZ (aT b (hdL b p) eM2)).1 (eZ (aT b (hdL b p) eM0)).1=(eZ (aT b (hdL b p) eM0)).1:=if_pos h2
   simp only[(qT _).2 h2,if_true]
   unfold ofS;rw[o1,o2]
   exact aD _
  ·have o2:orL (eZ (aT b (hdL b p) eM2)).1 (eZ (aT b (hdL b p) eM0)).1=(eZ (aT b (hdL b p) eM2)).1:=if_neg h2
   simp only[show¬FK (lsV (eZ (aT b (hdL b p) eM2)).1)=true from fun h=>h2 ((qT _).1 h),if_false]
   unfold ofS;rw[o1,o2]
   exact aD _
theorem NG (b:Bs) (hb:b.length≤3000) (p:Pt):∀x∈enL (ofS b p),x.length≤60*b.length+10:=by
 have a0:=jZ b (by omega) (hdL b p) eM0
 have a1:=CY _ _ _ (jZ b (by omega) (hdL b p) eM1) a0
 have a2:=CY _ _ _ (jZ b (by omega) (hdL b p) eM2) a0
 have a3:=jZ b (by omega) (hdL b p) eM3
 have a4:=jZ b (by omega) (hdL b p) eM4
 have a5:=jZ b (by omega) (hdL b p) eM5
 have v0:=bQ b (hdL b p) eN0
 have v1:=bQ b (hdL b p) eN1
 have v2:=bQ b (hdL b p) eN2
 have v3:=bQ b (hdL b p) eN3
 have q0:=fZ (ofS b p).d (ofS b p).h0
 have q1:=fZ (ofS b p).s (ofS b p).h1
 have q2:=fZ (ofS b p).r (ofS b p).h2
 have q3:=fZ (ofS b p).i (ofS b p).h3
 have p0:=gC (ofS b p).l0
 have p1:=gC (ofS b p).l1
 have p2:=gC (ofS b p).l2
 have p3:=gC (ofS b p).l3
 have p4:=gC (ofS b p).l4
 have p5:=gC (ofS b p).l5
 intro x hx
 simp only[enL,List.mem_cons,List.not_mem_nil,or_false]at hx
 simp only[ofS]at*
 rcases hx with rfl|rfl|rfl|rfl|rfl|rfl|rfl|rfl|rfl|rfl<;>omega
theorem Lf (b:Bs) (hb:b.length≤3000) (p:Pt):(FM (ofS b p)).length≤600*b.length+200:=by
 have:=Gq _ _ (NG b hb p)
 have e:(enL (ofS b p)).length=10:=rfl
 rw[e]at this
 unfold FM
 omega
theorem Hm (b:Bs) (hb:b.length≤3000) (p:Pt):Ret 26 [enV (ofS b p)] [] (.str (FM (ofS b p)),[]):=by
 have a0:=jZ b (by omega) (hdL b p) eM0
 have a1:=CY _ _ _ (jZ b (by omega) (hdL b p) eM1) a0
 have a2:=CY _ _ _ (jZ b (by omega) (hdL b p) eM2) a0
 have a3:=jZ b (by omega) (hdL b p) eM3
 have a4:=jZ b (by omega) (hdL b p) eM4
 have a5:=jZ b (by omega) (hdL b p) eM5
 have v0:=bQ b (hdL b p) eN0
 have v1:=bQ b (hdL b p) eN1
 have v2:=bQ b (hdL b p) eN2
 have v3:=bQ b (hdL b p) eN3
 refine PM (ofS b p) ?_ ?_ ?_ ?_ ?_ ?_ ?_ ?_ ?_ ?_<;>simp only[ofS]<;>omega
end Go.Proofs.YtdoaoaicdimbeaaGreatDoor
end
section
namespace Go.Proofs.YtdoaoaicdimbeaaGreatDoor
open Go.Ev Go
end Go.Proofs.YtdoaoaicdimbeaaGreatDoor
end
section
namespace Go.Proofs.YtdoaoaicdimbeaaGreatDoor
open Go.Ev Go
end Go.Proofs.YtdoaoaicdimbeaaGreatDoor
end
section
namespace Go.Proofs.YtdoaoaicdimbeaaGreatDoor
open Go.Ev Go
end Go.Proofs.YtdoaoaicdimbeaaGreatDoor
end
section
namespace Go.Proofs.YtdoaoaicdimbeaaGreatDoor
open Go.Ev Go
open List (headD tail getD length drop take)
open V (getI getL getT getS getB)
set_option maxRecDepth 100000
variable (call : FuncId → Fun) (icall : aO (V × List Ob)) (again : List It → St → Option (V × List Ob))
end Go.Proofs.YtdoaoaicdimbeaaGreatDoor
end
section
namespace Go.Proofs.YtdoaoaicdimbeaaGreatDoor
open Go.Ev Go
def prB (c:UInt8):Bool:=decide (32≤c.toNat∧c.toNat<127)
structure Sp where
 path:List Int
 what:Int
 names:List Bs
 cut:Bool
 fr:Int
 many:Int
def inB (l n:Int):Bool:=decide (l≤n∧n≤4294967295)
def checkF (s:Sp):Bool:=
 decide (s.path.length≤64∧0≤s.what∧s.what≤5∧(s.what=5→0<s.path.length))&&s.path.all (inB 1)&&s.names.all (fun n=>n.all prB)&&
 (if s.what=2∨s.what=3 then decide (1≤s.names.length∧s.names.length≤100)else decide (s.names.length=0))&&
 (if s.cut then inB 0 s.fr&&inB 1 s.many else decide (s.fr=0∧s.many=0))
end Go.Proofs.YtdoaoaicdimbeaaGreatDoor
end
section
namespace Go.Proofs.YtdoaoaicdimbeaaGreatDoor
open Go.Ev Go
end Go.Proofs.YtdoaoaicdimbeaaGreatDoor
end
section
namespace Go.Proofs.YtdoaoaicdimbeaaGreatDoor
open Go.Ev Go
end Go.Proofs.YtdoaoaicdimbeaaGreatDoor
end
section
namespace Go.Proofs.YtdoaoaicdimbeaaGreatDoor
open Go.Ev Go
theorem FN {fr to:Nat} {b:Bs}:∀x∈aU (fr:Nat) (to:Nat) b,fr≤x.2.2∧x.2.2≤to:=by
 intro x hx
 unfold aU at hx
 split at hx
 ·rename_i h
  have:=mB _ _ _ x hx
  simp at this
  omega
 ·cases hx
theorem Ax {fr to:Nat} (b:Bs) (h:fr≤to):fr≤(dW b (fr:Nat) (to:Nat)).2.toNat∧(dW b (fr:Nat) (to:Nat)).2.toNat≤to:=by
 have hb:∀x∈aU (fr:Nat) (to:Nat) b,fr≤x.2.2∧x.2.2≤to:=FN
 generalize hl:aU (fr:Nat) (to:Nat) b=l at hb
 have hd:∀k,k<l.length→fr≤(l.getD k (0,0,0)).2.2∧(l.getD k (0,0,0)).2.2≤to:=fun k hk=>by
  have:l.getD k (0,0,0)=l[k]:=by simp[List.getD,hk]
  rw[this];exact hb _ (List.getElem_mem hk)
 unfold dW
 rw[hl]
 by_cases h0:l=[]
 ·rw[if_pos h0];simp;omega
 ·have hpos:0<l.length:=List.length_pos_iff.2 h0
  rw[if_neg h0]
  cases he:iJ l with
  |some k=>
   have:=hd k (vS he)
   simp only[Int.toNat_natCast];exact this
  |none=>
   have:=hd (l.length - 1) (by omega)
   simp only[Int.toNat_natCast];exact this
theorem Lg (b:Bs) (d fr to:Nat) (dg:Bool) (n:Nat):(dZ b d fr to dg n).1.hd=(fr,(dW b (fr:Nat) (to:Nat)).2.toNat)∧(dZ b d fr to dg n).1.bd=((dW b (fr:Nat) (to:Nat)).2.toNat,to):=by
 cases d with
 |zero=>rw[dZ];exact⟨rfl,rfl⟩
 |succ d=>
  obtain⟨t,u,ps,h3⟩:∃t u ps,mW b (dW b (fr:Nat) (to:Nat)).1 dg=(t,u,ps):=⟨_,_,_,rfl⟩
  obtain⟨cs,e,h5⟩:∃cs e,eM b (dW b (fr:Nat) (to:Nat)).2.toNat to ((getF ps bdB).getD [])=(cs,e):=⟨_,_,rfl⟩
  rw[FD b d fr to dg n rfl rfl h3 rfl h5]
  split
  ·split<;>exact⟨rfl,rfl⟩
  ·split<;>exact⟨rfl,rfl⟩
end Go.Proofs.YtdoaoaicdimbeaaGreatDoor
end
section
namespace Go.Proofs.YtdoaoaicdimbeaaGreatDoor
open Go.Ev Go
def CCh:Nat→List (Nat×Nat)→Nat→Prop
 |a,[],z=>a≤z
 |a,c::r,z=>a≤c.1∧c.1≤c.2∧CCh c.2 r z
theorem CCh.le {z:Nat}:∀{l:List (Nat×Nat)} {a:Nat},CCh a l z→a≤z
 |[],_,h=>h
 |c::r,_,h=>Nat.le_trans h.1 (Nat.le_trans h.2.1 (CCh.le h.2.2))
theorem CCh.mono {z z' :Nat} (hz:z≤z'):∀{l:List (Nat×Nat)} {a:Nat},CCh a l z→CCh a l z'
 |[],_,h=>Nat.le_trans h hz
 |c::r,_,h=>⟨h.1,h.2.1,CCh.mono hz h.2.2⟩
theorem CCh.snoc {z z' u:Nat} (h1:z≤z') (h2:z'≤u):∀{l:List (Nat×Nat)} {a:Nat},CCh a l z→CCh a (l++[(z',u)]) u
 |[],a,h=>⟨Nat.le_trans h h1,h2,Nat.le_refl _⟩
 |c::r,_,h=>⟨h.1,h.2.1,CCh.snoc h1 h2 h.2.2⟩
def LCh:Nat→List Ln→Nat→Prop
 |a,[],z=>a≤z
 |a,x::r,z=>x.1=a∧a≤x.2.1∧x.2.1≤x.2.2∧LCh x.2.2 r z
theorem B9:∀(n a:Nat) (s:Bs),LCh a (eP n a s) (a+s.length)
 |0,a,s=>by simp[eP,LCh]
 |n+1,a,s=>by
  unfold eP
  split
  ·simp[LCh]
  ·rename_i hs
   have hp:0<s.length:=List.length_pos_iff.2 hs
   split
   ·exact⟨rfl,by simp,by simp,by simp[LCh]⟩
   ·rename_i hk
    obtain⟨q,hq⟩:∃q:Nat,Lib.indexByte s 10=q:=⟨(Lib.indexByte s 10).toNat,by omega⟩
    have hq0:=Lib.indexByte_some hq
    have hql:q<s.length:=(List.getElem?_eq_some_iff.1 hq0.1).1
    rw[hq]
    simp only[Int.toNat_natCast]
    refine⟨rfl,by simp only;split<;>omega,by simp only;split<;>omega,?_⟩
    have:=B9 n (a+q+1) (s.drop (q+1))
    rw[List.length_drop,show a+q+1+(s.length - (q+1))=a+s.length by omega]at this
    exact this
theorem FO {fr to:Nat} {b:Bs} (h:fr≤to):LCh fr (aU (fr:Nat) (to:Nat) b) to:=by
 unfold aU
 split
 ·rename_i hh
  have:=B9 ((b.take to).drop fr).length fr ((b.take to).drop fr)
  rw[show fr+((b.take to).drop fr).length=to by rw[List.length_drop,List.length_take];omega]at this
  exact this
 ·exact h
theorem Ay (b bd:Bs) (lo to:Nat):∀(l:List Ln) (out:List (Nat×Nat)) (fr a:Nat),LCh a l to→fr≤a→CCh lo out fr→
  CCh lo (iK b bd l out fr).1 ((iK b bd l out fr).2.getD (to,to)).1∧((iK b bd l out fr).2.getD (to,to)).1≤((iK b bd l out fr).2.getD (to,to)).2∧((iK b bd l out fr).2.getD (to,to)).2≤to
 |[],out,fr,a,hl,hf,ho=>by
  rw[iK]
  exact⟨ho.mono (Nat.le_trans hf hl),Nat.le_refl _,Nat.le_refl _⟩
 |x::r,out,fr,a,hl,hf,ho=>by
  obtain⟨h1,h2,h3,h4⟩:=hl
  have hz:x.2.2≤to:=by
   have:∀(l:List Ln) (a:Nat),LCh a l to→a≤to:=by
    intro l
    induction l with
    |nil=>intro a h;exact h
    |cons y r ih=>intro a h;obtain⟨_,g2,g3,g4⟩:=h;have:=ih _ g4;omega
   exact this _ _ h4
  rw[iK]
  split
  ·exact Ay b bd lo to r out x.2.1 x.2.2 h4 h3 (ho.mono (by omega))
  ·split
   ·exact⟨ho,by simp only[Option.getD_some];omega,hz⟩
   ·exact Ay b bd lo to r _ x.2.2 x.2.2 h4 (Nat.le_refl _) (ho.snoc (by omega) (by omega))
theorem Jz (b bd:Bs) {fr to:Nat} (h:fr≤to):CCh fr (eM b fr to bd).1 (eM b fr to bd).2.1∧(eM b fr to bd).2.1≤(eM b fr to bd).2.2∧(eM b fr to bd).2.2≤to:=
 Ay b bd fr to _ [] fr fr (FO h) (Nat.le_refl _) (Nat.le_refl fr)
def KR (Q:Nat→Nat→Pt→Prop) (fin:Nat):List (Nat×Nat)→List Pt→Prop
 |[],[]=>True
 |c::r,q::ks=>Q c.2 (rN fin r) q∧KR Q fin r ks
 |_,_=>False
theorem KR.len {Q:Nat→Nat→Pt→Prop} {fin:Nat}:∀{cs:List (Nat×Nat)} {ks:List Pt},KR Q fin cs ks→ks.length=cs.length
 |[],[],_=>rfl
 |c::r,q::ks,h=>by simp[KR.len h.2]
 |[],_::_,h=>h.elim
 |_::_,[],h=>h.elim
theorem ED (ent:Nat→Nat→Nat→Pt×Nat) (Q:Nat→Nat→Pt→Prop) (len fin:Nat) (hf:fin≤len) (h:∀fr to n,fr≤to→to≤len→Q fr to (ent fr to n).1):∀(cs:List (Nat×Nat)) (n a:Nat),CCh a cs fin→KR Q fin cs (fC ent fin cs n).1
 |[],n,a,_=>by rw[fC];trivial
 |c::r,n,a,hc=>by
  obtain⟨h1,h2,h3⟩:=hc
  have hx:c.2≤rN fin r∧rN fin r≤len:=by
   cases r with
   |nil=>exact⟨h3,hf⟩
   |cons x r=>have h5:=h3.2.2.le;have h4:=h3.2.1;have h6:=h3.1;simp only[rN];omega
  rw[fC]
  refine⟨?_,ED ent Q len fin hf h r _ _ h3⟩
  rw[Nat.max_eq_left hx.1]
  exact h _ _ _ hx.1 hx.2
theorem Az (b:Bs) (P:Nat→Nat→Nat→Pt→Prop)
  (leaf:∀d fr at_ to,fr≤at_→at_≤to→to≤b.length→P d fr to (dX fr at_ to))
  (multi:∀d fr at_ to cs (e:Nat×Nat) ks,fr≤at_→at_≤to→to≤b.length→CCh at_ cs e.1→e.1≤e.2→e.2≤to→0<cs.length→KR (P d) e.1 cs ks→P (d+1) fr to (.mk 1 (fr,at_) (at_,to) ks cs e))
  (msg:∀d fr at_ to q,fr≤at_→at_≤to→to≤b.length→q.hd.1=at_→q.bd.2=to→P d at_ to q→P (d+1) fr to (.mk 2 (fr,at_) (at_,to) [q] [] (0,0))):
  ∀(d fr to:Nat) (dg:Bool) (n:Nat),fr≤to→to≤b.length→P d fr to (dZ b d fr to dg n).1
 |0,fr,to,dg,n,hft,htl=>by
  have:=Ax b hft
  rw[dZ]
  exact leaf _ _ _ _ this.1 this.2 htl
 |d+1,fr,to,dg,n,hft,htl=>by
  have hsp:=Ax b hft
  generalize h1:(dW b (fr:Nat) (to:Nat)).1=l
  generalize h2:(dW b (fr:Nat) (to:Nat)).2.toNat=at_ at hsp
  obtain⟨t,u,ps,h3⟩:∃t u ps,mW b l dg=(t,u,ps):=⟨_,_,_,rfl⟩
  generalize h4:(getF ps bdB).getD []=bd
  obtain⟨cs,e,h5⟩:∃cs e,eM b at_ to bd=(cs,e):=⟨_,_,rfl⟩
  have hch:=Jz b bd hsp.2
  rw[h5]at hch
  have hle:e.1≤b.length:=by have:=hch.2.1;have:=hch.2.2;simp only at *;omega
  have ih:=Az b P leaf multi msg d
  rw[FD b d fr to dg n h1 h2 h3 h4 h5]
  split
  ·split
   ·rename_i g
    exact multi d fr at_ to cs e _ hsp.1 hsp.2 htl hch.1 hch.2.1 hch.2.2 g.1 (ED _ (P d) b.length e.1 hle (fun fr to n a1 a2=>ih fr to _ n a1 a2) cs _ _ hch.1)
   ·exact leaf _ _ _ _ hsp.1 hsp.2 htl
  ·split
   ·obtain⟨k1,k2⟩:=Lg b d at_ to false (n+1)
    exact msg d fr at_ to _ hsp.1 hsp.2 htl (by rw[k1]) (by rw[k2]) (ih _ _ _ _ hsp.2 htl)
   ·exact leaf _ _ _ _ hsp.1 hsp.2 htl
def Chn:Nat→List (Nat×Nat×Nat)→Nat→Prop
 |a,[],z=>a=z
 |a,t::r,z=>t.1≤5∧t.2.1=a∧a≤t.2.2∧Chn t.2.2 r z
theorem Chn.le {z:Nat}:∀{l:List (Nat×Nat×Nat)} {a:Nat},Chn a l z→a≤z
 |[],a,h=>Nat.le_of_eq h
 |t::r,a,h=>Nat.le_trans h.2.2.1 (Chn.le h.2.2.2)
mutual
def mY:Pt→Prop
 | .mk k h b kids cuts e=>((k=0∧cuts=[]∧e=(0,0)∧kids=[])∨(k=1∧0<kids.length∧kids.length=cuts.length)∨(k=2∧cuts=[]∧e=(0,0)∧∃q,kids=[q]∧q.hd.1=b.1∧q.bd.2=b.2))∧h.2=b.1∧b.1≤b.2∧rO kids
def rO:List Pt→Prop
 |[]=>True
 |p::r=>mY p∧rO r
end
theorem Gu {fin:Nat}:∀{cs:List (Nat×Nat)} {ks:List Pt},KR (fun _ _ q=>mY q) fin cs ks→rO ks
 |[],[],_=>by rw[rO];trivial
 |c::r,q::ks,h=>by rw[rO];exact⟨h.1,Gu h.2⟩
 |[],_::_,h=>h.elim
 |_::_,[],h=>h.elim
theorem Hn (b:Bs) (d fr to:Nat) (dg:Bool) (n:Nat) (h1:fr≤to) (h2:to≤b.length):mY (dZ b d fr to dg n).1:=by
 refine Az b (fun _ _ _ p=>mY p) ?_ ?_ ?_ d fr to dg n h1 h2
 ·intro d fr at_ to k1 k2 k3
  unfold dX
  rw[mY,rO]
  exact⟨.inl ⟨rfl,rfl,rfl,rfl⟩,rfl,k2,trivial⟩
 ·intro d fr at_ to cs e ks k1 k2 k3 k4 k5 k6 k7 k8
  have hl:=k8.len
  rw[mY]
  exact⟨.inr (.inl ⟨rfl,by omega,hl⟩),rfl,k2,Gu k8⟩
 ·intro d fr at_ to q k1 k2 k3 k4 k5 k6
  rw[mY,rO,rO]
  exact⟨.inr (.inr ⟨rfl,rfl,rfl,q,rfl,k4,k5⟩),rfl,k2,k6,trivial⟩
end Go.Proofs.YtdoaoaicdimbeaaGreatDoor
end
section
namespace Go.Proofs.YtdoaoaicdimbeaaGreatDoor
open Go.Ev Go
open List (headD tail getD length drop take)
open V (getI getL getT getS getB)
set_option maxRecDepth 100000
variable (call : FuncId → Fun) (icall : aO (V × List Ob)) (again : List It → St → Option (V × List Ob))
def T49 (call:FuncId→Fun) (a0:List V) (a1:Int) (a2:Int) (a3:Int) (a4:Int) (a5:Int) (a6:List V) (a7:List V) (a8:Int) (a9:Int):Option (V×List Ob):=
 Option.bind (call 83 [(V.lst 5 false a0),(V.agg [(V.int .i64 a1),(V.int .i64 a2),(V.int .i64 a3),(V.int .i64 a4),(V.int .i64 a5),(V.lst 36 false a6),(V.lst 32 false a7),(V.int .i64 a8),(V.int .i64 a9)]),(V.str [99,111,110,116,101,110,116,45,100,105,115,112,111,115,105,116,105,111,110]),(V.bool false)] []) fun z0=>
 if(getB (headD (tail (getT z0.1)) V.bot))=true then
 Option.bind (call 45 [(V.str (getS (headD (V.cells (headD (getT z0.1) V.bot)) V.bot)))] []) fun z1=>
 Option.bind (call 84 [(V.lst 176 false (getL (headD (tail (tail (V.cells (headD (getT z0.1) V.bot)))) V.bot)))] []) fun z2=>
 Option.bind (call 50 [(V.lst 9 false [(V.str (getS z1.1)),(V.str (getS z2.1))])] []) fun z3=>
 Option.bind (call 46 [(V.lst 5 false a0),(V.agg [(V.int .i64 a1),(V.int .i64 a2),(V.int .i64 a3),(V.int .i64 a4),(V.int .i64 a5),(V.lst 36 false a6),(V.lst 32 false a7),(V.int .i64 a8),(V.int .i64 a9)]),(V.str [99,111,110,116,101,110,116,45,108,97,110,103,117,97,103,101])] []) fun z4=>
 Option.bind (call 46 [(V.lst 5 false a0),(V.agg [(V.int .i64 a1),(V.int .i64 a2),(V.int .i64 a3),(V.int .i64 a4),(V.int .i64 a5),(V.lst 36 false a6),(V.lst 32 false a7),(V.int .i64 a8),(V.int .i64 a9)]),(V.str [99,111,110,116,101,110,116,45,108,111,99,97,116,105,111,110])] []) fun z5=>
 some ((V.lst 9 false [(V.str (getS z3.1)),(V.str (getS z4.1)),(V.str (getS z5.1))]),[])
 else
 Option.bind (call 46 [(V.lst 5 false a0),(V.agg [(V.int .i64 a1),(V.int .i64 a2),(V.int .i64 a3),(V.int .i64 a4),(V.int .i64 a5),(V.lst 36 false a6),(V.lst 32 false a7),(V.int .i64 a8),(V.int .i64 a9)]),(V.str [99,111,110,116,101,110,116,45,108,97,110,103,117,97,103,101])] []) fun z1=>
 Option.bind (call 46 [(V.lst 5 false a0),(V.agg [(V.int .i64 a1),(V.int .i64 a2),(V.int .i64 a3),(V.int .i64 a4),(V.int .i64 a5),(V.lst 36 false a6),(V.lst 32 false a7),(V.int .i64 a8),(V.int .i64 a9)]),(V.str [99,111,110,116,101,110,116,45,108,111,99,97,116,105,111,110])] []) fun z2=>
 some ((V.lst 9 false [(V.str [78,73,76]),(V.str (getS z1.1)),(V.str (getS z2.1))]),[])
def A49 (a0:List V) (a1:Int) (a2:Int) (a3:Int) (a4:Int) (a5:Int) (a6:List V) (a7:List V) (a8:Int) (a9:Int):List V:=[V.lst 5 false a0,V.agg [V.int IntKind.i64 a1,V.int IntKind.i64 a2,V.int IntKind.i64 a3,V.int IntKind.i64 a4,V.int IntKind.i64 a5,V.lst 36 false a6,V.lst 32 false a7,V.int IntKind.i64 a8,V.int IntKind.i64 a9]]
theorem E49 (a0:List V) (a1:Int) (a2:Int) (a3:Int) (a4:Int) (a5:Int) (a6:List V) (a7:List V) (a8:Int) (a9:Int):GO 49 Tryz.f49 (A49 a0 a1 a2 a3 a4 a5 a6 a7 a8 a9) [] call icall again=T49 call a0 a1 a2 a3 a4 a5 a6 a7 a8 a9:=by kernel_rfl
theorem C49 (k:Nat) (a0:List V) (a1:Int) (a2:Int) (a3:Int) (a4:Int) (a5:Int) (a6:List V) (a7:List V) (a8:Int) (a9:Int):aA cfg (k+1) 49 (A49 a0 a1 a2 a3 a4 a5 a6 a7 a8 a9) []=T49 (aA cfg k) a0 a1 a2 a3 a4 a5 a6 a7 a8 a9:=
 (show aA cfg (k+1) 49 (A49 a0 a1 a2 a3 a4 a5 a6 a7 a8 a9) []=GO 49 Tryz.f49 (A49 a0 a1 a2 a3 a4 a5 a6 a7 a8 a9) [] (aA cfg k) (aE cfg (aA cfg k) 20) (RN 49 Tryz.f49 [] (aA cfg k) (aE cfg (aA cfg k) 20) k)by kernel_rfl).trans (E49 _ _ _ a0 a1 a2 a3 a4 a5 a6 a7 a8 a9)
theorem M49 (a0:List V) (a1:Int) (a2:Int) (a3:Int) (a4:Int) (a5:Int) (a6:List V) (a7:List V) (a8:Int) (a9:Int) {r:V×List Ob} (h:Evt (fun k n=>T49 (aA cfg k) a0 a1 a2 a3 a4 a5 a6 a7 a8 a9) r):Ret 49 [V.lst 5 false a0,V.agg [V.int IntKind.i64 a1,V.int IntKind.i64 a2,V.int IntKind.i64 a3,V.int IntKind.i64 a4,V.int IntKind.i64 a5,V.lst 36 false a6,V.lst 32 false a7,V.int IntKind.i64 a8,V.int IntKind.i64 a9]] [] r:=aR (g:=fun k n=>T49 (aA cfg k) a0 a1 a2 a3 a4 a5 a6 a7 a8 a9) (fun k=>C49 k a0 a1 a2 a3 a4 a5 a6 a7 a8 a9) h
def EE (call:FuncId→Fun) (ag0:List V→Bool→List V→Int→Int→Int→Int→Int→Int→Int→List V→List V→Int→Int→List V→Option (V×List Ob)) (l0:List V) (b1:Bool) (l2:List V) (i3:Int) (i4:Int) (i5:Int) (i6:Int) (i7:Int) (i8:Int) (i9:Int) (l10:List V) (l11:List V) (i12:Int) (i13:Int) (l14:List V):Option (V×List Ob):=
 if(decide (i4<i3))=true then
 chk (decide (0≤i4)) (chk (decide (i4<((length l2:Nat):Int))) (Option.bind (call 23 [(V.lst 5 false l0),(V.agg [(V.int .i64 (getI (headD (V.cells (getD l2 (Int.toNat i4) V.bot)) V.bot))),(V.int .i64 (getI (headD (tail (V.cells (getD l2 (Int.toNat i4) V.bot))) V.bot))),(V.int .i64 (getI (headD (tail (tail (V.cells (getD l2 (Int.toNat i4) V.bot)))) V.bot))),(V.int .i64 (getI (headD (tail (tail (tail (V.cells (getD l2 (Int.toNat i4) V.bot))))) V.bot))),(V.int .i64 (getI (headD (tail (tail (tail (tail (V.cells (getD l2 (Int.toNat i4) V.bot)))))) V.bot))),(V.lst 36 false (getL (headD (tail (tail (tail (tail (tail (V.cells (getD l2 (Int.toNat i4) V.bot))))))) V.bot))),(V.lst 32 false (getL (headD (tail (tail (tail (tail (tail (tail (V.cells (getD l2 (Int.toNat i4) V.bot)))))))) V.bot))),(V.int .i64 (getI (headD (tail (tail (tail (tail (tail (tail (tail (V.cells (getD l2 (Int.toNat i4) V.bot))))))))) V.bot))),(V.int .i64 (getI (headD (tail (tail (tail (tail (tail (tail (tail (tail (V.cells (getD l2 (Int.toNat i4) V.bot)))))))))) V.bot)))]),(V.bool b1)] []) fun z0=>
 Option.bind (call 27 [(V.ref 0 0),(V.str (getS z0.1))] [(Ob.cells [(V.opt 0 0),(V.lst 5 true l14)])]) fun z1=>
 (ag0 (l0) (b1) (l2) (i3) ((IntKind.wrap .i64 (i4+(1:Int)))) (i5) (i6) (i7) (i8) (i9) (l10) (l11) (i12) (i13) ((getL (headD (tail (Ob.getC (headD z1.2 Ob.dead))) V.bot))))))
 else
 Option.bind (call 43 [(V.lst 5 false l0),(V.agg [(V.int .i64 i5),(V.int .i64 i6),(V.int .i64 i7),(V.int .i64 i8),(V.int .i64 i9),(V.lst 36 false l10),(V.lst 32 false l11),(V.int .i64 i12),(V.int .i64 i13)])] []) fun z0=>
 Option.bind (call 45 [(V.str (getS (headD (tail (getT z0.1)) V.bot)))] []) fun z1=>
 if b1=true then
 chk (aW [(V.str []),(V.str (getS z1.1))] [(V.str (getS (headD (tail (tail (getT z0.1))) V.bot)))] 17) (Option.bind (call 49 [(V.lst 5 false l0),(V.agg [(V.int .i64 i5),(V.int .i64 i6),(V.int .i64 i7),(V.int .i64 i8),(V.int .i64 i9),(V.lst 36 false l10),(V.lst 32 false l11),(V.int .i64 i12),(V.int .i64 i13)])] []) fun z2=>
 chk (aW ([(V.str []),(V.str (getS z1.1))]++[(V.str (getS (headD (tail (tail (getT z0.1))) V.bot)))]) (getL z2.1) 17) (Option.bind (call 85 [(V.lst 9 false (([(V.str []),(V.str (getS z1.1))]++[(V.str (getS (headD (tail (tail (getT z0.1))) V.bot)))])++(getL z2.1))),(V.str [32])] []) fun z3=>
 chk (bJ (getS z3.1) [41]) (Option.bind (call 27 [(V.ref 0 0),(V.str ((getS z3.1)++[41]))] [(Ob.cells [(V.opt 0 0),(V.lst 5 true l14)])]) fun z4=>
 Option.bind (call 29 [(V.ref 0 0)] [(Ob.cells [(V.opt 0 0),(V.lst 5 true (getL (headD (tail (Ob.getC (headD z4.2 Ob.dead))) V.bot)))])]) fun z5=>
 some ((V.str (getS z5.1)),[]))))
 else
 Option.bind (call 85 [(V.lst 9 false [(V.str []),(V.str (getS z1.1))]),(V.str [32])] []) fun z2=>
 chk (bJ (getS z2.1) [41]) (Option.bind (call 27 [(V.ref 0 0),(V.str ((getS z2.1)++[41]))] [(Ob.cells [(V.opt 0 0),(V.lst 5 true l14)])]) fun z3=>
 Option.bind (call 29 [(V.ref 0 0)] [(Ob.cells [(V.opt 0 0),(V.lst 5 true (getL (headD (tail (Ob.getC (headD z3.2 Ob.dead))) V.bot)))])]) fun z4=>
 some ((V.str (getS z4.1)),[]))
def T44 (call:FuncId→Fun) (ag0:List V→Bool→List V→Int→Int→Int→Int→Int→Int→Int→List V→List V→Int→Int→List V→Option (V×List Ob)) (a0:List V) (a1:Int) (a2:Int) (a3:Int) (a4:Int) (a5:Int) (a6:List V) (a7:List V) (a8:Int) (a9:Int) (a10:Bool):Option (V×List Ob):=
 Option.bind (call 27 [(V.ref 0 0),(V.str [40])] [(Ob.cells [(V.opt 0 0),(V.lst 5 true [])])]) fun z0=>
 (ag0 (a0) (a10) (a6) (((length a6:Nat):Int)) ((0:Int)) (a1) (a2) (a3) (a4) (a5) (a6) (a7) (a8) (a9) ((getL (headD (tail (Ob.getC (headD z0.2 Ob.dead))) V.bot))))
def A44 (a0:List V) (a1:Int) (a2:Int) (a3:Int) (a4:Int) (a5:Int) (a6:List V) (a7:List V) (a8:Int) (a9:Int) (a10:Bool):List V:=[V.lst 5 false a0,V.agg [V.int IntKind.i64 a1,V.int IntKind.i64 a2,V.int IntKind.i64 a3,V.int IntKind.i64 a4,V.int IntKind.i64 a5,V.lst 36 false a6,V.lst 32 false a7,V.int IntKind.i64 a8,V.int IntKind.i64 a9],V.bool a10]
def Ca (l0:List V) (b1:Bool) (l2:List V) (i3:Int) (i4:Int) (i5:Int) (i6:Int) (i7:Int) (i8:Int) (i9:Int) (l10:List V) (l11:List V) (i12:Int) (i13:Int) (l14:List V):St:=⟨[(V.lst 5 false l0),V.bot,(V.bool b1),V.bot,(V.ref 0 0),V.bot,V.bot,(V.ref 1 0),V.bot,V.bot,V.bot,V.bot,V.bot,V.bot,V.bot,V.bot,(V.lst 36 false l2),(V.int IntKind.i64 i3),(V.int IntKind.i64 i4)]++List.replicate 33 V.bot,[(Ob.cells [(V.int IntKind.i64 i5),(V.int IntKind.i64 i6),(V.int IntKind.i64 i7),(V.int IntKind.i64 i8),(V.int IntKind.i64 i9),(V.lst 36 false l10),(V.lst 32 false l11),(V.int IntKind.i64 i12),(V.int IntKind.i64 i13)]),(Ob.cells [(V.opt 1 0),(V.lst 5 true l14)])]⟩
theorem PP (l0:List V) (b1:Bool) (l2:List V) (i3:Int) (i4:Int) (i5:Int) (i6:Int) (i7:Int) (i8:Int) (i9:Int) (l10:List V) (l11:List V) (i12:Int) (i13:Int) (l14:List V):
 RM 44 Tryz.f44 [] call icall again (aI Tryz.f44 0) (Ca l0 b1 l2 i3 i4 i5 i6 i7 i8 i9 l10 l11 i12 i13 l14)=EE call (fun l0 b1 l2 i3 i4 i5 i6 i7 i8 i9 l10 l11 i12 i13 l14=>again (aI Tryz.f44 0) (Ca l0 b1 l2 i3 i4 i5 i6 i7 i8 i9 l10 l11 i12 i13 l14)) l0 b1 l2 i3 i4 i5 i6 i7 i8 i9 l10 l11 i12 i13 l14:=by kernel_rfl
theorem E44 (a0:List V) (a1:Int) (a2:Int) (a3:Int) (a4:Int) (a5:Int) (a6:List V) (a7:List V) (a8:Int) (a9:Int) (a10:Bool):GO 44 Tryz.f44 (A44 a0 a1 a2 a3 a4 a5 a6 a7 a8 a9 a10) [] call icall again=T44 call (fun l0 b1 l2 i3 i4 i5 i6 i7 i8 i9 l10 l11 i12 i13 l14=>again (aI Tryz.f44 0) (Ca l0 b1 l2 i3 i4 i5 i6 i7 i8 i9 l10 l11 i12 i13 l14)) a0 a1 a2 a3 a4 a5 a6 a7 a8 a9 a10:=by kernel_rfl
def L44 (call:FuncId→Fun):Nat→(List V→Bool→List V→Int→Int→Int→Int→Int→Int→Int→List V→List V→Int→Int→List V→Option (V×List Ob))
 |0=>fun _ _ _ _ _ _ _ _ _ _ _ _ _ _ _=>none
 |n+1=>EE call (L44 call n)
theorem R44 (call:FuncId→Fun) (icall:aO (V×List Ob)):∀n,(∀(l0:List V) (b1:Bool) (l2:List V) (i3:Int) (i4:Int) (i5:Int) (i6:Int) (i7:Int) (i8:Int) (i9:Int) (l10:List V) (l11:List V) (i12:Int) (i13:Int) (l14:List V),RN 44 Tryz.f44 [] call icall n (aI Tryz.f44 0) (Ca l0 b1 l2 i3 i4 i5 i6 i7 i8 i9 l10 l11 i12 i13 l14)=(L44 call n) l0 b1 l2 i3 i4 i5 i6 i7 i8 i9 l10 l11 i12 i13 l14)
 |0=>fun l0 b1 l2 i3 i4 i5 i6 i7 i8 i9 l10 l11 i12 i13 l14=>rfl
 |n+1=>by
  have ih:=R44 call icall n
  exact fun l0 b1 l2 i3 i4 i5 i6 i7 i8 i9 l10 l11 i12 i13 l14=>(PP call icall (RN 44 Tryz.f44 [] call icall n) l0 b1 l2 i3 i4 i5 i6 i7 i8 i9 l10 l11 i12 i13 l14).trans (by rw[show(fun l0 b1 l2 i3 i4 i5 i6 i7 i8 i9 l10 l11 i12 i13 l14=>RN 44 Tryz.f44 [] call icall n (aI Tryz.f44 0) (Ca l0 b1 l2 i3 i4 i5 i6 i7 i8 i9 l10 l11 i12 i13 l14))=(L44 call n)from(funext fun l0=>funext fun b1=>funext fun l2=>funext fun i3=>funext fun i4=>funext fun i5=>funext fun i6=>funext fun i7=>funext fun i8=>funext fun i9=>funext fun l10=>funext fun l11=>funext fun i12=>funext fun i13=>funext fun l14=>ih l0 b1 l2 i3 i4 i5 i6 i7 i8 i9 l10 l11 i12 i13 l14)];rfl)
theorem C44 (k:Nat) (a0:List V) (a1:Int) (a2:Int) (a3:Int) (a4:Int) (a5:Int) (a6:List V) (a7:List V) (a8:Int) (a9:Int) (a10:Bool):aA cfg (k+1) 44 (A44 a0 a1 a2 a3 a4 a5 a6 a7 a8 a9 a10) []=T44 (aA cfg k) (L44 (aA cfg k) k) a0 a1 a2 a3 a4 a5 a6 a7 a8 a9 a10:=by
 have ih:=R44 (aA cfg k) (aE cfg (aA cfg k) 20) k
 refine(show aA cfg (k+1) 44 (A44 a0 a1 a2 a3 a4 a5 a6 a7 a8 a9 a10) []=GO 44 Tryz.f44 (A44 a0 a1 a2 a3 a4 a5 a6 a7 a8 a9 a10) [] (aA cfg k) (aE cfg (aA cfg k) 20) (RN 44 Tryz.f44 [] (aA cfg k) (aE cfg (aA cfg k) 20) k)by kernel_rfl).trans ((E44 _ _ _ a0 a1 a2 a3 a4 a5 a6 a7 a8 a9 a10).trans ?_)
 rw[show(fun l0 b1 l2 i3 i4 i5 i6 i7 i8 i9 l10 l11 i12 i13 l14=>RN 44 Tryz.f44 [] (aA cfg k) (aE cfg (aA cfg k) 20) k (aI Tryz.f44 0) (Ca l0 b1 l2 i3 i4 i5 i6 i7 i8 i9 l10 l11 i12 i13 l14))=(L44 (aA cfg k) k)from(funext fun l0=>funext fun b1=>funext fun l2=>funext fun i3=>funext fun i4=>funext fun i5=>funext fun i6=>funext fun i7=>funext fun i8=>funext fun i9=>funext fun l10=>funext fun l11=>funext fun i12=>funext fun i13=>funext fun l14=>ih l0 b1 l2 i3 i4 i5 i6 i7 i8 i9 l10 l11 i12 i13 l14)]
theorem M44 (a0:List V) (a1:Int) (a2:Int) (a3:Int) (a4:Int) (a5:Int) (a6:List V) (a7:List V) (a8:Int) (a9:Int) (a10:Bool) {r:V×List Ob} (h:Evt (fun k n=>T44 (aA cfg k) (L44 (aA cfg k) n) a0 a1 a2 a3 a4 a5 a6 a7 a8 a9 a10) r):Ret 44 [V.lst 5 false a0,V.agg [V.int IntKind.i64 a1,V.int IntKind.i64 a2,V.int IntKind.i64 a3,V.int IntKind.i64 a4,V.int IntKind.i64 a5,V.lst 36 false a6,V.lst 32 false a7,V.int IntKind.i64 a8,V.int IntKind.i64 a9],V.bool a10] [] r:=aR (g:=fun k n=>T44 (aA cfg k) (L44 (aA cfg k) n) a0 a1 a2 a3 a4 a5 a6 a7 a8 a9 a10) (fun k=>C44 k a0 a1 a2 a3 a4 a5 a6 a7 a8 a9 a10) h
theorem L8 (l0:List V) (b1:Bool) (l2:List V) (i3:Int) (i4:Int) (i5:Int) (i6:Int) (i7:Int) (i8:Int) (i9:Int) (l10:List V) (l11:List V) (i12:Int) (i13:Int) (l14:List V) {r:V×List Ob} (h:Evt (fun k n=>EE (aA cfg k) (L44 (aA cfg k) n) l0 b1 l2 i3 i4 i5 i6 i7 i8 i9 l10 l11 i12 i13 l14) r):Evt (fun k n=>(L44 (aA cfg k) n) l0 b1 l2 i3 i4 i5 i6 i7 i8 i9 l10 l11 i12 i13 l14) r:=aZ (fun k n=>rfl) h
def JA (call:FuncId→Fun) (ag0:List V→Bool→List UInt8→List UInt8→Int→Int→Int→Int→Int→Int→List V→List V→Int→Int→Option (V×List Ob)) (l0:List V) (b1:Bool) (s2:List UInt8) (s3:List UInt8) (i4:Int) (i5:Int) (i6:Int) (i7:Int) (i8:Int) (i9:Int) (l10:List V) (l11:List V) (i12:Int) (i13:Int):Option (V×List Ob):=
 if(decide (i4<((length l10:Nat):Int)))=true then
 chk (decide (0≤i4)) (chk (decide (i4<((length l10:Nat):Int))) (Option.bind (call 23 [(V.lst 5 false l0),(V.agg [(V.int .i64 (getI (headD (V.cells (getD l10 (Int.toNat i4) V.bot)) V.bot))),(V.int .i64 (getI (headD (tail (V.cells (getD l10 (Int.toNat i4) V.bot))) V.bot))),(V.int .i64 (getI (headD (tail (tail (V.cells (getD l10 (Int.toNat i4) V.bot)))) V.bot))),(V.int .i64 (getI (headD (tail (tail (tail (V.cells (getD l10 (Int.toNat i4) V.bot))))) V.bot))),(V.int .i64 (getI (headD (tail (tail (tail (tail (V.cells (getD l10 (Int.toNat i4) V.bot)))))) V.bot))),(V.lst 36 false (getL (headD (tail (tail (tail (tail (tail (V.cells (getD l10 (Int.toNat i4) V.bot))))))) V.bot))),(V.lst 32 false (getL (headD (tail (tail (tail (tail (tail (tail (V.cells (getD l10 (Int.toNat i4) V.bot)))))))) V.bot))),(V.int .i64 (getI (headD (tail (tail (tail (tail (tail (tail (tail (V.cells (getD l10 (Int.toNat i4) V.bot))))))))) V.bot))),(V.int .i64 (getI (headD (tail (tail (tail (tail (tail (tail (tail (tail (V.cells (getD l10 (Int.toNat i4) V.bot)))))))))) V.bot)))]),(V.bool b1)] []) fun z0=>
 chk (bJ s3 (getS z0.1)) ((ag0 (l0) (b1) (s2) ((s3++(getS z0.1))) ((IntKind.wrap .i64 (i4+(1:Int)))) (i5) (i6) (i7) (i8) (i9) (l10) (l11) (i12) (i13)))))
 else
 chk (bJ s3 [32]) (Option.bind (if(decide (((length s2:Nat):Int)>((length (s3++[32]):Nat):Int)))=true then
 chk (decide (0≤((length (s3++[32]):Nat):Int))) (chk (decide (((length (s3++[32]):Nat):Int)≤((length s2:Nat):Int))) (chk (decide (0≤(0:Int))) (chk (decide ((0:Int)≤((length (s3++[32]):Nat):Int))) (if(sEq (drop (Int.toNat (0:Int)) (take (Int.toNat ((length (s3++[32]):Nat):Int)) s2)) (s3++[32]))=true then
 chk (decide (0≤(IntKind.wrap .i64 (((length s2:Nat):Int) - (1:Int))))) (chk (decide ((IntKind.wrap .i64 (((length s2:Nat):Int) - (1:Int)))<((length s2:Nat):Int))) (some (((UInt8.toNat (getD s2 (Int.toNat (IntKind.wrap .i64 (((length s2:Nat):Int) - (1:Int)))) 0):Nat):Int)==(41:Int))))
 else
 some false))))
 else
 some false) fun y0=>
 some ((V.bool y0),[]))
def T7 (call:FuncId→Fun) (ag0:List V→Bool→List UInt8→List UInt8→Int→Int→Int→Int→Int→Int→List V→List V→Int→Int→Option (V×List Ob)) (a0:List V) (a1:Bool):Option (V×List Ob):=
 Option.bind (call 22 [] []) fun z0=>
 if(!(getB z0.1))=true then
 some ((V.bool false),[])
 else
 if(decide (((length a0:Nat):Int)>(1000:Int)))=true then
 some ((V.bool true),[])
 else
 Option.bind (call 14 [(V.lst 5 false a0)] []) fun z1=>
 if((getI (headD (V.cells (headD (getT z1.1) V.bot)) V.bot)) != (1:Int))=true then
 some ((V.bool true),[])
 else
 Option.bind (call 23 [(V.lst 5 false a0),(V.agg [(V.int .i64 (getI (headD (V.cells (headD (getT z1.1) V.bot)) V.bot))),(V.int .i64 (getI (headD (tail (V.cells (headD (getT z1.1) V.bot))) V.bot))),(V.int .i64 (getI (headD (tail (tail (V.cells (headD (getT z1.1) V.bot)))) V.bot))),(V.int .i64 (getI (headD (tail (tail (tail (V.cells (headD (getT z1.1) V.bot))))) V.bot))),(V.int .i64 (getI (headD (tail (tail (tail (tail (V.cells (headD (getT z1.1) V.bot)))))) V.bot))),(V.lst 36 false (getL (headD (tail (tail (tail (tail (tail (V.cells (headD (getT z1.1) V.bot))))))) V.bot))),(V.lst 32 false (getL (headD (tail (tail (tail (tail (tail (tail (V.cells (headD (getT z1.1) V.bot)))))))) V.bot))),(V.int .i64 (getI (headD (tail (tail (tail (tail (tail (tail (tail (V.cells (headD (getT z1.1) V.bot))))))))) V.bot))),(V.int .i64 (getI (headD (tail (tail (tail (tail (tail (tail (tail (tail (V.cells (headD (getT z1.1) V.bot)))))))))) V.bot)))]),(V.bool a1)] []) fun z2=>
 (ag0 (a0) (a1) ((getS z2.1)) ([40]) ((0:Int)) ((getI (headD (V.cells (headD (getT z1.1) V.bot)) V.bot))) ((getI (headD (tail (V.cells (headD (getT z1.1) V.bot))) V.bot))) ((getI (headD (tail (tail (V.cells (headD (getT z1.1) V.bot)))) V.bot))) ((getI (headD (tail (tail (tail (V.cells (headD (getT z1.1) V.bot))))) V.bot))) ((getI (headD (tail (tail (tail (tail (V.cells (headD (getT z1.1) V.bot)))))) V.bot))) ((getL (headD (tail (tail (tail (tail (tail (V.cells (headD (getT z1.1) V.bot))))))) V.bot))) ((getL (headD (tail (tail (tail (tail (tail (tail (V.cells (headD (getT z1.1) V.bot)))))))) V.bot))) ((getI (headD (tail (tail (tail (tail (tail (tail (tail (V.cells (headD (getT z1.1) V.bot))))))))) V.bot))) ((getI (headD (tail (tail (tail (tail (tail (tail (tail (tail (V.cells (headD (getT z1.1) V.bot)))))))))) V.bot))))
def A7 (a0:List V) (a1:Bool):List V:=[V.lst 5 false a0,V.bool a1]
def Ho (l0:List V) (b1:Bool) (s2:List UInt8) (s3:List UInt8) (i4:Int) (i5:Int) (i6:Int) (i7:Int) (i8:Int) (i9:Int) (l10:List V) (l11:List V) (i12:Int) (i13:Int):St:=⟨[(V.lst 5 false l0),(V.bool b1),V.bot,V.bot,V.bot,V.bot,(V.ref 0 0),V.bot,(V.str s2),(V.str s3),(V.int IntKind.i64 i4)]++List.replicate 58 V.bot,[(Ob.cells [(V.int IntKind.i64 i5),(V.int IntKind.i64 i6),(V.int IntKind.i64 i7),(V.int IntKind.i64 i8),(V.int IntKind.i64 i9),(V.lst 36 false l10),(V.lst 32 false l11),(V.int IntKind.i64 i12),(V.int IntKind.i64 i13)])]⟩
theorem RU (l0:List V) (b1:Bool) (s2:List UInt8) (s3:List UInt8) (i4:Int) (i5:Int) (i6:Int) (i7:Int) (i8:Int) (i9:Int) (l10:List V) (l11:List V) (i12:Int) (i13:Int):
 RM 7 Tryz.f7 [] call icall again (aI Tryz.f7 0) (Ho l0 b1 s2 s3 i4 i5 i6 i7 i8 i9 l10 l11 i12 i13)=JA call (fun l0 b1 s2 s3 i4 i5 i6 i7 i8 i9 l10 l11 i12 i13=>again (aI Tryz.f7 0) (Ho l0 b1 s2 s3 i4 i5 i6 i7 i8 i9 l10 l11 i12 i13)) l0 b1 s2 s3 i4 i5 i6 i7 i8 i9 l10 l11 i12 i13:=by kernel_rfl
theorem E7 (a0:List V) (a1:Bool):GO 7 Tryz.f7 (A7 a0 a1) [] call icall again=T7 call (fun l0 b1 s2 s3 i4 i5 i6 i7 i8 i9 l10 l11 i12 i13=>again (aI Tryz.f7 0) (Ho l0 b1 s2 s3 i4 i5 i6 i7 i8 i9 l10 l11 i12 i13)) a0 a1:=by kernel_rfl
def L7 (call:FuncId→Fun):Nat→(List V→Bool→List UInt8→List UInt8→Int→Int→Int→Int→Int→Int→List V→List V→Int→Int→Option (V×List Ob))
 |0=>fun _ _ _ _ _ _ _ _ _ _ _ _ _ _=>none
 |n+1=>JA call (L7 call n)
theorem R7 (call:FuncId→Fun) (icall:aO (V×List Ob)):∀n,(∀(l0:List V) (b1:Bool) (s2:List UInt8) (s3:List UInt8) (i4:Int) (i5:Int) (i6:Int) (i7:Int) (i8:Int) (i9:Int) (l10:List V) (l11:List V) (i12:Int) (i13:Int),RN 7 Tryz.f7 [] call icall n (aI Tryz.f7 0) (Ho l0 b1 s2 s3 i4 i5 i6 i7 i8 i9 l10 l11 i12 i13)=(L7 call n) l0 b1 s2 s3 i4 i5 i6 i7 i8 i9 l10 l11 i12 i13)
 |0=>fun l0 b1 s2 s3 i4 i5 i6 i7 i8 i9 l10 l11 i12 i13=>rfl
 |n+1=>by
  have ih:=R7 call icall n
  exact fun l0 b1 s2 s3 i4 i5 i6 i7 i8 i9 l10 l11 i12 i13=>(RU call icall (RN 7 Tryz.f7 [] call icall n) l0 b1 s2 s3 i4 i5 i6 i7 i8 i9 l10 l11 i12 i13).trans (by rw[show(fun l0 b1 s2 s3 i4 i5 i6 i7 i8 i9 l10 l11 i12 i13=>RN 7 Tryz.f7 [] call icall n (aI Tryz.f7 0) (Ho l0 b1 s2 s3 i4 i5 i6 i7 i8 i9 l10 l11 i12 i13))=(L7 call n)from(funext fun l0=>funext fun b1=>funext fun s2=>funext fun s3=>funext fun i4=>funext fun i5=>funext fun i6=>funext fun i7=>funext fun i8=>funext fun i9=>funext fun l10=>funext fun l11=>funext fun i12=>funext fun i13=>ih l0 b1 s2 s3 i4 i5 i6 i7 i8 i9 l10 l11 i12 i13)];rfl)
theorem C7 (k:Nat) (a0:List V) (a1:Bool):aA cfg (k+1) 7 (A7 a0 a1) []=T7 (aA cfg k) (L7 (aA cfg k) k) a0 a1:=by
 have ih:=R7 (aA cfg k) (aE cfg (aA cfg k) 20) k
 refine(show aA cfg (k+1) 7 (A7 a0 a1) []=GO 7 Tryz.f7 (A7 a0 a1) [] (aA cfg k) (aE cfg (aA cfg k) 20) (RN 7 Tryz.f7 [] (aA cfg k) (aE cfg (aA cfg k) 20) k)by kernel_rfl).trans ((E7 _ _ _ a0 a1).trans ?_)
 rw[show(fun l0 b1 s2 s3 i4 i5 i6 i7 i8 i9 l10 l11 i12 i13=>RN 7 Tryz.f7 [] (aA cfg k) (aE cfg (aA cfg k) 20) k (aI Tryz.f7 0) (Ho l0 b1 s2 s3 i4 i5 i6 i7 i8 i9 l10 l11 i12 i13))=(L7 (aA cfg k) k)from(funext fun l0=>funext fun b1=>funext fun s2=>funext fun s3=>funext fun i4=>funext fun i5=>funext fun i6=>funext fun i7=>funext fun i8=>funext fun i9=>funext fun l10=>funext fun l11=>funext fun i12=>funext fun i13=>ih l0 b1 s2 s3 i4 i5 i6 i7 i8 i9 l10 l11 i12 i13)]
theorem M7 (a0:List V) (a1:Bool) {r:V×List Ob} (h:Evt (fun k n=>T7 (aA cfg k) (L7 (aA cfg k) n) a0 a1) r):Ret 7 [V.lst 5 false a0,V.bool a1] [] r:=aR (g:=fun k n=>T7 (aA cfg k) (L7 (aA cfg k) n) a0 a1) (fun k=>C7 k a0 a1) h
theorem PQ (l0:List V) (b1:Bool) (s2:List UInt8) (s3:List UInt8) (i4:Int) (i5:Int) (i6:Int) (i7:Int) (i8:Int) (i9:Int) (l10:List V) (l11:List V) (i12:Int) (i13:Int) {r:V×List Ob} (h:Evt (fun k n=>JA (aA cfg k) (L7 (aA cfg k) n) l0 b1 s2 s3 i4 i5 i6 i7 i8 i9 l10 l11 i12 i13) r):Evt (fun k n=>(L7 (aA cfg k) n) l0 b1 s2 s3 i4 i5 i6 i7 i8 i9 l10 l11 i12 i13) r:=aZ (fun k n=>rfl) h
end Go.Proofs.YtdoaoaicdimbeaaGreatDoor
end
section
namespace Go.Proofs.YtdoaoaicdimbeaaGreatDoor
open Go.Ev Go
theorem cF (a:Bs) (l:List Bs):wz (a::l)=a.length+1+wz l:=by simp[wz]
theorem lE:wz []=0:=rfl
theorem CZ (l:List Bs):(mC l).length≤wz l+2:=by
 have:=(kG l [32] (by simp)).1
 simp only[mC,List.length_append,List.length_cons,List.length_nil];omega
def sN:Nat:=13510000000
theorem Gv (n m:Nat):∀ps:Ps,(∀p∈ps,p.1.length≤n∧p.2.length≤m)→wz (mX ps)≤ps.length* (2*n+2*m+14)
 |[],_=>by simp[mX,wz]
 |p::r,h=>by
  have h1:=h p (by simp)
  have h2:=Gv n m r fun q hq=>h q (by simp[hq])
  have e1:=eS p.1
  have e2:=eS p.2
  have e:mX (p::r)=[eK p.1,eK p.2]++mX r:=by simp[mX]
  rw[e,sM,cF,cF,lE,List.length_cons,Nat.add_mul]
  omega
theorem C0 {s:Bs} {two:Bool} {t u:Bs} {ps:Ps} (hs:s.length≤1500) (h:eY s two=some (t,u,ps)):(tP ps).length≤sN:=by
 obtain⟨g1,g2⟩:=iL h
 obtain⟨_,_,g5⟩:=jS h
 have a3:(s.length+1)*s.length≤1501*1500:=Nat.mul_le_mul (by omega) (by omega)
 have h1:=Gv 1500 2251500 ps fun p hp=>by
  have:=g2 p hp
  have:=g5 p hp
  omega
 have h2:ps.length* (2*1500+2*2251500+14)≤1500* (2*1500+2*2251500+14):=Nat.mul_le_mul_right _ (by omega)
 have h3:=CZ (mX ps)
 unfold tP sN
 split
 ·simp[jY]
 ·omega
def KOk (r:Bs×Bs×Bs):Prop:=r.1.length≤1520∧r.2.1.length≤1520∧r.2.2.length≤sN
theorem tW (b:Bs) (hb:b.length≤1500) (p:Pt):KOk (fN b p):=by
 have hv:=bQ b (hdL b p) ctN
 have hM:1000≤sN:=by decide
 unfold fN
 generalize p.kd=kd
 cases ho:eY (aT b (hdL b p) ctN) true with
 |none=>
  have e:(mC [eK csW,eK usW]).length≤1000:=by decide+kernel
  rw[Ew]
  split
  ·exact⟨by decide,by decide,by decide⟩
  ·split
   ·exact⟨by decide,by decide,by decide⟩
   ·exact⟨by decide,by decide,Nat.le_trans e hM⟩
 |some o=>
  obtain⟨t,u,ps⟩:=o
  have hp:=C0 (by omega) ho
  obtain⟨g3,g4,_⟩:=jS ho
  have own:KOk (t,u,tP ps):=⟨by simp only;omega,by simp only;omega,hp⟩
  rw[Ew]
  split
  ·split
   ·exact own
   ·exact⟨by decide,by decide,by decide⟩
  ·split
   ·split
    ·exact own
    ·exact⟨by decide,by decide,by decide⟩
   ·split
    ·exact⟨by decide,by decide,by decide⟩
    ·exact own
def cdN:Bs:=[99,111,110,116,101,110,116,45,100,105,115,112,111,115,105,116,105,111,110]
def clN:Bs:=[99,111,110,116,101,110,116,45,108,97,110,103,117,97,103,101]
def coN:Bs:=[99,111,110,116,101,110,116,45,108,111,99,97,116,105,111,110]
def cmN:Bs:=[99,111,110,116,101,110,116,45,109,100,53]
def cxN:Bs:=[99,111,110,116,101,110,116,45,105,100]
def cyN:Bs:=[99,111,110,116,101,110,116,45,100,101,115,99,114,105,112,116,105,111,110]
theorem tX (b:Bs) (p:Pt) (n:Bs):(vW b p n).length≤2*b.length+6:=by
 have:=bQ b (hdL b p) n
 have:=fZ (aT b (hdL b p) n) (eQ (hdL b p) n).isSome
 unfold vW;omega
def JB:Option (Bs×Bs×Ps)→Bs
 |none=>jY
 |some (t,_,ps)=>mC [eK t,tP ps]
def rP (b:Bs) (p:Pt):List Bs:=[JB (eY (aT b (hdL b p) cdN) false),vW b p clN,vW b p coN]
theorem JC (b:Bs) (hb:b.length≤1500) (p:Pt):(JB (eY (aT b (hdL b p) cdN) false)).length≤sN+3020:=by
 have hv:=bQ b (hdL b p) cdN
 cases ho:eY (aT b (hdL b p) cdN) false with
 |none=>decide
 |some o=>
  obtain⟨t,u,ps⟩:=o
  have hp:=C0 (by omega) ho
  obtain⟨g3,_⟩:=jS ho
  have h1:=eS t
  have:=CZ [eK t,tP ps]
  rw[cF,cF,lE]at this
  rw[JB]
  omega
theorem EF (b:Bs) (hb:b.length≤1500) (p:Pt):wz (rP b p)≤sN+9050:=by
 have h1:=JC b hb p
 have h2:=tX b p clN
 have h3:=tX b p coN
 unfold rP
 rw[cF,cF,cF,lE]
 omega
theorem Gw (l:List Bs) (hl:l.length≤10000000) (hj:wz l≤100000000000000):Ret 50 [.lst 9 false (l.map V.str)] [] (.str (mC l),[]):=
 Gg l hl (Nat.le_trans (kG l [32] (by simp)).1 hj)
theorem L9 (b:Bs) (hb:b.length≤1500) (p:Pt):Ret 49 [.lst 5 false (ofBytes b),partV p] [] (.lst 9 false ((rP b p).map V.str),[]):=by
 have hval:=LX b (by omega) p cdN (by simp[cdN]) false
 have hf1:=Ao b (by omega) p clN (by simp[clN])
 have hf2:=Ao b (by omega) p coN (by simp[coN])
 have hvl:=bQ b (hdL b p) cdN
 unfold rP
 rw[←eL p]at hval hf1 hf2 ⊢
 refine M49 (ofBytes b) (p.kd:Nat) (p.hd.1:Nat) (p.hd.2:Nat) (p.bd.1:Nat) (p.bd.2:Nat) (p.ks.map partV) (p.cs.map cutV) (p.en.1:Nat) (p.en.2:Nat) ?_
 simp only[T49]
 refine aB hval ?_
 cases ho:eY (aT b (hdL b p) cdN) false with
 |none=>
  simp only[mA,bV,List.headD_cons,List.tail_cons,bA,Bool.false_eq_true,if_false]
  refine aB hf1 ?_
  refine aB hf2 ?_
  exact aD _
 |some o=>
  obtain⟨t,u,ps⟩:=o
  obtain⟨_,g2⟩:=iL ho
  obtain⟨g3,g4,g5⟩:=jS ho
  have gp:∀q∈ps,q.1.length≤10000000∧q.2.length≤10000000:=fun q hq=>by
   have a1:=g2 q hq
   have a2:=g5 q hq
   have a3:((aT b (hdL b p) cdN).length+1)* (aT b (hdL b p) cdN).length≤1501*1500:=Nat.mul_le_mul (by omega) (by omega)
   omega
  have hps:=(iL ho).1
  have rp:=LV ps (by omega) gp
  have c0:V.cells (.agg [.str t, .str u, .lst 176 false (ps.map pV)])=[.str t, .str u, .lst 176 false (ps.map pV)]:=rfl
  have e1:=eS t
  have e2:=C0 (by omega) ho
  have hM:sN=13510000000:=rfl
  have hr:Ret 50 [.lst 9 false [.str (eK t), .str (tP ps)]] [] (.str (mC [eK t,tP ps]),[]):=Gw [eK t,tP ps] (by simp) (by rw[cF,cF,lE];omega)
  simp only[mA,bV,List.headD_cons,List.tail_cons,c0,aS,bA,bF,if_true]
  refine aB (lC t (by omega)) ?_
  refine aB rp ?_
  simp only[aS]
  refine aB hr ?_
  refine aB hf1 ?_
  refine aB hf2 ?_
  exact aD _
def lnN (b:Bs) (s:Nat×Nat):Nat:=(aU (s.1:Nat) (s.2:Nat) b).length
def oJ (b:Bs) (p:Pt):List Bs:=[eK (fN b p).1,eK (fN b p).2.1,(fN b p).2.2,vW b p cxN,vW b p cyN,eK (Eu b p),fU (p.bd.2 - p.bd.1)]
noncomputable def qZ (b:Bs) (p:Pt) (subs:List Bs):List Bs:=
 if p.kd=2∧¬p.ks=[]then[FM (ofS b (p.ks.headD LW)),subs.headD [],fU (lnN b p.bd)]else if(fN b p).1=textW then[fU (lnN b p.bd)]else[]
def wE (b:Bs) (p:Pt) (all:Bool):List Bs:=if all=true then vW b p cmN::rP b p else[]
def fO (b:Bs) (p:Pt) (all:Bool):List Bs:=[[],eK (fN b p).2.1]++if all=true then(fN b p).2.2::rP b p else[]
noncomputable def FP (b:Bs) (all:Bool) (p:Pt) (subs:List Bs):Bs:=
 if p.kd=1 then([40]++subs.flatten)++(Lib.join (fO b p all) [32]++[41])else mC (oJ b p++qZ b p subs++wE b p all)
mutual
noncomputable def pW (b:Bs) (all:Bool):Pt→Bs
 | .mk k h bd ks cs e=>FP b all (.mk k h bd ks cs e) (cD b all ks)
noncomputable def cD (b:Bs) (all:Bool):List Pt→List Bs
 |[]=>[]
 |p::r=>pW b all p::cD b all r
end
theorem Gx (b:Bs) (all:Bool) (p:Pt):pW b all p=FP b all p (cD b all p.ks):=by cases p;rw[pW];rfl
theorem kO (b:Bs) (all:Bool):∀l:List Pt,cD b all l=l.map (pW b all)
 |[]=>by rw[cD];rfl
 |p::r=>by rw[cD,kO b all r];rfl
def putK:Nat:=30000000000
theorem JD (b:Bs) (s:Nat×Nat):lnN b s≤b.length:=cR _ _ b
theorem Gy (n:Nat) (h:n≤100000):(fU n).length≤100001:=Nat.le_trans (lO n) (by omega)
theorem AA (b:Bs) (hb:b.length≤1500) (p:Pt) (all:Bool):wz (fO b p all)≤2*sN+20000:=by
 obtain⟨_,k2,k3⟩:=tW b hb p
 have h1:=eS (fN b p).2.1
 have h2:=EF b hb p
 unfold fO
 rw[sM,cF,cF,lE]
 split
 ·rw[cF];simp only[List.length_nil];omega
 ·rw[lE];simp only[List.length_nil];omega
theorem EG (b:Bs) (hb:b.length≤1500) (p:Pt) (hp:p.bd.2 - p.bd.1≤100000):wz (oJ b p)≤sN+120000:=by
 obtain⟨k1,k2,k3⟩:=tW b hb p
 have h1:=eS (fN b p).1
 have h2:=eS (fN b p).2.1
 have h3:=tX b p cxN
 have h4:=tX b p cyN
 have h5:=eS (Eu b p)
 have h6:=Gi b p
 have h7:=Gy _ hp
 unfold oJ
 rw[cF,cF,cF,cF,cF,cF,cF,lE]
 omega
theorem Gz (b:Bs) (hb:b.length≤1500) (p:Pt) (all:Bool):wz (wE b p all)≤sN+13000:=by
 have h1:=tX b p cmN
 have h2:=EF b hb p
 unfold wE
 split
 ·rw[cF];omega
 ·rw[lE];omega
theorem GA (b:Bs) (hb:b.length≤1500) (p:Pt) (subs:List Bs):wz (qZ b p subs)≤1200000+(subs.headD []).length:=by
 have h1:=Lf b (by omega) (p.ks.headD LW)
 have h2:=JD b p.bd
 have h3:=Gy (lnN b p.bd) (by omega)
 unfold qZ
 split
 ·rw[cF,cF,cF,lE];omega
 ·split
  ·rw[cF,lE];omega
  ·rw[lE];omega
theorem AB (l:List Bs):(l.headD []).length≤l.flatten.length:=by cases l<;>simp
theorem Lh (b:Bs) (hb:b.length≤1500) (all:Bool) (p:Pt) (hp:p.bd.2 - p.bd.1≤100000) (subs:List Bs) (m:Nat) (hm:subs.flatten.length≤putK*m):(FP b all p subs).length≤putK* (m+1):=by
 have h1:=AA b hb p all
 have h2:=EG b hb p hp
 have h3:=Gz b hb p all
 have h4:=GA b hb p subs
 have h5:=AB subs
 have hM:sN=13510000000:=rfl
 have hK:putK=30000000000:=rfl
 have j1:=(kG (fO b p all) [32] (by simp)).1
 have j2:=CZ (oJ b p++qZ b p subs++wE b p all)
 rw[sM,sM]at j2
 rw[Nat.mul_add,Nat.mul_one]
 unfold FP
 split
 ·simp only[List.length_append,List.length_cons,List.length_nil];omega
 ·omega
mutual
def BdP (m:Nat):Pt→Prop
 | .mk _ _ bd ks _ _=>bd.2≤m∧BdL m ks
def BdL (m:Nat):List Pt→Prop
 |[]=>True
 |p::r=>BdP m p∧BdL m r
end
mutual
theorem Li (b:Bs) (hb:b.length≤1500) (all:Bool):∀p:Pt,BdP 100000 p→(pW b all p).length≤putK*cntF p
 | .mk k h bd ks cs e,hf=>by
  rw[BdP]at hf
  have h1:=tY b hb all ks hf.2
  rw[pW,cntF,Nat.add_comm 1]
  exact Lh b hb all (.mk k h bd ks cs e) (Nat.le_trans (Nat.sub_le bd.2 bd.1) hf.1) _ _ h1
theorem tY (b:Bs) (hb:b.length≤1500) (all:Bool):∀l:List Pt,BdL 100000 l→(cD b all l).flatten.length≤putK*lG l
 |[],_=>by rw[cD];simp
 |p::r,hf=>by
  rw[BdL]at hf
  have h1:=Li b hb all p hf.1
  have h2:=tY b hb all r hf.2
  rw[cD,lG,List.flatten_cons,List.length_append,Nat.mul_add]
  omega
end
theorem Ma {m fin:Nat}:∀{cs:List (Nat×Nat)} {ks:List Pt},KR (fun _ _ q=>BdP m q) fin cs ks→BdL m ks
 |[],[],_=>by rw[BdL];trivial
 |c::r,q::ks,h=>by rw[BdL];exact⟨h.1,Ma h.2⟩
 |[],_::_,h=>h.elim
 |_::_,[],h=>h.elim
theorem Lj (b:Bs) (m:Nat) (hm:b.length≤m) (d fr to:Nat) (dg:Bool) (n:Nat) (h1:fr≤to) (h2:to≤b.length):BdP m (dZ b d fr to dg n).1:=by
 refine Az b (fun _ _ _ p=>BdP m p) ?_ ?_ ?_ d fr to dg n h1 h2
 ·intro d fr at_ to k1 k2 k3
  unfold dX
  rw[BdP,BdL]
  exact⟨by simp only;omega,trivial⟩
 ·intro d fr at_ to cs e ks k1 k2 k3 k4 k5 k6 k7 k8
  rw[BdP]
  exact⟨by simp only;omega,Ma k8⟩
 ·intro d fr at_ to q k1 k2 k3 k4 k5 k6
  rw[BdP,BdL,BdL]
  exact⟨by simp only;omega,k6,trivial⟩
end Go.Proofs.YtdoaoaicdimbeaaGreatDoor
end
section
namespace Go.Proofs.YtdoaoaicdimbeaaGreatDoor
open Go.Ev Go
def tZ (b:Bs) (all:Bool) (p:Pt):Prop:=Ret 23 [.lst 5 false (ofBytes b),partV p, .bool all] [] (.str (pW b all p),[])
theorem ca (l m:List V) (x:Option (V×List Ob)) (h:l.length+m.length≤100):chk (aW l m 17) x=x:=bM (dQ (by omega)) x
theorem qU (b:Bs) (p:Pt):(rP b p).length=3:=rfl
theorem GB {ks:List Pt} {i:Nat} (h:i<ks.length):List.getD (ks.map partV) i V.bot=partV ks[i]:=by simp[List.getD,h]
noncomputable def kJ (b:Bs) (all:Bool) (ks:List Pt) (i:Nat):Bs:=[40]++(cD b all (ks.take i)).flatten
theorem qV (b:Bs) (all:Bool) {ks:List Pt} {i:Nat} (h:i<ks.length):kJ b all ks (i+1)=kJ b all ks i++pW b all ks[i]:=by
 unfold kJ
 rw[kO,kO,List.take_succ_eq_append_getElem h,List.map_append,List.flatten_append]
 simp
theorem C2 (b:Bs) (all:Bool) (ks:List Pt) (i:Nat):(kJ b all ks i).length≤1+(cD b all ks).flatten.length:=by
 have e:(cD b all ks).flatten=(cD b all (ks.take i)).flatten++(cD b all (ks.drop i)).flatten:=by
  rw[kO,kO,kO,←List.flatten_append,←List.map_append,List.take_append_drop]
 rw[e]
 unfold kJ
 simp only[List.length_append,List.length_cons,List.length_nil];omega
theorem JE (b:Bs) (hb:b.length≤1500) (all:Bool) (p:Pt) (hf:(cD b all p.ks).flatten.length≤30000000000000) (hn:p.ks.length≤1000) (ih:∀q∈p.ks,tZ b all q):∀(n i:Nat),p.ks.length - i=n→i≤p.ks.length→
  Evt (fun k j=>L44 (aA cfg k) j (ofBytes b) all (p.ks.map partV) (p.ks.length:Nat) (i:Nat) (p.kd:Nat) (p.hd.1:Nat) (p.hd.2:Nat) (p.bd.1:Nat) (p.bd.2:Nat) (p.ks.map partV) (p.cs.map cutV) (p.en.1:Nat) (p.en.2:Nat) (ofBytes (kJ b all p.ks i)))
   (.str (([40]++(cD b all p.ks).flatten)++(Lib.join (fO b p all) [32]++[41])),[])
 |0,i,h,hi=>by
  refine L8 (ofBytes b) all (p.ks.map partV) (p.ks.length:Nat) (i:Nat) (p.kd:Nat) (p.hd.1:Nat) (p.hd.2:Nat) (p.bd.1:Nat) (p.bd.2:Nat) (p.ks.map partV) (p.cs.map cutV) (p.en.1:Nat) (p.en.2:Nat) (ofBytes (kJ b all p.ks i)) ?_
  have h1:¬((i:Int)<(p.ks.length:Int)):=by omega
  have ea:kJ b all p.ks i=[40]++(cD b all p.ks).flatten:=by unfold kJ;rw[List.take_of_length_le (by omega)]
  rw[ea]
  have hK:=Gj b (by omega) p
  have hR:=L9 b hb p
  obtain⟨k1,k2,k3⟩:=tW b hb p
  have hw:=AA b hb p all
  have hj:=(kG (fO b p all) [32] (by simp)).1
  have hM:sN=13510000000:=rfl
  have hlen:(fO b p all).length≤10:=by unfold fO;cases all<;>simp[qU]
  have hJ:=kN (fO b p all) [32] (by omega) (by omega)
  have c1:bJ (Lib.join (fO b p all) [32]) [41]=true:=eJ (by simp only[List.length_cons,List.length_nil];omega)
  have hW:=Ei ([40]++(cD b all p.ks).flatten) (Lib.join (fO b p all) [32]++[41]) (by simp only[List.length_append,List.length_cons,List.length_nil];omega)
  have hS:=Gs (([40]++(cD b all p.ks).flatten)++(Lib.join (fO b p all) [32]++[41])) (by simp only[List.length_append,List.length_cons,List.length_nil];omega)
  have fin:Evt (fun(k _:Nat)=>Option.bind (aA cfg k 85 [V.lst 9 false ((fO b p all).map V.str),V.str [32]] []) fun z3=>
   chk (bJ (V.getS z3.1) [41]) (Option.bind (aA cfg k 27 [(V.ref 0 0),(V.str ((V.getS z3.1)++[41]))] [(Ob.cells [(V.opt 0 0),(V.lst 5 true (ofBytes ([40]++(cD b all p.ks).flatten)))])]) fun z4=>
   Option.bind (aA cfg k 29 [(V.ref 0 0)] [(Ob.cells [(V.opt 0 0),(V.lst 5 true (V.getL (List.headD (List.tail (Ob.getC (List.headD z4.2 Ob.dead))) V.bot)))])]) fun z5=>
   some ((V.str (V.getS z5.1)),([]:List Ob)))) (.str (([40]++(cD b all p.ks).flatten)++(Lib.join (fO b p all) [32]++[41])),[]):=by
   refine aB hJ ?_
   simp only[aS,bM c1]
   refine aB hW ?_
   simp only[List.headD_cons,Ob.getC,List.tail_cons,V.getL]
   refine aB hS ?_
   exact aD _
  rw[←eL p]at hK hR
  simp only[EE,h1,decide_false,Bool.false_eq_true,if_false]
  refine aB hK ?_
  simp only[Ex,bV,List.headD_cons,List.tail_cons,aS]
  refine aB (lC (fN b p).2.1 (by omega)) ?_
  cases all with
  |true=>
   have e1:(([V.str [],V.str (eK (fN b p).2.1)]++[V.str (fN b p).2.2])++(rP b p).map V.str)=(fO b p true).map V.str:=by simp[fO]
   simp only[aS,if_true,ca,List.length_append,List.length_cons,List.length_nil,Nat.reduceAdd,Nat.reduceLeDiff]
   refine aB hR ?_
   simp only[bF,ca,List.length_append,List.length_cons,List.length_nil,List.length_map,qU,Nat.reduceAdd,Nat.reduceLeDiff,e1]
   exact fin
  |false=>
   have e1:[V.str [],V.str (eK (fN b p).2.1)]=(fO b p false).map V.str:=by simp[fO]
   simp only[aS,Bool.false_eq_true,if_false,e1]
   exact fin
 |n+1,i,h,hi=>by
  have hlt:i<p.ks.length:=by omega
  refine L8 (ofBytes b) all (p.ks.map partV) (p.ks.length:Nat) (i:Nat) (p.kd:Nat) (p.hd.1:Nat) (p.hd.2:Nat) (p.bd.1:Nat) (p.bd.2:Nat) (p.ks.map partV) (p.cs.map cutV) (p.en.1:Nat) (p.en.2:Nat) (ofBytes (kJ b all p.ks i)) ?_
  have h1:((i:Int)<(p.ks.length:Int)):=by omega
  have h2:(0:Int)≤(i:Nat):=by omega
  have hw:IntKind.wrap .i64 (((i:Nat):Int)+1)=((i+1:Nat):Int):=by rw[wrap64 (by omega) (by omega)];omega
  have hle:=C2 b all p.ks (i+1)
  rw[qV b all hlt,List.length_append]at hle
  simp only[EE,h1,decide_true,if_true,aJ h2,List.length_map,cK,Int.toNat_natCast,GB hlt,hw,jR]
  refine aB (ih p.ks[i] (List.getElem_mem hlt)) ?_
  simp only[aS]
  refine aB (Ei (kJ b all p.ks i) (pW b all p.ks[i]) (by omega)) ?_
  simp only[List.headD_cons,Ob.getC,List.tail_cons,V.getL]
  rw[←qV b all hlt]
  exact JE b hb all p hf hn ih n (i+1) (by omega) (by omega)
theorem PR (b:Bs) (hb:b.length≤1500) (all:Bool) (p:Pt) (hf:(cD b all p.ks).flatten.length≤30000000000000) (hn:p.ks.length≤1000) (ih:∀q∈p.ks,tZ b all q):
  Ret 44 [.lst 5 false (ofBytes b),partV p, .bool all] [] (.str (([40]++(cD b all p.ks).flatten)++(Lib.join (fO b p all) [32]++[41])),[]):=by
 rw[←eL p]
 refine M44 (ofBytes b) (p.kd:Nat) (p.hd.1:Nat) (p.hd.2:Nat) (p.bd.1:Nat) (p.bd.2:Nat) (p.ks.map partV) (p.cs.map cutV) (p.en.1:Nat) (p.en.2:Nat) all ?_
 simp only[T44,List.length_map]
 refine aB (Ei [] [40] (by simp)) ?_
 simp only[List.headD_cons,Ob.getC,List.tail_cons,V.getL]
 have e0:[]++[40]=kJ b all p.ks 0:=by unfold kJ;rw[List.take_zero,cD];rfl
 rw[e0]
 exact JE b hb all p hf hn ih _ 0 rfl (by omega)
theorem Lk (b:Bs) (hb:b.length≤1500) (x y:Nat):Ret 48 [.lst 5 false (ofBytes b), .agg [.int .i64 (x:Nat), .int .i64 (y:Nat)]] [] (.int .i64 (lnN b (x,y):Nat),[]):=by
 refine dV (h:=vD) (by kernel_rfl) ?_
 have h1:=jG b
 have h2:(ofBytes b).length<1099511627776:=by rw[bC];omega
 simp only[vD,h1,h2,decide_true,Bool.and_self,if_true,cC]
 rfl
theorem JF (b:Bs) (hb:b.length≤1500) (all:Bool) (p:Pt) (L:List Bs) {Lv:List V} (e:Lv=L.map V.str) (hl:L.length≤20) (hw:wz L≤40000000000000):
  Evt (fun(k _:Nat)=>if all=true then
    Option.bind (aA cfg k 46 [.lst 5 false (ofBytes b), .agg [.int .i64 (p.kd:Nat), .int .i64 (p.hd.1:Nat), .int .i64 (p.hd.2:Nat), .int .i64 (p.bd.1:Nat), .int .i64 (p.bd.2:Nat), .lst 36 false (p.ks.map partV), .lst 32 false (p.cs.map cutV), .int .i64 (p.en.1:Nat), .int .i64 (p.en.2:Nat)], .str cmN] []) fun z14=>
    chk (aW Lv [(V.str (V.getS z14.1))] 17) (Option.bind (aA cfg k 49 [.lst 5 false (ofBytes b), .agg [.int .i64 (p.kd:Nat), .int .i64 (p.hd.1:Nat), .int .i64 (p.hd.2:Nat), .int .i64 (p.bd.1:Nat), .int .i64 (p.bd.2:Nat), .lst 36 false (p.ks.map partV), .lst 32 false (p.cs.map cutV), .int .i64 (p.en.1:Nat), .int .i64 (p.en.2:Nat)]] []) fun z15=>
    chk (aW (Lv++[(V.str (V.getS z14.1))]) (V.getL z15.1) 17) (Option.bind (aA cfg k 50 [.lst 9 false ((Lv++[(V.str (V.getS z14.1))])++(V.getL z15.1))] []) fun z16=>
    some ((V.str (V.getS z16.1)),([]:List Ob))))
   else Option.bind (aA cfg k 50 [.lst 9 false Lv] []) fun z14=>some ((V.str (V.getS z14.1)),[])) (.str (mC (L++wE b p all)),[]):=by
 have hF:=Ao b (by omega) p cmN (by simp[cmN])
 have hR:=L9 b hb p
 have hE:=Gz b hb p all
 have hM:sN=13510000000:=rfl
 have hel:(wE b p all).length≤4:=by unfold wE;split<;>simp[qU]
 have hrow:=Gw (L++wE b p all) (by rw[List.length_append];omega) (by rw[sM];omega)
 rw[←eL p]at hF hR
 subst e
 cases all with
 |true=>
  have e1:((L.map V.str)++[V.str (vW b p cmN)])++(rP b p).map V.str=(L++wE b p true).map V.str:=by simp[wE]
  simp only[if_true]
  refine aB hF ?_
  simp only[aS]
  have a1:aW (L.map V.str) [V.str (vW b p cmN)] 17=true:=dQ (by simp only[List.length_map,List.length_cons,List.length_nil];omega)
  have a2:aW (L.map V.str++[V.str (vW b p cmN)]) ((rP b p).map V.str) 17=true:=dQ (by simp only[List.length_append,List.length_map,List.length_cons,List.length_nil,qU];omega)
  simp only[bM a1]
  refine aB hR ?_
  simp only[bF,bM a2,e1]
  refine aB hrow ?_
  exact aD _
 |false=>
  have e1:L++wE b p false=L:=by simp[wE]
  rw[e1]at hrow ⊢
  simp only[Bool.false_eq_true,if_false]
  refine aB hrow ?_
  exact aD _
theorem JG (b:Bs) (hb:b.length≤1500) (all:Bool) (p:Pt) (hp:p.bd.2 - p.bd.1≤100000) (subs:List Bs) (hs:(subs.headD []).length≤30000000000000) {Lv:List V} (e:Lv=(oJ b p++qZ b p subs).map V.str):
  Evt (fun(k _:Nat)=>if all=true then
    Option.bind (aA cfg k 46 [.lst 5 false (ofBytes b), .agg [.int .i64 (p.kd:Nat), .int .i64 (p.hd.1:Nat), .int .i64 (p.hd.2:Nat), .int .i64 (p.bd.1:Nat), .int .i64 (p.bd.2:Nat), .lst 36 false (p.ks.map partV), .lst 32 false (p.cs.map cutV), .int .i64 (p.en.1:Nat), .int .i64 (p.en.2:Nat)], .str cmN] []) fun z14=>
    chk (aW Lv [(V.str (V.getS z14.1))] 17) (Option.bind (aA cfg k 49 [.lst 5 false (ofBytes b), .agg [.int .i64 (p.kd:Nat), .int .i64 (p.hd.1:Nat), .int .i64 (p.hd.2:Nat), .int .i64 (p.bd.1:Nat), .int .i64 (p.bd.2:Nat), .lst 36 false (p.ks.map partV), .lst 32 false (p.cs.map cutV), .int .i64 (p.en.1:Nat), .int .i64 (p.en.2:Nat)]] []) fun z15=>
    chk (aW (Lv++[(V.str (V.getS z14.1))]) (V.getL z15.1) 17) (Option.bind (aA cfg k 50 [.lst 9 false ((Lv++[(V.str (V.getS z14.1))])++(V.getL z15.1))] []) fun z16=>
    some ((V.str (V.getS z16.1)),([]:List Ob))))
   else Option.bind (aA cfg k 50 [.lst 9 false Lv] []) fun z14=>some ((V.str (V.getS z14.1)),[])) (.str (mC (oJ b p++qZ b p subs++wE b p all)),[]):=by
 have h1:=EG b hb p hp
 have h2:=GA b hb p subs
 have hM:sN=13510000000:=rfl
 refine JF b hb all p (oJ b p++qZ b p subs) e ?_ (by rw[sM];omega)
 have:(qZ b p subs).length≤3:=by unfold qZ;split;(· simp);split<;>simp
 rw[List.length_append]
 have e7:(oJ b p).length=7:=rfl
 omega
theorem NH (b:Bs) (hb:b.length≤1500) (all:Bool) (p:Pt) (hfit:mY p) (hbd:BdP 100000 p) (hc:cntF p≤1000) (ih:∀q∈p.ks,tZ b all q):tZ b all p:=by
 have hK:=Gj b (by omega) p
 have hF1:=Ao b (by omega) p cxN (by simp[cxN])
 have hF2:=Ao b (by omega) p cyN (by simp[cyN])
 have hE:=LY b (by omega) p
 have hC:=Lk b hb p.bd.1 p.bd.2
 obtain⟨k1,k2,k3⟩:=tW b hb p
 have hel:=Gi b p
 have hln:=JD b p.bd
 have hsub:(cD b all p.ks).flatten.length≤putK*lG p.ks:=tY b hb all p.ks (by cases p;rw[BdP]at hbd;exact hbd.2)
 have hcl:lG p.ks+1≤1000:=by cases p;rw[cntF]at hc;simp only[Pt.ks];omega
 have hsub2:(cD b all p.ks).flatten.length≤30000000000000:=Nat.le_trans hsub (Nat.le_trans (Nat.mul_le_mul_left _ (show lG p.ks≤1000 by omega)) (by decide))
 have hhd:=AB (cD b all p.ks)
 have hkn:=Al p.ks
 have hbb:p.bd.1≤p.bd.2∧p.bd.2≤100000:=by
  cases p;rw[mY]at hfit;rw[BdP]at hbd;exact⟨hfit.2.2.1,hbd.1⟩
 have hks:p.kd=2→∃q,p.ks=[q]:=fun h=>by
  cases p with
  |mk k h' bd ks cs e=>
   rw[mY]at hfit
   replace h:k=2:=h
   rcases hfit.1 with⟨h0,_⟩|⟨h0,_⟩|⟨_,_,_,q,hq,_⟩
   ·omega
   ·omega
   ·exact⟨q,hq⟩
 have hw:IntKind.wrap .i64 (((p.bd.2:Nat):Int) - ((p.bd.1:Nat):Int))=((p.bd.2 - p.bd.1:Nat):Int):=by rw[wrap64 (by omega) (by omega)];omega
 have hD:=Ea (p.bd.2 - p.bd.1) (by omega)
 have hN:=Ea (lnN b p.bd) (by omega)
 unfold tZ
 rw[Gx]
 by_cases h1:p.kd=1
 ·have z1:(((p.kd:Nat):Int)==1)=true:=by rw[h1];rfl
  have hM:=PR b hb all p hsub2 (by omega) ih
  unfold FP
  rw[if_pos h1]
  rw[←eL p]at hM ⊢
  refine M23 (ofBytes b) (p.kd:Nat) (p.hd.1:Nat) (p.hd.2:Nat) (p.bd.1:Nat) (p.bd.2:Nat) (p.ks.map partV) (p.cs.map cutV) (p.en.1:Nat) (p.en.2:Nat) all ?_
  simp only[T23,z1,if_true]
  refine aB hM ?_
  exact aD _
 ·have z1:(((p.kd:Nat):Int)==1)=false:=by
   have:¬(((p.kd:Nat):Int)=1):=by omega
   simpa using this
  have tl:=fun(subs:List Bs) (hs:(subs.headD []).length≤30000000000000) {Lv:List V} (e:Lv=(oJ b p++qZ b p subs).map V.str)=>JG b hb all p (by omega) subs hs e
  unfold FP
  rw[if_neg h1]
  rw[←eL p]at hK hF1 hF2 hE ⊢
  refine M23 (ofBytes b) (p.kd:Nat) (p.hd.1:Nat) (p.hd.2:Nat) (p.bd.1:Nat) (p.bd.2:Nat) (p.ks.map partV) (p.cs.map cutV) (p.en.1:Nat) (p.en.2:Nat) all ?_
  simp only[T23,z1,Bool.false_eq_true,if_false]
  refine aB hK ?_
  simp only[Ex,bV,List.headD_cons,List.tail_cons,aS]
  refine aB (lC (fN b p).1 (by omega)) ?_
  refine aB (lC (fN b p).2.1 (by omega)) ?_
  refine aB hF1 ?_
  refine aB hF2 ?_
  refine aB hE ?_
  simp only[aS]
  refine aB (lC (Eu b p) (by omega)) ?_
  rw[hw]
  refine aB hD ?_
  simp only[aS]
  by_cases h2:p.kd=2
  ·obtain⟨q,hq⟩:=hks h2
   have z2:(((p.kd:Nat):Int)==2)=true:=by rw[h2];rfl
   have hO:=PO b (by omega) q
   have hP:=Hm b (by omega) q
   have hI:=ih q (by rw[hq];simp)
   have o1:qZ b p (cD b all p.ks)=[FM (ofS b q),pW b all q,fU (lnN b p.bd)]:=by
    unfold qZ
    rw[if_pos ⟨h2,by rw[hq];simp⟩,hq,cD,cD]
    rfl
   have hh:((cD b all p.ks).headD []).length≤30000000000000:=by omega
   have g0:List.getD (p.ks.map partV) (Int.toNat 0) V.bot=partV q:=by rw[hq];rfl
   have g1:((0:Int)<(((p.ks.map partV).length:Nat):Int)):=by rw[hq];simp
   have g2:decide ((((p.ks.map partV).length:Nat):Int)>(0:Int))=true:=by rw[hq];simp
   refine eR (v:=true) (by rw[if_pos z2,g2]) ?_
   simp only[if_true,aJ (show(0:Int)≤0 by omega),aJ g1,g0,jR]
   refine aB hO ?_
   refine aB hP ?_
   refine aB hI ?_
   simp only[aS,ca,List.length_cons,List.length_nil,Nat.reduceAdd,Nat.reduceLeDiff]
   refine aB hC ?_
   simp only[dC]
   refine aB hN ?_
   simp only[aS,ca,List.length_append,List.length_cons,List.length_nil,Nat.reduceAdd,Nat.reduceLeDiff]
   exact tl (cD b all p.ks) hh (by rw[o1];simp[oJ])
  ·have z2:(((p.kd:Nat):Int)==2)=false:=by
    have:¬(((p.kd:Nat):Int)=2):=by omega
    simpa using this
   have hh:((cD b all p.ks).headD []).length≤30000000000000:=by omega
   refine eR (v:=false) (by rw[z2];rfl) ?_
   simp only[Bool.false_eq_true,if_false]
   by_cases ht:(fN b p).1=textW
   ·have o1:qZ b p (cD b all p.ks)=[fU (lnN b p.bd)]:=by
     unfold qZ
     rw[if_neg (fun h=>h2 h.1),if_pos ht]
    simp only[show sEq (fN b p).1 [116,101,120,116]=true from lR ht,if_true]
    refine aB hC ?_
    simp only[dC]
    refine aB hN ?_
    simp only[aS,ca,List.length_append,List.length_cons,List.length_nil,Nat.reduceAdd,Nat.reduceLeDiff]
    exact tl (cD b all p.ks) hh (by rw[o1];simp[oJ])
   ·have o1:qZ b p (cD b all p.ks)=[]:=by
     unfold qZ
     rw[if_neg (fun h=>h2 h.1),if_neg ht]
    simp only[show sEq (fN b p).1 [116,101,120,116]=false from wW ht,Bool.false_eq_true,if_false]
    exact tl (cD b all p.ks) hh (by rw[o1];simp[oJ])
mutual
theorem GE (b:Bs) (hb:b.length≤1500) (all:Bool):∀p:Pt,mY p→BdP 100000 p→cntF p≤1000→tZ b all p
 | .mk k h bd ks cs e,hfit,hbd,hc=>NH b hb all (.mk k h bd ks cs e) hfit hbd hc (AC b hb all ks (by rw[mY]at hfit;exact hfit.2.2.2) (by rw[BdP]at hbd;exact hbd.2) (by rw[cntF]at hc;omega))
theorem AC (b:Bs) (hb:b.length≤1500) (all:Bool):∀ks:List Pt,rO ks→BdL 100000 ks→lG ks≤1000→∀q∈ks,tZ b all q
 |[],_,_,_=>by simp
 |p::r,hfit,hbd,hc=>by
  rw[rO]at hfit
  rw[BdL]at hbd
  rw[lG]at hc
  have h1:=GE b hb all p hfit.1 hbd.1 (by omega)
  have h2:=AC b hb all r hfit.2 hbd.2 (by omega)
  intro q hq
  rcases List.mem_cons.1 hq with rfl|hq
  ·exact h1
  ·exact h2 q hq
end
end Go.Proofs.YtdoaoaicdimbeaaGreatDoor
end
section
namespace Go.Proofs.YtdoaoaicdimbeaaGreatDoor
open Go.Ev Go
theorem FQ (b:Bs) (p:Pt) (all:Bool):∃w:Bs,Lib.join (fO b p all) [32]=[32]++w:=by
 unfold fO
 rw[List.cons_append,Lib.join_cons]
 exact⟨_,rfl⟩
theorem Hp (s u w:Bs) (hs:s=u++(w++[41])) (hn:s.length≤100000000000000):
  (if(decide (((List.length s:Nat):Int)>((List.length u:Nat):Int)))=true then
    chk (decide (0≤((List.length u:Nat):Int))) (chk (decide (((List.length u:Nat):Int)≤((List.length s:Nat):Int))) (chk (decide (0≤(0:Int))) (chk (decide ((0:Int)≤((List.length u:Nat):Int))) (if(sEq (List.drop (Int.toNat (0:Int)) (List.take (Int.toNat ((List.length u:Nat):Int)) s)) u)=true then
     chk (decide (0≤(IntKind.wrap IntKind.i64 (((List.length s:Nat):Int) - (1:Int))))) (chk (decide ((IntKind.wrap IntKind.i64 (((List.length s:Nat):Int) - (1:Int)))<((List.length s:Nat):Int))) (some (((UInt8.toNat (List.getD s (Int.toNat (IntKind.wrap IntKind.i64 (((List.length s:Nat):Int) - (1:Int)))) 0):Nat):Int)==(41:Int))))
    else
     some false))))
   else
    some false)=some true:=by
 have hl:s.length=u.length+w.length+1:=by rw[hs];simp;omega
 have hw:IntKind.wrap .i64 (((s.length:Nat):Int) - 1)=((u.length+w.length:Nat):Int):=by rw[wrap64 (by omega) (by omega)];omega
 have h1:((List.length s:Nat):Int)>((List.length u:Nat):Int):=by omega
 have h2:(0:Int)≤((List.length u:Nat):Int):=by omega
 have h3:((List.length u:Nat):Int)≤((List.length s:Nat):Int):=by omega
 have h4:(0:Int)≤((u.length+w.length:Nat):Int):=by omega
 have h5:((u.length+w.length:Nat):Int)<((List.length s:Nat):Int):=by omega
 have e1:List.drop (Int.toNat 0) (List.take u.length s)=u:=by rw[hs,List.take_left];rfl
 have e2:List.getD s (u.length+w.length) 0=41:=by
  rw[hs,List.getD_eq_getElem?_getD,List.getElem?_append_right (by omega),Nat.add_sub_cancel_left,List.getElem?_append_right (by omega),Nat.sub_self];rfl
 simp only[hw,h1,decide_true,if_true,aJ h2,aJ h3,aJ (show(0:Int)≤0 by omega),e1,lR rfl,aJ h4,aJ h5,Int.toNat_natCast,e2]
 rfl
theorem Mb (b:Bs) (hb:b.length≤1500) (all:Bool) (T:Pt) (h1:T.kd=1) (hf:(cD b all T.ks).flatten.length≤30000000000000) (hn:T.ks.length≤1000) (ih:∀q∈T.ks,tZ b all q):∀(n i:Nat),T.ks.length - i=n→i≤T.ks.length→
  Evt (fun k j=>L7 (aA cfg k) j (ofBytes b) all (pW b all T) (kJ b all T.ks i) (i:Nat) (T.kd:Nat) (T.hd.1:Nat) (T.hd.2:Nat) (T.bd.1:Nat) (T.bd.2:Nat) (T.ks.map partV) (T.cs.map cutV) (T.en.1:Nat) (T.en.2:Nat)) (.bool true,[])
 |0,i,h,hi=>by
  refine PQ (ofBytes b) all (pW b all T) (kJ b all T.ks i) (i:Nat) (T.kd:Nat) (T.hd.1:Nat) (T.hd.2:Nat) (T.bd.1:Nat) (T.bd.2:Nat) (T.ks.map partV) (T.cs.map cutV) (T.en.1:Nat) (T.en.2:Nat) ?_
  have g1:¬((i:Int)<(T.ks.length:Int)):=by omega
  have hle:=C2 b all T.ks i
  have ea:kJ b all T.ks i=[40]++(cD b all T.ks).flatten:=by unfold kJ;rw[List.take_of_length_le (by omega)]
  obtain⟨w,hw⟩:=FQ b T all
  have hjw:=(kG (fO b T all) [32] (by simp)).1
  have hmw:=AA b hb T all
  have hM:sN=13510000000:=rfl
  have es:pW b all T=(kJ b all T.ks i++[32])++(w++[41]):=by
   rw[Gx,FP,if_pos h1,hw,ea]
   simp only[List.append_assoc]
  have hls:(pW b all T).length≤100000000000000:=by
   have e2:(pW b all T).length=(kJ b all T.ks i).length+(Lib.join (fO b T all) [32]).length+1:=by
    rw[es,hw];simp only[List.length_append,List.length_cons,List.length_nil];omega
   omega
  have c1:bJ (kJ b all T.ks i) [32]=true:=eJ (by simp only[List.length_cons,List.length_nil];omega)
  simp only[JA,List.length_map,g1,decide_false,Bool.false_eq_true,if_false,bM c1]
  refine eR (v:=true) (Hp _ _ w es hls) ?_
  exact aD _
 |n+1,i,h,hi=>by
  have hlt:i<T.ks.length:=by omega
  refine PQ (ofBytes b) all (pW b all T) (kJ b all T.ks i) (i:Nat) (T.kd:Nat) (T.hd.1:Nat) (T.hd.2:Nat) (T.bd.1:Nat) (T.bd.2:Nat) (T.ks.map partV) (T.cs.map cutV) (T.en.1:Nat) (T.en.2:Nat) ?_
  have g1:((i:Int)<(T.ks.length:Int)):=by omega
  have g2:(0:Int)≤(i:Nat):=by omega
  have hw:IntKind.wrap .i64 (((i:Nat):Int)+1)=((i+1:Nat):Int):=by rw[wrap64 (by omega) (by omega)];omega
  have hle:=C2 b all T.ks (i+1)
  rw[qV b all hlt,List.length_append]at hle
  have c1:bJ (kJ b all T.ks i) (pW b all T.ks[i])=true:=eJ (by omega)
  simp only[JA,List.length_map,g1,decide_true,if_true,aJ g2,cK,Int.toNat_natCast,GB hlt,hw,jR]
  refine aB (ih T.ks[i] (List.getElem_mem hlt)) ?_
  simp only[aS,bM c1]
  rw[←qV b all hlt]
  exact Mb b hb all T h1 hf hn ih n (i+1) (by omega) (by omega)
theorem RV (b:Bs) (all:Bool):Ret 7 [.lst 5 false (ofBytes b), .bool all] [] (.bool true,[]):=by
 refine M7 (ofBytes b) all ?_
 simp only[T7]
 refine aB Pp ?_
 simp only[bA,Bool.not_true,Bool.false_eq_true,if_false,bC]
 by_cases hb:b.length≤1000
 ·have h1:¬(((b.length:Nat):Int)>1000):=by omega
  simp only[h1,decide_false,Bool.false_eq_true,if_false]
  have cT:=CO b 32 0 b.length false 1 (by omega)
  have cT2:=An b 32 0 b.length false 1
  have hfit:=Hn b 32 0 b.length false 1 (by omega) (Nat.le_refl _)
  have hbd:=Lj b 100000 (by omega) 32 0 b.length false 1 (by omega) (Nat.le_refl _)
  have hP:=LP b (by omega)
  generalize(dZ b 32 0 b.length false 1).1=T at*
  have hput:=GE b (by omega) all T hfit hbd (by omega)
  refine aB hP ?_
  simp only[bV,List.headD_cons,jR,FC,List.tail_cons,dC,bF]
  by_cases hk:T.kd=1
  ·have q1:(((T.kd:Nat):Int) != (1:Int))=false:=by rw[hk];rfl
   have hcl:lG T.ks+1=cntF T:=by cases T;rw[cntF];simp only[Pt.ks];omega
   have hkn:=Al T.ks
   have hsub:(cD b all T.ks).flatten.length≤putK*lG T.ks:=tY b (by omega) all T.ks (by cases T;rw[BdP]at hbd;exact hbd.2)
   have hsub2:(cD b all T.ks).flatten.length≤30000000000000:=Nat.le_trans hsub (Nat.le_trans (Nat.mul_le_mul_left _ (show lG T.ks≤1000 by omega)) (by decide))
   have ih:∀q∈T.ks,tZ b all q:=AC b (by omega) all T.ks (by cases T;rw[mY]at hfit;exact hfit.2.2.2) (by cases T;rw[BdP]at hbd;exact hbd.2) (by omega)
   simp only[q1,Bool.false_eq_true,if_false,eL]
   refine aB hput ?_
   simp only[aS]
   have e0:[40]=kJ b all T.ks 0:=by unfold kJ;rw[List.take_zero,cD];rfl
   rw[e0]
   exact Mb b (by omega) all T hk hsub2 (by omega) ih _ 0 rfl (by omega)
  ·have q1:(((T.kd:Nat):Int) != (1:Int))=true:=by
    have:¬(((T.kd:Nat):Int)=1):=by omega
    simpa using this
   simp only[q1,if_true]
   exact aD _
 ·have h1:(((b.length:Nat):Int)>1000):=by omega
  simp only[h1,decide_true,if_true]
  exact aD _
end Go.Proofs.YtdoaoaicdimbeaaGreatDoor
end
section
namespace Go.Proofs.YtdoaoaicdimbeaaGreatDoor
open Go.ChangeShapes Go.WideShapes Go.ChangeAt Go.RowKit Go.Ev
theorem cells5:Tryz.prog.cellsOf 5=1:=by kernel_rfl
theorem JH:aF cfg 5=1:=by kernel_rfl
theorem PT (n:Int):bW cfg 5 (.int .u8 n)=true:=by kernel_rfl
theorem Ll (zs:List Int):flat (zs.map (Value.int .u8))=zs.map (Value.int .u8):=by
 induction zs with
 |nil=>rfl
 |cons z zs ih=>simp only[flat,List.map_cons,List.flatMap_cons,Value.cells]at ih ⊢;rw[ih];rfl
theorem EH {P:Program} {w:World} {r:Reach} {base:Nat} {t e:TypeId} {a:Addr} {len cap:Nat} (ht:P.underlying t=some (.slice e)) (h:Value.okWide P w r base t (.slice (some a) len cap)):a.block<w.heap.size:=by
 simp only[Value.okWide,ht,Cell.okWide,Cell.ok]at h
 obtain⟨_,_,_,_,row,cells,hs,_⟩:=h
 unfold World.shape? at hs
 by_cases hb:a.block<w.heap.size
 ·exact hb
 ·rw[Array.getElem?_eq_none (by omega)]at hs
  simp at hs
set_option maxRecDepth 100000 in
theorem JI {H:Type} {enc:TypeId×Value→H} {W:World} {base:Nat} {v:Value} {d:DataW H} {p:List MemPlace} (hval:Value.okWide Tryz.prog W .any base 40 v)
  (h:DataW.Trod enc Tryz.prog W 0 (fun _=>true) true 40 v d p):
  ∃vs:List UInt8,Rep cfg W (rI W) [] (.lst 5 false (ofBytes vs)) v∧
   ∀W',Kept W W'→∀sp:Nat→Bool,(∀x∈p,sp x.block=true)→DataW.Trod enc Tryz.prog W' 0 sp true 40 v d p:=by
 obtain⟨a1,len,cap,rfl⟩:=okWide_slice Tryz.underlying40 hval
 obtain⟨fuel,hf⟩:=h
 rcases open_ints Tryz.underlying40 Tryz.underlying5 cells5 hf with⟨hcs,hx⟩|⟨a,len',cap',zs,hcs,_,hl,hm,hz,hx,hcell,hwz⟩
 ·simp[Value.cells]at hcs
  obtain⟨rfl,rfl,rfl⟩:=hcs
  simp only[Prod.mk.injEq]at hx
  obtain⟨rfl,rfl⟩:=hx
  refine⟨[],?_,fun W' _ sp _=>shut_slice_nil Tryz.underlying40⟩
  exact Rep.lst 5 false [] none 0 [] rfl (fun i v x h=>by simp at h) (fun v h=>by cases h) (fun x h=>by cases h) (by rw[JH];omega) (Nat.le_refl _) ⟨fun _=>rfl,fun p h=>by cases h⟩ (fun p h=>by cases h)
 ·simp[Value.cells]at hcs
  obtain⟨rfl,rfl,rfl⟩:=hcs
  simp only[Prod.mk.injEq]at hx
  obtain⟨rfl,rfl⟩:=hx
  have hblk:a.block<W.heap.size:=EH Tryz.underlying40 hval
  have hsn:some a=none→cap=0:=fun h=>by cases h
  have hsb:∀p,some a=some p→p.block<W.heap.size:=fun p hp=>by cases hp;exact hblk
  simp only[if_true]at hz
  have hrng:∀n∈zs,0≤n∧n<256:=fun n hn=>by have:=bounds_u8 (hwz n hn);omega
  refine⟨(zs.take len).map fun n=>UInt8.ofNat n.toNat,?_,fun W' hk sp hsp=>?_⟩
  ·have hxs:ofBytes ((zs.take len).map fun n=>UInt8.ofNat n.toNat)=(zs.take len).map (V.int .u8):=by
    unfold ofBytes
    rw[List.map_map]
    refine List.map_congr_left fun n hn=>?_
    have:=hrng n (List.mem_of_mem_take hn)
    simp only[Function.comp,UInt8.toNat_ofNat']
    congr 1
    omega
   have hlen:(ofBytes ((zs.take len).map fun n=>UInt8.ofNat n.toNat)).length=len:=by rw[hxs];simp;omega
   have:=Rep.lst (c:=cfg) (w:=W) (G:=rI W) (μ:=[]) 5 false (ofBytes ((zs.take len).map fun n=>UInt8.ofNat n.toNat)) (some a) cap ((zs.take len).map (Value.int .u8)) (by rw[hlen];simp;omega) (fun i v x hv hx=>by
     rw[hxs]at hv
     obtain⟨n,h1,rfl⟩:=bR hv
     obtain⟨n',h2,rfl⟩:=bR hx
     rw[h1]at h2;cases h2
     exact .int _ _) (fun v hv=>by
     rw[hxs]at hv
     obtain⟨n,_,rfl⟩:=List.mem_map.1 hv
     exact PT n) (fun x hx=>by
     obtain⟨n,_,rfl⟩:=List.mem_map.1 hx
     rw[JH];rfl) (by rw[JH];omega) (by rw[hlen];exact hl) ⟨hsn,hsb⟩ (fun p hp hne=>by
     cases hp
     have hl0:0<len:=by
      rcases Nat.eq_zero_or_pos len with h0|h0
      ·exact absurd (List.eq_nil_of_length_eq_zero (hlen.trans h0)) hne
      ·exact h0
     obtain⟨ab,ao,spot⟩:=a
     have hspot:spot=none:=by simpa[Addr.add]using World.cell?_spot (hcell 0 (by omega))
     subst hspot
     refine⟨rfl,?_⟩
     rw[Ll]
     refine Ff fun j x hj=>?_
     have hjl:=(List.getElem?_eq_some_iff.1 hj).1
     rw[List.length_map,List.length_take]at hjl
     have hjl:j<len∧j<zs.length:=by omega
     have hc:=hcell j (by omega)
     rw[Addr.add_lit]at hc
     rw[hc]
     rw[List.getElem?_map,List.getElem?_take,if_pos hjl.1,List.getElem?_eq_getElem hjl.2]at hj
     simp at hj
     rw[←hj];simp[List.getD,hjl.2])
   rw[hlen]at this
   exact this
  ·have hzl:zs.length=(if sp a.block then cap else len):=by
    rcases Nat.eq_zero_or_pos zs.length with h0|h0
    ·split<;>omega
    ·have:sp a.block=true:=hsp (.cell a.block (a.off+0)) (by simp only[MemPlace.row,List.mem_map,List.mem_range];exact⟨0,h0,rfl⟩)
     rw[if_pos this];exact hz
   exact⟨2,shut_ints 0 Tryz.underlying40 Tryz.underlying5 cells5 (Nat.zero_le _) hl hm hzl (fun i hi=>hk.cell _ _ (hcell i hi)) hwz⟩
end Go.Proofs.YtdoaoaicdimbeaaGreatDoor
end
