/- Lemmas for the claim, merged: the plain reading of the program's functions, its soundness, and what they compute. -/
import Derived.Test.YtdoaoaicdimbeaaGreatDoorPkE
import Derived.KernelRfl
import Derived.ChangeSlices
set_option linter.all false
set_option linter.unusedVariables false
set_option linter.unusedSimpArgs false
section
namespace Go.Proofs.YtdoaoaicdimbeaaGreatDoor
open Go.Ev Go
abbrev Ad:=Int×Bs×Bs×Bs
def adV (a:Ad):V:= .agg [.int .i64 a.1, .str a.2.1, .str a.2.2.1, .str a.2.2.2]
def aw1 (a:Ad):Nat:=a.2.1.length+a.2.2.1.length+a.2.2.2.length+1
def ow (o:List Ad):Nat:=(o.map aw1).sum
theorem BG (l m:List Ad):ow (l++m)=ow l+ow m:=by simp[ow]
theorem BH (a:Ad):ow [a]=aw1 a:=by simp[ow]
theorem Eh:∀l:List Ad,l.length≤ow l
 |[]=>by simp
 |p::r=>by
  have:=Eh r
  have e:ow (p::r)=aw1 p+ow r:=by simp[ow]
  have:1≤aw1 p:=by simp[aw1]
  rw[e,List.length_cons];omega
def stO (l:List Pc) (o:List Ad):Ob:= .cells [.lst 213 false (l.map pcV), .lst 26 true (o.map adV)]
theorem dR (l:List Pc) (o:List Ad):Ob.getC (stO l o)=[.lst 213 false (l.map pcV), .lst 26 true (o.map adV)]:=rfl
theorem dS (l:List Pc) (o:List Ad):Ob.cells [.lst 213 false (l.map pcV), .lst 26 true (o.map adV)]=stO l o:=rfl
theorem hd0 (x:V) (xs:List V):List.getD (x::xs) (Int.toNat 0) V.bot=x:=rfl
theorem tl1 (x:V) (xs:List V):List.drop (Int.toNat 1) (x::xs)=xs:=rfl
theorem AW (t:Go.TypeId) (v:V):V.ifT (.ifc t v)=t:=rfl
theorem HN (t:Go.TypeId) (v:V):V.ifV (.ifc t v)=v:=rfl
theorem JR (s:Bs):bU cfg 183 (.str s)=true:=by kernel_rfl
theorem Nf (c:UInt8):bU cfg 182 (.int .u8 (c.toNat:Nat))=true:=by kernel_rfl
theorem Ng (c:UInt8):CSh.fits (CSh.int IntKind.u8) (.int .u8 (c.toNat:Nat))=true:=rfl
def wz (ws:List Bs):Nat:=(ws.map fun w=>w.length+1).sum
theorem La (l m:List Bs):wz (l++m)=wz l+wz m:=by simp[wz]
theorem Lb (a:Bs):wz [a]=a.length+1:=by simp[wz]
theorem mK:∀ws:List Bs,wz ws=Lib.lens ws+ws.length
 |[]=>rfl
 |w::r=>by
  have:=mK r
  simp only[wz,Lib.lens,List.map_cons,List.sum_cons,List.length_cons]at this ⊢;omega
theorem vN (ws:List Bs) (s:Bs) (hs:s.length≤1):(Lib.join ws s).length≤wz ws∧(¬ws=[]→(Lib.join ws s).length+1≤wz ws):=by
 cases ws with
 |nil=>simp[Lib.join]
 |cons w r=>
  rw[Lib.join_length,mK]
  have:s.length*r.length≤1*r.length:=Nat.mul_le_mul_right _ hs
  simp only[List.length_cons]
  exact⟨by omega,fun _=>by omega⟩
theorem oY (ws:List Bs) (s:Bs) (h1:ws.length≤100000000) (h2:(Lib.join ws s).length≤100000000000000):Ret 85 [.lst 9 false (ws.map V.str), .str s] [] (.str (Lib.join ws s),[]):=by
 have hm:(ws.map V.str).map V.getS=ws:=by rw[List.map_map];exact(List.map_congr_left fun x _=>rfl).trans (List.map_id ws)
 refine gB (h:=xG) (by kernel_rfl) ?_
 simp only[xG,hm,List.length_map]
 rw[if_pos ⟨by omega,by omega⟩]
def isE (c:Int) (l:List Pc) (o:List Ad) (r:V×List Ob):Prop:=∃(b:Bool) (l' :List Pc),r=(.bool b,[stO l' o])∧pw l'≤pw l∧(b=true→pw l' +1≤pw l)∧∀d t,l= .g d::t→((d.toNat:Nat):Int)=c→b=true
theorem kN (l:List Pc) (o:List Ad) (c:Int):mJ 110 [.ref 0 0, .int .u8 c] [stO l o] (isE c l o):=by
 refine iF (fun _ h=>O5 (l.map pcV) (o.map adV) c h) ?_
 cases l with
 |nil=>
  have z:(((([]:List Pc).map pcV).length:Nat):Int)==0:=rfl
  simp only[Fw,z,if_true]
  exact aU ⟨false,[],rfl,Nat.le_refl _,by simp,fun d t h=>by cases h⟩
 |cons p t=>
  have h0:(0:Int)<(((pcV p::t.map pcV).length:Nat):Int):=by simp only[List.length_cons];omega
  have h1:(1:Int)≤(((pcV p::t.map pcV).length:Nat):Int):=by simp only[List.length_cons];omega
  have z:((((pcV p::t.map pcV).length:Nat):Int)==0)=false:=by
   have:¬(((pcV p::t.map pcV).length:Nat):Int)=0:=by omega
   simpa using this
  simp only[Fw,List.map_cons,z,Bool.false_eq_true,if_false,aI (show(0:Int)≤0 by omega),aI (show(0:Int)≤1 by omega),aI h0,aI h1,hd0,tl1]
  cases p with
  |w s=>
   have e:((183:Go.TypeId)==(182:Go.TypeId))=false:=by decide
   simp only[pcV,AW,e,Bool.false_eq_true,if_false]
   exact aU ⟨false, .w s::t,rfl,Nat.le_refl _,by simp,fun d t h=>by cases h⟩
  |g d=>
   simp only[pcV,AW,beq_self_eq_true,if_true,HN,cG (Nf d),gK]
   refine bZ (fun hc=>?_) (fun hc=>?_)
   ·exact aU ⟨true,t,rfl,by rw[iI];omega,fun _=>by rw[iI];simp only[pw1];omega,fun _ _ _ _=>rfl⟩
   ·refine aU ⟨false, .g d::t,rfl,Nat.le_refl _,by simp,fun d' t' h h' =>?_⟩
    cases h
    exact absurd (by simpa using h') hc
def Lc (l:List Pc) (o:List Ad) (r:V×List Ob):Prop:=∃(ws:List Bs) (l' :List Pc),r=(.lst 9 false (ws.map V.str),[stO l' o])∧wz ws+pw l'≤pw l
theorem EL (o:List Ad) (m:Nat) (hm:m≤5000000):∀(l:List Pc) (ws:List Bs),wz ws+pw l≤m→
  EvE (fun k j=>zR (aA cfg k) j (ws.map V.str) (l.map pcV) (o.map adV)) (fun r=>∃(ws:List Bs) (l' :List Pc),r=(.lst 9 false (ws.map V.str),[stO l' o])∧wz ws+pw l'≤m)
 |[],ws,h=>by
  refine rU (fun _ h=>HD (ws.map V.str) (([]:List Pc).map pcV) (o.map adV) h) ?_
  have z:¬((((([]:List Pc).map pcV).length:Nat):Int)>0):=by simp
  simp only[yT,z,decide_false,Bool.false_eq_true,if_false]
  exact aU ⟨ws,[],rfl,h⟩
 |p::t,ws,h=>by
  refine rU (fun _ h=>HD (ws.map V.str) ((p::t).map pcV) (o.map adV) h) ?_
  have h0:(0:Int)<(((pcV p::t.map pcV).length:Nat):Int):=by simp only[List.length_cons];omega
  have h0' :(((pcV p::t.map pcV).length:Nat):Int)>0:=h0
  have h1:(1:Int)≤(((pcV p::t.map pcV).length:Nat):Int):=by simp only[List.length_cons];omega
  have hl:=mK ws
  have ap:∀v:V,bO (ws.map V.str) [v] 17=true:=fun v=>iZ (by simp only[List.length_map,List.length_cons,List.length_nil];omega)
  simp only[yT,List.map_cons,h0',decide_true,if_true,aI (show(0:Int)≤0 by omega),aI (show(0:Int)≤1 by omega),aI h0,aI h1,hd0,tl1,cG (ap _)]
  cases p with
  |g d=>
   have e:((182:Go.TypeId)==(183:Go.TypeId))=false:=by decide
   simp only[pcV,AW,e,Bool.false_eq_true,if_false]
   exact aU ⟨ws, .g d::t,rfl,h⟩
  |w s=>
   have aw:ws.map V.str++[.str s]=(ws++[s]).map V.str:=by simp
   simp only[pcV,AW,beq_self_eq_true,if_true,HN,cG (JR s),dZ,aw]
   exact EL o m hm t (ws++[s]) (by rw[La,Lb];rw[iI]at h;simp only[pw1]at h;omega)
theorem EM (l:List Pc) (o:List Ad) (hm:pw l≤5000000):mJ 138 [.ref 0 0] [stO l o] (Lc l o):=by
 refine iF (fun _ h=>O8 (l.map pcV) (o.map adV) h) ?_
 simp only[HB]
 exact EL o (pw l) hm l [] (by simp[wz])
def Nh (l:List Pc) (o:List Ad) (r:V×List Ob):Prop:=∃(h:Bs) (ok:Bool) (l' :List Pc),r=(.tup [.str h, .bool ok],[stO l' o])∧h.length+pw l'≤pw l∧∀t,l= .g 64::t→h.length+pw l' +1≤pw l
theorem BI (l:List Pc) (o:List Ad):mJ 140 [.ref 0 0] [stO l o] (Nh l o):=by
 refine iF (fun _ h=>Pb (l.map pcV) (o.map adV) h) ?_
 simp only[HE,dS]
 refine bA (kN l o 64) ?_
 rintro _ ⟨b,l',rfl,g1,g2,g3⟩
 dsimp+instances only[bK,List.headD_cons,List.tail_cons,dR,bQ]
 cases b with
 |false=>
  simp only[Bool.not_false,if_true]
  refine aU ⟨[],true,l',rfl,by simpa using g1,fun t h=>?_⟩
  exact absurd (g3 64 t h rfl) (by simp)
 |true=>
  have g2:=g2 rfl
  simp only[Bool.not_true,Bool.false_eq_true,if_false]
  cases l' with
  |nil=>
   have z:((((([]:List Pc).map pcV).length:Nat):Int)==0)=true:=rfl
   simp only[z,if_true]
   exact aU ⟨[],false,[],rfl,by simpa using g1,fun t _=>by simpa using g2⟩
  |cons p t=>
   have h0:(0:Int)<(((pcV p::t.map pcV).length:Nat):Int):=by simp only[List.length_cons];omega
   have h1:(1:Int)≤(((pcV p::t.map pcV).length:Nat):Int):=by simp only[List.length_cons];omega
   have z:((((pcV p::t.map pcV).length:Nat):Int)==0)=false:=by
    have:¬(((pcV p::t.map pcV).length:Nat):Int)=0:=by omega
    simpa using this
   simp only[List.map_cons,z,Bool.false_eq_true,if_false,aI (show(0:Int)≤0 by omega),aI (show(0:Int)≤1 by omega),aI h0,aI h1,hd0,tl1]
   rw[iI]at g1 g2
   cases p with
   |g d=>
    have e:((182:Go.TypeId)==(183:Go.TypeId))=false:=by decide
    simp only[pcV,AW,e,Bool.false_eq_true,if_false]
    exact aU ⟨[],false, .g d::t,rfl,by rw[iI];simpa using g1,fun t _=>by rw[iI];simpa using g2⟩
   |w s=>
    simp only[pw1]at g1 g2
    simp only[pcV,AW,beq_self_eq_true,if_true,HN,cG (JR s),dZ]
    exact aU ⟨s,true,t,rfl,by omega,fun t _=>by omega⟩
def Ld (l:List Pc) (o:List Ad) (r:V×List Ob):Prop:=∃(b:Bool) (l' :List Pc),r=(.bool b,[stO l' o])∧pw l'≤pw l
theorem Jg (o:List Ad):∀(m:Nat) (l:List Pc) (b:Bool),pw l=m→
  EvE (fun k j=>zT (aA cfg k) j b (l.map pcV) (o.map adV)) (Ld l o):=by
 intro m
 induction m using Nat.strongRecOn with
 |_ m ih=>
  intro l b hm
  refine rU (fun _ h=>K5 b (l.map pcV) (o.map adV) h) ?_
  have done:EvE (fun(k _:Nat)=>if(!b)=false then Option.bind (aA cfg k 110 [.ref 0 0, .int .u8 58] [stO l o]) fun z0=>
     some ((V.bool (V.getB z0.1)),[(Ob.cells [(V.lst 213 false (V.getL (List.headD (Ob.getC (List.headD z0.2 Ob.dead)) V.bot))),(V.lst 26 true (V.getL (List.headD (List.tail (Ob.getC (List.headD z0.2 Ob.dead))) V.bot)))])])
    else some ((V.bool true),[stO l o])) (Ld l o):=by
   refine bZ (fun _=>?_) (fun _=>?_)
   ·refine bA (kN l o 58) ?_
    rintro _ ⟨b,l',rfl,g1,g2,g3⟩
    exact aU ⟨b,l',rfl,g1⟩
   ·exact aU ⟨true,l,rfl,Nat.le_refl _⟩
  cases l with
  |nil=>
   have z:¬((((([]:List Pc).map pcV).length:Nat):Int)>0):=by simp
   simp only[yU,z,decide_false,Bool.false_eq_true,if_false,dS]
   exact done
  |cons p t=>
   have h0:(0:Int)<((((p::t).map pcV).length:Nat):Int):=by simp only[List.map_cons,List.length_cons];omega
   have h0' :((((p::t).map pcV).length:Nat):Int)>0:=h0
   have hd:List.getD ((p::t).map pcV) (Int.toNat 0) V.bot=pcV p:=rfl
   simp only[yU,h0',decide_true,if_true,aI (show(0:Int)≤0 by omega),aI h0,hd,dS]
   cases p with
   |w s=>
    have e:((183:Go.TypeId)==(182:Go.TypeId))=false:=by decide
    have e2:V.ifT (pcV (.w s))=183:=rfl
    simp only[e2,e,Bool.false_eq_true,if_false]
    exact done
   |g d=>
    have e2:V.ifT (pcV (.g d))=182:=rfl
    have e3:V.ifV (pcV (.g d))= .int .u8 ((d.toNat:Nat):Int):=rfl
    refine bZ (fun _=>?_) (fun hc=>absurd rfl hc)
    refine bZ (fun _=>?_) (fun hc=>absurd (by rw[e2];decide) hc)
    simp only[e3,cG (Ng d),gK]
    refine bZ (fun hc=>?_) (fun hc=>?_)
    ·have hd:d=64:=by
      have:((d.toNat:Nat):Int)=64:=by simpa using hc
      exact UInt8.toNat.inj (by show d.toNat=64;omega)
     subst hd
     refine bA (BI (.g 64::t) o) ?_
     rintro _ ⟨h,ok,l',rfl,g1,g2⟩
     have g2:=g2 t rfl
     dsimp+instances only[bK,List.headD_cons,List.tail_cons,dR,bQ,fD]
     refine bZ (fun _=>?_) (fun _=>?_)
     ·exact aU ⟨false,l',rfl,by omega⟩
     ·simp only[dS]
      refine bA (kN l' o 44) ?_
      rintro _ ⟨b',l'',rfl,k1,k2,k3⟩
      dsimp+instances only[bK,List.headD_cons,List.tail_cons,dR,bQ]
      refine rV (ih _ (by omega) l'' true rfl) ?_
      rintro r ⟨b3,l3,rfl,hp⟩
      exact⟨b3,l3,rfl,by omega⟩
    ·exact done
theorem Jh (l:List Pc) (o:List Ad):mJ 160 [.ref 0 0] [stO l o] (Ld l o):=by
 refine iF (fun _ h=>Pf (l.map pcV) (o.map adV) h) ?_
 simp only[HH]
 exact Jg o _ l false rfl
def rW (m:Nat) (r:V×List Ob):Prop:=∃(b:Bool) (l' :List Pc) (o' :List Ad),r=(.bool b,[stO l' o'])∧pw l' +ow o'≤m
theorem vO (o:List Ad) (a:Ad):o.map adV++[.agg [.int .i64 a.1, .str a.2.1, .str a.2.2.1, .str a.2.2.2]]=(o++[a]).map adV:=by simp[adV]
theorem out_ok (o:List Ad) (h:ow o≤5000000) (v:V):bO (o.map adV) [v] 57=true:=iZ (by
 have:=Eh o
 simp only[List.length_map,List.length_cons,List.length_nil];omega)
theorem Ji (l:List Pc) (o:List Ad) (ws:List Bs) (hm:wz ws+pw l+ow o≤5000000):mJ 139 [.ref 0 0, .lst 9 false (ws.map V.str)] [stO l o] (rW (wz ws+pw l+ow o)):=by
 refine iF (fun _ h=>Pi (l.map pcV) (o.map adV) (ws.map V.str) h) ?_
 simp only[HI,dS]
 refine bA (Jh l o) ?_
 rintro _ ⟨b,l1,rfl,g1⟩
 dsimp+instances only[bK,List.headD_cons,List.tail_cons,dR,bQ]
 refine bZ (fun _=>?_) (fun _=>?_)
 ·exact aU ⟨false,l1,o,rfl,by omega⟩
 simp only[dS]
 refine bA (EM l1 o (by omega)) ?_
 rintro _ ⟨lw,l2,rfl,g2⟩
 dsimp+instances only[bK,List.headD_cons,List.tail_cons,dR,bQ]
 simp only[dS]
 refine bA (BI l2 o) ?_
 rintro _ ⟨h,ok,l3,rfl,g3,_⟩
 dsimp+instances only[bK,List.headD_cons,List.tail_cons,dR,bQ,fD,dZ]
 refine bZ (fun _=>?_) (fun _=>?_)
 ·refine bZ (fun hw=>?_) (fun _=>?_)
  ·have hw:¬lw=[]:=by rintro rfl;exact absurd hw (by decide)
   simp only[dS]
   refine bA (kN l3 o 62) ?_
   rintro _ ⟨b,l4,rfl,g4,g5,_⟩
   dsimp+instances only[bK,List.headD_cons,List.tail_cons,dR,bQ]
   cases b with
   |false=>
    simp only[Bool.not_false,if_true]
    exact aU ⟨false,l4,o,rfl,by omega⟩
   |true=>
    have g5:=g5 rfl
    obtain⟨j1,_⟩:=vN ws [32] (by simp)
    obtain⟨_,j2⟩:=vN lw [] (by simp)
    have j2:=j2 hw
    have w1:=mK ws
    have w2:=mK lw
    simp only[Bool.not_true,Bool.false_eq_true,if_false,cG (out_ok o (by omega) _)]
    refine gP (oY ws [32] (by omega) (by omega)) ?_
    refine gP (oY lw [] (by omega) (by omega)) ?_
    refine aU ⟨true,l4,o++[(0,Lib.join ws [32],Lib.join lw [],h)],by rw[stO,←vO];rfl,?_⟩
    rw[BG,BH]
    simp only[aw1]
    omega
  ·exact aU ⟨false,l3,o,rfl,by omega⟩
 ·exact aU ⟨false,l3,o,rfl,by omega⟩
theorem Dd (l:List Pc) (o:List Ad) (ws:List Bs) (m:Nat) (hm:m≤5000000) (hw:wz ws+pw l+ow o≤m):
  EvE (fun(k _:Nat)=>if(((List.length (ws.map V.str):Nat):Int)==(0:Int))=true then some ((V.bool true),[stO l o])
   else
    Option.bind (aA cfg k 140 [(V.ref 0 0)] [stO l o]) fun z2=>
    Option.bind (aA cfg k 85 [(V.lst 9 false (ws.map V.str)),(V.str [])] []) fun z3=>
    chk (bO (V.getL (List.headD (List.tail (Ob.getC (List.headD z2.2 Ob.dead))) V.bot)) [(V.agg [(V.int IntKind.i64 (0:Int)),(V.str []),(V.str (V.getS z3.1)),(V.str (V.getS (List.headD (V.getT z2.1) V.bot)))])] 57) (some ((V.bool (V.getB (List.headD (List.tail (V.getT z2.1)) V.bot))),[(Ob.cells [(V.lst 213 false (V.getL (List.headD (Ob.getC (List.headD z2.2 Ob.dead)) V.bot))),(V.lst 26 true ((V.getL (List.headD (List.tail (Ob.getC (List.headD z2.2 Ob.dead))) V.bot))++[(V.agg [(V.int IntKind.i64 (0:Int)),(V.str []),(V.str (V.getS z3.1)),(V.str (V.getS (List.headD (V.getT z2.1) V.bot)))])]))])]))) (rW m):=by
 refine bZ (fun _=>?_) (fun h0=>?_)
 ·exact aU ⟨true,l,o,rfl,by omega⟩
 ·have hne:¬ws=[]:=by rintro rfl;exact h0 rfl
  refine bA (BI l o) ?_
  rintro _ ⟨h,ok,l3,rfl,g3,_⟩
  obtain⟨_,j2⟩:=vN ws [] (by simp)
  have j2:=j2 hne
  have w1:=mK ws
  refine gP (oY ws [] (by omega) (by omega)) ?_
  dsimp+instances only[bK,List.headD_cons,List.tail_cons,dR,bQ,fD,dZ]
  simp only[cG (out_ok o (by omega) _)]
  refine aU ⟨ok,l3,o++[(0,[],Lib.join ws [],h)],by rw[stO,←vO],?_⟩
  rw[BG,BH]
  simp only[aw1,List.length_nil]
  omega
theorem EN (within:Bool) (hit:within=false→∀(l:List Pc) (o:List Ad),pw l+ow o≤5000000→mJ 72 [.ref 0 0, .bool true] [stO l o] (rW (pw l+ow o)))
  (l:List Pc) (o:List Ad) (hm:pw l+ow o≤5000000):mJ 109 [.ref 0 0, .bool within] [stO l o] (rW (pw l+ow o)):=by
 refine iF (fun _ h=>Pl (l.map pcV) (o.map adV) within h) ?_
 simp only[HK,dS]
 refine bA (EM l o (by omega)) ?_
 rintro _ ⟨ws,l1,rfl,g1⟩
 dsimp+instances only[bK,List.headD_cons,List.tail_cons,dR,bQ]
 simp only[dS]
 refine bA (kN l1 o 60) ?_
 rintro _ ⟨b,l2,rfl,g2,g3,_⟩
 dsimp+instances only[bK,List.headD_cons,List.tail_cons,dR,bQ]
 simp only[dS]
 refine bZ (fun _=>?_) (fun _=>?_)
 ·refine bA (Ji l2 o ws (by omega)) ?_
  rintro _ ⟨b,l3,o3,rfl,g4⟩
  exact aU ⟨b,l3,o3,rfl,by omega⟩
 ·cases within with
  |true=>
   simp only[Bool.not_true,Bool.false_eq_true,if_false]
   exact Dd l2 o ws _ hm (by omega)
  |false=>
   simp only[Bool.not_false,if_true]
   refine bA (kN l2 o 58) ?_
   rintro _ ⟨b,l3,rfl,g4,g5,_⟩
   dsimp+instances only[bK,List.headD_cons,List.tail_cons,dR,bQ]
   cases b with
   |false=>
    simp only[Bool.false_eq_true,if_false,dS]
    exact Dd l3 o ws _ hm (by omega)
   |true=>
    have g5:=g5 rfl
    obtain⟨j1,_⟩:=vN ws [32] (by simp)
    have w1:=mK ws
    simp only[if_true,cG (out_ok o (by omega) _)]
    refine gP (oY ws [32] (by omega) (by omega)) ?_
    dsimp+instances only[dZ]
    have e1:=vO o (1,Lib.join ws [32],[],[])
    dsimp only at e1
    simp only[e1,dS]
    have ho:ow (o++[(1,Lib.join ws [32],[],[])])=ow o+(Lib.join ws [32]).length+1:=by
     rw[BG,BH];simp only[aw1,List.length_nil];omega
    refine bA (hit rfl l3 (o++[(1,Lib.join ws [32],[],[])]) (by omega)) ?_
    rintro _ ⟨b,l4,o4,rfl,g6⟩
    dsimp+instances only[bK,List.headD_cons,List.tail_cons,dR,bQ]
    refine bZ (fun _=>?_) (fun _=>?_)
    ·simp only[dS]
     refine bA (kN l4 o4 59) ?_
     rintro _ ⟨b,l5,rfl,g7,g8,_⟩
     dsimp+instances only[bK,List.headD_cons,List.tail_cons,dR,bQ]
     cases b with
     |false=>
      simp only[Bool.not_false,if_true]
      exact aU ⟨false,l5,o4,rfl,by omega⟩
     |true=>
      have g8:=g8 rfl
      simp only[Bool.not_true,Bool.false_eq_true,if_false,cG (out_ok o4 (by omega) _)]
      refine aU ⟨true,l5,o4++[(2,[],[],[])],by rw[stO,←vO],?_⟩
      rw[BG,BH]
      simp only[aw1,List.length_nil]
      omega
    ·exact aU ⟨false,l4,o4,rfl,by omega⟩
theorem HO (b:Bool) (hit:∀(l:List Pc) (o:List Ad),pw l+ow o≤5000000→mJ 109 [.ref 0 0, .bool b] [stO l o] (rW (pw l+ow o))):
  ∀(m:Nat) (l:List Pc) (o:List Ad),pw l+ow o=m→pw l+ow o≤5000000→EvE (fun k j=>L72 (aA cfg k) j b (l.map pcV) (o.map adV)) (rW (pw l+ow o)):=by
 intro m
 induction m using Nat.strongRecOn with
 |_ m ih=>
  intro l o h hm
  refine rU (fun _ h=>Nb b (l.map pcV) (o.map adV) h) ?_
  simp only[EK,dS]
  refine bA (hit l o hm) ?_
  rintro _ ⟨b1,l1,o1,rfl,g1⟩
  dsimp+instances only[bK,List.headD_cons,List.tail_cons,dR,bQ]
  refine bZ (fun _=>?_) (fun _=>?_)
  ·exact aU ⟨false,l1,o1,rfl,g1⟩
  simp only[dS]
  refine bA (kN l1 o1 44) ?_
  rintro _ ⟨b2,l2,rfl,g2,g3,_⟩
  dsimp+instances only[bK,List.headD_cons,List.tail_cons,dR,bQ]
  cases b2 with
  |false=>
   simp only[Bool.not_false,if_true]
   exact aU ⟨true,l2,o1,rfl,by omega⟩
  |true=>
   have g3:=g3 rfl
   simp only[Bool.not_true,Bool.false_eq_true,if_false]
   refine rV (ih _ (by omega) l2 o1 rfl (by omega)) ?_
   rintro r ⟨b3,l3,o3,rfl,hp⟩
   exact⟨b3,l3,o3,rfl,by omega⟩
theorem AX (b:Bool) (hit:∀(l:List Pc) (o:List Ad),pw l+ow o≤5000000→mJ 109 [.ref 0 0, .bool b] [stO l o] (rW (pw l+ow o)))
  (l:List Pc) (o:List Ad) (hm:pw l+ow o≤5000000):mJ 72 [.ref 0 0, .bool b] [stO l o] (rW (pw l+ow o)):=by
 refine iF (fun _ h=>M72 (l.map pcV) (o.map adV) b h) ?_
 simp only[T72]
 exact HO b hit _ l o rfl hm
theorem Le (l:List Pc) (o:List Ad) (hm:pw l+ow o≤5000000):mJ 72 [.ref 0 0, .bool false] [stO l o] (rW (pw l+ow o)):=
 AX false (EN false fun _=>AX true (EN true fun h=>by cases h)) l o hm
def JS (s:Bs) (r:V×List Ob):Prop:=∃(o:List Ad) (ok:Bool),r=(.tup [.lst 26 false (o.map adV), .bool ok],[])∧ow o≤2*s.length
theorem Lf (s:Bs) (hs:s.length≤1000000):mJ 35 [.str s] [] (JS s):=by
 refine iF (fun _ h=>M35 s h) ?_
 simp only[T35]
 refine bA (K9 s hs) ?_
 rintro _ ⟨l,ok,rfl,g1⟩
 dsimp+instances only[bK,List.headD_cons,List.tail_cons,bQ,fD]
 have none:EvE (fun(_ _:Nat)=>some ((V.tup [(V.lst 26 false []),(V.bool false)]),([]:List Ob))) (JS s):=aU ⟨[],false,rfl,by simp[ow]⟩
 refine bZ (fun _=>?_) (fun _=>none)
 have e0:Ob.cells [.lst 213 false (l.map pcV), .lst 26 true []]=stO l []:=rfl
 simp only[e0]
 have o0:ow []=0:=rfl
 refine bA (Le l [] (by omega)) ?_
 rintro _ ⟨b,l1,o1,rfl,g2⟩
 dsimp+instances only[bK,List.headD_cons,List.tail_cons,dR,bQ]
 refine bZ (fun _=>?_) (fun _=>none)
 refine bZ (fun _=>none) (fun _=>?_)
 exact aU ⟨o1,true,rfl,by omega⟩
end Go.Proofs.YtdoaoaicdimbeaaGreatDoor
end
section
namespace Go.Proofs.YtdoaoaicdimbeaaGreatDoor
open Go.Ev Go
theorem BJ {f:FuncId} {args:List V} {objs:List Ob} {r:V×List Ob} (K:Nat) (h:∀m,aA cfg (m+K) f args objs=some r):Ret f args objs r:=
 ⟨K,fun k hk=>by obtain⟨m,rfl⟩:∃m,k=m+K:=⟨k - K,by omega⟩;exact h m⟩
set_option maxRecDepth 100000 in
theorem Ni:Ret 11 [] [] (.bool true,[]):=BJ 200 fun m=>by kernel_rfl
end Go.Proofs.YtdoaoaicdimbeaaGreatDoor
end
section
namespace Go.Proofs.YtdoaoaicdimbeaaGreatDoor
open Go.Ev Go
def eN0:Bs:=[100,97,116,101]
def eN1:Bs:=[115,117,98,106,101,99,116]
def eN2:Bs:=[105,110,45,114,101,112,108,121,45,116,111]
def eN3:Bs:=[109,101,115,115,97,103,101,45,105,100]
def eM0:Bs:=[102,114,111,109]
def eM1:Bs:=[115,101,110,100,101,114]
def eM2:Bs:=[114,101,112,108,121,45,116,111]
def eM3:Bs:=[116,111]
def eM4:Bs:=[99,99]
def eM5:Bs:=[98,99,99]
def rdL (z:V×List Ob):V:= .lst 26 false (V.getL (List.headD (V.getT z.1) V.bot))
def rdS (z:V×List Ob):V:= .str (V.getS z.1)
def rdB (z:V×List Ob):V:= .bool (V.getB (List.headD (List.tail (V.getT z.1)) V.bot))
def Ei (v:V):Bool:=(((List.length (V.getL v):Nat):Int)==(0:Int))
def Jj (v0 v1 v2 v3 f0 f1 f2 f3 x0 x1 x2 x3 x4 x5:V):Option (V×List Ob):=
 some (.agg [v0,v1,x0,x1,x2,x3,x4,x5,v2,v3,f0,f1,f2,f3],[])
def TOf (call:FuncId→Fun) (a0:List V) (a2 a3:Int):Option (V×List Ob):=
 Option.bind (call 32 [.lst 5 false a0, .agg [.int .i64 a2, .int .i64 a3]] []) fun z0=>
 Option.bind (call 33 [(.lst 91 false (V.getL (List.headD (V.getT z0.1) V.bot))), .str eN0] []) fun f0=>
 Option.bind (call 34 [.lst 5 false a0,(.lst 91 false (V.getL (List.headD (V.getT z0.1) V.bot))), .str eN0] []) fun v0=>
 Option.bind (call 33 [(.lst 91 false (V.getL (List.headD (V.getT z0.1) V.bot))), .str eN1] []) fun f1=>
 Option.bind (call 34 [.lst 5 false a0,(.lst 91 false (V.getL (List.headD (V.getT z0.1) V.bot))), .str eN1] []) fun v1=>
 Option.bind (call 33 [(.lst 91 false (V.getL (List.headD (V.getT z0.1) V.bot))), .str eN2] []) fun f2=>
 Option.bind (call 34 [.lst 5 false a0,(.lst 91 false (V.getL (List.headD (V.getT z0.1) V.bot))), .str eN2] []) fun v2=>
 Option.bind (call 33 [(.lst 91 false (V.getL (List.headD (V.getT z0.1) V.bot))), .str eN3] []) fun f3=>
 Option.bind (call 34 [.lst 5 false a0,(.lst 91 false (V.getL (List.headD (V.getT z0.1) V.bot))), .str eN3] []) fun v3=>
 Option.bind (call 34 [.lst 5 false a0,(.lst 91 false (V.getL (List.headD (V.getT z0.1) V.bot))), .str eM0] []) fun w0=>
 Option.bind (call 35 [rdS w0] []) fun x0=>
 Option.bind (call 34 [.lst 5 false a0,(.lst 91 false (V.getL (List.headD (V.getT z0.1) V.bot))), .str eM1] []) fun w1=>
 Option.bind (call 35 [rdS w1] []) fun x1=>
 Option.bind (call 34 [.lst 5 false a0,(.lst 91 false (V.getL (List.headD (V.getT z0.1) V.bot))), .str eM2] []) fun w2=>
 Option.bind (call 35 [rdS w2] []) fun x2=>
 Option.bind (call 34 [.lst 5 false a0,(.lst 91 false (V.getL (List.headD (V.getT z0.1) V.bot))), .str eM3] []) fun w3=>
 Option.bind (call 35 [rdS w3] []) fun x3=>
 Option.bind (call 34 [.lst 5 false a0,(.lst 91 false (V.getL (List.headD (V.getT z0.1) V.bot))), .str eM4] []) fun w4=>
 Option.bind (call 35 [rdS w4] []) fun x4=>
 Option.bind (call 34 [.lst 5 false a0,(.lst 91 false (V.getL (List.headD (V.getT z0.1) V.bot))), .str eM5] []) fun w5=>
 Option.bind (call 35 [rdS w5] []) fun x5=>
 if Ei (rdL x1)=true then(if Ei (rdL x2)=true then Jj (rdS v0) (rdS v1) (rdS v2) (rdS v3) (rdB f0) (rdB f1) (rdB f2) (rdB f3) (rdL x0) (rdL x0) (rdL x0) (rdL x3) (rdL x4) (rdL x5)else Jj (rdS v0) (rdS v1) (rdS v2) (rdS v3) (rdB f0) (rdB f1) (rdB f2) (rdB f3) (rdL x0) (rdL x0) (rdL x2) (rdL x3) (rdL x4) (rdL x5))
 else(if Ei (rdL x2)=true then Jj (rdS v0) (rdS v1) (rdS v2) (rdS v3) (rdB f0) (rdB f1) (rdB f2) (rdB f3) (rdL x0) (rdL x1) (rdL x0) (rdL x3) (rdL x4) (rdL x5)else Jj (rdS v0) (rdS v1) (rdS v2) (rdS v3) (rdB f0) (rdB f1) (rdB f2) (rdB f3) (rdL x0) (rdL x1) (rdL x2) (rdL x3) (rdL x4) (rdL x5))
theorem COf (m:Nat) (a0:List V) (a1 a2 a3 a4 a5:Int) (a6 a7:List V) (a8 a9:Int):aA cfg (m+40) 15 [.lst 5 false a0,(V.agg [.int .i64 a1, .int .i64 a2, .int .i64 a3, .int .i64 a4, .int .i64 a5, .lst 36 false a6, .lst 32 false a7, .int .i64 a8, .int .i64 a9])] []=TOf (aA cfg (m+39)) a0 a2 a3:=by kernel_rfl
end Go.Proofs.YtdoaoaicdimbeaaGreatDoor
end
section
namespace Go.Proofs.YtdoaoaicdimbeaaGreatDoor
open Go.Ev Go
open List (headD tail getD length drop take)
open V (getI getL getT getS getB)
set_option maxRecDepth 100000
variable (call : FuncId → Fun) (icall : aQ (V × List Ob)) (again : List It → St → Option (V × List Ob))
end Go.Proofs.YtdoaoaicdimbeaaGreatDoor
end
section
namespace Go.Proofs.YtdoaoaicdimbeaaGreatDoor
open Go.Ev Go
structure En where
 d:Bs
 s:Bs
 l0:List Ad
 l1:List Ad
 l2:List Ad
 l3:List Ad
 l4:List Ad
 l5:List Ad
 r:Bs
 i:Bs
 h0:Bool
 h1:Bool
 h2:Bool
 h3:Bool
def lsV (o:List Ad):V:= .lst 26 false (o.map adV)
def enV (e:En):V:= .agg [.str e.d, .str e.s,lsV e.l0,lsV e.l1,lsV e.l2,lsV e.l3,lsV e.l4,lsV e.l5, .str e.r, .str e.i, .bool e.h0, .bool e.h1, .bool e.h2, .bool e.h3]
theorem Jk {f:FuncId} {args:List V} {objs:List Ob} {r:V×List Ob} {g:Nat→Option (V×List Ob)} (K:Nat) (hc:∀m,aA cfg (m+(K+1)) f args objs=g (m+K)) (h:Evt (fun k _=>g k) r):Ret f args objs r:=by
 obtain⟨K2,h⟩:=h
 refine⟨K2+(K+1),fun k hk=>?_⟩
 obtain⟨m,rfl⟩:∃m,k=m+(K+1):=⟨k - (K+1),by omega⟩
 rw[hc];exact h (m+K) K2 (by omega) (by omega)
theorem Jl (s:Bs) (o:List Ob):rdS (.str s,o)= .str s:=rfl
end Go.Proofs.YtdoaoaicdimbeaaGreatDoor
end
section
namespace Go.Proofs.YtdoaoaicdimbeaaGreatDoor
open Go.Ev Go
open Classical in
noncomputable def eA (s:Bs):List Ad×Bool:=
 if h:∃q:List Ad×Bool,Ret 35 [.str s] [] (.tup [lsV q.1, .bool q.2],[])∧ow q.1≤2*s.length then h.choose else([],false)
theorem gQ (s:Bs) (hs:s.length≤1000000):Ret 35 [.str s] [] (.tup [lsV (eA s).1, .bool (eA s).2],[])∧ow (eA s).1≤2*s.length:=by
 obtain⟨_,h,o,ok,rfl,ho⟩:=Lf s hs
 have h:∃q:List Ad×Bool,Ret 35 [.str s] [] (.tup [lsV q.1, .bool q.2],[])∧ow q.1≤2*s.length:=⟨(o,ok),h,ho⟩
 unfold eA
 rw[dif_pos h]
 exact h.choose_spec
def orL (x y:List Ad):List Ad:=if x=[]then y else x
noncomputable def ofS (b:Bs) (p:Pt):En where
 d:=aW b (hdL b p) eN0
 s:=aW b (hdL b p) eN1
 r:=aW b (hdL b p) eN2
 i:=aW b (hdL b p) eN3
 h0:=(dP (hdL b p) eN0).isSome
 h1:=(dP (hdL b p) eN1).isSome
 h2:=(dP (hdL b p) eN2).isSome
 h3:=(dP (hdL b p) eN3).isSome
 l0:=(eA (aW b (hdL b p) eM0)).1
 l1:=orL (eA (aW b (hdL b p) eM1)).1 (eA (aW b (hdL b p) eM0)).1
 l2:=orL (eA (aW b (hdL b p) eM2)).1 (eA (aW b (hdL b p) eM0)).1
 l3:=(eA (aW b (hdL b p) eM3)).1
 l4:=(eA (aW b (hdL b p) eM4)).1
 l5:=(eA (aW b (hdL b p) eM5)).1
theorem Nj (o:List Ad) (ok:Bool) (u:List Ob):rdL (.tup [lsV o, .bool ok],u)=lsV o:=rfl
theorem Lg (x:Option Fd) (u:List Ob):rdB (qP x,u)= .bool x.isSome:=by cases x<;>rfl
theorem oZ (o:List Ad):Ei (lsV o)=true↔o=[]:=by
 cases o with
 |nil=>exact⟨fun _=>rfl,fun _=>rfl⟩
 |cons a r=>
  refine⟨fun h=>?_,fun h=>by cases h⟩
  have h:(((((a::r).map adV).length:Nat):Int)==0)=true:=h
  have:((((a::r).map adV).length:Nat):Int)=0:=by simpa using h
  simp only[List.map_cons,List.length_cons]at this
  omega
theorem Nk (b:Bs) (hb:b.length≤3000) (p:Pt):Ret 15 [.lst 5 false (ofBytes b),partV p] [] (enV (ofS b p),[]):=by
 obtain⟨k1,k2⟩:=C7 b (p.hd.1:Nat) (p.hd.2:Nat)
 have hl:(hdL b p).length≤1000000:=by unfold hdL;omega
 have hl2:∀f∈hdL b p,f.1.length≤1000000:=fun f hf=>by have:=k1 f hf;omega
 have hv:∀n,(aW b (hdL b p) n).length≤1000000:=fun n=>by have:=tX b (hdL b p) n;omega
 rw[←yO p]
 refine Jk (g:=fun k=>TOf (aA cfg k) (ofBytes b) (p.hd.1:Nat) (p.hd.2:Nat)) 39 (fun m=>COf m (ofBytes b) (p.kd:Nat) (p.hd.1:Nat) (p.hd.2:Nat) (p.bd.1:Nat) (p.bd.2:Nat) (p.ks.map partV) (p.cs.map cutV) (p.en.1:Nat) (p.en.2:Nat)) ?_
 simp only[TOf]
 refine aD (Hm b (by omega) (p.hd.1:Nat) (p.hd.2:Nat)) ?_
 simp only[fD,List.headD_cons,bQ]
 refine aD (AN (hdL b p) hl hl2 eN0 (by simp[eN0])) ?_
 refine aD (nU b (by omega) (hdL b p) hl hl2 eN0 (by simp[eN0])) ?_
 refine aD (AN (hdL b p) hl hl2 eN1 (by simp[eN1])) ?_
 refine aD (nU b (by omega) (hdL b p) hl hl2 eN1 (by simp[eN1])) ?_
 refine aD (AN (hdL b p) hl hl2 eN2 (by simp[eN2])) ?_
 refine aD (nU b (by omega) (hdL b p) hl hl2 eN2 (by simp[eN2])) ?_
 refine aD (AN (hdL b p) hl hl2 eN3 (by simp[eN3])) ?_
 refine aD (nU b (by omega) (hdL b p) hl hl2 eN3 (by simp[eN3])) ?_
 refine aD (nU b (by omega) (hdL b p) hl hl2 eM0 (by simp[eM0])) ?_
 refine aD (gQ (aW b (hdL b p) eM0) (hv _)).1 ?_
 refine aD (nU b (by omega) (hdL b p) hl hl2 eM1 (by simp[eM1])) ?_
 refine aD (gQ (aW b (hdL b p) eM1) (hv _)).1 ?_
 refine aD (nU b (by omega) (hdL b p) hl hl2 eM2 (by simp[eM2])) ?_
 refine aD (gQ (aW b (hdL b p) eM2) (hv _)).1 ?_
 refine aD (nU b (by omega) (hdL b p) hl hl2 eM3 (by simp[eM3])) ?_
 refine aD (gQ (aW b (hdL b p) eM3) (hv _)).1 ?_
 refine aD (nU b (by omega) (hdL b p) hl hl2 eM4 (by simp[eM4])) ?_
 refine aD (gQ (aW b (hdL b p) eM4) (hv _)).1 ?_
 refine aD (nU b (by omega) (hdL b p) hl hl2 eM5 (by simp[eM5])) ?_
 refine aD (gQ (aW b (hdL b p) eM5) (hv _)).1 ?_
 simp only[Nj,Lg,Jl]
 by_cases h1:(eA (aW b (hdL b p) eM1)).1=[]
 ·have o1:orL (eA (aW b (hdL b p) eM1)).1 (eA (aW b (hdL b p) eM0)).1=(eA (aW b (hdL b p) eM0)).1:=if_pos h1
  simp only[(oZ _).2 h1,if_true]
  by_cases h2:(eA (aW b (hdL b p) eM2)).1=[]
  ·have o2:orL (eA (aW b (hdL b p) eM2)).1 (eA (aW b (hdL b p) eM0)).1=(eA (aW b (hdL b p) eM0)).1:=if_pos h2
   simp only[(oZ _).2 h2,if_true]
   unfold ofS;rw[o1,o2]
   exact aG _
  ·have o2:orL (eA (aW b (hdL b p) eM2)).1 (eA (aW b (hdL b p) eM0)).1=(eA (aW b (hdL b p) eM2)).1:=if_neg h2
   simp only[show¬Ei (lsV (eA (aW b (hdL b p) eM2)).1)=true from fun h=>h2 ((oZ _).1 h),if_false]
   unfold ofS;rw[o1,o2]
   exact aG _
 ·have o1:orL (eA (aW b (hdL b p) eM1)).1 (eA (aW b (hdL b p) eM0)).1=(eA (aW b (hdL b p) eM1)).1:=if_neg h1
  simp only[show¬Ei (lsV (eA (aW b (hdL b p) eM1)).1)=true from fun h=>h1 ((oZ _).1 h),if_false]
  by_cases h2:(eA (aW b (hdL b p) eM2)).1=[]
  ·have o2:orL (eA (aW b (hdL b p) eM2)).1 (eA (aW b (hdL b p) eM0)).1=(eA (aW b (hdL b p) eM0)).1:=if_pos h2
   simp only[(oZ _).2 h2,if_true]
   unfold ofS;rw[o1,o2]
   exact aG _
  ·have o2:orL (eA (aW b (hdL b p) eM2)).1 (eA (aW b (hdL b p) eM0)).1=(eA (aW b (hdL b p) eM2)).1:=if_neg h2
   simp only[show¬Ei (lsV (eA (aW b (hdL b p) eM2)).1)=true from fun h=>h2 ((oZ _).1 h),if_false]
   unfold ofS;rw[o1,o2]
   exact aG _
end Go.Proofs.YtdoaoaicdimbeaaGreatDoor
end
section
namespace Go.Proofs.YtdoaoaicdimbeaaGreatDoor
open Go.Ev Go
open List (headD tail getD length drop take)
open V (getI getL getT getS getB)
set_option maxRecDepth 100000
variable (call : FuncId → Fun) (icall : aQ (V × List Ob)) (again : List It → St → Option (V × List Ob))
def epA (a0 a1:List UInt8) (has:Bool) (s:List UInt8) (j:Int):St:=⟨[V.str a0,V.str a1,V.bool has,V.bot,V.bot,V.bot,V.bot,V.bot,V.str s,V.int IntKind.i64 j]++List.replicate 165 V.bot,[]⟩
def epB (a1:List UInt8) (has:Bool) (s t:List UInt8) (j:Int):St:=⟨[V.bot,V.str a1,V.bool has,V.bot,V.bot,V.bot,V.bot,V.bot,V.str s,V.bot,V.str t,V.int IntKind.i64 j]++List.replicate 163 V.bot,[]⟩
def epG (a:List UInt8) (j:Int):Option Bool:=
 chk (decide (0≤j)) (chk (decide (j<((length a:Nat):Int))) (if(decide (((UInt8.toNat (getD a (Int.toNat j) 0):Nat):Int)>(32:Int)))=true then chk (decide (0≤j)) (chk (decide (j<((length a:Nat):Int))) (some (decide (((UInt8.toNat (getD a (Int.toNat j) 0):Nat):Int)<(127:Int)))))else some false))
def epL (ag:List UInt8→Int→Option (V×List Ob)) (a s:List UInt8) (j:Int) (e:Option (V×List Ob)):Option (V×List Ob):=
 if(decide (j<((length a:Nat):Int)))=true then
  Option.bind (epG a j) fun y0=>
  if y0=true then
   chk (decide (0≤(IntKind.wrap IntKind.i64 (j+(1:Int))))) (chk (decide ((IntKind.wrap IntKind.i64 (j+(1:Int)))≤((length a:Nat):Int))) (chk (decide (0≤j)) (chk (decide (j≤(IntKind.wrap IntKind.i64 (j+(1:Int))))) (chk (cI s (drop (Int.toNat j) (take (Int.toNat (IntKind.wrap IntKind.i64 (j+(1:Int)))) a))) (ag (s++(drop (Int.toNat j) (take (Int.toNat (IntKind.wrap IntKind.i64 (j+(1:Int)))) a))) (IntKind.wrap IntKind.i64 (j+(1:Int))))))))
  else ag s (IntKind.wrap IntKind.i64 (j+(1:Int)))
 else e
def epQ (s t who:List UInt8) (z2:V×List Ob):Option (V×List Ob):=
 Option.bind (if(sEq (getS (headD (tail (V.cells z2.1)) V.bot)) s)=true then
  if(sEq (getS (headD (tail (tail (tail (tail (tail (tail (tail (tail (tail (V.cells z2.1)))))))))) V.bot)) t)=true then
  if(getB (headD (tail (tail (tail (tail (tail (tail (tail (tail (tail (tail (tail (V.cells z2.1)))))))))))) V.bot))=true then
   if(getB (headD (tail (tail (tail (tail (tail (tail (tail (tail (tail (tail (tail (tail (tail (V.cells z2.1)))))))))))))) V.bot))=true then
   if(!(getB (headD (tail (tail (tail (tail (tail (tail (tail (tail (tail (tail (V.cells z2.1))))))))))) V.bot)))=true then
    if(!(getB (headD (tail (tail (tail (tail (tail (tail (tail (tail (tail (tail (tail (tail (V.cells z2.1))))))))))))) V.bot)))=true then
    if(((length (getL (headD (tail (tail (V.cells z2.1))) V.bot)):Nat):Int)==(1:Int))=true then
     if(((length (getL (headD (tail (tail (tail (V.cells z2.1)))) V.bot)):Nat):Int)==(1:Int))=true then
     chk (decide (0≤(0:Int))) (chk (decide ((0:Int)<((length (getL (headD (tail (tail (tail (V.cells z2.1)))) V.bot)):Nat):Int))) (if(sEq (getS (headD (tail (tail (V.cells (getD (getL (headD (tail (tail (tail (V.cells z2.1)))) V.bot)) (Int.toNat (0:Int)) V.bot)))) V.bot)) who)=true then
      if(((length (getL (headD (tail (tail (tail (tail (V.cells z2.1))))) V.bot)):Nat):Int)==(1:Int))=true then
      chk (decide (0≤(0:Int))) (chk (decide ((0:Int)<((length (getL (headD (tail (tail (tail (tail (V.cells z2.1))))) V.bot)):Nat):Int))) (if(sEq (getS (headD (tail (tail (V.cells (getD (getL (headD (tail (tail (tail (tail (V.cells z2.1))))) V.bot)) (Int.toNat (0:Int)) V.bot)))) V.bot)) [97])=true then
       some (((length (getL (headD (tail (tail (tail (tail (tail (V.cells z2.1)))))) V.bot)):Nat):Int)==(0:Int))
       else some false))
      else some false
      else some false))
     else some false
     else some false
    else some false
    else some false
   else some false
   else some false
  else some false
  else some false) fun y0=>some ((V.bool y0),[])
def epW (s t b:List UInt8) (has:Bool):Option (V×List Ob):=
 chk (cI b [13,10]) (Option.bind (call 14 [V.lst 5 false (ofBytes (b++[13,10]))] []) fun z1=>
 chk (cI b [13,10]) (Option.bind (call 15 [V.lst 5 false (ofBytes (b++[13,10])),V.agg [V.int IntKind.i64 (getI (headD (V.cells (headD (getT z1.1) V.bot)) V.bot)),V.int IntKind.i64 (getI (headD (tail (V.cells (headD (getT z1.1) V.bot))) V.bot)),V.int IntKind.i64 (getI (headD (tail (tail (V.cells (headD (getT z1.1) V.bot)))) V.bot)),V.int IntKind.i64 (getI (headD (tail (tail (tail (V.cells (headD (getT z1.1) V.bot))))) V.bot)),V.int IntKind.i64 (getI (headD (tail (tail (tail (tail (V.cells (headD (getT z1.1) V.bot)))))) V.bot)),V.lst 36 false (getL (headD (tail (tail (tail (tail (tail (V.cells (headD (getT z1.1) V.bot))))))) V.bot)),V.lst 32 false (getL (headD (tail (tail (tail (tail (tail (tail (V.cells (headD (getT z1.1) V.bot)))))))) V.bot)),V.int IntKind.i64 (getI (headD (tail (tail (tail (tail (tail (tail (tail (V.cells (headD (getT z1.1) V.bot))))))))) V.bot)),V.int IntKind.i64 (getI (headD (tail (tail (tail (tail (tail (tail (tail (tail (V.cells (headD (getT z1.1) V.bot)))))))))) V.bot))]] []) fun z2=>
 if has=true then epQ s t [99] z2 else epQ s t [97] z2))
def nV:List UInt8:=[83,117,98,106,101,99,116,58,32]
def qS:List UInt8:=[13,10,77,101,115,115,97,103,101,45,73,68,58]
def yV:List UInt8:=[13,10,70,114,111,109,58,32,97,64,98,13,10]
def Fz:List UInt8:=[83,101,110,100,101,114,58,32,99,64,100,13,10]
def epF (s t:List UInt8) (has:Bool):Option (V×List Ob):=
 chk (cI nV s) (chk (cI (nV++s) qS) (chk (cI ((nV++s)++qS) t) (chk (cI (((nV++s)++qS)++t) yV) (if has=true then
  chk (cI ((((nV++s)++qS)++t)++yV) Fz) (epW call s t (((((nV++s)++qS)++t)++yV)++Fz) has)
 else epW call s t ((((nV++s)++qS)++t)++yV) has))))
theorem Pn (a0 a1:List UInt8) (has:Bool) (s:List UInt8) (j:Int):RM 4 Tryz.f4 [] call icall again (aJ Tryz.f4 0) (epA a0 a1 has s j)=
  epL (fun s j=>again (aJ Tryz.f4 0) (epA a0 a1 has s j)) a0 s j (again (aJ Tryz.f4 1) (epB a1 has s [] 0)):=by kernel_rfl
theorem Po (a1:List UInt8) (has:Bool) (s t:List UInt8) (j:Int):RM 4 Tryz.f4 [] call icall again (aJ Tryz.f4 1) (epB a1 has s t j)=
  epL (fun t j=>again (aJ Tryz.f4 1) (epB a1 has s t j)) a1 t j (epF call s t has):=by kernel_rfl
def epE (a0 a1:List UInt8) (ag0:Option (V×List Ob)):Option (V×List Ob):=
 Option.bind (call 11 [] []) fun z0=>if(!(getB z0.1))=true then some ((V.bool false),[])else
  Option.bind (if(decide (((length a0:Nat):Int)>(100:Int)))=false then some (decide (((length a1:Nat):Int)>(100:Int)))else some true) fun y0=>
  if y0=true then some ((V.bool true),[])else ag0
theorem Pp (a0 a1:List UInt8) (has:Bool):GO 4 Tryz.f4 [V.str a0,V.str a1,V.bool has] [] call icall again=epE call a0 a1 (again (aJ Tryz.f4 0) (epA a0 a1 has [] 0)):=by kernel_rfl
end Go.Proofs.YtdoaoaicdimbeaaGreatDoor
end
section
namespace Go.Proofs.YtdoaoaicdimbeaaGreatDoor
open Go.Ev Go
def bE:List (Bs×Bs)→Bs
 |[]=>[]
 |f::r=>(f.1++58::f.2)++13::10::bE r
def FOk (f:Bs×Bs):Prop:=f.1≠[]∧f.1.all pE=true∧(∀c∈f.1,c≠58)∧∀c∈f.2,c≠10
def jE:Nat→List (Bs×Bs)→List Fd
 |_,[]=>[]
 |a,f::r=>(f.1,a,a+(f.1.length+1),a+(f.1.length+f.2.length+3))::jE (a+(f.1.length+f.2.length+3)) r
def pF:Nat→List (Bs×Bs)→List Ln
 |_,[]=>[]
 |a,f::r=>(a,a+(f.1.length+f.2.length+1),a+(f.1.length+f.2.length+3))::pF (a+(f.1.length+f.2.length+3)) r
theorem De (f:Bs×Bs) (r:List (Bs×Bs)):(bE (f::r)).length=f.1.length+f.2.length+3+(bE r).length:=by
 simp only[bE,List.length_append,List.length_cons];omega
theorem Ej {c:UInt8} (h:pE c=true):dD c=false∧c≠10:=by
 have key:∀c:UInt8,pE c=true→dD c=false∧c≠10:=Av (p:=fun c=>pE c=true→dD c=false∧c≠10) (by decide+kernel)
 exact key c h
theorem uF (a:Nat) (w q:Bs) (hw:∀c∈w,c≠10):bX a (w++13::10::q)=(a,a+w.length,a+(w.length+2))::bX (a+(w.length+2)) q:=by
 have hk:Lib.indexByte (w++13::10::q) 10=((w.length+1:Nat):Int):=by
  refine jJ ?_ fun j hj=>?_
  ·rw[List.getElem?_append_right (by omega),Nat.add_sub_cancel_left];rfl
  ·by_cases hjw:j<w.length
   ·rw[List.getElem?_append_left hjw,List.getElem?_eq_getElem hjw]
    intro e
    exact hw w[j] (List.getElem_mem hjw) (Option.some.inj e)
   ·have:j=w.length:=by omega
    subst this
    rw[List.getElem?_append_right (Nat.le_refl _),Nat.sub_self]
    simp
 have h0:¬(((w.length+1:Nat):Int)<0):=by omega
 have h13:(w++13::10::q)[w.length+1 - 1]? =some 13:=by
  rw[Nat.add_sub_cancel,List.getElem?_append_right (Nat.le_refl _),Nat.sub_self];rfl
 have hd:(w++13::10::q).drop (w.length+1+1)=q:=by
  rw[show w.length+1+1=w.length+2 by omega,List.drop_append]
  simp
 rw[uT a _ (by simp),hk,if_neg h0]
 simp only[Int.toNat_natCast]
 rw[if_pos ⟨by omega,h13⟩,hd]
 rw[show w.length+1 - 1=w.length by omega,show a+(w.length+1)+1=a+(w.length+2)by omega]
theorem AY:∀(l:List (Bs×Bs)) (a:Nat) (q:Bs),(∀f∈l,FOk f)→bX a (bE l++q)=pF a l++bX (a+(bE l).length) q
 |[],a,q,_=>by simp[bE,pF]
 |f::r,a,q,h=>by
  obtain⟨h1,h2,h3,h4⟩:=h f (by simp)
  have hw:∀c∈f.1++58::f.2,c≠10:=by
   intro c hc
   rw[List.mem_append,List.mem_cons]at hc
   rcases hc with hc|rfl|hc
   ·exact(Ej (List.all_eq_true.1 h2 c hc)).2
   ·decide
   ·exact h4 c hc
  have e:bE (f::r)++q=(f.1++58::f.2)++13::10::(bE r++q):=by simp[bE]
  have el:(f.1++58::f.2).length=f.1.length+f.2.length+1:=by simp only[List.length_append,List.length_cons];omega
  rw[e,uF a _ _ hw,AY r _ q (fun x hx=>h x (by simp[hx])),pF,De,el]
  rw[show a+(f.1.length+f.2.length+1+2)=a+(f.1.length+f.2.length+3)by omega,List.cons_append,show a+(f.1.length+f.2.length+3+(bE r).length)=a+(f.1.length+f.2.length+3)+(bE r).length by omega]
theorem Df (pre w post:Bs) (z:Nat):bM (pre++(w++post)) (pre.length,pre.length+w.length,z)=w:=by
 unfold bM
 rw[if_pos ⟨by simp,by simp⟩]
 simp only[Eb]
 rw[List.take_append,List.take_of_length_le (by omega),Nat.add_sub_cancel_left,List.take_left,List.drop_left]
theorem FA {s:Bs}:∀{n:Nat},(∀j,j<n→dD (s.getD j 0)=false)→iS s n=n
 |0,_=>rfl
 |n+1,h=>by rw[iS,h n (by omega)];rfl
theorem FB {f:Bs×Bs} (h:FOk f):eE (f.1++58::f.2)=some (f.1,f.1.length+1):=by
 obtain⟨h1,h2,h3,h4⟩:=h
 have hk:Lib.indexByte (f.1++58::f.2) 58=((f.1.length:Nat):Int):=by
  refine jJ ?_ fun j hj=>?_
  ·rw[List.getElem?_append_right (Nat.le_refl _),Nat.sub_self];rfl
  ·rw[List.getElem?_append_left hj,List.getElem?_eq_getElem hj]
   intro e
   exact h3 f.1[j] (List.getElem_mem hj) (Option.some.inj e)
 have hb:iS (f.1++58::f.2) f.1.length=f.1.length:=FA fun j hj=>by
  have:(f.1++58::f.2).getD j 0=f.1[j]:=by simp[List.getD,List.getElem?_append_left hj,hj]
  rw[this]
  exact(Ej (List.all_eq_true.1 h2 _ (List.getElem_mem hj))).1
 have h0:¬(((f.1.length:Nat):Int)<0):=by omega
 have hp:0<f.1.length:=List.length_pos_iff.2 h1
 unfold eE
 rw[hk,if_neg h0]
 simp only[Int.toNat_natCast,hb,List.take_left,h2,Bool.true_and,decide_eq_true hp,if_true]
theorem HQ {f:Bs×Bs} (h:FOk f):yD (f.1++58::f.2)=false:=by
 obtain⟨h1,h2,_⟩:=h
 cases hf:f.1 with
 |nil=>exact absurd hf h1
 |cons c r=>
  rw[hf,List.all_cons,Bool.and_eq_true]at h2
  exact(Ej h2.1).1
theorem Dg (b:Bs):∀(l:List (Bs×Bs)) (pre post:Bs) (st:List Fd×Bool),b=pre++(bE l++post)→(∀f∈l,FOk f)→
  ((pF pre.length l).foldl (fQ b) st).1=st.1++jE pre.length l
 |[],pre,post,st,_,_=>by simp[pF,jE]
 |f::r,pre,post,st,hb,h=>by
  have ho:=h f (by simp)
  have e:b=(pre++((f.1++58::f.2)++[13,10]))++(bE r++post):=by rw[hb];simp[bE]
  have e2:b=pre++((f.1++58::f.2)++(13::10::(bE r++post))):=by rw[hb];simp[bE]
  have el:(f.1++58::f.2).length=f.1.length+f.2.length+1:=by simp only[List.length_append,List.length_cons];omega
  have el2:(pre++((f.1++58::f.2)++[13,10])).length=pre.length+(f.1.length+f.2.length+3):=by simp only[List.length_append,List.length_cons,List.length_nil];omega
  have ht:bM b (pre.length,pre.length+(f.1.length+f.2.length+1),pre.length+(f.1.length+f.2.length+3))=f.1++58::f.2:=by
   rw[e2,←el];exact Df _ _ _ _
  have hs:fQ b st (pre.length,pre.length+(f.1.length+f.2.length+1),pre.length+(f.1.length+f.2.length+3))=(st.1++[(f.1,pre.length,pre.length+(f.1.length+1),pre.length+(f.1.length+f.2.length+3))],true):=by
   unfold fQ
   rw[ht,HQ ho,FB ho]
   rfl
  rw[pF,List.foldl_cons,hs]
  have ih:=Dg b r (pre++((f.1++58::f.2)++[13,10])) post (st.1++[(f.1,pre.length,pre.length+(f.1.length+1),pre.length+(f.1.length+f.2.length+3))],true) e (fun x hx=>h x (by simp[hx]))
  rw[el2]at ih
  rw[ih,jE]
  simp
theorem AZ:∀(l:List (Bs×Bs)) (a:Nat) (r:List Ln),(∀f∈l,FOk f)→eD (pF a l++r)=(eD r).map (· +l.length)
 |[],a,r,_=>by simp[pF]
 |f::l,a,r,h=>by
  obtain⟨h1,_⟩:=h f (by simp)
  have hp:0<f.1.length:=List.length_pos_iff.2 h1
  rw[pF,List.cons_append,eD,if_neg (by simp only;omega),AZ l _ r (fun x hx=>h x (by simp[hx]))]
  cases eD r with
  |none=>rfl
  |some k=>simp only[Option.map_some,List.length_cons];congr 1
theorem vB:∀(l:List (Bs×Bs)) (a:Nat),(pF a l).length=l.length
 |[],_=>rfl
 |f::l,a=>by rw[pF,List.length_cons,vB l];rfl
theorem Dh (l:List (Bs×Bs)) (h:∀f∈l,FOk f):
  gJ (bE l++[13,10]) ((0:Nat):Int) ((bE l++[13,10]).length:Nat)=(jE 0 l,(((bE l++[13,10]).length:Nat):Int)):=by
 have hl:aS ((0:Nat):Int) ((bE l++[13,10]).length:Nat) (bE l++[13,10])=pF 0 l++[((bE l).length,(bE l).length,(bE l).length+2)]:=by
  unfold aS
  rw[if_pos (by omega)]
  have h1:=uF ((bE l).length) [] [] (by simp)
  have h2:bX ((bE l).length+2) []=[]:=by simp[bX,eJ]
  simp only[List.nil_append,List.length_nil,Nat.zero_add,Nat.add_zero]at h1
  rw[h2]at h1
  simp only[Int.toNat_natCast,List.take_length,List.drop_zero]
  rw[AY l 0 _ h,Nat.zero_add,h1]
 unfold gJ
 rw[hl,if_neg (by simp),AZ l 0 _ h]
 have he:eD [((bE l).length,(bE l).length,(bE l).length+2)]=some 0:=by rw[eD,if_pos rfl]
 rw[he]
 simp only[Option.map_some,Nat.zero_add]
 have hlen:=vB l 0
 have ht:(pF 0 l++[((bE l).length,(bE l).length,(bE l).length+2)]).take l.length=pF 0 l:=by rw[←hlen,List.take_left]
 have hg:(pF 0 l++[((bE l).length,(bE l).length,(bE l).length+2)]).getD l.length (0,0,0)=((bE l).length,(bE l).length,(bE l).length+2):=by
  rw[←hlen];simp[List.getD]
 rw[ht,hg]
 have hf:=Dg (bE l++[13,10]) l [] [13,10] ([],false) rfl h
 rw[List.length_nil,List.nil_append]at hf
 rw[hf]
 simp
theorem Jm (pre nm v post:Bs) (hv:∀c∈v,c≠10) (x y:Nat):gV (pre++(v++13::10::post)) (nm,x,pre.length,pre.length+(v.length+2))=trimF v:=by
 have hl:aS (pre.length:Nat) ((pre.length+(v.length+2):Nat):Int) (pre++(v++13::10::post))=[(pre.length,pre.length+v.length,pre.length+(v.length+2))]:=by
  unfold aS
  rw[if_pos ⟨by omega,by omega,by simp only[List.length_append,List.length_cons];omega⟩]
  have h1:=uF pre.length v [] hv
  have h2:bX (pre.length+(v.length+2)) []=[]:=by simp[bX,eJ]
  rw[h2]at h1
  simp only[Int.toNat_natCast]
  have e:List.drop pre.length (List.take (pre.length+(v.length+2)) (pre++(v++13::10::post)))=v++13::10::[]:=by
   rw[List.take_append,List.take_of_length_le (by omega),Nat.add_sub_cancel_left,List.drop_left,List.take_append,List.take_of_length_le (by omega),Nat.add_sub_cancel_left]
   rfl
  rw[e,h1]
 unfold gV
 simp only
 rw[hl,List.flatMap_cons,List.flatMap_nil,List.append_nil]
 have:=Df pre v (13::10::post) (pre.length+(v.length+2))
 rw[this]
theorem Ek {s:Bs} {n:Nat} (h:∀c∈s,dD c=false) (hn:n=s.length):jB s n=s:=by
 cases n with
 |zero=>rw[jB];exact(List.eq_nil_of_length_eq_zero hn.symm).symm
 |succ n=>
  have hlt:n<s.length:=by omega
  have:s.getD n 0=s[n]:=getD_at hlt
  rw[jB,this,h _ (List.getElem_mem hlt),hn]
  simp
theorem A0 {s:Bs} (h:∀c∈s,dD c=false):trimF s=s:=by
 have hl:jD s=s:=by
  cases s with
  |nil=>rfl
  |cons c r=>rw[jD,h c (by simp)];rfl
 unfold trimF
 rw[hl]
 exact Ek h rfl
theorem Jn {s:Bs} (h:∀c∈s,dD c=false):trimF (32::s)=s:=by
 have:trimF (32::s)=trimF s:=by
  have e:jD (32::s)=jD s:=by rw[jD];rfl
  unfold trimF
  rw[e]
 rw[this]
 exact A0 h
end Go.Proofs.YtdoaoaicdimbeaaGreatDoor
end
section
namespace Go.Proofs.YtdoaoaicdimbeaaGreatDoor
open Go.Ev Go
section
variable (call : FuncId → Fun) (icall : aQ (V × List Ob))
def FC (a1:Bs) (has:Bool) (s:Bs):Nat→Bs→Int→Option (V×List Ob)
 |0=>fun _ _=>none
 |n+1=>fun t j=>epL (FC a1 has s n) a1 t j (epF call s t has)
def FD (a0 a1:Bs) (has:Bool):Nat→Bs→Int→Option (V×List Ob)
 |0=>fun _ _=>none
 |n+1=>fun s j=>epL (FD a0 a1 has n) a0 s j (FC call a1 has s n [] 0)
theorem Nl (a1:Bs) (has:Bool) (s:Bs):∀(n:Nat) (t:Bs) (j:Int),RN 4 Tryz.f4 [] call icall n (aJ Tryz.f4 1) (epB a1 has s t j)=FC call a1 has s n t j
 |0,_,_=>rfl
 |n+1,t,j=>by
  have ih:=Nl a1 has s n
  refine(Po call icall (RN 4 Tryz.f4 [] call icall n) a1 has s t j).trans ?_
  rw[show(fun t j=>RN 4 Tryz.f4 [] call icall n (aJ Tryz.f4 1) (epB a1 has s t j))=FC call a1 has s n from funext fun t=>funext fun j=>ih t j]
  rfl
theorem Nm (a0 a1:Bs) (has:Bool):∀(n:Nat) (s:Bs) (j:Int),RN 4 Tryz.f4 [] call icall n (aJ Tryz.f4 0) (epA a0 a1 has s j)=FD call a0 a1 has n s j
 |0,_,_=>rfl
 |n+1,s,j=>by
  have ih:=Nm a0 a1 has n
  refine(Pn call icall (RN 4 Tryz.f4 [] call icall n) a0 a1 has s j).trans ?_
  rw[show(fun s j=>RN 4 Tryz.f4 [] call icall n (aJ Tryz.f4 0) (epA a0 a1 has s j))=FD call a0 a1 has n from funext fun s=>funext fun j=>ih s j,Nl]
  rfl
end
theorem M4 (a0 a1:Bs) (has:Bool) {res:V×List Ob} (h:Evt (fun k n=>epE (aA cfg k) a0 a1 (FD (aA cfg k) a0 a1 has n [] 0)) res):Ret 4 [.str a0, .str a1, .bool has] [] res:=by
 refine aT (g:=fun k n=>epE (aA cfg k) a0 a1 (FD (aA cfg k) a0 a1 has n [] 0)) (fun k=>?_) h
 refine(show aA cfg (k+1) 4 [.str a0, .str a1, .bool has] []=GO 4 Tryz.f4 [.str a0, .str a1, .bool has] [] (aA cfg k) (aE cfg (aA cfg k) 20) (RN 4 Tryz.f4 [] (aA cfg k) (aE cfg (aA cfg k) 20) k)by kernel_rfl).trans ?_
 rw[Pp,Nm]
def epV (c:UInt8):Bool:=decide (((c.toNat:Nat):Int)>32)&&decide (((c.toNat:Nat):Int)<127)
theorem Lh (a:Bs) (j:Nat) (h:j<a.length):epG a (j:Nat)=some (epV a[j]):=by
 have h1:((j:Int)<(a.length:Int)):=by omega
 have h2:(0:Int)≤(j:Nat):=by omega
 unfold epG epV
 simp only[aI h1,aI h2,Int.toNat_natCast,getD_at h]
 by_cases hc:((a[j].toNat:Nat):Int)>32
 ·simp only[hc,decide_true,if_true,Bool.true_and]
 ·simp only[hc,decide_false,Bool.false_eq_true,if_false,Bool.false_and]
theorem BK (a:Bs) (ha:a.length≤1000000) (lp:Nat→Nat→Bs→Int→Option (V×List Ob)) (e:Nat→Nat→Bs→Option (V×List Ob)) (hlp:∀k n s j,lp k (n+1) s j=epL (lp k n) a s j (e k n s)) {r:V×List Ob}
  (h:Evt (fun k n=>e k n (a.filter epV)) r):∀(m j:Nat),a.length - j=m→j≤a.length→Evt (fun k n=>lp k n ((a.take j).filter epV) (j:Nat)) r
 |0,j,hm,hj=>by
  refine aX (fun k n=>hlp k n _ _) ?_
  have h1:¬((j:Int)<(a.length:Int)):=by omega
  rw[List.take_of_length_le (by omega)]
  simp only[epL,h1,decide_false,Bool.false_eq_true,if_false]
  exact h
 |m+1,j,hm,hj=>by
  have hlt:j<a.length:=by omega
  refine aX (fun k n=>hlp k n _ _) ?_
  have h1:((j:Int)<(a.length:Int)):=by omega
  have h2:(0:Int)≤(j:Nat):=by omega
  have h3:(0:Int)≤((j+1:Nat):Int):=by omega
  have h4:((j+1:Nat):Int)≤(a.length:Int):=by omega
  have h5:((j:Nat):Int)≤((j+1:Nat):Int):=by omega
  have hw:IntKind.wrap .i64 ((j:Int)+1)=((j+1:Nat):Int):=by rw[wrap64 (by omega) (by omega)];omega
  have hl:((a.take j).filter epV).length≤a.length:=Nat.le_trans (List.length_filter_le _ _) (by rw[List.length_take];omega)
  have ed:List.drop j (List.take (j+1) a)=[a[j]]:=by
   rw[List.take_succ_eq_append_getElem hlt]
   rw[List.drop_append_of_le_length (by rw[List.length_take];omega),List.drop_eq_nil_of_le (by rw[List.length_take];omega),List.nil_append]
  have c1:cI ((a.take j).filter epV) [a[j]]=true:=gC (by simp only[List.length_cons,List.length_nil];omega)
  have ih:=BK a ha lp e hlp h m (j+1) (by omega) (by omega)
  rw[List.take_succ_eq_append_getElem hlt,List.filter_append]at ih
  simp only[epL,h1,decide_true,if_true,Lh a j hlt,cY,hw,aI h2,aI h3,aI h4,aI h5,cS,Int.toNat_natCast,ed,cG c1]
  cases hv:epV a[j]with
  |true=>
   have e1:List.filter epV [a[j]]=[a[j]]:=by simp[hv]
   rw[e1]at ih
   simp only[if_true]
   exact ih
  |false=>
   have e1:List.filter epV [a[j]]=[]:=by simp[hv]
   rw[e1,List.append_nil]at ih
   simp only[Bool.false_eq_true,if_false]
   exact ih
def nW:Bs:=[83,117,98,106,101,99,116]
def pG:Bs:=[77,101,115,115,97,103,101,45,73,68]
def qT:Bs:=[70,114,111,109]
def BL:Bs:=[83,101,110,100,101,114]
def rX:Bs:=[32,97,64,98]
def BM:Bs:=[32,99,64,100]
def epX (s t:Bs):List (Bs×Bs):=[(nW,32::s),(pG,t),(qT,rX)]
def epY (s t:Bs) (has:Bool):List (Bs×Bs):=if has=true then epX s t++[(BL,BM)]else epX s t
theorem uG {c:UInt8} (h:epV c=true):dD c=false∧c≠10:=by
 have key:∀c:UInt8,epV c=true→dD c=false∧c≠10:=Av (p:=fun c=>epV c=true→dD c=false∧c≠10) (by decide+kernel)
 exact key c h
theorem fok {nm v:Bs} (h1:nm≠[]) (h2:nm.all pE=true) (h3:∀c∈nm,c≠58) (h4:∀c∈v,c≠10):FOk (nm,v):=⟨h1,h2,h3,h4⟩
theorem HT (s t:Bs) (has:Bool) (hs:∀c∈s,epV c=true) (ht:∀c∈t,epV c=true):∀f∈epY s t has,FOk f:=by
 have k1:FOk (nW,32::s):=fok (by decide) (by decide) (by decide) fun c hc=>by
  rcases List.mem_cons.1 hc with rfl|hc
  ·decide
  ·exact(uG (hs c hc)).2
 have k2:FOk (pG,t):=fok (by decide) (by decide) (by decide) fun c hc=>(uG (ht c hc)).2
 have k3:FOk (qT,rX):=fok (by decide) (by decide) (by decide) (by decide)
 have k4:FOk (BL,BM):=fok (by decide) (by decide) (by decide) (by decide)
 intro f hf
 unfold epY at hf
 split at hf
 ·simp only[epX,List.cons_append,List.nil_append,List.mem_cons,List.not_mem_nil,or_false]at hf
  rcases hf with rfl|rfl|rfl|rfl<;>assumption
 ·simp only[epX,List.mem_cons,List.not_mem_nil,or_false]at hf
  rcases hf with rfl|rfl|rfl<;>assumption
theorem HU (s t:Bs):((((nV++s)++qS)++t)++yV)=bE (epY s t false):=by
 simp[epY,epX,bE,nV,qS,yV,nW,pG,qT,rX]
theorem HV (s t:Bs):(((((nV++s)++qS)++t)++yV)++Fz)=bE (epY s t true):=by
 simp[epY,epX,bE,nV,qS,yV,Fz,nW,pG,qT,BL,rX,BM]
theorem Jo (l1:List (Bs×Bs)) (f:Bs×Bs) (l2:List (Bs×Bs)) (post:Bs) (hf:∀c∈f.2,c≠10):∀(a:Nat),a=(bE l1).length→
  gV (bE (l1++f::l2)++post) (f.1,a,a+(f.1.length+1),a+(f.1.length+f.2.length+3))=trimF f.2:=by
 intro a ha
 have e:∀l1:List (Bs×Bs),bE (l1++f::l2)=bE l1++((f.1++[58])++(f.2++13::10::bE l2)):=by
  intro l1
  induction l1 with
  |nil=>simp[bE]
  |cons g r ih=>rw[List.cons_append,bE,ih,bE];simp
 have e2:bE (l1++f::l2)++post=(bE l1++(f.1++[58]))++(f.2++13::10::(bE l2++post)):=by rw[e];simp
 have e3:(bE l1++(f.1++[58])).length=a+(f.1.length+1):=by rw[ha];simp
 have:=Jm (bE l1++(f.1++[58])) f.1 f.2 (bE l2++post) hf a 0
 rw[e3,show a+(f.1.length+1)+(f.2.length+2)=a+(f.1.length+f.2.length+3)by omega]at this
 rw[e2]
 exact this
end Go.Proofs.YtdoaoaicdimbeaaGreatDoor
end
section
namespace Go.Proofs.YtdoaoaicdimbeaaGreatDoor
open Go.Ev Go
theorem HW (b:Bs) (d fr to:Nat) (dg:Bool) (n:Nat):(iE b (d+1) fr to dg n).1.hd=(fr,(gJ b fr to).2.toNat):=by
 rw[iE]
 dsimp only
 split
 ·split
  ·rfl
  ·rfl
 ·split
  ·rfl
  ·rfl
theorem EO (name:Bs):∀(l:List (Bs×Bs)) (a:Nat),(∀g∈l,low g.1≠low name)→dP (jE a l) name=none
 |[],_,_=>rfl
 |f::r,a,h=>by rw[jE,dP,if_neg (h f (by simp)),EO name r _ fun g hg=>h g (by simp[hg])]
theorem EP (name:Bs) (f:Bs×Bs) (l2:List (Bs×Bs)) (he:low f.1=low name):∀(l1:List (Bs×Bs)) (a:Nat),(∀g∈l1,low g.1≠low name)→
  dP (jE a (l1++f::l2)) name=some (f.1,a+(bE l1).length,a+(bE l1).length+(f.1.length+1),a+(bE l1).length+(f.1.length+f.2.length+3))
 |[],a,_=>by rw[List.nil_append,jE,dP,if_pos he];simp[bE]
 |g::r,a,h=>by
  rw[List.cons_append,jE,dP,if_neg (h g (by simp)),EP name f l2 he r _ fun x hx=>h x (by simp[hx]),De]
  rw[show a+(g.1.length+g.2.length+3+(bE r).length)=a+(g.1.length+g.2.length+3)+(bE r).length by omega]
theorem qU (b:Bs) (l:List (Bs×Bs)) (name:Bs) (h:∀g∈l,low g.1≠low name):aW b (jE 0 l) name=[]∧(dP (jE 0 l) name).isSome=false:=by
 unfold aW
 rw[EO name l 0 h]
 exact⟨rfl,rfl⟩
theorem BN (l1:List (Bs×Bs)) (f:Bs×Bs) (l2:List (Bs×Bs)) (name:Bs) (h:∀g∈l1,low g.1≠low name) (he:low f.1=low name) (hf:∀c∈f.2,c≠10):
  aW (bE (l1++f::l2)++[13,10]) (jE 0 (l1++f::l2)) name=trimF f.2∧(dP (jE 0 (l1++f::l2)) name).isSome=true:=by
 unfold aW
 rw[EP name f l2 he l1 0 h]
 refine⟨?_,rfl⟩
 have:=Jo l1 f l2 [13,10] hf (0+(bE l1).length) (by omega)
 exact this
theorem Di {f:FuncId} {args:List V} {objs:List Ob} {r r' :V×List Ob} (h:Ret f args objs r) (h' :Ret f args objs r'):r=r' :=by
 obtain⟨K,h⟩:=h
 obtain⟨K',h'⟩:=h'
 have e1:=h (K+K') (by omega)
 have e2:=h' (K+K') (by omega)
 rw[e1]at e2
 exact Option.some.inj e2
theorem Jp {a b:Ad} (h:adV a=adV b):a=b:=by
 obtain⟨k,n,l,t⟩:=a
 obtain⟨k',n',l',t'⟩:=b
 simp only[adV,V.agg.injEq,List.cons.injEq,V.int.injEq,V.str.injEq,and_true,true_and]at h
 obtain⟨h1,h2,h3,h4⟩:=h
 rw[h1,h2,h3,h4]
theorem EQ {o:List Ad} {a:Ad} (h:lsV o=lsV [a]):o=[a]:=by
 unfold lsV at h
 have h:=(V.lst.inj h).2.2
 match o,h with
 |[],h=>cases h
 |[b],h=>
  have h:=(List.cons.inj h).1
  rw[Jp h]
 |_::_::_,h=>cases(List.cons.inj h).2
set_option maxRecDepth 100000 in
theorem Nn:Ret 35 [.str [97,64,98]] [] (.tup [lsV [(0,[],[97],[98])], .bool true],[]):=BJ 100 fun m=>by kernel_rfl
set_option maxRecDepth 100000 in
theorem No:Ret 35 [.str [99,64,100]] [] (.tup [lsV [(0,[],[99],[100])], .bool true],[]):=BJ 100 fun m=>by kernel_rfl
theorem Li:(eA [97,64,98]).1=[(0,[],[97],[98])]:=by
 have h:=Di (gQ [97,64,98] (by simp)).1 Nn
 have h:=(Prod.mk.inj h).1
 have h:=V.tup.inj h
 exact EQ (List.cons.inj h).1
theorem Lj:(eA [99,64,100]).1=[(0,[],[99],[100])]:=by
 have h:=Di (gQ [99,64,100] (by simp)).1 No
 have h:=(Prod.mk.inj h).1
 have h:=V.tup.inj h
 exact EQ (List.cons.inj h).1
theorem Dj:(eA []).1=[]:=by
 have h:=(gQ [] (by simp)).2
 have h2:=Eh (eA []).1
 exact List.eq_nil_of_length_eq_zero (by simp only[List.length_nil]at h;omega)
theorem Np:trimF rX=[97,64,98]:=by decide+kernel
theorem Nq:trimF BM=[99,64,100]:=by decide+kernel
def Jq (s t:Bs) (has:Bool):En:=⟨[],s,[(0,[],[97],[98])],[if has=true then(0,[],[99],[100])else(0,[],[97],[98])],[(0,[],[97],[98])],[],[],[],[],t,false,true,false,true⟩
theorem Nr (s t:Bs) (has:Bool) (hs:∀c∈s,epV c=true) (ht:∀c∈t,epV c=true) (p:Pt) (hp:p.hd=(0,(bE (epY s t has)++[13,10]).length)):
  ofS (bE (epY s t has)++[13,10]) p=Jq s t has:=by
 have hd:hdL (bE (epY s t has)++[13,10]) p=jE 0 (epY s t has):=by
  unfold hdL
  rw[hp,Dh _ (HT s t has hs ht)]
 have ns:∀c∈((32:UInt8)::s),c≠10:=fun c hc=>by
  rcases List.mem_cons.1 hc with rfl|hc
  ·decide
  ·exact(uG (hs c hc)).2
 have nt:∀c∈t,c≠10:=fun c hc=>(uG (ht c hc)).2
 have ts:trimF (32::s)=s:=Jn fun c hc=>(uG (hs c hc)).1
 have tt:trimF t=t:=A0 fun c hc=>(uG (ht c hc)).1
 have mem3:∀{P:Bs→Prop},P nW→P pG→P qT→∀g∈epX s t,P g.1:=by
  intro P p1 p2 p3 g hg
  simp only[epX,List.mem_cons,List.not_mem_nil,or_false]at hg
  rcases hg with rfl|rfl|rfl<;>assumption
 have mem4:∀{P:Bs→Prop},P nW→P pG→P qT→P BL→∀g∈epY s t has,P g.1:=by
  intro P p1 p2 p3 p4 g hg
  unfold epY at hg
  split at hg
  ·rcases List.mem_append.1 hg with hg|hg
   ·exact mem3 p1 p2 p3 g hg
   ·simp only[List.mem_cons,List.not_mem_nil,or_false]at hg
    subst hg;exact p4
  ·exact mem3 p1 p2 p3 g hg
 obtain⟨r,hr⟩:∃r,epY s t has=[(nW,32::s),(pG,t)]++(qT,rX)::r:=by
  unfold epY
  split
  ·exact⟨[(BL,BM)],rfl⟩
  ·exact⟨[],rfl⟩
 have v0:=qU (bE (epY s t has)++[13,10]) (epY s t has) eN0 (mem4 (P:=fun n=>low n≠low eN0) (by decide) (by decide) (by decide) (by decide))
 have v2:=qU (bE (epY s t has)++[13,10]) (epY s t has) eN2 (mem4 (P:=fun n=>low n≠low eN2) (by decide) (by decide) (by decide) (by decide))
 have m2:=(qU (bE (epY s t has)++[13,10]) (epY s t has) eM2 (mem4 (P:=fun n=>low n≠low eM2) (by decide) (by decide) (by decide) (by decide))).1
 have m3:=(qU (bE (epY s t has)++[13,10]) (epY s t has) eM3 (mem4 (P:=fun n=>low n≠low eM3) (by decide) (by decide) (by decide) (by decide))).1
 have m4:=(qU (bE (epY s t has)++[13,10]) (epY s t has) eM4 (mem4 (P:=fun n=>low n≠low eM4) (by decide) (by decide) (by decide) (by decide))).1
 have m5:=(qU (bE (epY s t has)++[13,10]) (epY s t has) eM5 (mem4 (P:=fun n=>low n≠low eM5) (by decide) (by decide) (by decide) (by decide))).1
 have v1:=BN [] (nW,32::s) ((pG,t)::(qT,rX)::r) eN1 (by simp) (show low nW=low eN1 by decide) ns
 have v3:=BN [(nW,32::s)] (pG,t) ((qT,rX)::r) eN3 (by
  intro g hg
  simp only[List.mem_cons,List.not_mem_nil,or_false]at hg
  subst hg
  exact(show low nW≠low eN3 by decide)) (show low pG=low eN3 by decide) nt
 have m0:=(BN [(nW,32::s),(pG,t)] (qT,rX) r eM0 (by
  intro g hg
  simp only[List.mem_cons,List.not_mem_nil,or_false]at hg
  rcases hg with rfl|rfl
  ·exact(show low nW≠low eM0 by decide)
  ·exact(show low pG≠low eM0 by decide)) (show low qT=low eM0 by decide) (show∀c∈rX,c≠10 by decide)).1
 have e1:[]++(nW,32::s)::(pG,t)::(qT,rX)::r=epY s t has:=by rw[hr];rfl
 have e3:[(nW,32::s)]++(pG,t)::(qT,rX)::r=epY s t has:=by rw[hr];rfl
 rw[e1,ts]at v1
 rw[e3,tt]at v3
 rw[←hr,Np]at m0
 have m1:(eA (aW (bE (epY s t has)++[13,10]) (jE 0 (epY s t has)) eM1)).1=if has=true then[(0,[],[99],[100])]else[]:=by
  cases has with
  |true=>
   have:=(BN (epX s t) (BL,BM) [] eM1 (mem3 (P:=fun n=>low n≠low eM1) (by decide) (by decide) (by decide)) (show low BL=low eM1 by decide) (show∀c∈BM,c≠10 by decide)).1
   rw[Nq]at this
   rw[show epY s t true=epX s t++[(BL,BM)]from rfl,this,Lj]
   rfl
  |false=>
   have:=(qU (bE (epX s t)++[13,10]) (epX s t) eM1 (mem3 (P:=fun n=>low n≠low eM1) (by decide) (by decide) (by decide))).1
   rw[show epY s t false=epX s t from rfl,this,Dj]
   rfl
 unfold ofS
 rw[hd,v0.1,v0.2,v1.1,v1.2,v2.1,v2.2,v3.1,v3.2,m0,m1,m2,m3,m4,m5,Li,Dj]
 unfold Jq orL
 cases has<;>rfl
theorem Lk (s t:Bs):epQ s t [99] (enV (Jq s t true),[])=some (.bool true,[])∧epQ s t [97] (enV (Jq s t false),[])=some (.bool true,[]):=by
 have e1:sEq s s=true:=Db rfl
 have e2:sEq t t=true:=Db rfl
 refine⟨?_,?_⟩
 ·show(Option.bind (if(sEq s s)=true then if(sEq t t)=true then some true else some false else some false) fun y0=>some ((V.bool y0),([]:List Ob)))=_
  rw[e1,e2];rfl
 ·show(Option.bind (if(sEq s s)=true then if(sEq t t)=true then some true else some false else some false) fun y0=>some ((V.bool y0),([]:List Ob)))=_
  rw[e1,e2];rfl
theorem ER (s t:Bs) (has:Bool) (hs:∀c∈s,epV c=true) (ht:∀c∈t,epV c=true) (hl:s.length+t.length≤200):Evt (fun k _=>epW (aA cfg k) s t (bE (epY s t has)) has) (.bool true,[]):=by
 have hb:(bE (epY s t has)++[13,10]).length≤400:=by
  cases has
  ·simp[epY,epX,bE,nW,pG,qT,rX];omega
  ·simp[epY,epX,bE,nW,pG,qT,BL,rX,BM];omega
 have hb' :=hb
 rw[List.length_append]at hb'
 have c1:cI (bE (epY s t has)) [13,10]=true:=gC (by omega)
 have hP:=MY (bE (epY s t has)++[13,10]) (by omega)
 have hh:=HW (bE (epY s t has)++[13,10]) 31 0 (bE (epY s t has)++[13,10]).length false 1
 rw[Dh _ (HT s t has hs ht),Int.toNat_natCast]at hh
 generalize(iE (bE (epY s t has)++[13,10]) 32 0 (bE (epY s t has)++[13,10]).length false 1).1=T at*
 have hO:=Nk (bE (epY s t has)++[13,10]) (by omega) T
 rw[Nr s t has hs ht T hh]at hO
 obtain⟨q1,q2⟩:=Lk s t
 simp only[epW,cG c1]
 refine aD hP ?_
 simp only[fD,List.headD_cons,rS,Ef,List.tail_cons,gK,bQ,yO]
 refine aD hO ?_
 cases has with
 |true=>simp only[if_true,q1];exact aG _
 |false=>simp only[Bool.false_eq_true,if_false,q2];exact aG _
theorem Ll (s t:Bs) (has:Bool) (hs:∀c∈s,epV c=true) (ht:∀c∈t,epV c=true) (hl:s.length+t.length≤200):Evt (fun k _=>epF (aA cfg k) s t has) (.bool true,[]):=by
 have l1:nV.length=9:=rfl
 have l2:qS.length=13:=rfl
 have l3:yV.length=13:=rfl
 have l4:Fz.length=13:=rfl
 have c1:cI nV s=true:=gC (by omega)
 have c2:cI (nV++s) qS=true:=gC (by simp only[List.length_append];omega)
 have c3:cI ((nV++s)++qS) t=true:=gC (by simp only[List.length_append];omega)
 have c4:cI (((nV++s)++qS)++t) yV=true:=gC (by simp only[List.length_append];omega)
 have c5:cI ((((nV++s)++qS)++t)++yV) Fz=true:=gC (by simp only[List.length_append];omega)
 simp only[epF,cG c1,cG c2,cG c3,cG c4]
 cases has with
 |true=>
  simp only[if_true,cG c5,HV]
  exact ER s t true hs ht hl
 |false=>
  simp only[Bool.false_eq_true,if_false,HU]
  exact ER s t false hs ht hl
theorem Pq (a0 a1:Bs) (has:Bool):Ret 4 [.str a0, .str a1, .bool has] [] (.bool true,[]):=by
 refine M4 a0 a1 has ?_
 simp only[epE]
 refine aD Ni ?_
 simp only[bK,Bool.not_true,Bool.false_eq_true,if_false]
 by_cases h0:a0.length≤100
 ·have h1:¬(((a0.length:Nat):Int)>100):=by omega
  by_cases h2:a1.length≤100
  ·have h3:¬(((a1.length:Nat):Int)>100):=by omega
   refine rT (v:=false) (by simp only[h1,h3,decide_false,if_true]) ?_
   simp only[Bool.false_eq_true,if_false]
   have f0:∀a:Bs,∀c∈a.filter epV,epV c=true:=fun a c hc=>(List.mem_filter.1 hc).2
   have hl:(a0.filter epV).length+(a1.filter epV).length≤200:=by
    have:=List.length_filter_le epV a0
    have:=List.length_filter_le epV a1
    omega
   have hF:=Ll (a0.filter epV) (a1.filter epV) has (f0 a0) (f0 a1) hl
   have hB:=BK a1 (by omega) (fun k n=>FC (aA cfg k) a1 has (a0.filter epV) n) (fun k _ t=>epF (aA cfg k) (a0.filter epV) t has) (fun k n t j=>rfl) hF a1.length 0 (by omega) (by omega)
   have hA:=BK a0 (by omega) (fun k n=>FD (aA cfg k) a0 a1 has n) (fun k n s=>FC (aA cfg k) a1 has s n [] 0) (fun k n s j=>rfl) hB a0.length 0 (by omega) (by omega)
   exact hA
  ·have h3:(((a1.length:Nat):Int)>100):=by omega
   refine rT (v:=true) (by simp only[h1,h3,decide_false,decide_true,if_true]) ?_
   simp only[if_true]
   exact aG _
 ·have h1:(((a0.length:Nat):Int)>100):=by omega
  refine rT (v:=true) (by simp only[h1,decide_true,Bool.true_eq_false,if_false]) ?_
  simp only[if_true]
  exact aG _
end Go.Proofs.YtdoaoaicdimbeaaGreatDoor
end
section
namespace Go.Proofs.YtdoaoaicdimbeaaGreatDoor
open Go.ChangeShapes Go.WideShapes Go.ChangeAt Go.RowKit Go.Ev
end Go.Proofs.YtdoaoaicdimbeaaGreatDoor
end
