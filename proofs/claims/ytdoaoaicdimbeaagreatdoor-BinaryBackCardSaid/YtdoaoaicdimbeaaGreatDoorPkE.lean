/- Lemmas for the claim, merged: the plain reading of the program's functions, its soundness, and what they compute. -/
import Derived.Test.YtdoaoaicdimbeaaGreatDoorPkD
import Derived.KernelRfl
set_option linter.all false
set_option linter.unusedVariables false
set_option linter.unusedSimpArgs false
section
namespace Go.Proofs.YtdoaoaicdimbeaaGreatDoor
open Go.Ev Go
def nJ:Bs→Option (Bs×Bs)
 |[]=>none
 |[c]=>if c=34 then some ([],[])else none
 |c::x::r=>if c=34 then some ([],x::r)else if c=92 then(nJ r).map fun p=>(x::p.1,p.2)else(nJ (x::r)).map fun p=>(c::p.1,p.2)
theorem A2 (c:UInt8) (r:Bs):nJ (c::r)=
  if c=34 then some ([],r)else if c=92 then(match r with|[]=>none|x::r' =>(nJ r').map fun p=>(x::p.1,p.2))else(nJ r).map fun p=>(c::p.1,p.2):=by
 cases r with
 |nil=>
  rw[nJ,nJ]
  by_cases h:c=34
  ·simp[h]
  ·simp[h]
 |cons x r=>rw[nJ]
theorem B0:∀(n:Nat) (s t r:Bs),s.length≤n→nJ s=some (t,r)→t.length+r.length<s.length
 |_,[],t,r,_,h=>by simp[nJ]at h
 |0,c::s,t,r,h,_=>by simp at h
 |n+1,c::s,t,r,h,hq=>by
  rw[A2]at hq
  simp at h
  split at hq
  ·cases hq;simp
  ·split at hq
   ·cases s with
    |nil=>cases hq
    |cons x s=>
     simp at hq h
     obtain⟨a,hp,rfl⟩:=hq
     have:=B0 n s a r (by omega) hp
     simp;omega
   ·simp at hq
    obtain⟨a,hp,rfl⟩:=hq
    have:=B0 n s a r (by omega) hp
    simp;omega
theorem J8 (s:Bs) (hs:s.length≤1000000):∀(n i:Nat) (out:Bs),s.length - i≤n→out.length≤i→
  ∃rest,Evt (fun k n=>yP (aA cfg k) n (ofBytes out) (i:Nat) s) (match nJ (s.drop i)with
   |some (t,r)=>(.tup [.str (out++t), .bool true],[.cells [.str r]])
   |none=>(.tup [.str [], .bool false],[.cells [.str rest]])):=by
 have fin:∀(i:Nat) (out:Bs),s.length≤i→∃rest,Evt (fun k n=>yP (aA cfg k) n (ofBytes out) (i:Nat) s) (match nJ (s.drop i)with
   |some (t,r)=>(.tup [.str (out++t), .bool true],[.cells [.str r]])
   |none=>(.tup [.str [], .bool false],[.cells [.str rest]])):=by
  intro i out h
  rw[List.drop_eq_nil_of_le h]
  refine⟨s,yQ (ofBytes out) (i:Nat) s ?_⟩
  have h1:¬((i:Int)<(s.length:Int)):=by omega
  simp only[oL,h1,decide_false,Bool.false_eq_true,if_false,nJ]
  exact aC _
 intro n
 induction n with
 |zero=>intro i out h _;exact fin i out (by omega)
 |succ n ih=>
  intro i out h ho
  by_cases hlt:i<s.length
  ·have h1:((i:Int)<(s.length:Int)):=by omega
   have h2:(0:Int)≤(i:Int):=by omega
   have hw:IntKind.wrap .i64 ((i:Int)+1)=((i+1:Nat):Int):=by rw[wrap64 (by omega) (by omega)];omega
   have hw2:IntKind.wrap .i64 (((i+1:Nat):Int)+1)=((i+2:Nat):Int):=by rw[wrap64 (by omega) (by omega)];omega
   have h3:(0:Int)≤((i+1:Nat):Int):=by omega
   have h4:((i+1:Nat):Int)≤(s.length:Int):=by omega
   have e34:(((s[i].toNat:Nat):Int)==(34:Int))=(s[i]==34):=eH s[i] 34 (by omega)
   have e92:(((s[i].toNat:Nat):Int)==(92:Int))=(s[i]==92):=eH s[i] 92 (by omega)
   rw[drop_at hlt,A2]
   by_cases c34:s[i]=34
   ·refine⟨[],yQ (ofBytes out) (i:Nat) s ?_⟩
    simp only[oL,h1,decide_true,if_true,aI h2,bX,Int.toNat_natCast,getD_at hlt,e34,c34,beq_self_eq_true,hw,aI h3,aI h4,bP,List.append_nil]
    exact aC _
   ·have b34:(s[i]==34)=false:=by simpa using c34
    by_cases c92:s[i]=92
    ·by_cases hlt2:i+1<s.length
     ·have h5:((i+1:Nat):Int)<(s.length:Int):=by omega
      have hap:bI (ofBytes out) [V.int IntKind.u8 ((s[i+1].toNat:Nat):Int)] 2=true:=eC (by simp[aH];omega)
      obtain⟨rest,g⟩:=ih (i+2) (out++[s[i+1]]) (by omega) (by simp;omega)
      refine⟨rest,yQ (ofBytes out) (i:Nat) s ?_⟩
      have g34:¬((92:UInt8)=34):=by decide
      rw[if_neg (by rw[c92];exact g34),if_pos c92,drop_at hlt2]
      simp only[oL,h1,decide_true,if_true,aI h2,bX,Int.toNat_natCast,getD_at hlt,e34,b34,Bool.false_eq_true,if_false,e92,c92,beq_self_eq_true,hw,h5,aI h3,getD_at hlt2,cJ hap,hw2,dC]
      cases hq:nJ (s.drop (i+2))with
      |none=>rw[hq]at g;simpa[hq]using g
      |some p=>rw[hq]at g;simpa[hq]using g
     ·have h5:¬(((i+1:Nat):Int)<(s.length:Int)):=by omega
      obtain⟨rest,g⟩:=fin (i+2) out (by omega)
      refine⟨rest,yQ (ofBytes out) (i:Nat) s ?_⟩
      have g34:¬((92:UInt8)=34):=by decide
      rw[if_neg (by rw[c92];exact g34),if_pos c92,List.drop_eq_nil_of_le (by omega:s.length≤i+1)]
      rw[List.drop_eq_nil_of_le (by omega:s.length≤i+2)]at g
      simp only[oL,h1,decide_true,decide_false,if_true,aI h2,bX,Int.toNat_natCast,getD_at hlt,e34,b34,Bool.false_eq_true,if_false,e92,c92,beq_self_eq_true,hw,h5,hw2]
      exact g
    ·have b92:(s[i]==92)=false:=by simpa using c92
     have hap:bI (ofBytes out) [V.int IntKind.u8 ((s[i].toNat:Nat):Int)] 2=true:=eC (by simp[aH];omega)
     obtain⟨rest,g⟩:=ih (i+1) (out++[s[i]]) (by omega) (by simp;omega)
     refine⟨rest,yQ (ofBytes out) (i:Nat) s ?_⟩
     rw[if_neg c34,if_neg c92]
     simp only[oL,h1,decide_true,if_true,aI h2,bX,Int.toNat_natCast,getD_at hlt,e34,b34,Bool.false_eq_true,if_false,e92,b92,hw,cJ hap,dC]
     cases hq:nJ (s.drop (i+1))with
     |none=>rw[hq]at g;simpa[hq]using g
     |some p=>rw[hq]at g;simpa[hq]using g
  ·exact fin i out (by omega)
theorem Mc (s:Bs) (hs:s.length≤1000000):∃rest,Ret 167 [.agg [.ref 0 0]] [.cells [.str s]] (match nJ (s.drop 1)with
   |some (t,r)=>(.tup [.str t, .bool true],[.cells [.str r]])
   |none=>(.tup [.str [], .bool false],[.cells [.str rest]])):=by
 obtain⟨rest,g⟩:=J8 s hs s.length 1 [] (by omega) (by simp)
 refine⟨rest,Qh s ?_⟩
 simp only[HN]
 exact g
def B1 (s:Bs):Option (Bs×Bs):=
 if s.head? =some 34 then nJ (s.drop 1)else if(tokF s).1=[]then none else some (tokF s)
theorem kU (s:Bs):(tokF s).1.length+(tokF s).2.length=s.length:=by
 have:=List.takeWhile_append_dropWhile (p:=sC) (l:=s)
 have h:=congrArg List.length this
 rw[List.length_append]at h
 exact h
theorem B2 {s t r:Bs} (h:B1 s=some (t,r)):t.length+r.length≤s.length:=by
 unfold B1 at h
 split at h
 ·have:=B0 _ _ t r (Nat.le_refl _) h
  simp at this;omega
 ·split at h
  ·cases h
  ·have:=kU s
   have e:tokF s=(t,r):=by injection h
   rw[e]at this;exact Nat.le_of_eq this
theorem Md (s:Bs) (hs:s.length≤1000000):∃rest,Ret 154 [.agg [.ref 0 0]] [.cells [.str s]] (match B1 s with
   |some (t,r)=>(.tup [.str t, .bool true],[.cells [.str r]])
   |none=>(.tup [.str [], .bool false],[.cells [.str rest]])):=by
 have e34:((((s.getD 0 0).toNat:Nat):Int)==(34:Int))=(s.head? ==some 34):=by
  rw[show(34:Int)=((34:Nat):Int)from rfl,eH _ 34 (by omega)]
  cases s with
  |nil=>decide
  |cons c r=>simp
 by_cases h:s.head? =some 34
 ·obtain⟨rest,g⟩:=Mc s hs
  refine⟨rest,NV s ?_⟩
  simp only[Gc]
  refine aD (BW s 0) ?_
  simp only[V.getI,e34,h,beq_self_eq_true,if_true]
  refine aD g ?_
  unfold B1
  rw[if_pos h]
  cases nJ (s.drop 1)with
  |none=>exact aC _
  |some p=>exact aC _
 ·refine⟨(tokF s).2,NV s ?_⟩
  have hb:(s.head? ==some 34)=false:=by simpa using h
  simp only[Gc]
  refine aD (BW s 0) ?_
  simp only[V.getI,e34,hb,Bool.false_eq_true,if_false]
  refine aD (BY s hs) ?_
  unfold B1
  rw[if_neg h]
  simp only[V.getS,List.headD_cons,Ob.getC,sEq]
  by_cases ht:(tokF s).1=[]
  ·rw[if_pos ht,ht]
   exact aC _
  ·rw[if_neg ht]
   have:((tokF s).1==[])=false:=by simpa using ht
   rw[this]
   exact aC _
abbrev Ps:=List (Bs×Bs)
def pV (p:Bs×Bs):V:= .agg [.str p.1, .str p.2]
def cS (s:Bs):Ps:=
 match h1:gV 59 s with
 |none=>[]
 |some s1=>
  if(tokF s1).1=[]then[]
  else match h2:gV 61 (tokF s1).2 with
   |none=>[]
   |some s3=>match h3:B1 s3 with
    |none=>[]
    |some (v,s4)=>((tokF s1).1.map dB,v)::cS s4
termination_by s.length
decreasing_by
 have g1:=iT h1
 have g2:=kU s1
 have g3:=iT h2
 have g4:=B2 h3
 omega
theorem pU (s:Bs):cS s=match gV 59 s with
  |none=>[]
  |some s1=>if(tokF s1).1=[]then[]else match gV 61 (tokF s1).2 with
   |none=>[]
   |some s3=>match B1 s3 with
    |none=>[]
    |some (v,s4)=>((tokF s1).1.map dB,v)::cS s4:=by
 rw[cS]
 split
 ·rename_i h1;simp only[h1]
 ·rename_i s1 h1
  simp only[h1]
  split
  ·rfl
  ·split
   ·rename_i h2;simp only[h2]
   ·rename_i s3 h2
    simp only[h2]
    split
    ·rename_i h3;simp only[h3]
    ·rename_i v s4 h3;simp only[h3]
theorem EI:∀(n:Nat) (s:Bs) (l:Ps),s.length≤n→s.length≤1000000→l.length+s.length≤1000000→
  ∃rest,Evt (fun k n=>wF (aA cfg k) n (l.map pV) s) (.lst 176 false ((l++cS s).map pV),[.cells [.str rest]]):=by
 intro n
 induction n with
 |zero=>
  intro s l h hs hl
  have:s=[]:=List.eq_nil_of_length_eq_zero (by omega)
  subst this
  have hb:gV 59 []=none:=by simp[gV,pT]
  refine⟨cR [],EG (l.map pV) [] ?_⟩
  simp only[uA]
  refine aD (yW [] hs 59 (by decide)) ?_
  rw[pU]
  simp only[hb,sD,Option.isSome_none,V.getB,Bool.false_eq_true,if_false,List.append_nil,List.headD_cons,Ob.getC,V.getS]
  exact aC _
 |succ n ih=>
  intro s l h hs hl
  rw[pU]
  cases h1:gV 59 s with
  |none=>
   refine⟨cR s,EG (l.map pV) s ?_⟩
   simp only[uA]
   refine aD (yW s hs 59 (by decide)) ?_
   simp only[h1,sD,Option.isSome_none,V.getB,Bool.false_eq_true,if_false,List.append_nil,List.headD_cons,Ob.getC,V.getS]
   exact aC _
  |some s1=>
   have g1:=iT h1
   have g2:=kU s1
   have hsl:s1.length≤1000000:=by omega
   have hln:((tokF s1).1.map dB=[])↔(tokF s1).1=[]:=List.map_eq_nil_iff
   have start:∀{r:V×List Ob},Evt (fun k n=>
     if sEq ((tokF s1).1.map dB) []=false then
      Option.bind (aA cfg k 131 [(V.agg [(V.ref 0 0)]),(V.int IntKind.u8 (61:Int))] [(Ob.cells [(V.str (tokF s1).2)])]) fun p3=>
      if(!(V.getB p3.1))=true then
       some ((V.lst 176 false (l.map pV)),[(Ob.cells [(V.str (V.getS (List.headD (Ob.getC (List.headD p3.2 Ob.dead)) V.bot)))])])
      else
       Option.bind (aA cfg k 154 [(V.agg [(V.ref 0 0)])] [(Ob.cells [(V.str (V.getS (List.headD (Ob.getC (List.headD p3.2 Ob.dead)) V.bot)))])]) fun p4=>
       if(!(V.getB (List.headD (List.tail (V.getT p4.1)) V.bot)))=true then
        some ((V.lst 176 false (l.map pV)),[(Ob.cells [(V.str (V.getS (List.headD (Ob.getC (List.headD p4.2 Ob.dead)) V.bot)))])])
       else
        chk (bI (l.map pV) [(V.agg [(V.str ((tokF s1).1.map dB)),(V.str (V.getS (List.headD (V.getT p4.1) V.bot)))])] 33) (wF (aA cfg k) n ((l.map pV++[(V.agg [(V.str ((tokF s1).1.map dB)),(V.str (V.getS (List.headD (V.getT p4.1) V.bot)))])])) ((V.getS (List.headD (Ob.getC (List.headD p4.2 Ob.dead)) V.bot))))
     else
      some ((V.lst 176 false (l.map pV)),[(Ob.cells [(V.str (tokF s1).2)])])) r→Evt (fun k n=>wF (aA cfg k) n (l.map pV) s) r:=by
    intro r hr
    refine EG (l.map pV) s ?_
    simp only[uA]
    refine aD (yW s hs 59 (by decide)) ?_
    simp only[h1,sD,Option.isSome_some,V.getB,if_true,List.headD_cons,Ob.getC,V.getS]
    refine aD (BY s1 hsl) ?_
    simp only[V.getS,List.headD_cons,Ob.getC]
    refine aD (yU _ (by omega)) ?_
    exact hr
   by_cases ht:(tokF s1).1=[]
   ·refine⟨(tokF s1).2,start ?_⟩
    have hse:sEq ((tokF s1).1.map dB) []=true:=by simp[sEq,ht]
    simp only[ht,if_true,List.append_nil]
    rw[ht]at hse
    simp only[hse,Bool.true_eq_false,if_false]
    exact aC _
   ·have hse:sEq ((tokF s1).1.map dB) []=false:=by simp[sEq,ht]
    have h19:=yW (tokF s1).2 (by omega) 61 (by decide)
    simp only[ht,if_false]
    cases h2:gV 61 (tokF s1).2 with
    |none=>
     refine⟨cR (tokF s1).2,start ?_⟩
     simp only[hse,if_true]
     refine aD h19 ?_
     simp only[h2,sD,Option.isSome_none,V.getB,Bool.not_false,if_true,List.append_nil,List.headD_cons,Ob.getC,V.getS]
     exact aC _
    |some s3=>
     have g3:=iT h2
     obtain⟨rest,h35⟩:=Md s3 (by omega)
     cases h3:B1 s3 with
     |none=>
      refine⟨rest,start ?_⟩
      simp only[hse,if_true]
      refine aD h19 ?_
      simp only[h2,sD,Option.isSome_some,V.getB,Bool.not_true,Bool.false_eq_true,if_false,List.headD_cons,Ob.getC,V.getS]
      refine aD h35 ?_
      simp only[h3,V.getT,List.tail_cons,List.headD_cons,V.getB,Bool.not_false,if_true,List.append_nil,Ob.getC,V.getS]
      exact aC _
     |some p=>
      obtain⟨v,s4⟩:=p
      have g4:=B2 h3
      obtain⟨rest',hrec⟩:=ih s4 (l++[((tokF s1).1.map dB,v)]) (by omega) (by omega) (by simp;omega)
      refine⟨rest',start ?_⟩
      simp only[hse,if_true]
      refine aD h19 ?_
      simp only[h2,sD,Option.isSome_some,V.getB,Bool.not_true,Bool.false_eq_true,if_false,List.headD_cons,Ob.getC,V.getS]
      refine aD h35 ?_
      have hap:bI (l.map pV) [V.agg [V.str ((tokF s1).1.map dB),V.str v]] 33=true:=eC (by simp;omega)
      simp only[h3,V.getT,List.tail_cons,List.headD_cons,V.getB,Bool.not_true,Bool.false_eq_true,if_false,Ob.getC,V.getS,cJ hap]
      have e:(l++[((tokF s1).1.map dB,v)]).map pV=l.map pV++[V.agg [V.str ((tokF s1).1.map dB),V.str v]]:=by simp[pV]
      rw[e]at hrec
      simpa using hrec
theorem HV (s:Bs) (hs:s.length≤1000000):∃rest,Ret 132 [.agg [.ref 0 0]] [.cells [.str s]] (.lst 176 false ((cS s).map pV),[.cells [.str rest]]):=by
 obtain⟨rest,g⟩:=EI s.length s [] (Nat.le_refl _) hs (by simpa using hs)
 refine⟨rest,Pv s ?_⟩
 simp only[Hr]
 exact g
end Go.Proofs.YtdoaoaicdimbeaaGreatDoor
end
section
namespace Go.Proofs.YtdoaoaicdimbeaaGreatDoor
open Go.Ev Go
def gB:Ps→Bs→Option Bs
 |[],_=>none
 |p::r,name=>if p.1=name then some p.2 else gB r name
theorem B5 {l:Ps} {i:Nat} (h:i<l.length) (pv:Bs×Bs→V):(l.map pv).getD i .bot=pv l[i]:=by simp[List.getD,h]
theorem J9 (name:Bs) (l:Ps) (hl:l.length≤1000000):∀(n i:Nat),l.length - i≤n→
  Evt (fun k n=>yM (aA cfg k) n name (l.map pV) (l.length:Nat) (i:Nat)) (.tup [.str ((gB (l.drop i) name).getD []), .bool (gB (l.drop i) name).isSome],[]):=by
 have fin:∀i:Nat,l.length≤i→Evt (fun k n=>yM (aA cfg k) n name (l.map pV) (l.length:Nat) (i:Nat)) (.tup [.str ((gB (l.drop i) name).getD []), .bool (gB (l.drop i) name).isSome],[]):=by
  intro i h
  refine HG name (l.map pV) (l.length:Nat) (i:Nat) ?_
  have h1:¬((i:Int)<(l.length:Int)):=by omega
  rw[List.drop_eq_nil_of_le h]
  simp only[yL,h1,decide_false,Bool.false_eq_true,if_false,gB]
  exact aC _
 intro n
 induction n with
 |zero=>intro i h;exact fin i (by omega)
 |succ n ih=>
  intro i h
  by_cases hlt:i<l.length
  ·refine HG name (l.map pV) (l.length:Nat) (i:Nat) ?_
   have h1:((i:Int)<(l.length:Int)):=by omega
   have h2:(0:Int)≤(i:Int):=by omega
   have hw:IntKind.wrap .i64 ((i:Int)+1)=((i+1:Nat):Int):=by rw[wrap64 (by omega) (by omega)];omega
   have hd:l.drop i=l[i]::l.drop (i+1):=List.drop_eq_getElem_cons hlt
   rw[hd,gB]
   simp only[yL,h1,decide_true,if_true,aI h2,List.length_map,bX,Int.toNat_natCast,B5 hlt,pV,V.cells,List.headD_cons,List.tail_cons,V.getS,sEq,hw]
   by_cases hn:l[i].1=name
   ·simp only[hn,beq_self_eq_true,if_true]
    exact aC _
   ·have:(l[i].1==name)=false:=by simpa using hn
    simp only[this,Bool.false_eq_true,if_false,hn]
    exact ih (i+1) (by omega)
  ·exact fin i (by omega)
theorem B6 (l:Ps) (hl:l.length≤1000000) (name:Bs):Ret 156 [.lst 176 false (l.map pV), .str name] [] (.tup [.str ((gB l name).getD []), .bool (gB l name).isSome],[]):=by
 refine P2 (l.map pV) name ?_
 simp only[HE,List.length_map]
 exact J9 name l hl l.length 0 (by omega)
theorem HW (c:UInt8):(((dB c).toNat:Nat):Int)=kM (c.toNat:Nat):=by
 have h:=EA (c:=(c.toNat:Nat)) ⟨by omega,by have:=c.toNat_lt;omega⟩
 unfold dB
 simp only[UInt8.toNat_ofNat']
 omega
theorem Me (c:UInt8):Ret 111 [.int .u8 (c.toNat:Nat)] [] (.int .u8 ((dB c).toNat:Nat),[]):=by
 refine PR (c.toNat:Nat) ?_
 rw[HW]
 have hc:=c.toNat_lt
 unfold kM
 simp only[HA]
 by_cases h1:(65:Int)≤(c.toNat:Int)
 ·by_cases h2:(c.toNat:Int)≤90
  ·have hw:IntKind.wrap .u8 (IntKind.wrap .u8 ((c.toNat:Int) - 65)+97)=(c.toNat:Int)+32:=by
    rw[vO (by omega) (by omega:(c.toNat:Int) - 65<256),vO (by omega) (by omega)];omega
   simp only[ge_iff_le,h1,h2,decide_true,if_true,bS,and_self,hw]
   exact aC _
  ·simp only[ge_iff_le,h1,h2,decide_true,decide_false,if_true,bS,and_false,if_false,Bool.false_eq_true]
   exact aC _
 ·simp only[ge_iff_le,h1,decide_false,bS,false_and,if_false,Bool.false_eq_true]
  exact aC _
def hexN (c:UInt8):Option Nat:=
 if 48≤(dB c).toNat∧(dB c).toNat≤57 then some ((dB c).toNat - 48)else if 97≤(dB c).toNat∧(dB c).toNat≤102 then some ((dB c).toNat - 87)else none
theorem Fc {c:UInt8} {n:Nat} (h:hexN c=some n):n<16:=by
 unfold hexN at h
 split at h
 ·cases h;omega
 ·split at h
  ·cases h;omega
  ·cases h
theorem HY (c:UInt8):Ret 169 [.int .u8 (c.toNat:Nat)] [] (.tup [.int .u8 (((hexN c).getD 0:Nat):Int), .bool (hexN c).isSome],[]):=by
 refine Qk (c.toNat:Nat) ?_
 simp only[HO]
 refine aD (Me c) ?_
 unfold hexN
 generalize hd:(dB c).toNat=d
 show Evt (fun _ _=>Option.bind (if decide ((d:Int)≥48)=true then some (decide ((d:Int)≤57))else some false) fun b1=>if b1=true then some (V.tup [V.int .u8 (IntKind.wrap .u8 ((d:Int) - 48)),V.bool true],[])else
  Option.bind (if decide ((d:Int)≥97)=true then some (decide ((d:Int)≤102))else some false) fun b2=>if b2=true then some (V.tup [V.int .u8 (IntKind.wrap .u8 (IntKind.wrap .u8 ((d:Int) - 97)+10)),V.bool true],[])else
   some (V.tup [V.int .u8 0,V.bool false],[])) _
 simp only[ge_iff_le]
 by_cases h1:48≤d∧d≤57
 ·have g1:(48:Int)≤(d:Int):=by omega
  have g2:(d:Int)≤57:=by omega
  have hw:IntKind.wrap .u8 ((d:Int) - 48)=((d - 48:Nat):Int):=by rw[vO (by omega) (by omega)];omega
  simp only[g1,g2,decide_true,if_true,bS,hw,h1,and_self,Option.getD_some,Option.isSome_some]
  exact aC _
 ·rw[if_neg h1]
  have hb:(if decide ((48:Int)≤(d:Int))=true then some (decide ((d:Int)≤57))else some false)=some false:=by
   by_cases a:48≤d
   ·have b:¬(d:Int)≤57:=by omega
    simp[b]
   ·have b:¬(48:Int)≤(d:Int):=by omega
    simp[b]
  simp only[hb,bS,Bool.false_eq_true,if_false]
  by_cases h2:97≤d∧d≤102
  ·have g1:(97:Int)≤(d:Int):=by omega
   have g2:(d:Int)≤102:=by omega
   have hw:IntKind.wrap .u8 (IntKind.wrap .u8 ((d:Int) - 97)+10)=((d - 87:Nat):Int):=by rw[vO (by omega) (by omega:(d:Int) - 97<256),vO (by omega) (by omega)];omega
   simp only[g1,g2,decide_true,if_true,bS,hw,h2,and_self,Option.getD_some,Option.isSome_some]
   exact aC _
  ·rw[if_neg h2]
   have hb:(if decide ((97:Int)≤(d:Int))=true then some (decide ((d:Int)≤102))else some false)=some false:=by
    by_cases a:97≤d
    ·have b:¬(d:Int)≤102:=by omega
     simp[b]
    ·have b:¬(97:Int)≤(d:Int):=by omega
     simp[b]
   simp only[hb,bS,Bool.false_eq_true,if_false]
   exact aC _
def cV:Bs→Bs
 |[]=>[]
 |[c]=>[c]
 |[c,a]=>[c,a]
 |c::a::b::r=>if c=37 then(match hexN a,hexN b with
   |some x,some y=>UInt8.ofNat (16*x+y)::cV r
   |_,_=>c::cV (a::b::r))else c::cV (a::b::r)
theorem vP (c:UInt8) (r:Bs) (h:c≠37∨r.length<2):cV (c::r)=c::cV r:=by
 match r,h with
 |[],_=>rfl
 |[a],_=>rfl
 |a::b::r,h=>
  have:c≠37:=by rcases h with h|h;exact h;simp at h;omega
  rw[cV,if_neg this]
theorem mU:∀(n:Nat) (s:Bs),s.length≤n→(cV s).length≤s.length
 |_,[],_=>by simp[cV]
 |_,[c],_=>by simp[cV]
 |_,[c,a],_=>by simp[cV]
 |0,c::a::b::r,h=>by simp at h
 |n+1,c::a::b::r,h=>by
  simp at h
  have h1:=mU n r (by omega)
  have h2:=mU n (a::b::r) (by simp;omega)
  simp at h2
  rw[cV]
  split
  ·split<;>simp<;>omega
  ·simp;omega
theorem Dk (s:Bs):(cV s).length≤s.length:=mU _ s (Nat.le_refl _)
theorem Qo:∀x y:Fin 16,bits .or .u8 (IntKind.wrap .u8 (((x.val:Nat):Int)*2 ^ min (Int.toNat 4) (IntKind.bits .u8))) ((y.val:Nat):Int)=((((UInt8.ofNat (16*x.val+y.val)).toNat:Nat)):Int):=by decide+kernel
theorem Ka (s:Bs) (hs:s.length≤1000000):∀(n i:Nat) (out:Bs),s.length - i≤n→out.length≤i→i≤s.length→
  Evt (fun k n=>wG (aA cfg k) n s (ofBytes out) (i:Nat)) (.str (out++cV (s.drop i)),[]):=by
 have fin:∀(i:Nat) (out:Bs),s.length≤i→Evt (fun k n=>wG (aA cfg k) n s (ofBytes out) (i:Nat)) (.str (out++cV (s.drop i)),[]):=by
  intro i out h
  refine HI s (ofBytes out) (i:Nat) ?_
  have h1:¬((i:Int)<(s.length:Int)):=by omega
  rw[List.drop_eq_nil_of_le h]
  simp only[rI,h1,decide_false,Bool.false_eq_true,if_false,bP,cV,List.append_nil]
  exact aC _
 intro n
 induction n with
 |zero=>intro i out h _ _;exact fin i out (by omega)
 |succ n ih=>
  intro i out h ho hi
  by_cases hlt:i<s.length
  ·refine HI s (ofBytes out) (i:Nat) ?_
   have h1:((i:Int)<(s.length:Int)):=by omega
   have h2:(0:Int)≤(i:Int):=by omega
   have hw:IntKind.wrap .i64 ((i:Int)+1)=((i+1:Nat):Int):=by rw[wrap64 (by omega) (by omega)];omega
   have hw2:IntKind.wrap .i64 ((i:Int)+2)=((i+2:Nat):Int):=by rw[wrap64 (by omega) (by omega)];omega
   have hw3:IntKind.wrap .i64 (((i+2:Nat):Int)+1)=((i+3:Nat):Int):=by rw[wrap64 (by omega) (by omega)];omega
   have e37:(((s[i].toNat:Nat):Int)==(37:Int))=(s[i]==37):=eH s[i] 37 (by omega)
   have hap:∀c:Int,bI (ofBytes out) [V.int IntKind.u8 c] 2=true:=fun c=>eC (by simp[aH];omega)
   have plain:cV (s.drop i)=s[i]::cV (s.drop (i+1))→Evt (fun k n=>chk (decide (0≤(i:Int))) (chk (decide ((i:Int)<(s.length:Int))) (chk (bI (ofBytes out) [V.int IntKind.u8 ((UInt8.toNat (List.getD s (Int.toNat (i:Int)) 0):Nat):Int)] 2) (wG (aA cfg k) n s (ofBytes out++[V.int IntKind.u8 ((UInt8.toNat (List.getD s (Int.toNat (i:Int)) 0):Nat):Int)]) (IntKind.wrap .i64 ((i:Int)+1)))))) (.str (out++cV (s.drop i)),[]):=by
    intro e
    have:=ih (i+1) (out++[s[i]]) (by omega) (by simp;omega) (by omega)
    simp only[aI h2,aI h1,cJ (hap _),Int.toNat_natCast,getD_at hlt,dC,hw]
    rw[e]
    simpa using this
   by_cases c37:s[i]=37
   ·have b37:(s[i]==37)=true:=by simpa using c37
    by_cases h3:i+2<s.length
    ·have g3:((i+2:Nat):Int)<(s.length:Int):=by omega
     have g4:((i+1:Nat):Int)<(s.length:Int):=by omega
     have g5:(0:Int)≤((i+1:Nat):Int):=by omega
     have g6:(0:Int)≤((i+2:Nat):Int):=by omega
     have hlt1:i+1<s.length:=by omega
     have hd:s.drop i=s[i]::s[i+1]::s[i+2]::s.drop (i+3):=by rw[drop_at hlt,drop_at hlt1,drop_at h3]
     simp only[rI,h1,decide_true,if_true,aI h2,bX,bS,Int.toNat_natCast,getD_at hlt,e37,b37,hw2,g3,hw,aI g5,aI g4,getD_at hlt1]
     refine aD (HY s[i+1]) ?_
     simp only[aI g6,aI g3,getD_at h3]
     refine aD (HY s[i+2]) ?_
     simp only[V.getT,V.getB,V.getI,List.headD_cons,List.tail_cons]
     cases ha:hexN s[i+1]with
     |none=>
      simp only[Option.isSome_none,Bool.false_eq_true,if_false,bS]
      have e:cV (s.drop i)=s[i]::cV (s.drop (i+1)):=by
       rw[hd,cV,if_pos c37,ha,drop_at hlt1,drop_at h3]
      have:=plain e
      simp only[Int.toNat_natCast,getD_at hlt,hw,aI h2,aI h1]at this
      exact this
     |some x=>
      cases hb:hexN s[i+2]with
      |none=>
       simp only[Option.isSome_none,Option.isSome_some,Bool.false_eq_true,if_false,if_true,bS]
       have e:cV (s.drop i)=s[i]::cV (s.drop (i+1)):=by
        rw[hd,cV,if_pos c37,ha,hb,drop_at hlt1,drop_at h3]
       have:=plain e
       simp only[Int.toNat_natCast,getD_at hlt,hw,aI h2,aI h1]at this
       exact this
      |some y=>
       have ho16:=Qo ⟨x,Fc ha⟩ ⟨y,Fc hb⟩
       simp only[Option.isSome_some,if_true,bS,Option.getD_some,ho16,aI (show(0:Int)≤4 by omega),cJ (hap _),dC,hw3]
       have:=ih (i+3) (out++[UInt8.ofNat (16*x+y)]) (by omega) (by simp;omega) (by omega)
       rw[hd,cV,if_pos c37,ha,hb]
       simpa using this
    ·have g3:¬(((i+2:Nat):Int)<(s.length:Int)):=by omega
     have e:cV (s.drop i)=s[i]::cV (s.drop (i+1)):=by
      rw[drop_at hlt];exact vP _ _ (.inr (by simp;omega))
     have:=plain e
     simp only[Int.toNat_natCast,getD_at hlt,hw,aI h2,aI h1]at this
     simp only[rI,h1,decide_true,decide_false,if_true,aI h2,bX,bS,Int.toNat_natCast,getD_at hlt,e37,b37,hw2,g3,Bool.false_eq_true,if_false,hw]
     exact this
   ·have b37:(s[i]==37)=false:=by simpa using c37
    have e:cV (s.drop i)=s[i]::cV (s.drop (i+1)):=by
     rw[drop_at hlt];exact vP _ _ (.inl c37)
    have:=plain e
    simp only[Int.toNat_natCast,getD_at hlt,hw,aI h2,aI h1]at this
    simp only[rI,h1,decide_true,if_true,aI h2,bX,bS,Int.toNat_natCast,getD_at hlt,e37,b37,Bool.false_eq_true,if_false,hw]
    exact this
  ·exact fin i out (by omega)
theorem EJ (s:Bs) (hs:s.length≤1000000):Ret 157 [.str s] [] (.str (cV s),[]):=by
 refine P5 s ?_
 simp only[HH]
 exact Ka s hs s.length 0 [] (by omega) (by simp) (by omega)
end Go.Proofs.YtdoaoaicdimbeaaGreatDoor
end
section
namespace Go.Proofs.YtdoaoaicdimbeaaGreatDoor
open Go.Ev Go
def cF (b:UInt8):Bs→Option (Bs×Bs)
 |[]=>none
 |c::r=>if c=b then some ([],r)else(cF b r).map fun p=>(c::p.1,p.2)
theorem fC {b:UInt8}:∀{s t r:Bs},cF b s=some (t,r)→s=t++b::r
 |[],_,_,h=>by simp[cF]at h
 |c::s,t,r,h=>by
  unfold cF at h
  split at h
  ·rename_i e;cases h;simp[e]
  ·simp at h
   obtain⟨a,ha,rfl⟩:=h
   rw[fC ha];rfl
theorem jR (b:UInt8):∀s:Bs,Lib.indexByte s b=match cF b s with|some p=>(p.1.length:Int)|none=> -1
 |[]=>rfl
 |c::s=>by
  unfold Lib.indexByte cF
  rw[jR b s]
  by_cases h:c=b
  ·simp[h]
  ·have h' :(c==b)=false:=by simpa using h
   simp only[h',Bool.false_eq_true,if_false,h]
   cases cF b s with
   |none=>rfl
   |some p=>
    have:((p.1.length:Int)== -1)=false:=by simp
    simp[this]
def dG (s:Bs):Bs:=match cF 42 s with|some p=>p.1|none=>s
theorem Dl (s:Bs):(dG s).length≤s.length:=by
 unfold dG
 cases h:cF 42 s with
 |none=>simp
 |some p=>have:=congrArg List.length (fC h);simp at this ⊢;omega
theorem HZ (s:Bs) (b:UInt8):Ret 168 [.str s, .str [b]] [] (.int .i64 (Lib.indexByte s b),[]):=iR (h:=JD) rfl rfl
theorem Mf (s:Bs) (hs:s.length≤1000000):∃r b,Ret 155 [.str s, .str [42]] [] (.tup [.str (dG s), .str r, .bool b],[]):=by
 unfold dG
 cases h:cF 42 s with
 |none=>
  refine⟨[],false,NW s [42] ?_⟩
  simp only[Gd]
  refine aD (HZ s 42) ?_
  rw[jR,h]
  simp only[V.getI,show¬((-1:Int)≥0)by omega,decide_false,Bool.false_eq_true,if_false]
  exact aC _
 |some p=>
  have hl:=congrArg List.length (fC h)
  simp at hl
  have hw:IntKind.wrap .i64 ((p.1.length:Int)+((([42]:Bs).length:Nat):Int))=((p.1.length+1:Nat):Int):=by
   rw[show((([42]:Bs).length:Nat):Int)=1 from rfl,wrap64 (by omega) (by omega)];omega
  have g0:(p.1.length:Int)≥0:=by omega
  have g1:(p.1.length:Int)≤(s.length:Int):=by omega
  have g2:((p.1.length+1:Nat):Int)≤(s.length:Int):=by omega
  have g3:(0:Int)≤((p.1.length+1:Nat):Int):=by omega
  refine⟨s.drop (p.1.length+1),true,NW s [42] ?_⟩
  simp only[Gd]
  obtain⟨x,hx⟩:∃x:Int,x=(p.1.length:Int):=⟨_,rfl⟩
  have h51:Ret 168 [.str s, .str [42]] [] (.int .i64 x,[]):=by
   have:=HZ s 42
   rw[jR,h]at this
   rw[hx];exact this
  refine aD h51 ?_
  have e1:(s.take p.1.length)=p.1:=by
   have:=fC h
   conv=>lhs;rw[this]
   simp
  rw[←hx]at hw g0 g1
  show Evt (fun _ _=>if decide (x≥0)=true then
    chk (decide (0≤x)) (chk (decide (x≤((List.length s:Nat):Int))) (chk (decide ((0:Int)≤0)) (chk (decide (0≤x)) (chk (decide (0≤(IntKind.wrap IntKind.i64 (x+((List.length ([42]:Bs):Nat):Int))))) (chk (decide ((IntKind.wrap IntKind.i64 (x+((List.length ([42]:Bs):Nat):Int)))≤((List.length s:Nat):Int))) (some ((V.tup [(V.str (List.drop (Int.toNat (0:Int)) (List.take (Int.toNat x) s))),(V.str (List.drop (Int.toNat (IntKind.wrap IntKind.i64 (x+((List.length ([42]:Bs):Nat):Int)))) s)),(V.bool true)]),[])))))))
   else some ((V.tup [(V.str s),(V.str []),(V.bool false)]),[])) _
  rw[hw]
  have hxn:x.toNat=p.1.length:=by omega
  simp only[g0,decide_true,if_true,ge_iff_le.1 g0,bX,aI g1,aI g2,aI g3,aI (Int.le_refl 0),hxn,Int.toNat_natCast,Int.toNat_zero,List.drop_zero,e1]
  exact aC _
theorem Mg (s:Bs) (hs:s.length≤1000000):∃r b,Ret 133 [.str s, .str [42]] [] (.tup [.str (dG s), .str r, .bool b],[]):=by
 obtain⟨r,b,h⟩:=Mf s hs
 refine⟨r,b,Py s [42] ?_⟩
 simp only[Ht]
 exact aD h (aC _)
def qO (s:Bs):Bs:=match cF 39 s with
 |none=>s
 |some p=>match cF 39 p.2 with|none=>s|some q=>q.2
theorem yX (s:Bs):(qO s).length≤s.length:=by
 unfold qO
 cases h:cF 39 s with
 |none=>simp
 |some p=>
  have h1:=congrArg List.length (fC h)
  dsimp only
  cases h' :cF 39 p.2 with
  |none=>simp
  |some q=>have h2:=congrArg List.length (fC h');simp at h1 h2 ⊢;omega
theorem oP (b:UInt8) (k:Nat) (s:Bs):rH b (k+1) s=match cF b s with|none=>[s]|some p=>p.1::rH b k p.2:=by
 rw[rH,jR]
 cases h:cF b s with
 |none=>simp
 |some p=>
  have e:=fC h
  have h1:¬((p.1.length:Int)= -1):=by omega
  simp only[h1,if_false,Int.toNat_natCast]
  have e1:s.take p.1.length=p.1:=by
   conv=>lhs;rw[e]
   simp
  have e2:s.drop (p.1.length+1)=p.2:=by
   conv=>lhs;rw[e]
   simp
  rw[e1,e2]
theorem H2 (s:Bs) (hs:s.length≤1000000):Ret 158 [.str s] [] (.str (qO s),[]):=by
 have h53:Ret 170 [.str s, .str [39], .int .i64 (3:Int)] [] (.lst 9 false ((rH 39 (min (Int.toNat 3) (s.length+1) - 1) s).map V.str),[]):=by
  refine iR (h:=yG) rfl ?_
  have:s.length<4294967281:=by omega
  simp[yG,this]
 refine P8 s ?_
 simp only[HJ]
 refine aD h53 ?_
 simp only[V.getL,List.length_map]
 generalize hk:rH 39 (min (Int.toNat 3) (s.length+1) - 1) s=ps
 have hmain:(ps.length<3∧qO s=s)∨(∃a b,ps=[a,b,qO s]):=by
  unfold qO
  by_cases h2:2≤s.length
  ·have:min (Int.toNat 3) (s.length+1) - 1=2:=by simp;omega
   rw[this,oP]at hk
   cases h:cF 39 s with
   |none=>rw[h]at hk;left;subst hk;simp
   |some p=>
    rw[h]at hk
    simp only[oP]at hk
    cases h' :cF 39 p.2 with
    |none=>rw[h']at hk;left;subst hk;exact⟨by simp,by simp only[h']⟩
    |some q=>rw[h']at hk;right;subst hk;exact⟨p.1,q.1,by simp[h',rH]⟩
  ·left
   have hsm:(match cF 39 s with|none=>s|some p=>match cF 39 p.2 with|none=>s|some q=>q.2)=s:=by
    cases h:cF 39 s with
    |none=>rfl
    |some p=>
     have h1:=congrArg List.length (fC h)
     dsimp only
     cases h' :cF 39 p.2 with
     |none=>rfl
     |some q=>have h3:=congrArg List.length (fC h');simp at h1 h3;omega
   refine⟨?_,hsm⟩
   have:min (Int.toNat 3) (s.length+1) - 1≤1:=by simp;omega
   have hk2:∀k,k≤1→(rH 39 k s).length<3:=by
    intro k hk
    match k,hk with
    |0,_=>simp[rH]
    |1,_=>rw[oP];cases cF 39 s<;>simp[rH]
   rw[←hk];exact hk2 _ this
 rcases hmain with⟨h1,h2⟩|⟨a,b,h⟩
 ·have g:(ps.length:Int)<3:=by omega
  simp only[g,decide_true,if_true,h2]
  exact aC _
 ·subst h
  simp only[List.length_cons,List.length_nil,show¬(((0+1+1+1:Nat):Int)<3)by omega,decide_false,Bool.false_eq_true,if_false]
  generalize qO s=x
  exact aC _
def jS (n:Nat):Bs:=if n<10 then[UInt8.ofNat (48+n)]else jS (n / 10)++[UInt8.ofNat (48+n % 10)]
termination_by n
theorem kJ {n:Nat} (h:n<10):jS n=[UInt8.ofNat (48+n)]:=by rw[jS,if_pos h]
theorem sE {n:Nat} (h:¬n<10):jS n=jS (n / 10)++[UInt8.ofNat (48+n % 10)]:=by rw[jS,if_neg h]
theorem Dm:∀n:Nat,(jS n).length≤n+1:=by
 intro n
 induction n using Nat.strongRecOn with
 |_ n ih=>
  by_cases h:n<10
  ·rw[kJ h];simp
  ·rw[sE h]
   have:=ih (n / 10) (by omega)
   simp;omega
theorem N5:∀d:Fin 10,(Utf8.encode (IntKind.wrap .i32 (IntKind.wrap .i64 (48+(d.val:Int))))).data.toList=[UInt8.ofNat (48+d.val)]:=by decide+kernel
theorem Mh:∀(n:Nat) (out:Bs),0<n→n+out.length≤2000000000→Evt (fun k m=>L47 (aA cfg k) m (n:Int) out false) (.str (jS n++out),[]):=by
 intro n
 induction n using Nat.strongRecOn with
 |_ n ih=>
  intro out hn hb
  refine K5 (n:Int) out false ?_
  have h1:((n:Int) != 0)=true:=by simp;omega
  have h2:((10:Int) != 0)=true:=by decide
  have ht:Int.tmod (n:Int) 10=((n % 10:Nat):Int):=by rw[Int.tmod_eq_emod_of_nonneg (by omega)];omega
  have hq:IntKind.wrap .i64 (Int.tdiv (n:Int) 10)=((n / 10:Nat):Int):=by
   rw[Int.tdiv_eq_ediv_of_nonneg (by omega),wrap64 (by omega) (by omega)];omega
  have hm:IntKind.wrap .i64 (0 - ((n % 10:Nat):Int))= -((n % 10:Nat):Int):=by rw[wrap64 (by omega) (by omega)];omega
  have hng:¬(-((n % 10:Nat):Int)>((n % 10:Nat):Int)):=by omega
  have he:=N5 ⟨n % 10,by omega⟩
  simp only at he
  have hc:dS [UInt8.ofNat (48+n % 10)] out=true:=lC (by simp;omega)
  simp only[Di,h1,if_true,h2,bX,ht,hq,hm,hng,if_false,he,cJ hc]
  by_cases hs:n<10
  ·have e:n / 10=0:=by omega
   have e' :n % 10=n:=by omega
   rw[e,e',kJ hs]
   refine K5 ((0:Nat):Int) _ false ?_
   have h0:((((0:Nat):Int)) != 0)=false:=by decide
   simp only[Di,h0,Bool.false_eq_true,if_false]
   exact aC _
  ·rw[sE hs]
   have:=ih (n / 10) (by omega) ([UInt8.ofNat (48+n % 10)]++out) (by omega) (by simp;omega)
   simpa using this
theorem N6 (n:Nat) (hn:n≤1000000001):Ret 47 [.int .i64 (n:Int)] [] (.str (jS n),[]):=by
 refine M47 (n:Int) ?_
 simp only[T47]
 by_cases h:n=0
 ·subst h
  have h0:((((0:Nat):Int))==0)=true:=by decide
  simp only[h0,if_true,kJ (show 0<10 by omega)]
  exact aC _
 ·have h0:((n:Int)==0)=false:=by simp;omega
  have h1:¬((n:Int)<0):=by omega
  simp only[h0,Bool.false_eq_true,if_false,h1,decide_false]
  have:=Mh n [] (by omega) (by simp;omega)
  simpa using this
end Go.Proofs.YtdoaoaicdimbeaaGreatDoor
end
section
namespace Go.Proofs.YtdoaoaicdimbeaaGreatDoor
open Go.Ev Go
theorem kK:∀{l:Ps} {name v:Bs},gB l name=some v→∃p∈l,p.1=name∧p.2=v
 |[],_,_,h=>by simp[gB]at h
 |p::l,name,v,h=>by
  unfold gB at h
  split at h
  ·rename_i e;cases h;exact⟨p,by simp,e,rfl⟩
  ·obtain⟨q,hq,h1⟩:=kK h
   exact⟨q,by simp[hq],h1⟩
def iU (l:Ps) (base:Bs) (n:Nat):Option Bs:=
 match gB l ((base++[42])++jS n)with
 |some v=>some v
 |none=>match gB l (((base++[42])++jS n)++[42])with
  |some v=>some (cV (if n=0 then qO v else v))
  |none=>none
def joinL (l:Ps) (base:Bs):Nat→Nat→Bs
 |0,_=>[]
 |f+1,n=>match iU l base n with|none=>[]|some v=>v++joinL l base f (n+1)
def N7 (ds:Bs):Nat:=ds.foldl (fun a d=>10*a+(d.toNat - 48)) 0
theorem uK {d:Nat} (h:d<10):(UInt8.ofNat (48+d)).toNat=48+d:=by simp;omega
theorem A3:∀n:Nat,N7 (jS n)=n:=by
 intro n
 induction n using Nat.strongRecOn with
 |_ n ih=>
  by_cases h:n<10
  ·rw[kJ h]
   show 10*0+((UInt8.ofNat (48+n)).toNat - 48)=n
   rw[uK h];omega
  ·rw[sE h]
   have:=ih (n / 10) (by omega)
   unfold N7 at this ⊢
   rw[List.foldl_append,this]
   show 10* (n / 10)+((UInt8.ofNat (48+n % 10)).toNat - 48)=n
   rw[uK (by omega)];omega
theorem Ge:∀n:Nat,∀d∈jS n,d≠42:=by
 intro n
 have key:∀m,m<10→UInt8.ofNat (48+m)≠42:=fun m hm e=>by
  have:=congrArg UInt8.toNat e
  rw[uK hm]at this
  simp at this;omega
 induction n using Nat.strongRecOn with
 |_ n ih=>
  by_cases h:n<10
  ·rw[kJ h]
   intro d hd
   rw[List.mem_singleton]at hd;subst hd;exact key n h
  ·rw[sE h]
   intro d hd
   rw[List.mem_append]at hd
   rcases hd with hd|hd
   ·exact ih (n / 10) (by omega) d hd
   ·rw[List.mem_singleton]at hd;subst hd;exact key _ (by omega)
theorem yY (n:Nat) (e:Bs) (he:e=[]∨e=[42]):(jS n++e).filter (· != 42)=jS n:=by
 rw[List.filter_append]
 have h1:(jS n).filter (· != 42)=jS n:=List.filter_eq_self.2 fun d hd=>by simpa using Ge n d hd
 rw[h1]
 rcases he with rfl|rfl<;>simp
def jH (base:Bs) (p:Bs×Bs) (n:Nat):Bool:=p.1==(base++[42])++jS n||p.1==((base++[42])++jS n)++[42]
theorem EK {base:Bs} {p:Bs×Bs} {n m:Nat} (h:jH base p n=true) (h' :jH base p m=true):n=m:=by
 have key:∀k,jH base p k=true→∃e,(e=[]∨e=[42])∧p.1=(base++[42])++(jS k++e):=by
  intro k hk
  simp only[jH,Bool.or_eq_true,beq_iff_eq]at hk
  rcases hk with hk|hk
  ·exact⟨[], .inl rfl,by rw[hk];simp⟩
  ·exact⟨[42], .inr rfl,by rw[hk];simp⟩
 obtain⟨e1,he1,h1⟩:=key n h
 obtain⟨e2,he2,h2⟩:=key m h'
 have:=List.append_cancel_left (h1.symm.trans h2)
 have h3:=congrArg (List.filter (· != 42)) this
 rw[yY n e1 he1,yY m e2 he2]at h3
 rw[←A3 n,←A3 m,h3]
theorem vQ {l:Ps} {base:Bs} {n:Nat} {v:Bs} (h:iU l base n=some v):∃p∈l,jH base p n=true∧v.length≤p.2.length:=by
 unfold iU at h
 split at h
 ·rename_i u hu
  cases h
  obtain⟨p,hp,h1,h2⟩:=kK hu
  exact⟨p,hp,by simp[jH,h1],by rw[h2];exact Nat.le_refl _⟩
 ·split at h
  ·rename_i u hu
   cases h
   obtain⟨p,hp,h1,h2⟩:=kK hu
   refine⟨p,hp,by simp[jH,h1],?_⟩
   rw[h2]
   split
   ·exact Nat.le_trans (Dk _) (yX _)
   ·exact Dk _
  ·cases h
theorem sF {α:Type} (q:α→Bool):∀S:List α,S.length=(S.filter q).length+(S.filter fun x=> !q x).length
 |[]=>rfl
 |x::S=>by
  have:=sF q S
  cases h:q x<;>simp[h]<;>omega
theorem Gf {α:Type}:∀{S:List α},S.Nodup→(∀x∈S,∀y∈S,x=y)→S.length≤1
 |[],_,_=>by simp
 |[x],_,_=>by simp
 |x::y::S,h,h' =>by
  have:=h' x (by simp) y (by simp)
  subst this
  simp at h
theorem H3 (base:Bs):∀(l:Ps) (S:List Nat),S.Nodup→(∀n∈S,∃p∈l,jH base p n=true)→S.length≤l.length
 |[],S,_,h=>by
  cases S with
  |nil=>simp
  |cons n S=>obtain⟨p,hp,_⟩:=h n (by simp);simp at hp
 |p::l,S,hn,h=>by
  have h1:=sF (fun n=>jH base p n) S
  have h2:(S.filter fun n=>jH base p n).length≤1:=Gf (hn.filter _) fun x hx y hy=>by
   rw[List.mem_filter]at hx hy
   exact EK hx.2 hy.2
  have h3:=H3 base l (S.filter fun n=> !jH base p n) (hn.filter _) fun n hnm=>by
   rw[List.mem_filter]at hnm
   obtain⟨q,hq,hm⟩:=h n hnm.1
   rw[List.mem_cons]at hq
   rcases hq with rfl|hq
   ·rw[hm]at hnm;simp at hnm
   ·exact⟨q,hq,hm⟩
  rw[List.length_cons];omega
theorem EL (l:Ps) (base:Bs):∃m,m≤l.length∧iU l base m=none:=by
 apply Classical.byContradiction
 intro hno
 have:∀n∈List.range (l.length+1),∃p∈l,jH base p n=true:=by
  intro n hn
  rw[List.mem_range]at hn
  cases h:iU l base n with
  |none=>exact absurd ⟨n,by omega,h⟩ hno
  |some v=>obtain⟨p,hp,hm,_⟩:=vQ h;exact⟨p,hp,hm⟩
 have:=H3 base l _ List.nodup_range this
 simp at this;omega
theorem Fe (l:Ps) (base:Bs) (hl:l.length≤1000000) (hv:∀p∈l,p.2.length≤1000000) (hb:base.length≤1000000):∀(f n:Nat) (out:Bs),n+f≤1000001→out.length≤n*1000000→
  (∃m,n≤m∧m<n+f∧iU l base m=none)→
  Evt (fun k j=>yN (aA cfg k) j (l.map pV) base out (n:Int)) (.tup [.str (out++joinL l base f n), .bool (decide (0<n)||(iU l base n).isSome)],[])
 |0,n,out,_,_,⟨m,h1,h2,_⟩=>by omega
 |f+1,n,out,hf,ho,⟨m,h1,h2,h3⟩=>by
  refine L0 (l.map pV) base out (n:Int) ?_
  have hd:=Dm n
  have c1:dS base [42]=true:=lC (by simp;omega)
  have c2:dS (base++[42]) (jS n)=true:=lC (by simp;omega)
  have c3:dS ((base++[42])++jS n) [42]=true:=lC (by simp;omega)
  have hw:IntKind.wrap .i64 ((n:Int)+1)=((n+1:Nat):Int):=by rw[wrap64 (by omega) (by omega)];omega
  have next:∀v,iU l base n=some v→dS out v=true∧Evt (fun k j=>yN (aA cfg k) j (l.map pV) base (out++v) ((n+1:Nat):Int)) (.tup [.str (out++joinL l base (f+1) n), .bool (decide (0<n)||(iU l base n).isSome)],[]):=by
   intro v hj
   obtain⟨p,hp,_,hle⟩:=vQ hj
   have:=hv p hp
   refine⟨lC (by omega),?_⟩
   have hne:n≠m:=fun e=>by rw[e,h3]at hj;cases hj
   have:=Fe l base hl hv hb f (n+1) (out++v) (by omega) (by simp;omega) ⟨m,by omega,by omega,h3⟩
   rw[joinL,hj]
   simpa using this
  simp only[BV,cJ c1]
  refine aD (N6 n (by omega)) ?_
  simp only[V.getS,cJ c2]
  refine aD (B6 l hl _) ?_
  simp only[V.getT,List.tail_cons,List.headD_cons,V.getB,V.getS]
  cases hj1:gB l ((base++[42])++jS n)with
  |some v=>
   have hj:iU l base n=some v:=by unfold iU;rw[hj1]
   obtain⟨hc,hn⟩:=next v hj
   simp only[Option.isSome_some,Bool.not_true,Bool.false_eq_true,if_false,Option.getD_some,cJ hc,hw]
   exact hn
  |none=>
   simp only[Option.isSome_none,Bool.not_false,if_true,cJ c3]
   refine aD (B6 l hl _) ?_
   simp only[V.getT,List.tail_cons,List.headD_cons,V.getB,V.getS]
   cases hj2:gB l (((base++[42])++jS n)++[42])with
   |none=>
    have hj:iU l base n=none:=by unfold iU;rw[hj1];dsimp only;rw[hj2]
    simp only[Option.isSome_none,Bool.not_false,if_true]
    rw[joinL,hj]
    have:(decide ((n:Int)>0))=(decide (0<n)||(none:Option Bs).isSome):=by simp
    rw[this]
    simp only[List.append_nil]
    exact aC _
   |some v=>
    have hj:iU l base n=some (cV (if n=0 then qO v else v)):=by unfold iU;rw[hj1];dsimp only;rw[hj2]
    obtain⟨hc,hn⟩:=next _ hj
    obtain⟨p,hp,_,rfl⟩:=kK hj2
    have hvl:=hv p hp
    simp only[Option.isSome_some,Bool.not_true,Bool.false_eq_true,if_false,Option.getD_some]
    by_cases h0:n=0
    ·have hb0:((n:Int)==0)=true:=by simp[h0]
     simp only[hb0,if_true]
     refine aD (H2 p.2 hvl) ?_
     simp only[V.getS]
     refine aD (EJ _ (Nat.le_trans (yX _) hvl)) ?_
     rw[if_pos h0]at hc hn
     simp only[V.getS,cJ hc,hw]
     exact hn
    ·have hb0:((n:Int)==0)=false:=by simp[h0]
     simp only[hb0,Bool.false_eq_true,if_false]
     refine aD (EJ _ hvl) ?_
     rw[if_neg h0]at hc hn
     simp only[V.getS,cJ hc,hw]
     exact hn
def Ff (l:Ps) (base:Bs):Option Bs:=if(iU l base 0).isSome then some (joinL l base (l.length+1) 0)else none
theorem Mi (l:Ps) (base:Bs) (hl:l.length≤1000000) (hv:∀p∈l,p.2.length≤1000000) (hb:base.length≤1000000):
  Ret 159 [.lst 176 false (l.map pV), .str base] [] (.tup [.str ((Ff l base).getD []), .bool (Ff l base).isSome],[]):=by
 refine Qb (l.map pV) base ?_
 simp only[HK]
 obtain⟨m,h1,h2⟩:=EL l base
 have:=Fe l base hl hv hb (l.length+1) 0 [] (by omega) (by simp) ⟨m,by omega,by omega,h2⟩
 unfold Ff
 cases hj:iU l base 0 with
 |none=>rw[hj]at this;simpa[joinL,hj]using this
 |some v=>rw[hj]at this;simpa[hj]using this
def Dn (l:Ps) (base:Bs):Option Bs:=
 match gB l base with
 |some v=>some v
 |none=>match gB l (base++[42])with
  |some v=>some (cV (qO v))
  |none=>Ff l base
theorem Mj (l:Ps) (base:Bs) (hl:l.length≤1000000) (hv:∀p∈l,p.2.length≤1000000) (hb:base.length≤1000000):
  Ret 134 [.lst 176 false (l.map pV), .str base] [] (.tup [.str ((Dn l base).getD []), .bool (Dn l base).isSome],[]):=by
 refine PD (l.map pV) base ?_
 have c1:dS base [42]=true:=lC (by simp;omega)
 simp only[Hu]
 refine aD (B6 l hl base) ?_
 simp only[V.getT,List.tail_cons,List.headD_cons,V.getB,V.getS]
 unfold Dn
 cases h1:gB l base with
 |some v=>
  simp only[Option.isSome_some,if_true,Option.getD_some]
  exact aC _
 |none=>
  simp only[Option.isSome_none,Bool.false_eq_true,if_false,cJ c1]
  refine aD (B6 l hl _) ?_
  simp only[V.getT,List.tail_cons,List.headD_cons,V.getB,V.getS]
  cases h2:gB l (base++[42])with
  |some v=>
   obtain⟨p,hp,_,rfl⟩:=kK h2
   simp only[Option.isSome_some,if_true,Option.getD_some]
   refine aD (H2 _ (hv p hp)) ?_
   simp only[V.getS]
   refine aD (EJ _ (Nat.le_trans (yX _) (hv p hp))) ?_
   exact aC _
  |none=>
   simp only[Option.isSome_none,Bool.false_eq_true,if_false]
   refine aD (Mi l base hl hv hb) ?_
   exact aC _
end Go.Proofs.YtdoaoaicdimbeaaGreatDoor
end
section
namespace Go.Proofs.YtdoaoaicdimbeaaGreatDoor
open Go.Ev Go
theorem sG:∀(n:Nat) (s:Bs),s.length≤n→(cS s).length≤s.length∧∀p∈cS s,p.1.length≤s.length∧p.2.length≤s.length:=by
 intro n
 induction n with
 |zero=>
  intro s h
  have:s=[]:=List.eq_nil_of_length_eq_zero (by omega)
  subst this
  have hb:gV 59 []=none:=by simp[gV,pT]
  rw[pU];simp[hb]
 |succ n ih=>
  intro s h
  rw[pU]
  cases h1:gV 59 s with
  |none=>simp
  |some s1=>
   have g1:=iT h1
   have g2:=kU s1
   dsimp only
   split
   ·simp
   ·cases h2:gV 61 (tokF s1).2 with
    |none=>simp
    |some s3=>
     have g3:=iT h2
     dsimp only
     cases h3:B1 s3 with
     |none=>simp
     |some p=>
      obtain⟨v,s4⟩:=p
      have g4:=B2 h3
      obtain⟨e1,e2⟩:=ih s4 (by omega)
      dsimp only
      refine⟨by rw[List.length_cons];omega,fun p hp=>?_⟩
      rw[List.mem_cons]at hp
      rcases hp with rfl|hp
      ·simp only[List.length_map];omega
      ·have:=e2 p hp;omega
theorem sH (a b:Bs):(Sc.str a).same (.str b)=(a==b):=rfl
theorem Do (x y:Bs):∀m:List (Sc×Sc),Sc.getB (jD (.str x) (pX (.str y) (.bool true) m))=(x==y||Sc.getB (jD (.str x) m))
 |[]=>by
  simp only[pX,jD,sH]
  by_cases h:x=y
  ·simp[h,Sc.getB]
  ·simp[h,Sc.getB]
 |(k,u)::m=>by
  have ih:=Do x y m
  simp only[pX]
  cases hk:(Sc.str y).same k
  ·simp only[Bool.false_eq_true,if_false,jD]
   cases hx:(Sc.str x).same k
   ·simp only[Bool.false_eq_true,if_false];exact ih
   ·simp only[if_true]
    have:(x==y)=false:=by
     cases k with
     |str b=>
      rw[sH]at hk hx
      have e:=eq_of_beq hx
      subst e
      cases hxy:(x==y)with
      |false=>rfl
      |true=>have e:=eq_of_beq hxy;subst e;simp at hk
     |_=>cases hx
    rw[this,Bool.false_or]
  ·simp only[if_true,jD]
   cases k with
   |str b=>
    rw[sH]at hk
    have e:=eq_of_beq hk
    subst e
    simp only[sH]
    by_cases h:x=y
    ·simp[h,Sc.getB]
    ·simp[h]
   |_=>cases hk
def qA (l:Ps):List Bs→Ps→Ps
 |_,[]=>[]
 |seen,p::r=>
  if dG p.1=[]∨dG p.1∈seen then qA l seen r
  else match Dn l (dG p.1)with
   |some x=>(dG p.1,x)::qA l (dG p.1::seen) r
   |none=>qA l (dG p.1::seen) r
theorem Mk (l:Ps) (hl:l.length≤1000000) (hv:∀p∈l,p.1.length≤1000000∧p.2.length≤1000000) (s4 s5 s7 t u:Bs) (l6:List V):∀(n i:Nat) (out:Ps) (seen:List Bs) (m:List (Sc×Sc)),
  l.length - i≤n→out.length≤i→(∀x,Sc.getB (jD (.str x) m)=decide (x∈seen))→
  Evt (fun k j=>L99 (aA cfg k) j (l.map pV) (l.map pV) (l.length:Nat) (i:Nat) s4 s5 l6 s7 t u (out.map pV) m) (.tup [.agg [.str t, .str u, .lst 176 false ((out++qA l seen (l.drop i)).map pV)], .bool true],[]):=by
 have fin:∀(i:Nat) (out:Ps) (seen:List Bs) (m:List (Sc×Sc)),l.length≤i→
   Evt (fun k j=>L99 (aA cfg k) j (l.map pV) (l.map pV) (l.length:Nat) (i:Nat) s4 s5 l6 s7 t u (out.map pV) m) (.tup [.agg [.str t, .str u, .lst 176 false ((out++qA l seen (l.drop i)).map pV)], .bool true],[]):=by
  intro i out seen m h
  refine K4 (l.map pV) (l.map pV) (l.length:Nat) (i:Nat) s4 s5 l6 s7 t u (out.map pV) m ?_
  have h1:¬((i:Int)<(l.length:Int)):=by omega
  rw[List.drop_eq_nil_of_le h]
  simp only[Dh,h1,decide_false,Bool.false_eq_true,if_false,qA,List.append_nil]
  exact aC _
 intro n
 induction n with
 |zero=>intro i out seen m h _ _;exact fin i out seen m (by omega)
 |succ n ih=>
  intro i out seen m h ho hm
  by_cases hlt:i<l.length
  ·refine K4 (l.map pV) (l.map pV) (l.length:Nat) (i:Nat) s4 s5 l6 s7 t u (out.map pV) m ?_
   have h1:((i:Int)<(l.length:Int)):=by omega
   have h2:(0:Int)≤(i:Int):=by omega
   have hw:IntKind.wrap .i64 ((i:Int)+1)=((i+1:Nat):Int):=by rw[wrap64 (by omega) (by omega)];omega
   have hd:l.drop i=l[i]::l.drop (i+1):=List.drop_eq_getElem_cons hlt
   have hpv:=hv l[i] (List.getElem_mem hlt)
   have hvv:∀p∈l,p.2.length≤1000000:=fun p hp=>(hv p hp).2
   obtain⟨r,b,h21⟩:=Mg l[i].1 hpv.1
   rw[hd,qA]
   simp only[Dh,h1,decide_true,if_true,aI h2,List.length_map,bX,Int.toNat_natCast,B5 hlt,pV,V.cells,List.headD_cons,List.tail_cons,V.getS]
   refine aD h21 ?_
   simp only[V.getT,V.getS,List.headD_cons,hm,sEq,hw]
   have hskip:(if(dG l[i].1==[])=false then some (decide (dG l[i].1∈seen))else some true)=some (decide (dG l[i].1=[]∨dG l[i].1∈seen)):=by
    by_cases e:dG l[i].1=[]
    ·simp[e]
    ·have:(dG l[i].1==[])=false:=by simpa using e
     simp[e]
   rw[hskip]
   simp only[bS]
   by_cases hs:dG l[i].1=[]∨dG l[i].1∈seen
   ·simp only[hs,decide_true,if_true]
    exact ih (i+1) out seen m (by omega) (by omega) hm
   ·simp only[hs,decide_false,Bool.false_eq_true,if_false]
    refine aD (Mj l (dG l[i].1) hl hvv (Nat.le_trans (Dl _) hpv.1)) ?_
    have hm' :∀x,Sc.getB (jD (.str x) (pX (.str (dG l[i].1)) (.bool true) m))=decide (x∈dG l[i].1::seen):=by
     intro x
     rw[Do,hm]
     by_cases e:x=dG l[i].1
     ·simp[e]
     ·have:(x==dG l[i].1)=false:=by simpa using e
      rw[this];simp[e]
    simp only[V.getT,V.getB,V.getS,List.headD_cons,List.tail_cons]
    cases ht:Dn l (dG l[i].1)with
    |none=>
     simp only[Option.isSome_none,Bool.false_eq_true,if_false]
     exact ih (i+1) out (dG l[i].1::seen) _ (by omega) (by omega) hm'
    |some x=>
     have hap:bI (out.map pV) [V.agg [V.str (dG l[i].1),V.str x]] 33=true:=eC (by simp;omega)
     simp only[Option.isSome_some,if_true,Option.getD_some]
     simp only[cJ hap]
     have:=ih (i+1) (out++[(dG l[i].1,x)]) (dG l[i].1::seen) _ (by omega) (by simp;omega) hm'
     simpa[pV]using this
  ·exact fin i out seen m (by omega)
def rJ (s:Bs) (two:Bool):Option (Bs×Bs×Ps):=
 if(tokF (cR s)).1=[]then none
 else if two then match gV 47 (tokF (cR s)).2 with
  |none=>none
  |some s2=>if(tokF s2).1=[]then none else some ((tokF (cR s)).1.map dB,(tokF s2).1.map dB,qA (cS (tokF s2).2) [] (cS (tokF s2).2))
 else some ((tokF (cR s)).1.map dB,[],qA (cS (tokF (cR s)).2) [] (cS (tokF (cR s)).2))
def yZ:Option (Bs×Bs×Ps)→V
 |none=> .tup [.agg [.str [], .str [], .lst 176 false []], .bool false]
 |some (t,u,ps)=> .tup [.agg [.str t, .str u, .lst 176 false (ps.map pV)], .bool true]
theorem A4 (s:Bs) (hs:s.length≤1000000) (rest t u s4 s5:Bs) (l6:List V):
  Evt (fun k j=>L99 (aA cfg k) j ((cS s).map pV) ((cS s).map pV) ((((cS s).map pV).length:Nat):Int) (0:Int) s4 s5 l6 rest t u [] []) (yZ (some (t,u,qA (cS s) [] (cS s))),[]):=by
 obtain⟨g1,g2⟩:=sG s.length s (Nat.le_refl _)
 have:=Mk (cS s) (by omega) (fun p hp=>by have:=g2 p hp;omega) s4 s5 rest t u l6 (cS s).length 0 [] [] [] (by omega) (by simp) (fun x=>by simp[jD,Sc.getB])
 rw[List.length_map]
 simpa[yZ]using this
theorem N8 (s:Bs) (hs:s.length≤1000000) (two:Bool):Ret 99 [.str s, .bool two] [] (yZ (rJ s two),[]):=by
 refine M99 s two ?_
 have h0:=oO s
 have h1:=kU (cR s)
 simp only[T99]
 refine aD (EH s hs) ?_
 simp only[List.headD_cons,Ob.getC,V.getS]
 refine aD (BY (cR s) (by omega)) ?_
 simp only[V.getS]
 refine aD (yU _ (by omega)) ?_
 simp only[V.getS,List.headD_cons,Ob.getC,sEq]
 unfold rJ
 by_cases ht:(tokF (cR s)).1=[]
 ·simp only[ht,List.map_nil,beq_self_eq_true,if_true]
  exact aC _
 ·have hb:(((tokF (cR s)).1.map dB)==[])=false:=by simp[ht]
  simp only[hb,Bool.false_eq_true,if_false,ht]
  cases two with
  |false=>
   simp only[Bool.false_eq_true,if_false]
   obtain⟨rest,h20⟩:=HV (tokF (cR s)).2 (by omega)
   refine aD h20 ?_
   simp only[V.getL,List.headD_cons,Ob.getC,V.getS]
   exact A4 _ (by omega) _ _ _ _ _ _
  |true=>
   simp only[if_true]
   refine aD (yW (tokF (cR s)).2 (by omega) 47 (by decide)) ?_
   simp only[V.getB,List.headD_cons,Ob.getC,V.getS]
   cases h2:gV 47 (tokF (cR s)).2 with
   |none=>
    simp only[Option.isSome_none,Bool.not_false,if_true]
    exact aC _
   |some s2=>
    have g2:=iT h2
    have g3:=kU s2
    simp only[Option.isSome_some,Bool.not_true,Bool.false_eq_true,if_false,sD,h2]
    refine aD (BY s2 (by omega)) ?_
    simp only[V.getS,List.headD_cons,Ob.getC]
    refine aD (yU _ (by omega)) ?_
    simp only[V.getS]
    by_cases hu:(tokF s2).1=[]
    ·simp only[hu,List.map_nil,beq_self_eq_true,if_true]
     exact aC _
    ·have hb2:(((tokF s2).1.map dB)==[])=false:=by simp[hu]
     simp only[hb2,Bool.false_eq_true,if_false,hu]
     obtain⟨rest,h20⟩:=HV (tokF s2).2 (by omega)
     refine aD h20 ?_
     simp only[V.getL,List.headD_cons,Ob.getC,V.getS]
     exact A4 _ (by omega) _ _ _ _ _ _
def getF:Ps→Bs→Option Bs
 |[],_=>none
 |p::r,name=>if p.1.map dB=name.map dB then some p.2 else getF r name
theorem Ml (name:Bs) (hn:name.length≤1000000) (l:Ps) (hl:l.length≤1000000) (hv:∀p∈l,p.1.length≤1000000):∀(n i:Nat),l.length - i≤n→
  Evt (fun k n=>L58 (aA cfg k) n name (l.map pV) (l.length:Nat) (i:Nat)) (.tup [.str ((getF (l.drop i) name).getD []), .bool (getF (l.drop i) name).isSome],[]):=by
 have fin:∀i:Nat,l.length≤i→Evt (fun k n=>L58 (aA cfg k) n name (l.map pV) (l.length:Nat) (i:Nat)) (.tup [.str ((getF (l.drop i) name).getD []), .bool (getF (l.drop i) name).isSome],[]):=by
  intro i h
  refine K3 name (l.map pV) (l.length:Nat) (i:Nat) ?_
  have h1:¬((i:Int)<(l.length:Int)):=by omega
  rw[List.drop_eq_nil_of_le h]
  simp only[Dg,h1,decide_false,Bool.false_eq_true,if_false,getF]
  exact aC _
 intro n
 induction n with
 |zero=>intro i h;exact fin i (by omega)
 |succ n ih=>
  intro i h
  by_cases hlt:i<l.length
  ·refine K3 name (l.map pV) (l.length:Nat) (i:Nat) ?_
   have h1:((i:Int)<(l.length:Int)):=by omega
   have h2:(0:Int)≤(i:Int):=by omega
   have hw:IntKind.wrap .i64 ((i:Int)+1)=((i+1:Nat):Int):=by rw[wrap64 (by omega) (by omega)];omega
   have hd:l.drop i=l[i]::l.drop (i+1):=List.drop_eq_getElem_cons hlt
   have hpv:=hv l[i] (List.getElem_mem hlt)
   rw[hd,getF]
   simp only[Dg,h1,decide_true,if_true,aI h2,List.length_map,bX,Int.toNat_natCast,B5 hlt,pV,V.cells,List.headD_cons,List.tail_cons,V.getS,hw]
   refine aD (HU l[i].1 name (by omega) (by omega)) ?_
   simp only[V.getB]
   by_cases he:l[i].1.map dB=name.map dB
   ·simp only[he,beq_self_eq_true,if_true]
    exact aC _
   ·have:(l[i].1.map dB==name.map dB)=false:=by simpa using he
    simp only[this,Bool.false_eq_true,if_false,he]
    exact ih (i+1) (by omega)
  ·exact fin i (by omega)
theorem N9 (t u:Bs) (l:Ps) (hl:l.length≤1000000) (hv:∀p∈l,p.1.length≤1000000) (name:Bs) (hn:name.length≤1000000):
  Ret 58 [.agg [.str t, .str u, .lst 176 false (l.map pV)], .str name] [] (.tup [.str ((getF l name).getD []), .bool (getF l name).isSome],[]):=by
 refine M58 t u (l.map pV) name ?_
 simp only[T58,List.length_map]
 exact Ml name hn l hl hv l.length 0 (by omega)
end Go.Proofs.YtdoaoaicdimbeaaGreatDoor
end
section
namespace Go.Proofs.YtdoaoaicdimbeaaGreatDoor
open Go.Ev Go
open List (headD tail getD length drop take)
open V (getI getL getT getS getB)
set_option maxRecDepth 100000
variable (call : FuncId → Fun) (icall : aQ (V × List Ob)) (again : List It → St → Option (V × List Ob))
def T63 (call:FuncId→Fun) (a0:List V):Option (V×List Ob):=
 Option.bind (call 102 [(V.lst 134 false a0),(V.clo (Fn.func 103) [] [])] []) fun z0=>
 some ((V.int .i64 (getI z0.1)),[])
def A63 (a0:List V):List V:=[V.lst 134 false a0]
theorem E63 (a0:List V):GO 63 Tryz.f63 (A63 a0) [] call icall again=T63 call a0:=by kernel_rfl
theorem C63 (k:Nat) (a0:List V):aA cfg (k+1) 63 (A63 a0) []=T63 (aA cfg k) a0:=
 (show aA cfg (k+1) 63 (A63 a0) []=GO 63 Tryz.f63 (A63 a0) [] (aA cfg k) (aE cfg (aA cfg k) 20) (RN 63 Tryz.f63 [] (aA cfg k) (aE cfg (aA cfg k) 20) k)by kernel_rfl).trans (E63 _ _ _ a0)
theorem M63 (a0:List V) {r:V×List Ob} (h:Evt (fun k n=>T63 (aA cfg k) a0) r):Ret 63 [V.lst 134 false a0] [] r:=aS (g:=fun k n=>T63 (aA cfg k) a0) (fun k=>C63 k a0) h
def T64 (call:FuncId→Fun) (a0:List V) (a1:Int) (a2:Int) (a3:Int):Option (V×List Ob):=
 Option.bind (call 74 [(V.agg [(V.int .i64 a1),(V.int .i64 a2)]),(V.int .i64 ((length a0:Nat):Int))] []) fun z0=>
 if(!(getB z0.1))=true then
 some ((V.str []),[])
 else
 chk (decide (0≤a2)) (chk (decide (a2≤((length a0:Nat):Int))) (chk (decide (0≤a1)) (chk (decide (a1≤a2)) (some ((V.str (bytesOf (drop (Int.toNat a1) (take (Int.toNat a2) a0)))),[])))))
def A64 (a0:List V) (a1:Int) (a2:Int) (a3:Int):List V:=[V.lst 5 false a0,V.agg [V.int IntKind.i64 a1,V.int IntKind.i64 a2,V.int IntKind.i64 a3]]
theorem E64 (a0:List V) (a1:Int) (a2:Int) (a3:Int):GO 64 Tryz.f64 (A64 a0 a1 a2 a3) [] call icall again=T64 call a0 a1 a2 a3:=by kernel_rfl
theorem C64 (k:Nat) (a0:List V) (a1:Int) (a2:Int) (a3:Int):aA cfg (k+1) 64 (A64 a0 a1 a2 a3) []=T64 (aA cfg k) a0 a1 a2 a3:=
 (show aA cfg (k+1) 64 (A64 a0 a1 a2 a3) []=GO 64 Tryz.f64 (A64 a0 a1 a2 a3) [] (aA cfg k) (aE cfg (aA cfg k) 20) (RN 64 Tryz.f64 [] (aA cfg k) (aE cfg (aA cfg k) 20) k)by kernel_rfl).trans (E64 _ _ _ a0 a1 a2 a3)
theorem M64 (a0:List V) (a1:Int) (a2:Int) (a3:Int) {r:V×List Ob} (h:Evt (fun k n=>T64 (aA cfg k) a0 a1 a2 a3) r):Ret 64 [V.lst 5 false a0,V.agg [V.int IntKind.i64 a1,V.int IntKind.i64 a2,V.int IntKind.i64 a3]] [] r:=aS (g:=fun k n=>T64 (aA cfg k) a0 a1 a2 a3) (fun k=>C64 k a0 a1 a2 a3) h
def T65 (call:FuncId→Fun) (a0:List UInt8):Option (V×List Ob):=
 if(!(sEq a0 []))=true then
 chk (decide (0≤(0:Int))) (chk (decide ((0:Int)<((length a0:Nat):Int))) (Option.bind (call 104 [(V.int .u8 ((UInt8.toNat (getD a0 (Int.toNat (0:Int)) 0):Nat):Int))] []) fun z0=>
 some ((V.bool (getB z0.1)),[])))
 else
 some ((V.bool false),[])
def A65 (a0:List UInt8):List V:=[V.str a0]
theorem E65 (a0:List UInt8):GO 65 Tryz.f65 (A65 a0) [] call icall again=T65 call a0:=by kernel_rfl
theorem C65 (k:Nat) (a0:List UInt8):aA cfg (k+1) 65 (A65 a0) []=T65 (aA cfg k) a0:=
 (show aA cfg (k+1) 65 (A65 a0) []=GO 65 Tryz.f65 (A65 a0) [] (aA cfg k) (aE cfg (aA cfg k) 20) (RN 65 Tryz.f65 [] (aA cfg k) (aE cfg (aA cfg k) 20) k)by kernel_rfl).trans (E65 _ _ _ a0)
theorem M65 (a0:List UInt8) {r:V×List Ob} (h:Evt (fun k n=>T65 (aA cfg k) a0) r):Ret 65 [V.str a0] [] r:=aS (g:=fun k n=>T65 (aA cfg k) a0) (fun k=>C65 k a0) h
def A5 (call:FuncId→Fun) (ag0:List UInt8→Int→Int→Option (V×List Ob)) (ag1:List UInt8→Int→Int→Int→Int→Option (V×List Ob)) (s0:List UInt8) (i1:Int) (i2:Int):Option (V×List Ob):=
 if(decide (i2>(0:Int)))=true then
 chk (decide (0≤(IntKind.wrap .i64 (i2 - (1:Int))))) (chk (decide ((IntKind.wrap .i64 (i2 - (1:Int)))<((length s0:Nat):Int))) (Option.bind (call 104 [(V.int .u8 ((UInt8.toNat (getD s0 (Int.toNat (IntKind.wrap .i64 (i2 - (1:Int)))) 0):Nat):Int))] []) fun z0=>
 if(getB z0.1)=true then
 (ag0 (s0) (i1) ((IntKind.wrap .i64 (i2 - (1:Int)))))
 else
 (ag1 (s0) (i1) (i2) (i2) ((0:Int)))))
 else
 (ag1 (s0) (i1) (i2) (i2) ((0:Int)))
def A6 (call:FuncId→Fun) (ag0:List UInt8→Int→Int→Option (V×List Ob)) (ag1:List UInt8→Int→Int→Int→Int→Option (V×List Ob)) (s0:List UInt8) (i1:Int) (i2:Int) (i3:Int) (i4:Int):Option (V×List Ob):=
 if(decide (i4<i3))=true then
 Option.bind (chk (decide (0≤i4)) (chk (decide (i4<((length s0:Nat):Int))) (if(decide (((UInt8.toNat (getD s0 (Int.toNat i4) 0):Nat):Int)<(33:Int)))=false then
 chk (decide (0≤i4)) (chk (decide (i4<((length s0:Nat):Int))) (some (decide (((UInt8.toNat (getD s0 (Int.toNat i4) 0):Nat):Int)>(126:Int)))))
 else
 some true))) fun y0=>
 if y0=true then
 some ((V.tup [(V.str []),(V.int .i64 0),(V.bool false)]),[])
 else
 (ag1 (s0) (i1) (i2) (i3) ((IntKind.wrap .i64 (i4+(1:Int)))))
 else
 chk (decide (0≤i2)) (chk (decide (i2≤((length s0:Nat):Int))) (chk (decide (0≤(0:Int))) (chk (decide ((0:Int)≤i2)) (some ((V.tup [(V.str (drop (Int.toNat (0:Int)) (take (Int.toNat i2) s0))),(V.int .i64 (IntKind.wrap .i64 (i1+(1:Int)))),(V.bool (decide (i2>(0:Int))))]),[])))))
def T66 (call:FuncId→Fun) (ag0:List UInt8→Int→Int→Option (V×List Ob)) (ag1:List UInt8→Int→Int→Int→Int→Option (V×List Ob)) (a0:List UInt8):Option (V×List Ob):=
 Option.bind (call 89 [(V.str a0),(V.int .u8 58)] []) fun z0=>
 if(decide ((getI z0.1)<(0:Int)))=true then
 some ((V.tup [(V.str []),(V.int .i64 0),(V.bool false)]),[])
 else
 (ag0 (a0) ((getI z0.1)) ((getI z0.1)))
def A66 (a0:List UInt8):List V:=[V.str a0]
def vR (s0:List UInt8) (i1:Int) (i2:Int):St:=⟨[(V.str s0),V.bot,V.bot,V.bot,V.bot,(V.int IntKind.i64 i1),(V.int IntKind.i64 i2)]++List.replicate 39 V.bot,[]⟩
def vS (s0:List UInt8) (i1:Int) (i2:Int) (i3:Int) (i4:Int):St:=⟨[(V.str s0),V.bot,V.bot,V.bot,V.bot,(V.int IntKind.i64 i1),(V.int IntKind.i64 i2),V.bot,V.bot,V.bot,V.bot,V.bot,V.bot,V.bot,V.bot,V.bot,V.bot,V.bot,V.bot,V.bot,V.bot,V.bot,V.bot,V.bot,(V.int IntKind.i64 i3),(V.int IntKind.i64 i4)]++List.replicate 20 V.bot,[]⟩
theorem Oa (s0:List UInt8) (i1:Int) (i2:Int):
 RM 66 Tryz.f66 [] call icall again (aK Tryz.f66 0) (vR s0 i1 i2)=A5 call (fun s0 i1 i2=>again (aK Tryz.f66 0) (vR s0 i1 i2)) (fun s0 i1 i2 i3 i4=>again (aK Tryz.f66 1) (vS s0 i1 i2 i3 i4)) s0 i1 i2:=by kernel_rfl
theorem Oc (s0:List UInt8) (i1:Int) (i2:Int) (i3:Int) (i4:Int):
 RM 66 Tryz.f66 [] call icall again (aK Tryz.f66 1) (vS s0 i1 i2 i3 i4)=A6 call (fun s0 i1 i2=>again (aK Tryz.f66 0) (vR s0 i1 i2)) (fun s0 i1 i2 i3 i4=>again (aK Tryz.f66 1) (vS s0 i1 i2 i3 i4)) s0 i1 i2 i3 i4:=by kernel_rfl
theorem E66 (a0:List UInt8):GO 66 Tryz.f66 (A66 a0) [] call icall again=T66 call (fun s0 i1 i2=>again (aK Tryz.f66 0) (vR s0 i1 i2)) (fun s0 i1 i2 i3 i4=>again (aK Tryz.f66 1) (vS s0 i1 i2 i3 i4)) a0:=by kernel_rfl
def L66 (call:FuncId→Fun):Nat→(List UInt8→Int→Int→Option (V×List Ob))×(List UInt8→Int→Int→Int→Int→Option (V×List Ob))
 |0=>⟨fun _ _ _=>none,fun _ _ _ _ _=>none⟩
 |n+1=>⟨A5 call (L66 call n).1 (L66 call n).2,A6 call (L66 call n).1 (L66 call n).2⟩
theorem R66 (call:FuncId→Fun) (icall:aQ (V×List Ob)):∀n,(∀(s0:List UInt8) (i1:Int) (i2:Int),RN 66 Tryz.f66 [] call icall n (aK Tryz.f66 0) (vR s0 i1 i2)=(L66 call n).1 s0 i1 i2)∧(∀(s0:List UInt8) (i1:Int) (i2:Int) (i3:Int) (i4:Int),RN 66 Tryz.f66 [] call icall n (aK Tryz.f66 1) (vS s0 i1 i2 i3 i4)=(L66 call n).2 s0 i1 i2 i3 i4)
 |0=>⟨fun s0 i1 i2=>rfl,fun s0 i1 i2 i3 i4=>rfl⟩
 |n+1=>by
  have ih:=R66 call icall n
  exact⟨fun s0 i1 i2=>(Oa call icall (RN 66 Tryz.f66 [] call icall n) s0 i1 i2).trans (by rw[show(fun s0 i1 i2=>RN 66 Tryz.f66 [] call icall n (aK Tryz.f66 0) (vR s0 i1 i2))=(L66 call n).1 from(funext fun s0=>funext fun i1=>funext fun i2=>ih.1 s0 i1 i2),show(fun s0 i1 i2 i3 i4=>RN 66 Tryz.f66 [] call icall n (aK Tryz.f66 1) (vS s0 i1 i2 i3 i4))=(L66 call n).2 from(funext fun s0=>funext fun i1=>funext fun i2=>funext fun i3=>funext fun i4=>ih.2 s0 i1 i2 i3 i4)];rfl),
   fun s0 i1 i2 i3 i4=>(Oc call icall (RN 66 Tryz.f66 [] call icall n) s0 i1 i2 i3 i4).trans (by rw[show(fun s0 i1 i2=>RN 66 Tryz.f66 [] call icall n (aK Tryz.f66 0) (vR s0 i1 i2))=(L66 call n).1 from(funext fun s0=>funext fun i1=>funext fun i2=>ih.1 s0 i1 i2),show(fun s0 i1 i2 i3 i4=>RN 66 Tryz.f66 [] call icall n (aK Tryz.f66 1) (vS s0 i1 i2 i3 i4))=(L66 call n).2 from(funext fun s0=>funext fun i1=>funext fun i2=>funext fun i3=>funext fun i4=>ih.2 s0 i1 i2 i3 i4)];rfl)⟩
theorem C66 (k:Nat) (a0:List UInt8):aA cfg (k+1) 66 (A66 a0) []=T66 (aA cfg k) (L66 (aA cfg k) k).1 (L66 (aA cfg k) k).2 a0:=by
 have ih:=R66 (aA cfg k) (aE cfg (aA cfg k) 20) k
 refine(show aA cfg (k+1) 66 (A66 a0) []=GO 66 Tryz.f66 (A66 a0) [] (aA cfg k) (aE cfg (aA cfg k) 20) (RN 66 Tryz.f66 [] (aA cfg k) (aE cfg (aA cfg k) 20) k)by kernel_rfl).trans ((E66 _ _ _ a0).trans ?_)
 rw[show(fun s0 i1 i2=>RN 66 Tryz.f66 [] (aA cfg k) (aE cfg (aA cfg k) 20) k (aK Tryz.f66 0) (vR s0 i1 i2))=(L66 (aA cfg k) k).1 from(funext fun s0=>funext fun i1=>funext fun i2=>ih.1 s0 i1 i2),show(fun s0 i1 i2 i3 i4=>RN 66 Tryz.f66 [] (aA cfg k) (aE cfg (aA cfg k) 20) k (aK Tryz.f66 1) (vS s0 i1 i2 i3 i4))=(L66 (aA cfg k) k).2 from(funext fun s0=>funext fun i1=>funext fun i2=>funext fun i3=>funext fun i4=>ih.2 s0 i1 i2 i3 i4)]
theorem M66 (a0:List UInt8) {r:V×List Ob} (h:Evt (fun k n=>T66 (aA cfg k) (L66 (aA cfg k) n).1 (L66 (aA cfg k) n).2 a0) r):Ret 66 [V.str a0] [] r:=aS (g:=fun k n=>T66 (aA cfg k) (L66 (aA cfg k) n).1 (L66 (aA cfg k) n).2 a0) (fun k=>C66 k a0) h
theorem H4 (s0:List UInt8) (i1:Int) (i2:Int) {r:V×List Ob} (h:Evt (fun k n=>A5 (aA cfg k) (L66 (aA cfg k) n).1 (L66 (aA cfg k) n).2 s0 i1 i2) r):Evt (fun k n=>(L66 (aA cfg k) n).1 s0 i1 i2) r:=aV (fun k n=>rfl) h
theorem H5 (s0:List UInt8) (i1:Int) (i2:Int) (i3:Int) (i4:Int) {r:V×List Ob} (h:Evt (fun k n=>A6 (aA cfg k) (L66 (aA cfg k) n).1 (L66 (aA cfg k) n).2 s0 i1 i2 i3 i4) r):Evt (fun k n=>(L66 (aA cfg k) n).2 s0 i1 i2 i3 i4) r:=aV (fun k n=>rfl) h
def T74 (call:FuncId→Fun) (a0:Int) (a1:Int) (a2:Int):Option (V×List Ob):=
 Option.bind (if(decide (a0≥(0:Int)))=true then
 if(decide (a0≤a1))=true then
 some (decide (a1≤a2))
 else
 some false
 else
 some false) fun y0=>
 some ((V.bool y0),[])
def A74 (a0:Int) (a1:Int) (a2:Int):List V:=[V.agg [V.int IntKind.i64 a0,V.int IntKind.i64 a1],V.int IntKind.i64 a2]
theorem E74 (a0:Int) (a1:Int) (a2:Int):GO 74 Tryz.f74 (A74 a0 a1 a2) [] call icall again=T74 call a0 a1 a2:=by kernel_rfl
theorem C74 (k:Nat) (a0:Int) (a1:Int) (a2:Int):aA cfg (k+1) 74 (A74 a0 a1 a2) []=T74 (aA cfg k) a0 a1 a2:=
 (show aA cfg (k+1) 74 (A74 a0 a1 a2) []=GO 74 Tryz.f74 (A74 a0 a1 a2) [] (aA cfg k) (aE cfg (aA cfg k) 20) (RN 74 Tryz.f74 [] (aA cfg k) (aE cfg (aA cfg k) 20) k)by kernel_rfl).trans (E74 _ _ _ a0 a1 a2)
theorem M74 (a0:Int) (a1:Int) (a2:Int) {r:V×List Ob} (h:Evt (fun k n=>T74 (aA cfg k) a0 a1 a2) r):Ret 74 [V.agg [V.int IntKind.i64 a0,V.int IntKind.i64 a1],V.int IntKind.i64 a2] [] r:=aS (g:=fun k n=>T74 (aA cfg k) a0 a1 a2) (fun k=>C74 k a0 a1 a2) h
def zA (call:FuncId→Fun) (ag0:List V→Int→Int→Option (V×List Ob)) (l0:List V) (i1:Int) (i2:Int):Option (V×List Ob):=
 if(decide (i2<i1))=true then
 chk (decide (0≤i2)) (chk (decide (i2<((length l0:Nat):Int))) (Option.bind (call 103 [(V.agg [(V.int .i64 (getI (headD (V.cells (getD l0 (Int.toNat i2) V.bot)) V.bot))),(V.int .i64 (getI (headD (tail (V.cells (getD l0 (Int.toNat i2) V.bot))) V.bot))),(V.int .i64 (getI (headD (tail (tail (V.cells (getD l0 (Int.toNat i2) V.bot)))) V.bot)))])] []) fun z0=>
 if(getB z0.1)=true then
 some ((V.int .i64 i2),[])
 else
 (ag0 (l0) (i1) ((IntKind.wrap .i64 (i2+(1:Int)))))))
 else
 some ((V.int .i64 (-1:Int)),[])
def H6 (call:FuncId→Fun) (ag0:List V→Int→Int→Option (V×List Ob)) (a0:List V):Option (V×List Ob):=
 (ag0 (a0) (((length a0:Nat):Int)) ((0:Int)))
def Kb (a0:List V):List V:=[V.lst 134 false a0,V.clo (Fn.func 103) [] []]
def uL (l0:List V) (i1:Int) (i2:Int):St:=⟨[(V.lst 134 false l0),(V.clo (Fn.func 103) [] []),V.bot,V.bot,V.bot,V.bot,V.bot,(V.int IntKind.i64 i1),(V.int IntKind.i64 i2)]++List.replicate 10 V.bot,[]⟩
theorem Mm (l0:List V) (i1:Int) (i2:Int):
 RM 102 Tryz.f102 [] call icall again (aK Tryz.f102 0) (uL l0 i1 i2)=zA call (fun l0 i1 i2=>again (aK Tryz.f102 0) (uL l0 i1 i2)) l0 i1 i2:=by kernel_rfl
theorem Qp (a0:List V):GO 102 Tryz.f102 (Kb a0) [] call icall again=H6 call (fun l0 i1 i2=>again (aK Tryz.f102 0) (uL l0 i1 i2)) a0:=by kernel_rfl
def zB (call:FuncId→Fun):Nat→(List V→Int→Int→Option (V×List Ob))
 |0=>fun _ _ _=>none
 |n+1=>zA call (zB call n)
theorem Od (call:FuncId→Fun) (icall:aQ (V×List Ob)):∀n,(∀(l0:List V) (i1:Int) (i2:Int),RN 102 Tryz.f102 [] call icall n (aK Tryz.f102 0) (uL l0 i1 i2)=(zB call n) l0 i1 i2)
 |0=>fun l0 i1 i2=>rfl
 |n+1=>by
  have ih:=Od call icall n
  exact fun l0 i1 i2=>(Mm call icall (RN 102 Tryz.f102 [] call icall n) l0 i1 i2).trans (by rw[show(fun l0 i1 i2=>RN 102 Tryz.f102 [] call icall n (aK Tryz.f102 0) (uL l0 i1 i2))=(zB call n)from(funext fun l0=>funext fun i1=>funext fun i2=>ih l0 i1 i2)];rfl)
theorem Qq (k:Nat) (a0:List V):aA cfg (k+1) 102 (Kb a0) []=H6 (aA cfg k) (zB (aA cfg k) k) a0:=by
 have ih:=Od (aA cfg k) (aE cfg (aA cfg k) 20) k
 refine(show aA cfg (k+1) 102 (Kb a0) []=GO 102 Tryz.f102 (Kb a0) [] (aA cfg k) (aE cfg (aA cfg k) 20) (RN 102 Tryz.f102 [] (aA cfg k) (aE cfg (aA cfg k) 20) k)by kernel_rfl).trans ((Qp _ _ _ a0).trans ?_)
 rw[show(fun l0 i1 i2=>RN 102 Tryz.f102 [] (aA cfg k) (aE cfg (aA cfg k) 20) k (aK Tryz.f102 0) (uL l0 i1 i2))=(zB (aA cfg k) k)from(funext fun l0=>funext fun i1=>funext fun i2=>ih l0 i1 i2)]
theorem Qr (a0:List V) {r:V×List Ob} (h:Evt (fun k n=>H6 (aA cfg k) (zB (aA cfg k) n) a0) r):Ret 102 [V.lst 134 false a0,V.clo (Fn.func 103) [] []] [] r:=aS (g:=fun k n=>H6 (aA cfg k) (zB (aA cfg k) n) a0) (fun k=>Qq k a0) h
theorem H7 (l0:List V) (i1:Int) (i2:Int) {r:V×List Ob} (h:Evt (fun k n=>zA (aA cfg k) (zB (aA cfg k) n) l0 i1 i2) r):Evt (fun k n=>(zB (aA cfg k) n) l0 i1 i2) r:=aV (fun k n=>rfl) h
def H8 (call:FuncId→Fun) (a0:Int) (a1:Int) (a2:Int):Option (V×List Ob):=
 some ((V.bool (a0==a1)),[])
def Kc (a0:Int) (a1:Int) (a2:Int):List V:=[V.agg [V.int IntKind.i64 a0,V.int IntKind.i64 a1,V.int IntKind.i64 a2]]
theorem Qs (a0:Int) (a1:Int) (a2:Int):GO 103 Tryz.f103 (Kc a0 a1 a2) [] call icall again=H8 call a0 a1 a2:=by kernel_rfl
theorem Qt (k:Nat) (a0:Int) (a1:Int) (a2:Int):aA cfg (k+1) 103 (Kc a0 a1 a2) []=H8 (aA cfg k) a0 a1 a2:=
 (show aA cfg (k+1) 103 (Kc a0 a1 a2) []=GO 103 Tryz.f103 (Kc a0 a1 a2) [] (aA cfg k) (aE cfg (aA cfg k) 20) (RN 103 Tryz.f103 [] (aA cfg k) (aE cfg (aA cfg k) 20) k)by kernel_rfl).trans (Qs _ _ _ a0 a1 a2)
theorem Qu (a0:Int) (a1:Int) (a2:Int) {r:V×List Ob} (h:Evt (fun k n=>H8 (aA cfg k) a0 a1 a2) r):Ret 103 [V.agg [V.int IntKind.i64 a0,V.int IntKind.i64 a1,V.int IntKind.i64 a2]] [] r:=aS (g:=fun k n=>H8 (aA cfg k) a0 a1 a2) (fun k=>Qt k a0 a1 a2) h
def Dp (call:FuncId→Fun) (ag0:List V→Int→Int→List UInt8→Option (V×List Ob)) (l0:List V) (i1:Int) (i2:Int) (s3:List UInt8):Option (V×List Ob):=
 if(decide (i2<i1))=true then
 chk (decide (0≤i2)) (chk (decide (i2<((length l0:Nat):Int))) (Option.bind (call 68 [(V.agg [(V.str (getS (headD (V.cells (getD l0 (Int.toNat i2) V.bot)) V.bot))),(V.int .i64 (getI (headD (tail (V.cells (getD l0 (Int.toNat i2) V.bot))) V.bot))),(V.int .i64 (getI (headD (tail (tail (V.cells (getD l0 (Int.toNat i2) V.bot)))) V.bot))),(V.int .i64 (getI (headD (tail (tail (tail (V.cells (getD l0 (Int.toNat i2) V.bot))))) V.bot)))]),(V.ref 0 0)] [(Ob.cells [(V.str s3)])]) fun z0=>
 if(getB z0.1)=true then
 some ((V.int .i64 i2),[(Ob.cells [(V.str (getS (headD (Ob.getC (headD z0.2 Ob.dead)) V.bot)))])])
 else
 (ag0 (l0) (i1) ((IntKind.wrap .i64 (i2+(1:Int)))) ((getS (headD (Ob.getC (headD z0.2 Ob.dead)) V.bot))))))
 else
 some ((V.int .i64 (-1:Int)),[(Ob.cells [(V.str s3)])])
def T67 (call:FuncId→Fun) (ag0:List V→Int→Int→List UInt8→Option (V×List Ob)) (a0:List V) (a1:List UInt8):Option (V×List Ob):=
 (ag0 (a0) (((length a0:Nat):Int)) ((0:Int)) (a1))
def O67 (a1:List UInt8):List Ob:=[Ob.cells [V.str a1]]
def A67 (a0:List V):List V:=[V.lst 91 false a0,V.clo (Fn.func 68) [] [V.ref 0 0]]
def A7 (l0:List V) (i1:Int) (i2:Int) (s3:List UInt8):St:=⟨[(V.lst 91 false l0),(V.clo (Fn.func 68) [] [(V.ref 0 0)]),V.bot,V.bot,V.bot,V.bot,V.bot,(V.int IntKind.i64 i1),(V.int IntKind.i64 i2)]++List.replicate 10 V.bot,[(Ob.cells [(V.str s3)])]⟩
theorem Oe (a1:List UInt8) (l0:List V) (i1:Int) (i2:Int) (s3:List UInt8):
 RM 67 Tryz.f67 (O67 a1) call icall again (aK Tryz.f67 0) (A7 l0 i1 i2 s3)=Dp call (fun l0 i1 i2 s3=>again (aK Tryz.f67 0) (A7 l0 i1 i2 s3)) l0 i1 i2 s3:=by kernel_rfl
theorem E67 (a0:List V) (a1:List UInt8):GO 67 Tryz.f67 (A67 a0) (O67 a1) call icall again=T67 call (fun l0 i1 i2 s3=>again (aK Tryz.f67 0) (A7 l0 i1 i2 s3)) a0 a1:=by kernel_rfl
def L67 (call:FuncId→Fun):Nat→(List V→Int→Int→List UInt8→Option (V×List Ob))
 |0=>fun _ _ _ _=>none
 |n+1=>Dp call (L67 call n)
theorem R67 (call:FuncId→Fun) (icall:aQ (V×List Ob)) (a1:List UInt8):∀n,(∀(l0:List V) (i1:Int) (i2:Int) (s3:List UInt8),RN 67 Tryz.f67 (O67 a1) call icall n (aK Tryz.f67 0) (A7 l0 i1 i2 s3)=(L67 call n) l0 i1 i2 s3)
 |0=>fun l0 i1 i2 s3=>rfl
 |n+1=>by
  have ih:=R67 call icall a1 n
  exact fun l0 i1 i2 s3=>(Oe call icall (RN 67 Tryz.f67 (O67 a1) call icall n) a1 l0 i1 i2 s3).trans (by rw[show(fun l0 i1 i2 s3=>RN 67 Tryz.f67 (O67 a1) call icall n (aK Tryz.f67 0) (A7 l0 i1 i2 s3))=(L67 call n)from(funext fun l0=>funext fun i1=>funext fun i2=>funext fun s3=>ih l0 i1 i2 s3)];rfl)
theorem C67 (k:Nat) (a0:List V) (a1:List UInt8):aA cfg (k+1) 67 (A67 a0) (O67 a1)=T67 (aA cfg k) (L67 (aA cfg k) k) a0 a1:=by
 have ih:=R67 (aA cfg k) (aE cfg (aA cfg k) 20) a1 k
 refine(show aA cfg (k+1) 67 (A67 a0) (O67 a1)=GO 67 Tryz.f67 (A67 a0) (O67 a1) (aA cfg k) (aE cfg (aA cfg k) 20) (RN 67 Tryz.f67 (O67 a1) (aA cfg k) (aE cfg (aA cfg k) 20) k)by kernel_rfl).trans ((E67 _ _ _ a0 a1).trans ?_)
 rw[show(fun l0 i1 i2 s3=>RN 67 Tryz.f67 (O67 a1) (aA cfg k) (aE cfg (aA cfg k) 20) k (aK Tryz.f67 0) (A7 l0 i1 i2 s3))=(L67 (aA cfg k) k)from(funext fun l0=>funext fun i1=>funext fun i2=>funext fun s3=>ih l0 i1 i2 s3)]
theorem M67 (a0:List V) (a1:List UInt8) {r:V×List Ob} (h:Evt (fun k n=>T67 (aA cfg k) (L67 (aA cfg k) n) a0 a1) r):Ret 67 [V.lst 91 false a0,V.clo (Fn.func 68) [] [V.ref 0 0]] [Ob.cells [V.str a1]] r:=aS (g:=fun k n=>T67 (aA cfg k) (L67 (aA cfg k) n) a0 a1) (fun k=>C67 k a0 a1) h
theorem K6 (l0:List V) (i1:Int) (i2:Int) (s3:List UInt8) {r:V×List Ob} (h:Evt (fun k n=>Dp (aA cfg k) (L67 (aA cfg k) n) l0 i1 i2 s3) r):Evt (fun k n=>(L67 (aA cfg k) n) l0 i1 i2 s3) r:=aV (fun k n=>rfl) h
def T68 (call:FuncId→Fun) (a0:List UInt8) (a1:Int) (a2:Int) (a3:Int) (a4:List UInt8):Option (V×List Ob):=
 Option.bind (call 69 [(V.str a0),(V.str a4)] []) fun z0=>
 some ((V.bool (getB z0.1)),[(Ob.cells [(V.str a4)])])
def O68 (a4:List UInt8):List Ob:=[Ob.cells [V.str a4]]
def A68 (a0:List UInt8) (a1:Int) (a2:Int) (a3:Int):List V:=[V.agg [V.str a0,V.int IntKind.i64 a1,V.int IntKind.i64 a2,V.int IntKind.i64 a3],V.ref 0 0]
theorem E68 (a0:List UInt8) (a1:Int) (a2:Int) (a3:Int) (a4:List UInt8):GO 68 Tryz.f68 (A68 a0 a1 a2 a3) (O68 a4) call icall again=T68 call a0 a1 a2 a3 a4:=by kernel_rfl
theorem C68 (k:Nat) (a0:List UInt8) (a1:Int) (a2:Int) (a3:Int) (a4:List UInt8):aA cfg (k+1) 68 (A68 a0 a1 a2 a3) (O68 a4)=T68 (aA cfg k) a0 a1 a2 a3 a4:=
 (show aA cfg (k+1) 68 (A68 a0 a1 a2 a3) (O68 a4)=GO 68 Tryz.f68 (A68 a0 a1 a2 a3) (O68 a4) (aA cfg k) (aE cfg (aA cfg k) 20) (RN 68 Tryz.f68 (O68 a4) (aA cfg k) (aE cfg (aA cfg k) 20) k)by kernel_rfl).trans (E68 _ _ _ a0 a1 a2 a3 a4)
theorem M68 (a0:List UInt8) (a1:Int) (a2:Int) (a3:Int) (a4:List UInt8) {r:V×List Ob} (h:Evt (fun k n=>T68 (aA cfg k) a0 a1 a2 a3 a4) r):Ret 68 [V.agg [V.str a0,V.int IntKind.i64 a1,V.int IntKind.i64 a2,V.int IntKind.i64 a3],V.ref 0 0] [Ob.cells [V.str a4]] r:=aS (g:=fun k n=>T68 (aA cfg k) a0 a1 a2 a3 a4) (fun k=>C68 k a0 a1 a2 a3 a4) h
def T27 (call:FuncId→Fun) (a0:List V) (a1:List UInt8):Option (V×List Ob):=
 Option.bind (call 54 [(V.ref 0 0)] [(Ob.cells [(V.opt 0 0),(V.lst 5 true a0)])]) fun z0=>
 chk (fQ (getL (headD (tail (Ob.getC (headD z0.2 Ob.dead))) V.bot)) a1 2) (some ((V.tup [(V.int .i64 ((length a1:Nat):Int)),(V.raw (Value.nilIface))]),[(Ob.cells [(V.opt 0 0),(V.lst 5 true ((getL (headD (tail (Ob.getC (headD z0.2 Ob.dead))) V.bot))++(ofBytes a1)))])]))
def O27 (a0:List V):List Ob:=[Ob.cells [V.opt 0 0,V.lst 5 true a0]]
def A27 (a1:List UInt8):List V:=[V.ref 0 0,V.str a1]
theorem E27 (a0:List V) (a1:List UInt8):GO 27 Tryz.f27 (A27 a1) (O27 a0) call icall again=T27 call a0 a1:=by kernel_rfl
theorem C27 (k:Nat) (a0:List V) (a1:List UInt8):aA cfg (k+1) 27 (A27 a1) (O27 a0)=T27 (aA cfg k) a0 a1:=
 (show aA cfg (k+1) 27 (A27 a1) (O27 a0)=GO 27 Tryz.f27 (A27 a1) (O27 a0) (aA cfg k) (aE cfg (aA cfg k) 20) (RN 27 Tryz.f27 (O27 a0) (aA cfg k) (aE cfg (aA cfg k) 20) k)by kernel_rfl).trans (E27 _ _ _ a0 a1)
theorem M27 (a0:List V) (a1:List UInt8) {r:V×List Ob} (h:Evt (fun k n=>T27 (aA cfg k) a0 a1) r):Ret 27 [V.ref 0 0,V.str a1] [Ob.cells [V.opt 0 0,V.lst 5 true a0]] r:=aS (g:=fun k n=>T27 (aA cfg k) a0 a1) (fun k=>C27 k a0 a1) h
def Dq (call:FuncId→Fun) (ag0:List V→List V→Int→Int→List UInt8→Int→Int→Int→List V→Option (V×List Ob)) (l0:List V) (l1:List V) (i2:Int) (i3:Int) (s4:List UInt8) (i5:Int) (i6:Int) (i7:Int) (l8:List V):Option (V×List Ob):=
 if(decide (i3<i2))=true then
 chk (decide (0≤i3)) (chk (decide (i3<((length l1:Nat):Int))) (Option.bind (call 64 [(V.lst 5 false l0),(V.agg [(V.int .i64 (getI (headD (V.cells (getD l1 (Int.toNat i3) V.bot)) V.bot))),(V.int .i64 (getI (headD (tail (V.cells (getD l1 (Int.toNat i3) V.bot))) V.bot))),(V.int .i64 (getI (headD (tail (tail (V.cells (getD l1 (Int.toNat i3) V.bot)))) V.bot)))])] []) fun z0=>
 Option.bind (call 27 [(V.ref 0 0),(V.str (getS z0.1))] [(Ob.cells [(V.opt 0 0),(V.lst 5 true l8)])]) fun z1=>
 (ag0 (l0) (l1) (i2) ((IntKind.wrap .i64 (i3+(1:Int)))) (s4) (i5) (i6) (i7) ((getL (headD (tail (Ob.getC (headD z1.2 Ob.dead))) V.bot))))))
 else
 Option.bind (call 29 [(V.ref 0 0)] [(Ob.cells [(V.opt 0 0),(V.lst 5 true l8)])]) fun z0=>
 Option.bind (call 105 [(V.str (getS z0.1))] []) fun z1=>
 some ((V.str (getS z1.1)),[])
def T70 (call:FuncId→Fun) (ag0:List V→List V→Int→Int→List UInt8→Int→Int→Int→List V→Option (V×List Ob)) (a0:List V) (a1:List UInt8) (a2:Int) (a3:Int) (a4:Int):Option (V×List Ob):=
 Option.bind (call 62 [(V.lst 5 false a0),(V.agg [(V.int .i64 a3),(V.int .i64 a4)])] []) fun z0=>
 (ag0 (a0) ((getL z0.1)) (((length (getL z0.1):Nat):Int)) ((0:Int)) (a1) (a2) (a3) (a4) ([]))
def A70 (a0:List V) (a1:List UInt8) (a2:Int) (a3:Int) (a4:Int):List V:=[V.lst 5 false a0,V.agg [V.str a1,V.int IntKind.i64 a2,V.int IntKind.i64 a3,V.int IntKind.i64 a4]]
def A8 (l0:List V) (l1:List V) (i2:Int) (i3:Int) (s4:List UInt8) (i5:Int) (i6:Int) (i7:Int) (l8:List V):St:=⟨[(V.lst 5 false l0),V.bot,V.bot,V.bot,V.bot,(V.ref 1 0),V.bot,V.bot,V.bot,V.bot,V.bot,V.bot,V.bot,V.bot,(V.lst 134 false l1),(V.int IntKind.i64 i2),(V.int IntKind.i64 i3)]++List.replicate 10 V.bot,[(Ob.cells [(V.str s4),(V.int IntKind.i64 i5),(V.int IntKind.i64 i6),(V.int IntKind.i64 i7)]),(Ob.cells [(V.opt 1 0),(V.lst 5 true l8)])]⟩
theorem Of (l0:List V) (l1:List V) (i2:Int) (i3:Int) (s4:List UInt8) (i5:Int) (i6:Int) (i7:Int) (l8:List V):
 RM 70 Tryz.f70 [] call icall again (aK Tryz.f70 0) (A8 l0 l1 i2 i3 s4 i5 i6 i7 l8)=Dq call (fun l0 l1 i2 i3 s4 i5 i6 i7 l8=>again (aK Tryz.f70 0) (A8 l0 l1 i2 i3 s4 i5 i6 i7 l8)) l0 l1 i2 i3 s4 i5 i6 i7 l8:=by kernel_rfl
theorem E70 (a0:List V) (a1:List UInt8) (a2:Int) (a3:Int) (a4:Int):GO 70 Tryz.f70 (A70 a0 a1 a2 a3 a4) [] call icall again=T70 call (fun l0 l1 i2 i3 s4 i5 i6 i7 l8=>again (aK Tryz.f70 0) (A8 l0 l1 i2 i3 s4 i5 i6 i7 l8)) a0 a1 a2 a3 a4:=by kernel_rfl
def L70 (call:FuncId→Fun):Nat→(List V→List V→Int→Int→List UInt8→Int→Int→Int→List V→Option (V×List Ob))
 |0=>fun _ _ _ _ _ _ _ _ _=>none
 |n+1=>Dq call (L70 call n)
theorem R70 (call:FuncId→Fun) (icall:aQ (V×List Ob)):∀n,(∀(l0:List V) (l1:List V) (i2:Int) (i3:Int) (s4:List UInt8) (i5:Int) (i6:Int) (i7:Int) (l8:List V),RN 70 Tryz.f70 [] call icall n (aK Tryz.f70 0) (A8 l0 l1 i2 i3 s4 i5 i6 i7 l8)=(L70 call n) l0 l1 i2 i3 s4 i5 i6 i7 l8)
 |0=>fun l0 l1 i2 i3 s4 i5 i6 i7 l8=>rfl
 |n+1=>by
  have ih:=R70 call icall n
  exact fun l0 l1 i2 i3 s4 i5 i6 i7 l8=>(Of call icall (RN 70 Tryz.f70 [] call icall n) l0 l1 i2 i3 s4 i5 i6 i7 l8).trans (by rw[show(fun l0 l1 i2 i3 s4 i5 i6 i7 l8=>RN 70 Tryz.f70 [] call icall n (aK Tryz.f70 0) (A8 l0 l1 i2 i3 s4 i5 i6 i7 l8))=(L70 call n)from(funext fun l0=>funext fun l1=>funext fun i2=>funext fun i3=>funext fun s4=>funext fun i5=>funext fun i6=>funext fun i7=>funext fun l8=>ih l0 l1 i2 i3 s4 i5 i6 i7 l8)];rfl)
theorem C70 (k:Nat) (a0:List V) (a1:List UInt8) (a2:Int) (a3:Int) (a4:Int):aA cfg (k+1) 70 (A70 a0 a1 a2 a3 a4) []=T70 (aA cfg k) (L70 (aA cfg k) k) a0 a1 a2 a3 a4:=by
 have ih:=R70 (aA cfg k) (aE cfg (aA cfg k) 20) k
 refine(show aA cfg (k+1) 70 (A70 a0 a1 a2 a3 a4) []=GO 70 Tryz.f70 (A70 a0 a1 a2 a3 a4) [] (aA cfg k) (aE cfg (aA cfg k) 20) (RN 70 Tryz.f70 [] (aA cfg k) (aE cfg (aA cfg k) 20) k)by kernel_rfl).trans ((E70 _ _ _ a0 a1 a2 a3 a4).trans ?_)
 rw[show(fun l0 l1 i2 i3 s4 i5 i6 i7 l8=>RN 70 Tryz.f70 [] (aA cfg k) (aE cfg (aA cfg k) 20) k (aK Tryz.f70 0) (A8 l0 l1 i2 i3 s4 i5 i6 i7 l8))=(L70 (aA cfg k) k)from(funext fun l0=>funext fun l1=>funext fun i2=>funext fun i3=>funext fun s4=>funext fun i5=>funext fun i6=>funext fun i7=>funext fun l8=>ih l0 l1 i2 i3 s4 i5 i6 i7 l8)]
theorem M70 (a0:List V) (a1:List UInt8) (a2:Int) (a3:Int) (a4:Int) {r:V×List Ob} (h:Evt (fun k n=>T70 (aA cfg k) (L70 (aA cfg k) n) a0 a1 a2 a3 a4) r):Ret 70 [V.lst 5 false a0,V.agg [V.str a1,V.int IntKind.i64 a2,V.int IntKind.i64 a3,V.int IntKind.i64 a4]] [] r:=aS (g:=fun k n=>T70 (aA cfg k) (L70 (aA cfg k) n) a0 a1 a2 a3 a4) (fun k=>C70 k a0 a1 a2 a3 a4) h
theorem K7 (l0:List V) (l1:List V) (i2:Int) (i3:Int) (s4:List UInt8) (i5:Int) (i6:Int) (i7:Int) (l8:List V) {r:V×List Ob} (h:Evt (fun k n=>Dq (aA cfg k) (L70 (aA cfg k) n) l0 l1 i2 i3 s4 i5 i6 i7 l8) r):Evt (fun k n=>(L70 (aA cfg k) n) l0 l1 i2 i3 s4 i5 i6 i7 l8) r:=aV (fun k n=>rfl) h
def T33 (call:FuncId→Fun) (a0:List V) (a1:List UInt8):Option (V×List Ob):=
 Option.bind (call 67 [(V.lst 91 false a0),(V.clo (Fn.func 68) [] [(V.ref 0 0)])] [(Ob.cells [(V.str a1)])]) fun z0=>
 if(decide ((getI z0.1)<(0:Int)))=true then
 some ((V.tup [(V.agg [(V.str []),(V.int .i64 0),(V.int .i64 0),(V.int .i64 0)]),(V.bool false)]),[])
 else
 chk (decide (0≤(getI z0.1))) (chk (decide ((getI z0.1)<((length a0:Nat):Int))) (some ((V.tup [(V.agg [(V.str (getS (headD (V.cells (getD a0 (Int.toNat (getI z0.1)) V.bot)) V.bot))),(V.int .i64 (getI (headD (tail (V.cells (getD a0 (Int.toNat (getI z0.1)) V.bot))) V.bot))),(V.int .i64 (getI (headD (tail (tail (V.cells (getD a0 (Int.toNat (getI z0.1)) V.bot)))) V.bot))),(V.int .i64 (getI (headD (tail (tail (tail (V.cells (getD a0 (Int.toNat (getI z0.1)) V.bot))))) V.bot)))]),(V.bool true)]),[])))
def A33 (a0:List V) (a1:List UInt8):List V:=[V.lst 91 false a0,V.str a1]
theorem E33 (a0:List V) (a1:List UInt8):GO 33 Tryz.f33 (A33 a0 a1) [] call icall again=T33 call a0 a1:=by kernel_rfl
theorem C33 (k:Nat) (a0:List V) (a1:List UInt8):aA cfg (k+1) 33 (A33 a0 a1) []=T33 (aA cfg k) a0 a1:=
 (show aA cfg (k+1) 33 (A33 a0 a1) []=GO 33 Tryz.f33 (A33 a0 a1) [] (aA cfg k) (aE cfg (aA cfg k) 20) (RN 33 Tryz.f33 [] (aA cfg k) (aE cfg (aA cfg k) 20) k)by kernel_rfl).trans (E33 _ _ _ a0 a1)
theorem M33 (a0:List V) (a1:List UInt8) {r:V×List Ob} (h:Evt (fun k n=>T33 (aA cfg k) a0 a1) r):Ret 33 [V.lst 91 false a0,V.str a1] [] r:=aS (g:=fun k n=>T33 (aA cfg k) a0 a1) (fun k=>C33 k a0 a1) h
def T34 (call:FuncId→Fun) (a0:List V) (a1:List V) (a2:List UInt8):Option (V×List Ob):=
 Option.bind (call 33 [(V.lst 91 false a1),(V.str a2)] []) fun z0=>
 if(!(getB (headD (tail (getT z0.1)) V.bot)))=true then
 some ((V.str []),[])
 else
 Option.bind (call 70 [(V.lst 5 false a0),(V.agg [(V.str (getS (headD (V.cells (headD (getT z0.1) V.bot)) V.bot))),(V.int .i64 (getI (headD (tail (V.cells (headD (getT z0.1) V.bot))) V.bot))),(V.int .i64 (getI (headD (tail (tail (V.cells (headD (getT z0.1) V.bot)))) V.bot))),(V.int .i64 (getI (headD (tail (tail (tail (V.cells (headD (getT z0.1) V.bot))))) V.bot)))])] []) fun z1=>
 some ((V.str (getS z1.1)),[])
def A34 (a0:List V) (a1:List V) (a2:List UInt8):List V:=[V.lst 5 false a0,V.lst 91 false a1,V.str a2]
theorem E34 (a0:List V) (a1:List V) (a2:List UInt8):GO 34 Tryz.f34 (A34 a0 a1 a2) [] call icall again=T34 call a0 a1 a2:=by kernel_rfl
theorem C34 (k:Nat) (a0:List V) (a1:List V) (a2:List UInt8):aA cfg (k+1) 34 (A34 a0 a1 a2) []=T34 (aA cfg k) a0 a1 a2:=
 (show aA cfg (k+1) 34 (A34 a0 a1 a2) []=GO 34 Tryz.f34 (A34 a0 a1 a2) [] (aA cfg k) (aE cfg (aA cfg k) 20) (RN 34 Tryz.f34 [] (aA cfg k) (aE cfg (aA cfg k) 20) k)by kernel_rfl).trans (E34 _ _ _ a0 a1 a2)
theorem M34 (a0:List V) (a1:List V) (a2:List UInt8) {r:V×List Ob} (h:Evt (fun k n=>T34 (aA cfg k) a0 a1 a2) r):Ret 34 [V.lst 5 false a0,V.lst 91 false a1,V.str a2] [] r:=aS (g:=fun k n=>T34 (aA cfg k) a0 a1 a2) (fun k=>C34 k a0 a1 a2) h
def Ds (call:FuncId→Fun) (ag0:List V→Int→List V→Bool→List V→Int→Int→Option (V×List Ob)) (l0:List V) (i1:Int) (o2:List V) (b3:Bool) (l4:List V) (i5:Int) (i6:Int):Option (V×List Ob):=
 if(decide (i6<i5))=true then
 chk (decide (0≤i6)) (chk (decide (i6<((length l4:Nat):Int))) (Option.bind (call 64 [(V.lst 5 false l0),(V.agg [(V.int .i64 (getI (headD (V.cells (getD l4 (Int.toNat i6) V.bot)) V.bot))),(V.int .i64 (getI (headD (tail (V.cells (getD l4 (Int.toNat i6) V.bot))) V.bot))),(V.int .i64 (getI (headD (tail (tail (V.cells (getD l4 (Int.toNat i6) V.bot)))) V.bot)))])] []) fun z0=>
 Option.bind (call 65 [(V.str (getS z0.1))] []) fun z1=>
 if(getB z1.1)=true then
 if b3=true then
 chk (decide (0≤(IntKind.wrap .i64 (((length o2:Nat):Int) - (1:Int))))) (chk (decide ((IntKind.wrap .i64 (((length o2:Nat):Int) - (1:Int)))<((length o2:Nat):Int))) ((ag0 (l0) (i1) ((List.set o2 (Int.toNat (IntKind.wrap .i64 (((length o2:Nat):Int) - (1:Int)))) (V.agg [(V.str (getS (headD (V.cells (getD o2 (Int.toNat (IntKind.wrap .i64 (((length o2:Nat):Int) - (1:Int)))) V.bot)) V.bot))),(V.int .i64 (getI (headD (tail (V.cells (getD o2 (Int.toNat (IntKind.wrap .i64 (((length o2:Nat):Int) - (1:Int)))) V.bot))) V.bot))),(V.int .i64 (getI (headD (tail (tail (V.cells (getD o2 (Int.toNat (IntKind.wrap .i64 (((length o2:Nat):Int) - (1:Int)))) V.bot)))) V.bot))),(V.int .i64 (getI (headD (tail (tail (V.cells (getD l4 (Int.toNat i6) V.bot)))) V.bot)))]))) (b3) (l4) (i5) ((IntKind.wrap .i64 (i6+(1:Int)))))))
 else
 (ag0 (l0) (i1) (o2) (b3) (l4) (i5) ((IntKind.wrap .i64 (i6+(1:Int)))))
 else
 Option.bind (call 66 [(V.str (getS z0.1))] []) fun z2=>
 if(getB (headD (tail (tail (getT z2.1))) V.bot))=true then
 chk (bI o2 [(V.agg [(V.str (getS (headD (getT z2.1) V.bot))),(V.int .i64 (getI (headD (V.cells (getD l4 (Int.toNat i6) V.bot)) V.bot))),(V.int .i64 (IntKind.wrap .i64 ((getI (headD (V.cells (getD l4 (Int.toNat i6) V.bot)) V.bot))+(getI (headD (tail (getT z2.1)) V.bot))))),(V.int .i64 (getI (headD (tail (tail (V.cells (getD l4 (Int.toNat i6) V.bot)))) V.bot)))])] 41) ((ag0 (l0) (i1) ((o2++[(V.agg [(V.str (getS (headD (getT z2.1) V.bot))),(V.int .i64 (getI (headD (V.cells (getD l4 (Int.toNat i6) V.bot)) V.bot))),(V.int .i64 (IntKind.wrap .i64 ((getI (headD (V.cells (getD l4 (Int.toNat i6) V.bot)) V.bot))+(getI (headD (tail (getT z2.1)) V.bot))))),(V.int .i64 (getI (headD (tail (tail (V.cells (getD l4 (Int.toNat i6) V.bot)))) V.bot)))])])) ((getB (headD (tail (tail (getT z2.1))) V.bot))) (l4) (i5) ((IntKind.wrap .i64 (i6+(1:Int))))))
 else
 (ag0 (l0) (i1) (o2) ((getB (headD (tail (tail (getT z2.1))) V.bot))) (l4) (i5) ((IntKind.wrap .i64 (i6+(1:Int)))))))
 else
 some ((V.tup [(V.lst 91 false o2),(V.int .i64 i1)]),[])
def T32 (call:FuncId→Fun) (ag0:List V→Int→List V→Bool→List V→Int→Int→Option (V×List Ob)) (a0:List V) (a1:Int) (a2:Int):Option (V×List Ob):=
 Option.bind (call 62 [(V.lst 5 false a0),(V.agg [(V.int .i64 a1),(V.int .i64 a2)])] []) fun z0=>
 if(((length (getL z0.1):Nat):Int)==(0:Int))=true then
 some ((V.tup [(V.lst 91 false []),(V.int .i64 a1)]),[])
 else
 chk (decide (0≤(IntKind.wrap .i64 (((length (getL z0.1):Nat):Int) - (1:Int))))) (chk (decide ((IntKind.wrap .i64 (((length (getL z0.1):Nat):Int) - (1:Int)))<((length (getL z0.1):Nat):Int))) (Option.bind (call 63 [(V.lst 134 false (getL z0.1))] []) fun z1=>
 if(decide ((getI z1.1)≥(0:Int)))=true then
 chk (decide (0≤(getI z1.1))) (chk (decide ((getI z1.1)<((length (getL z0.1):Nat):Int))) (chk (decide (0≤(getI z1.1))) (chk (decide ((getI z1.1)≤((length (getL z0.1):Nat):Int))) (chk (decide (0≤(0:Int))) (chk (decide ((0:Int)≤(getI z1.1))) ((ag0 (a0) ((getI (headD (tail (tail (V.cells (getD (getL z0.1) (Int.toNat (getI z1.1)) V.bot)))) V.bot))) ([]) (false) ((drop (Int.toNat (0:Int)) (take (Int.toNat (getI z1.1)) (getL z0.1)))) (((length (drop (Int.toNat (0:Int)) (take (Int.toNat (getI z1.1)) (getL z0.1))):Nat):Int)) ((0:Int)))))))))
 else
 (ag0 (a0) ((getI (headD (tail (tail (V.cells (getD (getL z0.1) (Int.toNat (IntKind.wrap .i64 (((length (getL z0.1):Nat):Int) - (1:Int)))) V.bot)))) V.bot))) ([]) (false) ((getL z0.1)) (((length (getL z0.1):Nat):Int)) ((0:Int)))))
def A32 (a0:List V) (a1:Int) (a2:Int):List V:=[V.lst 5 false a0,V.agg [V.int IntKind.i64 a1,V.int IntKind.i64 a2]]
def A9 (l0:List V) (i1:Int) (o2:List V) (b3:Bool) (l4:List V) (i5:Int) (i6:Int):St:=⟨[(V.lst 5 false l0),V.bot,V.bot,V.bot,V.bot,V.bot,V.bot,(V.int IntKind.i64 i1),V.bot,(V.own 91 o2),(V.bool b3),V.bot,V.bot,V.bot,V.bot,V.bot,V.bot,V.bot,V.bot,V.bot,V.bot,V.bot,V.bot,V.bot,V.bot,V.bot,V.bot,V.bot,V.bot,V.bot,V.bot,V.bot,V.bot,V.bot,V.bot,V.bot,V.bot,V.bot,V.bot,V.bot,V.bot,V.bot,V.bot,V.bot,(V.lst 134 false l4),(V.int IntKind.i64 i5),(V.int IntKind.i64 i6)]++List.replicate 41 V.bot,[]⟩
theorem Og (l0:List V) (i1:Int) (o2:List V) (b3:Bool) (l4:List V) (i5:Int) (i6:Int):
 RM 32 Tryz.f32 [] call icall again (aK Tryz.f32 0) (A9 l0 i1 o2 b3 l4 i5 i6)=Ds call (fun l0 i1 o2 b3 l4 i5 i6=>again (aK Tryz.f32 0) (A9 l0 i1 o2 b3 l4 i5 i6)) l0 i1 o2 b3 l4 i5 i6:=by kernel_rfl
theorem E32 (a0:List V) (a1:Int) (a2:Int):GO 32 Tryz.f32 (A32 a0 a1 a2) [] call icall again=T32 call (fun l0 i1 o2 b3 l4 i5 i6=>again (aK Tryz.f32 0) (A9 l0 i1 o2 b3 l4 i5 i6)) a0 a1 a2:=by kernel_rfl
def L32 (call:FuncId→Fun):Nat→(List V→Int→List V→Bool→List V→Int→Int→Option (V×List Ob))
 |0=>fun _ _ _ _ _ _ _=>none
 |n+1=>Ds call (L32 call n)
theorem R32 (call:FuncId→Fun) (icall:aQ (V×List Ob)):∀n,(∀(l0:List V) (i1:Int) (o2:List V) (b3:Bool) (l4:List V) (i5:Int) (i6:Int),RN 32 Tryz.f32 [] call icall n (aK Tryz.f32 0) (A9 l0 i1 o2 b3 l4 i5 i6)=(L32 call n) l0 i1 o2 b3 l4 i5 i6)
 |0=>fun l0 i1 o2 b3 l4 i5 i6=>rfl
 |n+1=>by
  have ih:=R32 call icall n
  exact fun l0 i1 o2 b3 l4 i5 i6=>(Og call icall (RN 32 Tryz.f32 [] call icall n) l0 i1 o2 b3 l4 i5 i6).trans (by rw[show(fun l0 i1 o2 b3 l4 i5 i6=>RN 32 Tryz.f32 [] call icall n (aK Tryz.f32 0) (A9 l0 i1 o2 b3 l4 i5 i6))=(L32 call n)from(funext fun l0=>funext fun i1=>funext fun o2=>funext fun b3=>funext fun l4=>funext fun i5=>funext fun i6=>ih l0 i1 o2 b3 l4 i5 i6)];rfl)
theorem C32 (k:Nat) (a0:List V) (a1:Int) (a2:Int):aA cfg (k+1) 32 (A32 a0 a1 a2) []=T32 (aA cfg k) (L32 (aA cfg k) k) a0 a1 a2:=by
 have ih:=R32 (aA cfg k) (aE cfg (aA cfg k) 20) k
 refine(show aA cfg (k+1) 32 (A32 a0 a1 a2) []=GO 32 Tryz.f32 (A32 a0 a1 a2) [] (aA cfg k) (aE cfg (aA cfg k) 20) (RN 32 Tryz.f32 [] (aA cfg k) (aE cfg (aA cfg k) 20) k)by kernel_rfl).trans ((E32 _ _ _ a0 a1 a2).trans ?_)
 rw[show(fun l0 i1 o2 b3 l4 i5 i6=>RN 32 Tryz.f32 [] (aA cfg k) (aE cfg (aA cfg k) 20) k (aK Tryz.f32 0) (A9 l0 i1 o2 b3 l4 i5 i6))=(L32 (aA cfg k) k)from(funext fun l0=>funext fun i1=>funext fun o2=>funext fun b3=>funext fun l4=>funext fun i5=>funext fun i6=>ih l0 i1 o2 b3 l4 i5 i6)]
theorem M32 (a0:List V) (a1:Int) (a2:Int) {r:V×List Ob} (h:Evt (fun k n=>T32 (aA cfg k) (L32 (aA cfg k) n) a0 a1 a2) r):Ret 32 [V.lst 5 false a0,V.agg [V.int IntKind.i64 a1,V.int IntKind.i64 a2]] [] r:=aS (g:=fun k n=>T32 (aA cfg k) (L32 (aA cfg k) n) a0 a1 a2) (fun k=>C32 k a0 a1 a2) h
theorem K8 (l0:List V) (i1:Int) (o2:List V) (b3:Bool) (l4:List V) (i5:Int) (i6:Int) {r:V×List Ob} (h:Evt (fun k n=>Ds (aA cfg k) (L32 (aA cfg k) n) l0 i1 o2 b3 l4 i5 i6) r):Evt (fun k n=>(L32 (aA cfg k) n) l0 i1 o2 b3 l4 i5 i6) r:=aV (fun k n=>rfl) h
def H9 (call:FuncId→Fun) (a0:List UInt8) (a1:List UInt8):Option (V×List Ob):=
 Option.bind (if(decide (((length a0:Nat):Int)<(IntKind.wrap .i64 ((2:Int)+((length a1:Nat):Int)))))=false then
 chk (decide (0≤(IntKind.wrap .i64 ((2:Int)+((length a1:Nat):Int))))) (chk (decide ((IntKind.wrap .i64 ((2:Int)+((length a1:Nat):Int)))≤((length a0:Nat):Int))) (chk (decide (0≤(0:Int))) (chk (decide ((0:Int)≤(IntKind.wrap .i64 ((2:Int)+((length a1:Nat):Int))))) (chk (dS [45,45] a1) (some (!(sEq (drop (Int.toNat (0:Int)) (take (Int.toNat (IntKind.wrap .i64 ((2:Int)+((length a1:Nat):Int)))) a0)) ([45,45]++a1))))))))
 else
 some true) fun y0=>
 if y0=true then
 some ((V.tup [(V.bool false),(V.bool false)]),[])
 else
 chk (decide (0≤(IntKind.wrap .i64 ((2:Int)+((length a1:Nat):Int))))) (chk (decide ((IntKind.wrap .i64 ((2:Int)+((length a1:Nat):Int)))≤((length a0:Nat):Int))) (Option.bind (call 135 [(V.str (drop (Int.toNat (IntKind.wrap .i64 ((2:Int)+((length a1:Nat):Int)))) a0))] []) fun z1=>
 if(getB z1.1)=true then
 some ((V.tup [(V.bool true),(V.bool false)]),[])
 else
 if(decide (((length (drop (Int.toNat (IntKind.wrap .i64 ((2:Int)+((length a1:Nat):Int)))) a0):Nat):Int)≥(2:Int)))=true then
 chk (decide (0≤(2:Int))) (chk (decide ((2:Int)≤((length (drop (Int.toNat (IntKind.wrap .i64 ((2:Int)+((length a1:Nat):Int)))) a0):Nat):Int))) (chk (decide (0≤(0:Int))) (chk (decide ((0:Int)≤(2:Int))) (if(sEq (drop (Int.toNat (0:Int)) (take (Int.toNat (2:Int)) (drop (Int.toNat (IntKind.wrap .i64 ((2:Int)+((length a1:Nat):Int)))) a0))) [45,45])=true then
 chk (decide (0≤(2:Int))) (chk (decide ((2:Int)≤((length (drop (Int.toNat (IntKind.wrap .i64 ((2:Int)+((length a1:Nat):Int)))) a0):Nat):Int))) (Option.bind (call 135 [(V.str (drop (Int.toNat (2:Int)) (drop (Int.toNat (IntKind.wrap .i64 ((2:Int)+((length a1:Nat):Int)))) a0)))] []) fun z2=>
 if(getB z2.1)=true then
 some ((V.tup [(V.bool true),(V.bool true)]),[])
 else
 some ((V.tup [(V.bool false),(V.bool false)]),[])))
 else
 some ((V.tup [(V.bool false),(V.bool false)]),[])))))
 else
 some ((V.tup [(V.bool false),(V.bool false)]),[])))
def Kd (a0:List UInt8) (a1:List UInt8):List V:=[V.str a0,V.str a1]
theorem Qv (a0:List UInt8) (a1:List UInt8):GO 100 Tryz.f100 (Kd a0 a1) [] call icall again=H9 call a0 a1:=by kernel_rfl
theorem Qw (k:Nat) (a0:List UInt8) (a1:List UInt8):aA cfg (k+1) 100 (Kd a0 a1) []=H9 (aA cfg k) a0 a1:=
 (show aA cfg (k+1) 100 (Kd a0 a1) []=GO 100 Tryz.f100 (Kd a0 a1) [] (aA cfg k) (aE cfg (aA cfg k) 20) (RN 100 Tryz.f100 [] (aA cfg k) (aE cfg (aA cfg k) 20) k)by kernel_rfl).trans (Qv _ _ _ a0 a1)
theorem Qx (a0:List UInt8) (a1:List UInt8) {r:V×List Ob} (h:Evt (fun k n=>H9 (aA cfg k) a0 a1) r):Ret 100 [V.str a0,V.str a1] [] r:=aS (g:=fun k n=>H9 (aA cfg k) a0 a1) (fun k=>Qw k a0 a1) h
def Ia (call:FuncId→Fun) (a0:List UInt8):Option (V×List Ob):=
 Option.bind (call 105 [(V.str a0)] []) fun z0=>
 some ((V.bool (sEq (getS z0.1) [])),[])
def Ke (a0:List UInt8):List V:=[V.str a0]
theorem Qy (a0:List UInt8):GO 135 Tryz.f135 (Ke a0) [] call icall again=Ia call a0:=by kernel_rfl
theorem Qz (k:Nat) (a0:List UInt8):aA cfg (k+1) 135 (Ke a0) []=Ia (aA cfg k) a0:=
 (show aA cfg (k+1) 135 (Ke a0) []=GO 135 Tryz.f135 (Ke a0) [] (aA cfg k) (aE cfg (aA cfg k) 20) (RN 135 Tryz.f135 [] (aA cfg k) (aE cfg (aA cfg k) 20) k)by kernel_rfl).trans (Qy _ _ _ a0)
theorem QA (a0:List UInt8) {r:V×List Ob} (h:Evt (fun k n=>Ia (aA cfg k) a0) r):Ret 135 [V.str a0] [] r:=aS (g:=fun k n=>Ia (aA cfg k) a0) (fun k=>Qz k a0) h
end Go.Proofs.YtdoaoaicdimbeaaGreatDoor
end
section
namespace Go.Proofs.YtdoaoaicdimbeaaGreatDoor
open Go.Ev Go
abbrev Ln:=Nat×Nat×Nat
def lE (b:Bs) (fr to:Nat):Bs:=(b.take to).drop fr
def bO (b:Bs) (l:Ln):Bs:=if l.1≤l.2.1∧l.2.1≤b.length then lE b l.1 l.2.1 else[]
theorem lF (b:Bs):(ofBytes b).all qN=true:=by
 simp only[List.all_eq_true,ofBytes,List.mem_map]
 rintro v ⟨c,_,rfl⟩
 have:=c.toNat_lt
 simp[qN];omega
theorem Ib (b:Bs) (hb:b.length≤1000000) (fr to:Int):
  Ret 62 [.lst 5 false (ofBytes b), .agg [.int .i64 fr, .int .i64 to]] [] (.lst 134 false ((aU fr to b).map lnV),[]):=by
 refine iR (h:=ofF) (by kernel_rfl) ?_
 have h1:=lF b
 have h2:(ofBytes b).length<1099511627776:=by rw[aH];omega
 simp only[ofF,h1,h2,decide_true,Bool.and_self,if_true,bP]
theorem Fg (a b n:Int):Ret 74 [.agg [.int .i64 a, .int .i64 b], .int .i64 n] [] (.bool (decide (0≤a∧a≤b∧b≤n)),[]):=by
 refine M74 a b n ?_
 simp only[T74]
 by_cases h1:a≥0
 ·by_cases h2:a≤b
  ·have e:decide (0≤a∧a≤b∧b≤n)=decide (b≤n):=by simp[h1,h2]
   rw[e]
   simp only[h1,h2,decide_true,if_true,bS]
   exact aC _
  ·have e:decide (0≤a∧a≤b∧b≤n)=false:=by simp[h2]
   rw[e]
   simp only[h1,h2,decide_true,decide_false,if_true,Bool.false_eq_true,if_false,bS]
   exact aC _
 ·have e:decide (0≤a∧a≤b∧b≤n)=false:=by simp;omega
  rw[e]
  simp only[h1,decide_false,Bool.false_eq_true,if_false,bS]
  exact aC _
theorem QB (b:Bs) (fr to:Nat):bytesOf (List.drop fr (List.take to (ofBytes b)))=lE b fr to:=by
 unfold ofBytes lE
 rw[←List.map_take,←List.map_drop]
 exact bP _
theorem Ic (b:Bs) (l:Ln):Ret 64 [.lst 5 false (ofBytes b),lnV l] [] (.str (bO b l),[]):=by
 obtain⟨p,q,r⟩:=l
 refine M64 (ofBytes b) p q r ?_
 simp only[T64,aH]
 refine aD (Fg p q (b.length:Nat)) ?_
 simp only[V.getB]
 by_cases h:p≤q∧q≤b.length
 ·have h1:(0:Int)≤(p:Int)∧(p:Int)≤(q:Int)∧(q:Int)≤(b.length:Int):=by omega
  have e:bO b (p,q,r)=lE b p q:=if_pos h
  simp only[h1,and_self,decide_true,Bool.not_true,Bool.false_eq_true,if_false,bX,Int.toNat_natCast,QB,e,aI (show(0:Int)≤(q:Int)by omega)]
  exact aC _
 ·have h1:¬((0:Int)≤(p:Int)∧(p:Int)≤(q:Int)∧(q:Int)≤(b.length:Int)):=by omega
  have e:bO b (p,q,r)=[]:=if_neg h
  simp only[h1,decide_false,Bool.not_false,if_true,e]
  exact aC _
def zC:Bs→Bool
 |[]=>false
 |c::_=>eU c
theorem Oh (s:Bs):Ret 65 [.str s] [] (.bool (zC s),[]):=by
 refine M65 s ?_
 simp only[T65]
 cases s with
 |nil=>simp only[sEq,beq_self_eq_true,Bool.not_true,Bool.false_eq_true,if_false,zC];exact aC _
 |cons c r=>
  have e:sEq (c::r) []=false:=rfl
  have h1:(0:Int)<(((c::r).length:Nat):Int):=by simp
  simp only[e,Bool.not_false,if_true,aI h1,aI (show(0:Int)≤0 by omega),Int.toNat_zero,List.getD_cons_zero,zC]
  refine aD (uJ c) ?_
  exact aC _
def eD:List Ln→Option Nat
 |[]=>none
 |l::r=>if l.1=l.2.1 then some 0 else(eD r).map (· +1)
theorem pW {l:List Ln} {i:Nat} (h:i<l.length):(l.map lnV).getD i .bot=lnV l[i]:=by simp[List.getD,h]
theorem Mn (l:Ln):Ret 103 [lnV l] [] (.bool (decide (l.1=l.2.1)),[]):=by
 obtain⟨p,q,r⟩:=l
 refine Qu p q r ?_
 simp only[H8]
 have e:(((p:Nat):Int)==((q:Nat):Int))=decide (p=q):=by
  by_cases h:p=q
  ·subst h;simp
  ·have:¬((p:Int)=(q:Int)):=by omega
   simp[h,this]
 rw[e]
 exact aC _
def lG:Option Nat→Int
 |none=> -1
 |some k=>k
theorem Kf (l:List Ln) (hl:l.length≤1000000):∀(n i:Nat),l.length - i≤n→i≤l.length→
  Evt (fun k n=>zB (aA cfg k) n (l.map lnV) (l.length:Nat) (i:Nat)) (.int .i64 (lG ((eD (l.drop i)).map (· +i))),[]):=by
 have fin:∀i:Nat,i=l.length→Evt (fun k n=>zB (aA cfg k) n (l.map lnV) (l.length:Nat) (i:Nat)) (.int .i64 (lG ((eD (l.drop i)).map (· +i))),[]):=by
  intro i h
  refine H7 (l.map lnV) (l.length:Nat) (i:Nat) ?_
  have h1:¬((i:Int)<(l.length:Int)):=by omega
  rw[List.drop_eq_nil_of_le (by omega)]
  simp only[zA,h1,decide_false,Bool.false_eq_true,if_false,eD,Option.map_none,lG]
  exact aC _
 intro n
 induction n with
 |zero=>intro i h hi;exact fin i (by omega)
 |succ n ih=>
  intro i h hi
  by_cases hlt:i<l.length
  ·refine H7 (l.map lnV) (l.length:Nat) (i:Nat) ?_
   have h1:((i:Int)<(l.length:Int)):=by omega
   have h2:(0:Int)≤(i:Int):=by omega
   have hw:IntKind.wrap .i64 ((i:Int)+1)=((i+1:Nat):Int):=by rw[wrap64 (by omega) (by omega)];omega
   have hd:l.drop i=l[i]::l.drop (i+1):=List.drop_eq_getElem_cons hlt
   simp only[zA,h1,decide_true,if_true,aI h2,List.length_map,bX,Int.toNat_natCast,pW hlt,lnV,V.cells,List.headD_cons,List.tail_cons,V.getI,hw]
   refine aD (Mn l[i]) ?_
   simp only[V.getB,decide_eq_true_eq]
   rw[hd,eD]
   by_cases hn:l[i].1=l[i].2.1
   ·simp only[hn,if_true,Option.map_some,Nat.zero_add,lG]
    exact aC _
   ·simp only[hn,if_false]
    have:=ih (i+1) (by omega) (by omega)
    have e:((eD (l.drop (i+1))).map (· +1)).map (· +i)=(eD (l.drop (i+1))).map (· +(i+1)):=by
     rw[Option.map_map];congr 1;funext x;simp only[Function.comp];omega
    rw[e]
    exact this
  ·exact fin i (by omega)
theorem Oi (l:List Ln) (hl:l.length≤1000000):Ret 63 [.lst 134 false (l.map lnV)] [] (.int .i64 (lG (eD l)),[]):=by
 refine M63 (l.map lnV) ?_
 simp only[T63]
 have h76:Ret 102 [.lst 134 false (l.map lnV), .clo (Fn.func 103) [] []] [] (.int .i64 (lG (eD l)),[]):=by
  refine Qr (l.map lnV) ?_
  simp only[H6,List.length_map]
  have:=Kf l hl l.length 0 (by omega) (by omega)
  simpa using this
 refine aD h76 ?_
 exact aC _
end Go.Proofs.YtdoaoaicdimbeaaGreatDoor
end
section
namespace Go.Proofs.YtdoaoaicdimbeaaGreatDoor
open Go.Ev Go
def qB (c:UInt8):Bool:=33≤c&&c≤126
def iV (s:Bs):Nat→Nat
 |0=>0
 |n+1=>if eU (s.getD n 0)then iV s n else n+1
theorem zD (s:Bs):∀n,iV s n≤n
 |0=>Nat.le_refl _
 |n+1=>by
  unfold iV
  split
  ·have:=zD s n;omega
  ·exact Nat.le_refl _
def eE (s:Bs):Option (Bs×Nat):=
 if Lib.indexByte s 58<0 then none else
 if(s.take (iV s (Lib.indexByte s 58).toNat)).all qB&&decide (0<iV s (Lib.indexByte s 58).toNat)then some (s.take (iV s (Lib.indexByte s 58).toNat),(Lib.indexByte s 58).toNat+1)else none
def EM (s:Bs) (r:V×List Ob):Prop:=∃u m,r=(.tup [.str u, .int .i64 m, .bool (eE s).isSome],[])∧∀p,eE s=some p→u=p.1∧m=p.2
theorem Kg (c:UInt8):(((c.toNat:Nat):Int)<33∨((c.toNat:Nat):Int)>126)↔qB c=false:=by
 have h1:=pS 33 c
 have h2:=pS c 126
 have e33:((UInt8.toNat 33:Nat):Int)=33:=rfl
 have e126:((UInt8.toNat 126:Nat):Int)=126:=rfl
 rw[e33]at h1
 rw[e126]at h2
 simp only[qB,Bool.and_eq_false_iff,decide_eq_false_iff_not]
 rw[←h1,←h2]
 omega
theorem zE (s:Bs) (hs:s.length≤1000000) (k n:Nat) (hk:Lib.indexByte s 58=k) (hks:k<s.length) (hn:n=iV s k):∀(m i:Nat),n - i=m→i≤n→(s.take i).all qB=true→
  ∃r,EM s r∧Evt (fun q j=>(L66 (aA cfg q) j).2 s (k:Nat) (n:Nat) (n:Nat) (i:Nat)) r
 |0,i,h,hi,ha=>by
  have hin:i=n:=by omega
  subst hin
  have hnk:=zD s k
  refine⟨_,⟨s.take i,(k:Int)+1,rfl,fun p hp=>?_⟩,H5 s (k:Nat) (i:Nat) (i:Nat) (i:Nat) ?_⟩
  ·have h0:¬((k:Int)<0):=by omega
   unfold eE at hp
   rw[hk,if_neg h0,Int.toNat_natCast,←hn,ha]at hp
   split at hp
   ·cases hp;exact⟨rfl,by omega⟩
   ·cases hp
  ·have h1:¬((i:Int)<(i:Int)):=by omega
   have h2:(0:Int)≤(i:Int):=by omega
   have h3:(i:Int)≤(s.length:Int):=by omega
   have hw:IntKind.wrap .i64 ((k:Int)+1)=(k:Int)+1:=wrap64 (by omega) (by omega)
   have he:(eE s).isSome=decide ((i:Int)>0):=by
    have h0:¬((k:Int)<0):=by omega
    unfold eE
    rw[hk,if_neg h0,Int.toNat_natCast,←hn,ha]
    by_cases hi0:0<i
    ·have:(i:Int)>0:=by omega
     simp[hi0,this]
    ·have:¬((i:Int)>0):=by omega
     simp[hi0,this]
   rw[he]
   simp only[A6,h1,decide_false,Bool.false_eq_true,if_false,aI h2,aI h3,aI (show(0:Int)≤0 by omega),Int.toNat_zero,List.drop_zero,Int.toNat_natCast,hw]
   exact aC _
 |m+1,i,h,hi,ha=>by
  have hnk:=zD s k
  have his:i<s.length:=by omega
  have h1:((i:Int)<(n:Int)):=by omega
  have h2:(0:Int)≤(i:Int):=by omega
  have h3:(i:Int)<(s.length:Int):=by omega
  have hw:IntKind.wrap .i64 ((i:Int)+1)=((i+1:Nat):Int):=by rw[wrap64 (by omega) (by omega)];omega
  have hy:(chk (decide ((0:Int)≤(i:Int))) (chk (decide ((i:Int)<(s.length:Int))) (if(decide (((s[i].toNat:Nat):Int)<(33:Int)))=false then
    chk (decide ((0:Int)≤(i:Int))) (chk (decide ((i:Int)<(s.length:Int))) (some (decide (((s[i].toNat:Nat):Int)>(126:Int)))))
   else some true)))=some (!qB s[i]):=by
   rw[aI h2,aI h3]
   have hv:=Kg s[i]
   by_cases c1:((s[i].toNat:Nat):Int)<33
   ·simp[c1,hv.1 (.inl c1)]
   ·by_cases c2:((s[i].toNat:Nat):Int)>126
    ·simp only[c1,c2,decide_false,decide_true,if_true,aI h2,aI h3,hv.1 (.inr c2),Bool.not_false]
    ·have:qB s[i]=true:=by
      cases hvv:qB s[i]with
      |true=>rfl
      |false=>rcases hv.2 hvv with h|h;exact absurd h c1;exact absurd h c2
     simp only[c1,c2,decide_false,if_true,aI h2,aI h3,this,Bool.not_true]
  by_cases hv:qB s[i]=true
  ·obtain⟨r,hr1,hr2⟩:=zE s hs k n hk hks hn m (i+1) (by omega) (by omega) (by
    rw[List.take_add_one,List.all_append,ha,List.getElem?_eq_getElem his];simp[hv])
   refine⟨r,hr1,H5 s (k:Nat) (n:Nat) (n:Nat) (i:Nat) ?_⟩
   simp only[A6,h1,decide_true,if_true,Int.toNat_natCast,getD_at his,hw]
   simp only[hy,bS,hv,Bool.not_true,Bool.false_eq_true,if_false]
   exact hr2
  ·have hv' :qB s[i]=false:=by simpa using hv
   refine⟨_,⟨[],0,rfl,fun p hp=>?_⟩,H5 s (k:Nat) (n:Nat) (n:Nat) (i:Nat) ?_⟩
   ·exfalso
    have h0:¬((k:Int)<0):=by omega
    unfold eE at hp
    rw[hk,if_neg h0,Int.toNat_natCast,←hn]at hp
    have:(s.take n).all qB=false:=by
     rw[List.all_eq_false]
     exact⟨s[i],List.mem_take_iff_getElem.2 ⟨i,by omega,rfl⟩,by simp[hv']⟩
    rw[this]at hp
    simp at hp
   ·have he:(eE s).isSome=false:=by
     have h0:¬((k:Int)<0):=by omega
     have:(s.take n).all qB=false:=by
      rw[List.all_eq_false]
      exact⟨s[i],List.mem_take_iff_getElem.2 ⟨i,by omega,rfl⟩,by simp[hv']⟩
     unfold eE
     rw[hk,if_neg h0,Int.toNat_natCast,←hn,this]
     simp
    rw[he]
    simp only[A6,h1,decide_true,if_true,Int.toNat_natCast,getD_at his]
    simp only[hy,bS,hv',Bool.not_false,if_true]
    exact aC _
theorem Dt (s:Bs) (hs:s.length≤1000000) (k:Nat) (hk:Lib.indexByte s 58=k) (hks:k<s.length):∀n:Nat,n≤k→iV s n=iV s k→
  ∃r,EM s r∧Evt (fun q j=>(L66 (aA cfg q) j).1 s (k:Nat) (n:Nat)) r
 |0,hn,hb=>by
  obtain⟨r,hr1,hr2⟩:=zE s hs k 0 hk hks hb 0 0 rfl (Nat.le_refl _) rfl
  refine⟨r,hr1,H4 s (k:Nat) (0:Nat) ?_⟩
  have h1:¬(((0:Nat):Int)>0):=by omega
  simp only[A5,h1,decide_false,Bool.false_eq_true,if_false]
  exact hr2
 |n+1,hn,hb=>by
  have hlt:n<s.length:=by omega
  have h1:(((n+1:Nat):Int)>0):=by omega
  have hw:IntKind.wrap .i64 (((n+1:Nat):Int) - 1)=(n:Int):=by rw[wrap64 (by omega) (by omega)];omega
  have h2:(0:Int)≤(n:Int):=by omega
  have h3:(n:Int)<(s.length:Int):=by omega
  by_cases hbl:eU s[n]=true
  ·have hb' :iV s n=iV s k:=by
    rw[←hb];conv=>rhs;unfold iV
    rw[getD_at hlt,hbl];rfl
   obtain⟨r,hr1,hr2⟩:=Dt s hs k hk hks n (by omega) hb'
   refine⟨r,hr1,H4 s (k:Nat) ((n+1:Nat):Int) ?_⟩
   simp only[A5,h1,decide_true,if_true,hw,aI h2,aI h3,Int.toNat_natCast,getD_at hlt]
   refine aD (uJ s[n]) ?_
   simp only[V.getB,hbl,if_true]
   exact hr2
  ·have hbl' :eU s[n]=false:=by simpa using hbl
   have hb' :n+1=iV s k:=by
    rw[←hb];unfold iV
    rw[getD_at hlt,hbl'];rfl
   obtain⟨r,hr1,hr2⟩:=zE s hs k (n+1) hk hks hb' (n+1) 0 (by omega) (by omega) rfl
   refine⟨r,hr1,H4 s (k:Nat) ((n+1:Nat):Int) ?_⟩
   simp only[A5,h1,decide_true,if_true,hw,aI h2,aI h3,Int.toNat_natCast,getD_at hlt]
   refine aD (uJ s[n]) ?_
   simp only[V.getB,hbl',Bool.false_eq_true,if_false]
   exact hr2
theorem Oj (s:Bs) (hs:s.length≤1000000):∃r,EM s r∧Ret 66 [.str s] [] r:=by
 have h79:Ret 89 [.str s, .int .u8 58] [] (.int .i64 (Lib.indexByte s 58),[]):=iR (h:=JE) (by kernel_rfl) rfl
 by_cases h:Lib.indexByte s 58<0
 ·refine⟨_,⟨[],0,rfl,fun p hp=>?_⟩,M66 s ?_⟩
  ·unfold eE at hp
   rw[if_pos h]at hp;cases hp
  ·have he:(eE s).isSome=false:=by unfold eE;rw[if_pos h];rfl
   rw[he]
   simp only[T66]
   refine aD h79 ?_
   simp only[V.getI,h,decide_true,if_true]
   exact aC _
 ·obtain⟨k,hk⟩:∃k:Nat,Lib.indexByte s 58=k:=⟨(Lib.indexByte s 58).toNat,by omega⟩
  have hks:k<s.length:=(List.getElem?_eq_some_iff.1 (Lib.indexByte_some hk).1).1
  obtain⟨r,hr1,hr2⟩:=Dt s hs k hk hks k (Nat.le_refl _) rfl
  refine⟨r,hr1,M66 s ?_⟩
  simp only[T66]
  refine aD h79 ?_
  simp only[V.getI,h,decide_false,Bool.false_eq_true,if_false]
  rw[hk]
  exact hr2
end Go.Proofs.YtdoaoaicdimbeaaGreatDoor
end
section
namespace Go.Proofs.YtdoaoaicdimbeaaGreatDoor
open Go.Ev Go
abbrev Fd:=Bs×Nat×Nat×Nat
def fdV (f:Fd):V:= .agg [.str f.1, .int .i64 f.2.1, .int .i64 f.2.2.1, .int .i64 f.2.2.2]
def qP (l:List Fd) (to:Nat):List Fd:=match l[l.length - 1]? with|some f=>l.set (l.length - 1) (f.1,f.2.1,f.2.2.1,to)|none=>l
def eW (b:Bs) (st:List Fd×Bool) (x:Ln):List Fd×Bool:=
 if zC (bO b x)then(if st.2 then(qP st.1 x.2.2,true)else st)
 else match eE (bO b x)with
  |none=>(st.1,false)
  |some p=>(st.1++[(p.1,x.1,x.1+p.2,x.2.2)],true)
def dP (b:Bs) (fr to:Int):List Fd×Int:=
 if aU fr to b=[]then([],fr)else
 match eD (aU fr to b)with
  |some k=>((((aU fr to b).take k).foldl (eW b) ([],false)).1,((aU fr to b).getD k (0,0,0)).2.2)
  |none=>(((aU fr to b).foldl (eW b) ([],false)).1,((aU fr to b).getD ((aU fr to b).length - 1) (0,0,0)).2.2)
theorem qQ:∀(n a:Nat) (s:Bs),∀x∈eT n a s,a≤x.1∧x.1≤x.2.1∧x.2.1≤x.2.2∧x.2.2≤a+s.length
 |0,a,s,x,hx=>by cases hx
 |n+1,a,s,x,hx=>by
  unfold eT at hx
  split at hx
  ·cases hx
  ·rename_i hs
   split at hx
   ·simp at hx;subst hx;simp
   ·rename_i hk
    obtain⟨k,hk'⟩:∃k:Nat,Lib.indexByte s 10=k:=⟨(Lib.indexByte s 10).toNat,by omega⟩
    have hks:k<s.length:=(List.getElem?_eq_some_iff.1 (Lib.indexByte_some hk').1).1
    rw[hk']at hx
    simp only[Int.toNat_natCast]at hx
    rcases List.mem_cons.1 hx with rfl|hx
    ·simp only
     split<;>omega
    ·have:=qQ n _ _ x hx
     rw[List.length_drop]at this
     omega
theorem oQ {fr to:Int} {b:Bs}:∀x∈aU fr to b,x.1≤x.2.1∧x.2.1≤x.2.2∧x.2.2≤b.length:=by
 intro x hx
 unfold aU at hx
 split at hx
 ·rename_i h
  have:=qQ _ _ _ x hx
  simp at this
  omega
 ·cases hx
theorem Ba:∀{l:List Ln} {k:Nat},eD l=some k→k<l.length
 |[],k,h=>by cases h
 |x::r,k,h=>by
  unfold eD at h
  split at h
  ·cases h;simp
  ·obtain⟨j,h1,rfl⟩:=Option.map_eq_some_iff.1 h
   have:=Ba h1
   simp;omega
theorem Gg {s:Bs} {p:Bs×Nat} (h:eE s=some p):p.2≤s.length:=by
 unfold eE at h
 split at h
 ·cases h
 ·rename_i hk
  obtain⟨k,hk'⟩:∃k:Nat,Lib.indexByte s 58=k:=⟨(Lib.indexByte s 58).toNat,by omega⟩
  have hks:k<s.length:=(List.getElem?_eq_some_iff.1 (Lib.indexByte_some hk').1).1
  rw[hk']at h
  simp only[Int.toNat_natCast]at h
  split at h
  ·cases h;simp only;omega
  ·cases h
theorem zF (b:Bs) (l:Ln):(bO b l).length≤b.length:=by
 unfold bO lE
 split
 ·simp;omega
 ·simp
theorem mV (l:List Fd) (to:Nat):(qP l to).length=l.length:=by
 unfold qP;split<;>simp
theorem wJ {l:List Fd} {i:Nat} (h:i<l.length):(l.map fdV).getD i .bot=fdV l[i]:=by simp[List.getD,h]
theorem uM (b:Bs) (hb:b.length≤1000000) (at_:Int) (l:List Ln) (hl:l.length≤1000000) (hx:∀x∈l,x.1≤1000000):∀(n i:Nat) (out:List Fd) (on:Bool),l.length - i=n→i≤l.length→out.length≤i→(on=true→out≠[])→
  Evt (fun k n=>L32 (aA cfg k) n (ofBytes b) at_ (out.map fdV) on (l.map lnV) (l.length:Nat) (i:Nat)) (.tup [.lst 91 false (((l.drop i).foldl (eW b) (out,on)).1.map fdV), .int .i64 at_],[])
 |0,i,out,on,h,hi,ho,hon=>by
  refine K8 (ofBytes b) at_ (out.map fdV) on (l.map lnV) (l.length:Nat) (i:Nat) ?_
  have h1:¬((i:Int)<(l.length:Int)):=by omega
  rw[List.drop_eq_nil_of_le (by omega)]
  simp only[Ds,h1,decide_false,Bool.false_eq_true,if_false,List.foldl_nil]
  exact aC _
 |n+1,i,out,on,h,hi,ho,hon=>by
  have hlt:i<l.length:=by omega
  refine K8 (ofBytes b) at_ (out.map fdV) on (l.map lnV) (l.length:Nat) (i:Nat) ?_
  have h1:((i:Int)<(l.length:Int)):=by omega
  have h2:(0:Int)≤(i:Int):=by omega
  have hw:IntKind.wrap .i64 ((i:Int)+1)=((i+1:Nat):Int):=by rw[wrap64 (by omega) (by omega)];omega
  have hd:l.drop i=l[i]::l.drop (i+1):=List.drop_eq_getElem_cons hlt
  have hxi:=hx l[i] (List.getElem_mem hlt)
  have htl:=zF b l[i]
  have h57:Ret 64 [.lst 5 false (ofBytes b), .agg [.int .i64 (l[i].1:Nat), .int .i64 (l[i].2.1:Nat), .int .i64 (l[i].2.2:Nat)]] [] (.str (bO b l[i]),[]):=Ic b l[i]
  rw[hd,List.foldl_cons]
  simp only[Ds,h1,decide_true,if_true,aI h2,List.length_map,Int.toNat_natCast,pW hlt,lnV,V.cells,List.headD_cons,List.tail_cons,V.getI,hw]
  refine aD h57 ?_
  simp only[V.getS]
  refine aD (Oh (bO b l[i])) ?_
  simp only[V.getB]
  by_cases hg:zC (bO b l[i])=true
  ·simp only[hg,if_true]
   cases on with
   |true=>
    have hne:=hon rfl
    have hpos:0<out.length:=List.length_pos_iff.2 hne
    have hw2:IntKind.wrap .i64 ((out.length:Int) - 1)=((out.length - 1:Nat):Int):=by rw[wrap64 (by omega) (by omega)];omega
    have h3:(0:Int)≤((out.length - 1:Nat):Int):=by omega
    have h4:((out.length - 1:Nat):Int)<(out.length:Int):=by omega
    have hol:out.length - 1<out.length:=by omega
    have hst:eW b (out,true) l[i]=(qP out l[i].2.2,true):=by unfold eW;rw[hg];rfl
    have hset:(out.map fdV).set (out.length - 1) (.agg [.str out[out.length - 1].1, .int .i64 (out[out.length - 1].2.1:Nat), .int .i64 (out[out.length - 1].2.2.1:Nat), .int .i64 (l[i].2.2:Nat)])=(qP out l[i].2.2).map fdV:=by
     unfold qP
     rw[List.getElem?_eq_getElem hol]
     simp only[List.map_set]
     rfl
    rw[hst]
    simp only[if_true,hw2,aI h3,aI h4,Int.toNat_natCast,wJ hol,fdV,V.cells,List.headD_cons,List.tail_cons,V.getS,V.getI]
    rw[hset]
    exact uM b hb at_ l hl hx n (i+1) (qP out l[i].2.2) true (by omega) (by omega) (by rw[mV];omega) (fun _=>by
     rw[←List.length_pos_iff,mV];exact hpos)
   |false=>
    have hst:eW b (out,false) l[i]=(out,false):=by unfold eW;rw[hg];rfl
    rw[hst]
    simp only[Bool.false_eq_true,if_false]
    exact uM b hb at_ l hl hx n (i+1) out false (by omega) (by omega) (by omega) (fun h=>by cases h)
  ·have hg' :zC (bO b l[i])=false:=by simpa using hg
   simp only[hg',Bool.false_eq_true,if_false]
   obtain⟨r,⟨u,m,rfl,hum⟩,hr⟩:=Oj (bO b l[i]) (by omega)
   refine aD hr ?_
   simp only[V.getT,List.headD_cons,List.tail_cons,V.getB,V.getS,V.getI]
   cases hn:eE (bO b l[i])with
   |none=>
    have hst:eW b (out,on) l[i]=(out,false):=by unfold eW;rw[hg',hn];rfl
    rw[hst]
    simp only[Option.isSome_none,Bool.false_eq_true,if_false]
    exact uM b hb at_ l hl hx n (i+1) out false (by omega) (by omega) (by omega) (fun h=>by cases h)
   |some p=>
    obtain⟨rfl,rfl⟩:=hum p hn
    have hpl:=Gg hn
    have hst:eW b (out,on) l[i]=(out++[(p.1,l[i].1,l[i].1+p.2,l[i].2.2)],true):=by unfold eW;rw[hg',hn];rfl
    have hw3:IntKind.wrap .i64 ((l[i].1:Int)+(p.2:Int))=((l[i].1+p.2:Nat):Int):=by rw[wrap64 (by omega) (by omega)];omega
    have hap:bI (out.map fdV) [V.agg [.str p.1, .int .i64 (l[i].1:Nat), .int .i64 ((l[i].1+p.2:Nat):Int), .int .i64 (l[i].2.2:Nat)]] 41=true:=eC (by simp;omega)
    rw[hst]
    simp only[Option.isSome_some,if_true,hw3,cJ hap]
    have:=uM b hb at_ l hl hx n (i+1) (out++[(p.1,l[i].1,l[i].1+p.2,l[i].2.2)]) true (by omega) (by omega) (by simp;omega) (fun _=>by simp)
    simp only[List.map_append,List.map_cons,List.map_nil,fdV]at this
    exact this
theorem Du (b:Bs) (hb:b.length≤1000000) (fr to:Int):
  Ret 32 [.lst 5 false (ofBytes b), .agg [.int .i64 fr, .int .i64 to]] [] (.tup [.lst 91 false ((dP b fr to).1.map fdV), .int .i64 (dP b fr to).2],[]):=by
 refine M32 (ofBytes b) fr to ?_
 simp only[T32]
 refine aD (Ib b hb fr to) ?_
 have hll:=dF fr to b
 have hbd:=oQ (fr:=fr) (to:=to) (b:=b)
 simp only[V.getL,List.length_map]
 unfold dP
 generalize aU fr to b=l at hll hbd
 by_cases hl0:l=[]
 ·subst hl0;exact aC _
 ·have hpos:0<l.length:=List.length_pos_iff.2 hl0
  have h0:((((l.length:Nat):Int))==(0:Int))=false:=beq_eq_false_iff_ne.2 (by omega)
  have hw:IntKind.wrap .i64 ((l.length:Int) - 1)=((l.length - 1:Nat):Int):=by rw[wrap64 (by omega) (by omega)];omega
  have h1:(0:Int)≤((l.length - 1:Nat):Int):=by omega
  have h2:((l.length - 1:Nat):Int)<(l.length:Int):=by omega
  rw[if_neg hl0]
  simp only[h0,Bool.false_eq_true,if_false,hw,aI h1,aI h2]
  refine aD (Oi l (by omega)) ?_
  have hxs:∀y∈l,y.1≤1000000:=fun y hy=>by have:=hbd y hy;omega
  have hgi:∀z:Int,(V.int .i64 z).getI=z:=fun _=>rfl
  simp only[hgi]
  cases he:eD l with
  |none=>
   have hoi:lG none= -1:=rfl
   have h3:¬((-1:Int)≥(0:Int)):=by omega
   have hlt:l.length - 1<l.length:=by omega
   simp only[hoi,h3,decide_false,Bool.false_eq_true,if_false,Int.toNat_natCast,pW hlt,lnV,V.cells,List.headD_cons,List.tail_cons,hgi]
   have:=uM b hb (l[l.length - 1].2.2:Nat) l (by omega) hxs l.length 0 [] false (by omega) (by omega) (by simp) (fun h=>by cases h)
   have e:l.getD (l.length - 1) (0,0,0)=l[l.length - 1]:=by simp[List.getD,hlt]
   rw[e]
   simpa using this
  |some k=>
   have hk:=Ba he
   have hoi:lG (some k)=(k:Int):=rfl
   have h3:((k:Int)≥(0:Int)):=by omega
   have h5:(k:Int)<(l.length:Int):=by omega
   have h6:(k:Int)≤(l.length:Int):=by omega
   simp only[hoi]
   simp only[h3,decide_true,if_true,bX,aI h5,aI h6,aI (show(0:Int)≤0 by omega),Int.toNat_natCast,pW hk,lnV,V.cells,List.headD_cons,List.tail_cons,hgi,Int.toNat_zero,List.drop_zero]
   have e:l.getD k (0,0,0)=l[k]:=by simp[List.getD,hk]
   have htl:(l.take k).length=k:=by simp;omega
   have:=uM b hb (l[k].2.2:Nat) (l.take k) (by omega) (fun y hy=>hxs y (List.mem_of_mem_take hy)) k 0 [] false (by omega) (by omega) (by simp) (fun h=>by cases h)
   rw[e]
   rw[List.map_take]at this
   have hmin:min k l.length=k:=by omega
   simpa[htl,hmin]using this
end Go.Proofs.YtdoaoaicdimbeaaGreatDoor
end
section
namespace Go.Proofs.YtdoaoaicdimbeaaGreatDoor
open Go.Ev Go
def low (s:Bs):Bs:=s.map dB
def lY:List Fd→Bs→Option Nat
 |[],_=>none
 |f::r,name=>if low f.1=low name then some 0 else(lY r name).map (· +1)
def jI:List Fd→Bs→Option Fd
 |[],_=>none
 |f::r,name=>if low f.1=low name then some f else jI r name
theorem zG:∀{l:List Fd} {name:Bs} {k:Nat},lY l name=some k→∃h:k<l.length,jI l name=some l[k]
 |[],_,k,h=>by cases h
 |f::r,name,k,h=>by
  unfold lY at h
  unfold jI
  split at h
  ·rename_i hc
   cases h
   exact⟨by simp,by rw[if_pos hc];rfl⟩
  ·rename_i hc
   obtain⟨j,h1,rfl⟩:=Option.map_eq_some_iff.1 h
   obtain⟨h2,h3⟩:=zG h1
   exact⟨by simp;omega,by rw[if_neg hc,h3];rfl⟩
theorem zH:∀{l:List Fd} {name:Bs},lY l name=none→jI l name=none
 |[],_,_=>rfl
 |f::r,name,h=>by
  unfold lY at h
  unfold jI
  split at h
  ·cases h
  ·rename_i hc
   rw[if_neg hc]
   exact zH (by simpa using h)
theorem Ol (f:Fd) (name:Bs) (hf:f.1.length≤1000000) (hn:name.length≤1000000):
  Ret 68 [fdV f, .ref 0 0] [.cells [.str name]] (.bool (low f.1==low name),[.cells [.str name]]):=by
 obtain⟨a,p,q,r⟩:=f
 refine M68 a p q r name ?_
 simp only[T68]
 refine aD (HU a name (by simp only at hf;omega) (by omega)) ?_
 exact aC _
theorem Mo (name:Bs) (hn:name.length≤1000000) (l:List Fd) (hl:l.length≤1000000) (hv:∀f∈l,f.1.length≤1000000):∀(n i:Nat),l.length - i≤n→i≤l.length→
  Evt (fun k n=>L67 (aA cfg k) n (l.map fdV) (l.length:Nat) (i:Nat) name) (.int .i64 (lG ((lY (l.drop i) name).map (· +i))),[.cells [.str name]]):=by
 have fin:∀i:Nat,i=l.length→Evt (fun k n=>L67 (aA cfg k) n (l.map fdV) (l.length:Nat) (i:Nat) name) (.int .i64 (lG ((lY (l.drop i) name).map (· +i))),[.cells [.str name]]):=by
  intro i h
  refine K6 (l.map fdV) (l.length:Nat) (i:Nat) name ?_
  have h1:¬((i:Int)<(l.length:Int)):=by omega
  rw[List.drop_eq_nil_of_le (by omega)]
  simp only[Dp,h1,decide_false,Bool.false_eq_true,if_false,lY,Option.map_none,lG]
  exact aC _
 intro n
 induction n with
 |zero=>intro i h hi;exact fin i (by omega)
 |succ n ih=>
  intro i h hi
  by_cases hlt:i<l.length
  ·refine K6 (l.map fdV) (l.length:Nat) (i:Nat) name ?_
   have h1:((i:Int)<(l.length:Int)):=by omega
   have h2:(0:Int)≤(i:Int):=by omega
   have hw:IntKind.wrap .i64 ((i:Int)+1)=((i+1:Nat):Int):=by rw[wrap64 (by omega) (by omega)];omega
   have hd:l.drop i=l[i]::l.drop (i+1):=List.drop_eq_getElem_cons hlt
   simp only[Dp,h1,decide_true,if_true,aI h2,List.length_map,bX,Int.toNat_natCast,wJ hlt,fdV,V.cells,List.headD_cons,List.tail_cons,V.getI,V.getS,hw]
   refine aD (Ol l[i] name (hv _ (List.getElem_mem hlt)) hn) ?_
   simp only[V.getB,List.headD_cons,Ob.getC,V.getS]
   rw[hd,lY]
   by_cases hc:low l[i].1=low name
   ·simp only[hc,beq_self_eq_true,if_true,Option.map_some,Nat.zero_add,lG]
    exact aC _
   ·have hb:(low l[i].1==low name)=false:=by simpa using hc
    simp only[hb,hc,Bool.false_eq_true,if_false]
    have:=ih (i+1) (by omega) (by omega)
    have e:((lY (l.drop (i+1)) name).map (· +1)).map (· +i)=(lY (l.drop (i+1)) name).map (· +(i+1)):=by
     rw[Option.map_map];congr 1;funext x;simp only[Function.comp];omega
    rw[e]
    exact this
  ·exact fin i (by omega)
def uN:Option Fd→V
 |some f=> .tup [fdV f, .bool true]
 |none=> .tup [.agg [.str [], .int .i64 0, .int .i64 0, .int .i64 0], .bool false]
theorem K9 (l:List Fd) (hl:l.length≤1000000) (hv:∀f∈l,f.1.length≤1000000) (name:Bs) (hn:name.length≤1000000):
  Ret 33 [.lst 91 false (l.map fdV), .str name] [] (uN (jI l name),[]):=by
 refine M33 (l.map fdV) name ?_
 simp only[T33,List.length_map]
 have h88:Ret 67 [.lst 91 false (l.map fdV), .clo (Fn.func 68) [] [.ref 0 0]] [.cells [.str name]] (.int .i64 (lG (lY l name)),[.cells [.str name]]):=by
  refine M67 (l.map fdV) name ?_
  simp only[T67,List.length_map]
  have:=Mo name hn l hl hv l.length 0 (by omega) (by omega)
  simpa using this
 refine aD h88 ?_
 have hgi:∀z:Int,(V.int .i64 z).getI=z:=fun _=>rfl
 simp only[hgi]
 cases he:lY l name with
 |none=>
  have hoi:lG none= -1:=rfl
  have h3:((-1:Int)<(0:Int)):=by omega
  rw[zH he]
  simp only[hoi,h3,decide_true,if_true]
  exact aC _
 |some k=>
  obtain⟨hk,hfd⟩:=zG he
  have hoi:lG (some k)=(k:Int):=rfl
  have h3:¬((k:Int)<(0:Int)):=by omega
  have h4:(0:Int)≤(k:Int):=by omega
  have h5:(k:Int)<(l.length:Int):=by omega
  rw[hfd]
  simp only[hoi]
  simp only[h3,decide_false,Bool.false_eq_true,if_false,aI h4,aI h5,Int.toNat_natCast,wJ hk,fdV,V.cells,List.headD_cons,List.tail_cons,hgi,V.getS,uN]
  exact aC _
end Go.Proofs.YtdoaoaicdimbeaaGreatDoor
end
section
namespace Go.Proofs.YtdoaoaicdimbeaaGreatDoor
open Go.Ev Go
def oR:Bs→Bs
 |[]=>[]
 |c::r=>if eU c then oR r else c::r
def mW (s:Bs):Nat→Bs
 |0=>[]
 |n+1=>if eU (s.getD n 0)then mW s n else s.take (n+1)
def trimF (s:Bs):Bs:=mW (oR s) (oR s).length
theorem Dv:∀s:Bs,(oR s).length≤s.length
 |[]=>Nat.le_refl _
 |c::r=>by
  unfold oR
  split
  ·have:=Dv r;simp;omega
  ·exact Nat.le_refl _
theorem Bb (s:Bs):∀n,(mW s n).length≤s.length
 |0=>by simp[mW]
 |n+1=>by
  unfold mW
  split
  ·exact Bb s n
  ·simp;omega
theorem Ie (s:Bs):(trimF s).length≤s.length:=Nat.le_trans (Bb _ _) (Dv s)
theorem uO (s:Bs) (hs:s.length≤9000000000000000000):∀n,n≤s.length→Evt (fun k j=>(iS (aA cfg k) j).2 (s.take n)) (.str (mW s n),[])
 |0,hn=>by
  refine HT (s.take 0) ?_
  simp only[List.take_zero,yS,List.length_nil,mW]
  exact aC _
 |n+1,hn=>by
  refine HT (s.take (n+1)) ?_
  have hl:(s.take (n+1)).length=n+1:=by simp;omega
  have h1:(((n+1:Nat):Int)>0):=by omega
  have hw:IntKind.wrap .i64 (((n+1:Nat):Int) - 1)=(n:Int):=by rw[wrap64 (by omega) (by omega)];omega
  have h2:(0:Int)≤(n:Int):=by omega
  have h3:(n:Int)<((n+1:Nat):Int):=by omega
  have h4:(n:Int)≤((n+1:Nat):Int):=by omega
  have hlt:n<s.length:=by omega
  have hg:(s.take (n+1)).getD n 0=s[n]:=by simp[List.getD,List.getElem?_take,hlt]
  have htt:List.drop 0 (List.take n (s.take (n+1)))=s.take n:=by rw[List.drop_zero,List.take_take];congr 1;omega
  have hgs:s.getD n 0=s[n]:=getD_at hlt
  simp only[yS,hl,h1,decide_true,if_true,hw,aI h2,aI h3,aI h4,aI (show(0:Int)≤0 by omega),Int.toNat_natCast,hg,Int.toNat_zero,htt]
  refine aD (uJ s[n]) ?_
  unfold mW
  rw[hgs]
  cases hb:eU s[n]
  ·simp only[V.getB,Bool.false_eq_true,if_false];exact aC _
  ·simp only[V.getB,if_true];exact uO s hs n (by omega)
theorem Bc:∀s:Bs,s.length≤9000000000000000000→Evt (fun k j=>(iS (aA cfg k) j).1 s) (.str (trimF s),[])
 |[],hs=>by
  refine HQ [] ?_
  have:=uO [] (by simp) 0 (by simp)
  simp only[yR,List.length_nil]
  simpa[trimF,oR,mW]using this
 |c::r,hs=>by
  refine HQ (c::r) ?_
  have h1:((((c::r).length:Nat):Int)>0):=by simp
  have h2:((0:Int)<(((c::r).length:Nat):Int)):=h1
  have h3:((1:Int)≤(((c::r).length:Nat):Int)):=by omega
  simp only[yR,h1,decide_true,if_true,aI h2,aI h3,aI (show(0:Int)≤0 by omega),aI (show(0:Int)≤1 by omega),Int.toNat_zero,List.getD_cons_zero,Int.toNat_one,List.drop_one,List.tail_cons,bX]
  refine aD (uJ c) ?_
  cases hb:eU c
  ·simp only[V.getB,Bool.false_eq_true,if_false]
   have:=uO (c::r) hs (c::r).length (Nat.le_refl _)
   rw[List.take_length]at this
   have e:oR (c::r)=c::r:=by unfold oR;rw[hb];rfl
   unfold trimF
   rw[e]
   exact this
  ·simp only[V.getB,if_true]
   have e:trimF (c::r)=trimF r:=by
    unfold trimF
    have:oR (c::r)=oR r:=by
     conv=>lhs;unfold oR
     rw[hb];rfl
    rw[this]
   rw[e]
   exact Bc r (by simp at hs;omega)
theorem If (s:Bs) (hs:s.length≤9000000000000000000):Ret 105 [.str s] [] (.str (trimF s),[]):=by
 refine Qn s ?_
 exact Bc s hs
theorem Om (o s:Bs) (h:o.length+s.length≤35000000000000):
  Ret 27 [.ref 0 0, .str s] [.cells [.opt 0 0, .lst 5 true (ofBytes o)]] (.tup [.int .i64 (s.length:Nat), .raw .nilIface],[.cells [.opt 0 0, .lst 5 true (ofBytes (o++s))]]):=by
 refine M27 (ofBytes o) s ?_
 have h108:Ret 54 [.ref 0 0] [.cells [.opt 0 0, .lst 5 true (ofBytes o)]] (.tup [],[.cells [.opt 0 0, .lst 5 true (ofBytes o)]]):=iR (h:=checkF) (by kernel_rfl) rfl
 have hap:fQ (ofBytes o) s 2=true:=by simp[fQ,aH];omega
 have hof:ofBytes o++ofBytes s=ofBytes (o++s):=by simp[ofBytes]
 simp only[T27]
 refine aD h108 ?_
 simp only[List.headD_cons,Ob.getC,List.tail_cons,V.getL,cJ hap,hof]
 exact aC _
def iW (b:Bs) (f:Fd):Bs:=trimF ((aU f.2.2.1 f.2.2.2 b).flatMap (bO b))
theorem zI:∀(n a:Nat) (s:Bs),((eT n a s).map fun x=>x.2.1 - x.1).sum≤s.length
 |0,a,s=>by simp[eT]
 |n+1,a,s=>by
  unfold eT
  split
  ·simp
  ·split
   ·simp
   ·rename_i hk
    obtain⟨k,hk'⟩:∃k:Nat,Lib.indexByte s 10=k:=⟨(Lib.indexByte s 10).toNat,by omega⟩
    have hks:k<s.length:=(List.getElem?_eq_some_iff.1 (Lib.indexByte_some hk').1).1
    have:=zI n (a+k+1) (s.drop (k+1))
    rw[List.length_drop]at this
    rw[hk']
    simp only[Int.toNat_natCast,List.map_cons,List.sum_cons]
    split<;>omega
theorem qR (b:Bs):∀l:List Ln,(l.flatMap (bO b)).length≤(l.map fun x=>x.2.1 - x.1).sum
 |[]=>by simp
 |x::r=>by
  have:=qR b r
  have h:(bO b x).length≤x.2.1 - x.1:=by
   unfold bO lE
   split
   ·simp;omega
   ·simp
  simp only[List.flatMap_cons,List.length_append,List.map_cons,List.sum_cons]
  omega
theorem nE (fr to:Int) (b:Bs):((aU fr to b).flatMap (bO b)).length≤b.length:=by
 refine Nat.le_trans (qR b _) ?_
 unfold aU
 split
 ·exact Nat.le_trans (zI _ _ _) (by simp;omega)
 ·simp
theorem Dw (b:Bs) (f:Fd):(iW b f).length≤b.length:=Nat.le_trans (Ie _) (nE _ _ _)
theorem Ig (b:Bs) (l:List Ln) (hl:l.length≤1000000) (hb:b.length≤1000000) (hsum:(l.flatMap (bO b)).length≤1000000) (a:Bs) (p q r:Int):∀(n i:Nat),l.length - i=n→i≤l.length→
  Evt (fun k j=>L70 (aA cfg k) j (ofBytes b) (l.map lnV) (l.length:Nat) (i:Nat) a p q r (ofBytes ((l.take i).flatMap (bO b)))) (.str (trimF (l.flatMap (bO b))),[])
 |0,i,h,hi=>by
  have hil:i=l.length:=by omega
  subst hil
  rw[List.take_length]
  refine K7 (ofBytes b) (l.map lnV) (l.length:Nat) (l.length:Nat) a p q r (ofBytes (l.flatMap (bO b))) ?_
  have h1:¬((l.length:Int)<(l.length:Int)):=by omega
  have h92:Ret 29 [.ref 0 0] [.cells [.opt 0 0, .lst 5 true (ofBytes (l.flatMap (bO b)))]] (.str (l.flatMap (bO b)),[.cells [.opt 0 0, .lst 5 false (ofBytes (l.flatMap (bO b)))]]):=by
   refine iR (h:=Go.Ev.textF) (by kernel_rfl) ?_
   have h2:=lF (l.flatMap (bO b))
   have h3:(ofBytes (l.flatMap (bO b))).length<1152921504606846976:=by rw[aH];omega
   simp only[Go.Ev.textF,h2,h3,decide_true,Bool.and_self,if_true,bP]
  simp only[Dq,h1,decide_false,Bool.false_eq_true,if_false]
  refine aD h92 ?_
  simp only[V.getS]
  refine aD (If (l.flatMap (bO b)) (by omega)) ?_
  exact aC _
 |n+1,i,h,hi=>by
  have hlt:i<l.length:=by omega
  refine K7 (ofBytes b) (l.map lnV) (l.length:Nat) (i:Nat) a p q r (ofBytes ((l.take i).flatMap (bO b))) ?_
  have h1:((i:Int)<(l.length:Int)):=by omega
  have h2:(0:Int)≤(i:Int):=by omega
  have hw:IntKind.wrap .i64 ((i:Int)+1)=((i+1:Nat):Int):=by rw[wrap64 (by omega) (by omega)];omega
  have h57:Ret 64 [.lst 5 false (ofBytes b), .agg [.int .i64 (l[i].1:Nat), .int .i64 (l[i].2.1:Nat), .int .i64 (l[i].2.2:Nat)]] [] (.str (bO b l[i]),[]):=Ic b l[i]
  have htake:(l.take (i+1)).flatMap (bO b)=(l.take i).flatMap (bO b)++bO b l[i]:=by
   rw[List.take_add_one,List.getElem?_eq_getElem hlt,Option.toList_some,List.flatMap_append]
   simp only[List.flatMap_cons,List.flatMap_nil,List.append_nil]
  have hle:((l.take (i+1)).flatMap (bO b)).length≤1000000:=by
   have e:l.flatMap (bO b)=(l.take (i+1)).flatMap (bO b)++(l.drop (i+1)).flatMap (bO b):=by rw[←List.flatMap_append,List.take_append_drop]
   rw[e,List.length_append]at hsum;omega
  simp only[Dq,h1,decide_true,if_true,aI h2,List.length_map,bX,Int.toNat_natCast,pW hlt,lnV,V.cells,List.headD_cons,List.tail_cons,V.getI,hw]
  refine aD h57 ?_
  simp only[V.getS]
  refine aD (Om ((l.take i).flatMap (bO b)) (bO b l[i]) (by rw[htake,List.length_append]at hle;omega)) ?_
  simp only[List.headD_cons,Ob.getC,List.tail_cons,V.getL]
  rw[←htake]
  exact Ig b l hl hb hsum a p q r n (i+1) (by omega) (by omega)
theorem La (b:Bs) (hb:b.length≤1000000) (f:Fd):Ret 70 [.lst 5 false (ofBytes b),fdV f] [] (.str (iW b f),[]):=by
 obtain⟨a,p,q,r⟩:=f
 refine M70 (ofBytes b) a p q r ?_
 simp only[T70]
 refine aD (Ib b hb q r) ?_
 have h1:=dF q r b
 have h2:=nE q r b
 simp only[V.getL,List.length_map]
 have:=Ig b (aU q r b) (by omega) hb (by omega) a p q r (aU q r b).length 0 (by omega) (by omega)
 simp only[List.take_zero,List.flatMap_nil]at this
 exact this
def gW (b:Bs) (l:List Fd) (name:Bs):Bs:=match jI l name with|some f=>iW b f|none=>[]
theorem uP (b:Bs) (l:List Fd) (name:Bs):(gW b l name).length≤b.length:=by
 unfold gW
 split
 ·exact Dw b _
 ·simp
theorem Lb (b:Bs) (hb:b.length≤1000000) (l:List Fd) (hl:l.length≤1000000) (hv:∀f∈l,f.1.length≤1000000) (name:Bs) (hn:name.length≤1000000):
  Ret 34 [.lst 5 false (ofBytes b), .lst 91 false (l.map fdV), .str name] [] (.str (gW b l name),[]):=by
 refine M34 (ofBytes b) (l.map fdV) name ?_
 simp only[T34]
 refine aD (K9 l hl hv name hn) ?_
 unfold gW
 cases jI l name with
 |none=>
  simp only[uN,V.getT,List.tail_cons,List.headD_cons,V.getB,Bool.not_false,if_true]
  exact aC _
 |some f=>
  have h66:Ret 70 [.lst 5 false (ofBytes b), .agg [.str f.1, .int .i64 f.2.1, .int .i64 f.2.2.1, .int .i64 f.2.2.2]] [] (.str (iW b f),[]):=La b hb f
  simp only[uN,V.getT,List.tail_cons,List.headD_cons,V.getB,Bool.not_true,Bool.false_eq_true,if_false,fdV,V.cells,V.getS,V.getI]
  refine aD h66 ?_
  exact aC _
end Go.Proofs.YtdoaoaicdimbeaaGreatDoor
end
section
namespace Go.Proofs.YtdoaoaicdimbeaaGreatDoor
open Go.Ev Go
open List (headD tail getD length drop take)
open V (getI getL getT getS getB)
set_option maxRecDepth 100000
variable (call : FuncId → Fun) (icall : aQ (V × List Ob)) (again : List It → St → Option (V × List Ob))
def T57 (call:FuncId→Fun) (a0:List V) (a1:Int) (a2:List V) (a3:Bool):Option (V×List Ob):=
 Option.bind (call 34 [(V.lst 5 false a0),(V.lst 91 false a2),(V.str [99,111,110,116,101,110,116,45,116,121,112,101])] []) fun z0=>
 Option.bind (call 99 [(V.str (getS z0.1)),(V.bool true)] []) fun z1=>
 if(getB (headD (tail (getT z1.1)) V.bot))=true then
 some ((V.agg [(V.str (getS (headD (V.cells (headD (getT z1.1) V.bot)) V.bot))),(V.str (getS (headD (tail (V.cells (headD (getT z1.1) V.bot))) V.bot))),(V.lst 176 false (getL (headD (tail (tail (V.cells (headD (getT z1.1) V.bot)))) V.bot)))]),[(Ob.cells [(V.lst 5 false a0),(V.int .i64 a1)])])
 else
 if a3=true then
 some ((V.agg [(V.str [109,101,115,115,97,103,101]),(V.str [114,102,99,56,50,50]),(V.lst 176 false [])]),[(Ob.cells [(V.lst 5 false a0),(V.int .i64 a1)])])
 else
 some ((V.agg [(V.str [116,101,120,116]),(V.str [112,108,97,105,110]),(V.lst 176 false [])]),[(Ob.cells [(V.lst 5 false a0),(V.int .i64 a1)])])
def O57 (a0:List V) (a1:Int):List Ob:=[Ob.cells [V.lst 5 false a0,V.int IntKind.i64 a1]]
def A57 (a2:List V) (a3:Bool):List V:=[V.ref 0 0,V.lst 91 false a2,V.bool a3]
theorem E57 (a0:List V) (a1:Int) (a2:List V) (a3:Bool):GO 57 Tryz.f57 (A57 a2 a3) (O57 a0 a1) call icall again=T57 call a0 a1 a2 a3:=by kernel_rfl
theorem C57 (k:Nat) (a0:List V) (a1:Int) (a2:List V) (a3:Bool):aA cfg (k+1) 57 (A57 a2 a3) (O57 a0 a1)=T57 (aA cfg k) a0 a1 a2 a3:=
 (show aA cfg (k+1) 57 (A57 a2 a3) (O57 a0 a1)=GO 57 Tryz.f57 (A57 a2 a3) (O57 a0 a1) (aA cfg k) (aE cfg (aA cfg k) 20) (RN 57 Tryz.f57 (O57 a0 a1) (aA cfg k) (aE cfg (aA cfg k) 20) k)by kernel_rfl).trans (E57 _ _ _ a0 a1 a2 a3)
theorem M57 (a0:List V) (a1:Int) (a2:List V) (a3:Bool) {r:V×List Ob} (h:Evt (fun k n=>T57 (aA cfg k) a0 a1 a2 a3) r):Ret 57 [V.ref 0 0,V.lst 91 false a2,V.bool a3] [Ob.cells [V.lst 5 false a0,V.int IntKind.i64 a1]] r:=aS (g:=fun k n=>T57 (aA cfg k) a0 a1 a2 a3) (fun k=>C57 k a0 a1 a2 a3) h
def Dx (call:FuncId→Fun) (ag0:List UInt8→List V→Int→List V→Int→Int→List V→Int→Int→Int→Int→Int→Int→Int→Option (V×List Ob)) (s0:List UInt8) (l1:List V) (i2:Int) (l3:List V) (i4:Int) (i5:Int) (l6:List V) (i7:Int) (i8:Int) (i9:Int) (i10:Int) (i11:Int) (i12:Int) (i13:Int):Option (V×List Ob):=
 if(decide (i5<i4))=true then
 chk (decide (0≤i5)) (chk (decide (i5<((length l3:Nat):Int))) (Option.bind (call 64 [(V.lst 5 false l6),(V.agg [(V.int .i64 (getI (headD (V.cells (getD l3 (Int.toNat i5) V.bot)) V.bot))),(V.int .i64 (getI (headD (tail (V.cells (getD l3 (Int.toNat i5) V.bot))) V.bot))),(V.int .i64 (getI (headD (tail (tail (V.cells (getD l3 (Int.toNat i5) V.bot)))) V.bot)))])] []) fun z0=>
 Option.bind (call 100 [(V.str (getS z0.1)),(V.str s0)] []) fun z1=>
 if(!(getB (headD (getT z1.1) V.bot)))=true then
 (ag0 (s0) (l1) ((getI (headD (tail (V.cells (getD l3 (Int.toNat i5) V.bot))) V.bot))) (l3) (i4) ((IntKind.wrap .i64 (i5+(1:Int)))) (l6) (i7) (i8) (i9) (i10) (i11) (i12) (i13))
 else
 if(getB (headD (tail (getT z1.1)) V.bot))=true then
 some ((V.tup [(V.lst 32 false l1),(V.agg [(V.int .i64 i2),(V.int .i64 (getI (headD (tail (tail (V.cells (getD l3 (Int.toNat i5) V.bot)))) V.bot)))]),(V.bool (decide (((length l1:Nat):Int)>(0:Int))))]),[(Ob.cells [(V.lst 5 false l6),(V.int .i64 i7)])])
 else
 chk (bI l1 [(V.agg [(V.int .i64 i2),(V.int .i64 (getI (headD (tail (tail (V.cells (getD l3 (Int.toNat i5) V.bot)))) V.bot)))])] 17) ((ag0 (s0) ((l1++[(V.agg [(V.int .i64 i2),(V.int .i64 (getI (headD (tail (tail (V.cells (getD l3 (Int.toNat i5) V.bot)))) V.bot)))])])) ((getI (headD (tail (tail (V.cells (getD l3 (Int.toNat i5) V.bot)))) V.bot))) (l3) (i4) ((IntKind.wrap .i64 (i5+(1:Int)))) (l6) (i7) (i8) (i9) (i10) (i11) (i12) (i13)))))
 else
 some ((V.tup [(V.lst 32 false l1),(V.agg [(V.int .i64 i12),(V.int .i64 i13)]),(V.bool (decide (((length l1:Nat):Int)>(0:Int))))]),[(Ob.cells [(V.lst 5 false l6),(V.int .i64 i7)])])
def T59 (call:FuncId→Fun) (ag0:List UInt8→List V→Int→List V→Int→Int→List V→Int→Int→Int→Int→Int→Int→Int→Option (V×List Ob)) (a0:List V) (a1:Int) (a2:Int) (a3:Int) (a4:List UInt8):Option (V×List Ob):=
 Option.bind (call 62 [(V.lst 5 false a0),(V.agg [(V.int .i64 a2),(V.int .i64 a3)])] []) fun z0=>
 (ag0 (a4) ([]) (a2) ((getL z0.1)) (((length (getL z0.1):Nat):Int)) ((0:Int)) (a0) (a1) (a2) (a3) ((0:Int)) ((0:Int)) (a3) (a3))
def O59 (a0:List V) (a1:Int):List Ob:=[Ob.cells [V.lst 5 false a0,V.int IntKind.i64 a1]]
def A59 (a2:Int) (a3:Int) (a4:List UInt8):List V:=[V.ref 0 0,V.agg [V.int IntKind.i64 a2,V.int IntKind.i64 a3],V.str a4]
def Bd (s0:List UInt8) (l1:List V) (i2:Int) (l3:List V) (i4:Int) (i5:Int) (l6:List V) (i7:Int) (i8:Int) (i9:Int) (i10:Int) (i11:Int) (i12:Int) (i13:Int):St:=⟨[(V.ref 0 0),V.bot,(V.str s0),V.bot,V.bot,V.bot,V.bot,(V.ref 2 0),V.bot,(V.lst 32 true l1),(V.ref 3 0),(V.int IntKind.i64 i2),V.bot,V.bot,V.bot,V.bot,V.bot,V.bot,V.bot,V.bot,V.bot,V.bot,V.bot,V.bot,V.bot,V.bot,V.bot,V.bot,V.bot,(V.lst 134 false l3),(V.int IntKind.i64 i4),(V.int IntKind.i64 i5)]++List.replicate 42 V.bot,[(Ob.cells [(V.lst 5 false l6),(V.int IntKind.i64 i7)]),(Ob.cells [(V.int IntKind.i64 i8),(V.int IntKind.i64 i9)]),(Ob.cells [(V.int IntKind.i64 i10),(V.int IntKind.i64 i11)]),(Ob.cells [(V.int IntKind.i64 i12),(V.int IntKind.i64 i13)])]⟩
theorem On (a0:List V) (a1:Int) (s0:List UInt8) (l1:List V) (i2:Int) (l3:List V) (i4:Int) (i5:Int) (l6:List V) (i7:Int) (i8:Int) (i9:Int) (i10:Int) (i11:Int) (i12:Int) (i13:Int):
 RM 59 Tryz.f59 (O59 a0 a1) call icall again (aK Tryz.f59 0) (Bd s0 l1 i2 l3 i4 i5 l6 i7 i8 i9 i10 i11 i12 i13)=Dx call (fun s0 l1 i2 l3 i4 i5 l6 i7 i8 i9 i10 i11 i12 i13=>again (aK Tryz.f59 0) (Bd s0 l1 i2 l3 i4 i5 l6 i7 i8 i9 i10 i11 i12 i13)) s0 l1 i2 l3 i4 i5 l6 i7 i8 i9 i10 i11 i12 i13:=by kernel_rfl
theorem E59 (a0:List V) (a1:Int) (a2:Int) (a3:Int) (a4:List UInt8):GO 59 Tryz.f59 (A59 a2 a3 a4) (O59 a0 a1) call icall again=T59 call (fun s0 l1 i2 l3 i4 i5 l6 i7 i8 i9 i10 i11 i12 i13=>again (aK Tryz.f59 0) (Bd s0 l1 i2 l3 i4 i5 l6 i7 i8 i9 i10 i11 i12 i13)) a0 a1 a2 a3 a4:=by kernel_rfl
def L59 (call:FuncId→Fun):Nat→(List UInt8→List V→Int→List V→Int→Int→List V→Int→Int→Int→Int→Int→Int→Int→Option (V×List Ob))
 |0=>fun _ _ _ _ _ _ _ _ _ _ _ _ _ _=>none
 |n+1=>Dx call (L59 call n)
theorem R59 (call:FuncId→Fun) (icall:aQ (V×List Ob)) (a0:List V) (a1:Int):∀n,(∀(s0:List UInt8) (l1:List V) (i2:Int) (l3:List V) (i4:Int) (i5:Int) (l6:List V) (i7:Int) (i8:Int) (i9:Int) (i10:Int) (i11:Int) (i12:Int) (i13:Int),RN 59 Tryz.f59 (O59 a0 a1) call icall n (aK Tryz.f59 0) (Bd s0 l1 i2 l3 i4 i5 l6 i7 i8 i9 i10 i11 i12 i13)=(L59 call n) s0 l1 i2 l3 i4 i5 l6 i7 i8 i9 i10 i11 i12 i13)
 |0=>fun s0 l1 i2 l3 i4 i5 l6 i7 i8 i9 i10 i11 i12 i13=>rfl
 |n+1=>by
  have ih:=R59 call icall a0 a1 n
  exact fun s0 l1 i2 l3 i4 i5 l6 i7 i8 i9 i10 i11 i12 i13=>(On call icall (RN 59 Tryz.f59 (O59 a0 a1) call icall n) a0 a1 s0 l1 i2 l3 i4 i5 l6 i7 i8 i9 i10 i11 i12 i13).trans (by rw[show(fun s0 l1 i2 l3 i4 i5 l6 i7 i8 i9 i10 i11 i12 i13=>RN 59 Tryz.f59 (O59 a0 a1) call icall n (aK Tryz.f59 0) (Bd s0 l1 i2 l3 i4 i5 l6 i7 i8 i9 i10 i11 i12 i13))=(L59 call n)from(funext fun s0=>funext fun l1=>funext fun i2=>funext fun l3=>funext fun i4=>funext fun i5=>funext fun l6=>funext fun i7=>funext fun i8=>funext fun i9=>funext fun i10=>funext fun i11=>funext fun i12=>funext fun i13=>ih s0 l1 i2 l3 i4 i5 l6 i7 i8 i9 i10 i11 i12 i13)];rfl)
theorem C59 (k:Nat) (a0:List V) (a1:Int) (a2:Int) (a3:Int) (a4:List UInt8):aA cfg (k+1) 59 (A59 a2 a3 a4) (O59 a0 a1)=T59 (aA cfg k) (L59 (aA cfg k) k) a0 a1 a2 a3 a4:=by
 have ih:=R59 (aA cfg k) (aE cfg (aA cfg k) 20) a0 a1 k
 refine(show aA cfg (k+1) 59 (A59 a2 a3 a4) (O59 a0 a1)=GO 59 Tryz.f59 (A59 a2 a3 a4) (O59 a0 a1) (aA cfg k) (aE cfg (aA cfg k) 20) (RN 59 Tryz.f59 (O59 a0 a1) (aA cfg k) (aE cfg (aA cfg k) 20) k)by kernel_rfl).trans ((E59 _ _ _ a0 a1 a2 a3 a4).trans ?_)
 rw[show(fun s0 l1 i2 l3 i4 i5 l6 i7 i8 i9 i10 i11 i12 i13=>RN 59 Tryz.f59 (O59 a0 a1) (aA cfg k) (aE cfg (aA cfg k) 20) k (aK Tryz.f59 0) (Bd s0 l1 i2 l3 i4 i5 l6 i7 i8 i9 i10 i11 i12 i13))=(L59 (aA cfg k) k)from(funext fun s0=>funext fun l1=>funext fun i2=>funext fun l3=>funext fun i4=>funext fun i5=>funext fun l6=>funext fun i7=>funext fun i8=>funext fun i9=>funext fun i10=>funext fun i11=>funext fun i12=>funext fun i13=>ih s0 l1 i2 l3 i4 i5 l6 i7 i8 i9 i10 i11 i12 i13)]
theorem M59 (a0:List V) (a1:Int) (a2:Int) (a3:Int) (a4:List UInt8) {r:V×List Ob} (h:Evt (fun k n=>T59 (aA cfg k) (L59 (aA cfg k) n) a0 a1 a2 a3 a4) r):Ret 59 [V.ref 0 0,V.agg [V.int IntKind.i64 a2,V.int IntKind.i64 a3],V.str a4] [Ob.cells [V.lst 5 false a0,V.int IntKind.i64 a1]] r:=aS (g:=fun k n=>T59 (aA cfg k) (L59 (aA cfg k) n) a0 a1 a2 a3 a4) (fun k=>C59 k a0 a1 a2 a3 a4) h
theorem Lc (s0:List UInt8) (l1:List V) (i2:Int) (l3:List V) (i4:Int) (i5:Int) (l6:List V) (i7:Int) (i8:Int) (i9:Int) (i10:Int) (i11:Int) (i12:Int) (i13:Int) {r:V×List Ob} (h:Evt (fun k n=>Dx (aA cfg k) (L59 (aA cfg k) n) s0 l1 i2 l3 i4 i5 l6 i7 i8 i9 i10 i11 i12 i13) r):Evt (fun k n=>(L59 (aA cfg k) n) s0 l1 i2 l3 i4 i5 l6 i7 i8 i9 i10 i11 i12 i13) r:=aV (fun k n=>rfl) h
def Be (call:FuncId→Fun) (ag0:Int→Bool→List V→Int→Int→List V→Int→Int→Int→Int→Int→Int→List V→List V→Int→Int→Option (V×List Ob)) (i0:Int) (b1:Bool) (l2:List V) (i3:Int) (i4:Int) (l5:List V) (i6:Int) (i7:Int) (i8:Int) (i9:Int) (i10:Int) (i11:Int) (l12:List V) (l13:List V) (i14:Int) (i15:Int):Option (V×List Ob):=
 if(decide (i4<i3))=true then
 chk (decide (0≤i4)) (chk (decide (i4<((length l2:Nat):Int))) (if(decide ((IntKind.wrap .i64 (i4+(1:Int)))<((length l13:Nat):Int)))=true then
 chk (decide (0≤(IntKind.wrap .i64 (i4+(1:Int))))) (chk (decide ((IntKind.wrap .i64 (i4+(1:Int)))<((length l13:Nat):Int))) (Option.bind (call 31 [(V.ref 0 0),(V.agg [(V.int .i64 (getI (headD (tail (V.cells (getD l2 (Int.toNat i4) V.bot))) V.bot))),(V.int .i64 (if(getI (headD (tail (V.cells (getD l2 (Int.toNat i4) V.bot))) V.bot))>(getI (headD (V.cells (getD l13 (Int.toNat (IntKind.wrap .i64 (i4+(1:Int)))) V.bot)) V.bot))then(getI (headD (tail (V.cells (getD l2 (Int.toNat i4) V.bot))) V.bot))else(getI (headD (V.cells (getD l13 (Int.toNat (IntKind.wrap .i64 (i4+(1:Int)))) V.bot)) V.bot))))]),(V.int .i64 i0),(V.bool b1)] [(Ob.cells [(V.lst 5 false l5),(V.int .i64 i6)])]) fun z0=>
 chk (((length l12:Nat):Int)==((length l12:Nat):Int)) (chk (bI l12 [(V.agg [(V.int .i64 (getI (headD (V.cells z0.1) V.bot))),(V.int .i64 (getI (headD (tail (V.cells z0.1)) V.bot))),(V.int .i64 (getI (headD (tail (tail (V.cells z0.1))) V.bot))),(V.int .i64 (getI (headD (tail (tail (tail (V.cells z0.1)))) V.bot))),(V.int .i64 (getI (headD (tail (tail (tail (tail (V.cells z0.1))))) V.bot))),(V.lst 36 false (getL (headD (tail (tail (tail (tail (tail (V.cells z0.1)))))) V.bot))),(V.lst 32 false (getL (headD (tail (tail (tail (tail (tail (tail (V.cells z0.1))))))) V.bot))),(V.int .i64 (getI (headD (tail (tail (tail (tail (tail (tail (tail (V.cells z0.1)))))))) V.bot))),(V.int .i64 (getI (headD (tail (tail (tail (tail (tail (tail (tail (tail (V.cells z0.1))))))))) V.bot)))])] 105) ((ag0 (i0) (b1) (l2) (i3) ((IntKind.wrap .i64 (i4+(1:Int)))) ((getL (headD (Ob.getC (headD z0.2 Ob.dead)) V.bot))) ((getI (headD (tail (Ob.getC (headD z0.2 Ob.dead))) V.bot))) (i7) (i8) (i9) (i10) (i11) ((l12++[(V.agg [(V.int .i64 (getI (headD (V.cells z0.1) V.bot))),(V.int .i64 (getI (headD (tail (V.cells z0.1)) V.bot))),(V.int .i64 (getI (headD (tail (tail (V.cells z0.1))) V.bot))),(V.int .i64 (getI (headD (tail (tail (tail (V.cells z0.1)))) V.bot))),(V.int .i64 (getI (headD (tail (tail (tail (tail (V.cells z0.1))))) V.bot))),(V.lst 36 false (getL (headD (tail (tail (tail (tail (tail (V.cells z0.1)))))) V.bot))),(V.lst 32 false (getL (headD (tail (tail (tail (tail (tail (tail (V.cells z0.1))))))) V.bot))),(V.int .i64 (getI (headD (tail (tail (tail (tail (tail (tail (tail (V.cells z0.1)))))))) V.bot))),(V.int .i64 (getI (headD (tail (tail (tail (tail (tail (tail (tail (tail (V.cells z0.1))))))))) V.bot)))])])) (l13) (i14) (i15))))))
 else
 Option.bind (call 31 [(V.ref 0 0),(V.agg [(V.int .i64 (getI (headD (tail (V.cells (getD l2 (Int.toNat i4) V.bot))) V.bot))),(V.int .i64 (if(getI (headD (tail (V.cells (getD l2 (Int.toNat i4) V.bot))) V.bot))>i14 then(getI (headD (tail (V.cells (getD l2 (Int.toNat i4) V.bot))) V.bot))else i14))]),(V.int .i64 i0),(V.bool b1)] [(Ob.cells [(V.lst 5 false l5),(V.int .i64 i6)])]) fun z0=>
 chk (((length l12:Nat):Int)==((length l12:Nat):Int)) (chk (bI l12 [(V.agg [(V.int .i64 (getI (headD (V.cells z0.1) V.bot))),(V.int .i64 (getI (headD (tail (V.cells z0.1)) V.bot))),(V.int .i64 (getI (headD (tail (tail (V.cells z0.1))) V.bot))),(V.int .i64 (getI (headD (tail (tail (tail (V.cells z0.1)))) V.bot))),(V.int .i64 (getI (headD (tail (tail (tail (tail (V.cells z0.1))))) V.bot))),(V.lst 36 false (getL (headD (tail (tail (tail (tail (tail (V.cells z0.1)))))) V.bot))),(V.lst 32 false (getL (headD (tail (tail (tail (tail (tail (tail (V.cells z0.1))))))) V.bot))),(V.int .i64 (getI (headD (tail (tail (tail (tail (tail (tail (tail (V.cells z0.1)))))))) V.bot))),(V.int .i64 (getI (headD (tail (tail (tail (tail (tail (tail (tail (tail (V.cells z0.1))))))))) V.bot)))])] 105) ((ag0 (i0) (b1) (l2) (i3) ((IntKind.wrap .i64 (i4+(1:Int)))) ((getL (headD (Ob.getC (headD z0.2 Ob.dead)) V.bot))) ((getI (headD (tail (Ob.getC (headD z0.2 Ob.dead))) V.bot))) (i7) (i8) (i9) (i10) (i11) ((l12++[(V.agg [(V.int .i64 (getI (headD (V.cells z0.1) V.bot))),(V.int .i64 (getI (headD (tail (V.cells z0.1)) V.bot))),(V.int .i64 (getI (headD (tail (tail (V.cells z0.1))) V.bot))),(V.int .i64 (getI (headD (tail (tail (tail (V.cells z0.1)))) V.bot))),(V.int .i64 (getI (headD (tail (tail (tail (tail (V.cells z0.1))))) V.bot))),(V.lst 36 false (getL (headD (tail (tail (tail (tail (tail (V.cells z0.1)))))) V.bot))),(V.lst 32 false (getL (headD (tail (tail (tail (tail (tail (tail (V.cells z0.1))))))) V.bot))),(V.int .i64 (getI (headD (tail (tail (tail (tail (tail (tail (tail (V.cells z0.1)))))))) V.bot))),(V.int .i64 (getI (headD (tail (tail (tail (tail (tail (tail (tail (tail (V.cells z0.1))))))))) V.bot)))])])) (l13) (i14) (i15))))))
 else
 some ((V.tup []),[(Ob.cells [(V.lst 5 false l5),(V.int .i64 i6)]),(Ob.cells [(V.int .i64 i7),(V.int .i64 i8),(V.int .i64 i9),(V.int .i64 i10),(V.int .i64 i11),(V.lst 36 true l12),(V.lst 32 false l13),(V.int .i64 i14),(V.int .i64 i15)])])
def T60 (call:FuncId→Fun) (ag0:Int→Bool→List V→Int→Int→List V→Int→Int→Int→Int→Int→Int→List V→List V→Int→Int→Option (V×List Ob)) (a0:List V) (a1:Int) (a2:Int) (a3:Int) (a4:Int) (a5:Int) (a6:Int) (a7:List V) (a8:List V) (a9:Int) (a10:Int) (a11:Int) (a12:Bool):Option (V×List Ob):=
 (ag0 (a11) (a12) (a8) (((length a8:Nat):Int)) ((0:Int)) (a0) (a1) (a2) (a3) (a4) (a5) (a6) (a7) (a8) (a9) (a10))
def O60 (a0:List V) (a1:Int) (a2:Int) (a3:Int) (a4:Int) (a5:Int) (a6:Int) (a7:List V) (a8:List V) (a9:Int) (a10:Int):List Ob:=[Ob.cells [V.lst 5 false a0,V.int IntKind.i64 a1],Ob.cells [V.int IntKind.i64 a2,V.int IntKind.i64 a3,V.int IntKind.i64 a4,V.int IntKind.i64 a5,V.int IntKind.i64 a6,V.lst 36 true a7,V.lst 32 false a8,V.int IntKind.i64 a9,V.int IntKind.i64 a10]]
def A60 (a11:Int) (a12:Bool):List V:=[V.ref 0 0,V.ref 1 0,V.int IntKind.i64 a11,V.bool a12]
def Bf (i0:Int) (b1:Bool) (l2:List V) (i3:Int) (i4:Int) (l5:List V) (i6:Int) (i7:Int) (i8:Int) (i9:Int) (i10:Int) (i11:Int) (l12:List V) (l13:List V) (i14:Int) (i15:Int):St:=⟨[(V.ref 0 0),(V.ref 1 0),(V.int IntKind.i64 i0),(V.bool b1),V.bot,V.bot,V.bot,V.bot,V.bot,V.bot,V.bot,V.bot,V.bot,V.bot,(V.lst 32 false l2),(V.int IntKind.i64 i3),(V.int IntKind.i64 i4)]++List.replicate 48 V.bot,[(Ob.cells [(V.lst 5 false l5),(V.int IntKind.i64 i6)]),(Ob.cells [(V.int IntKind.i64 i7),(V.int IntKind.i64 i8),(V.int IntKind.i64 i9),(V.int IntKind.i64 i10),(V.int IntKind.i64 i11),(V.lst 36 true l12),(V.lst 32 false l13),(V.int IntKind.i64 i14),(V.int IntKind.i64 i15)])]⟩
theorem Oo (a0:List V) (a1:Int) (a2:Int) (a3:Int) (a4:Int) (a5:Int) (a6:Int) (a7:List V) (a8:List V) (a9:Int) (a10:Int) (i0:Int) (b1:Bool) (l2:List V) (i3:Int) (i4:Int) (l5:List V) (i6:Int) (i7:Int) (i8:Int) (i9:Int) (i10:Int) (i11:Int) (l12:List V) (l13:List V) (i14:Int) (i15:Int):
 RM 60 Tryz.f60 (O60 a0 a1 a2 a3 a4 a5 a6 a7 a8 a9 a10) call icall again (aK Tryz.f60 0) (Bf i0 b1 l2 i3 i4 l5 i6 i7 i8 i9 i10 i11 l12 l13 i14 i15)=Be call (fun i0 b1 l2 i3 i4 l5 i6 i7 i8 i9 i10 i11 l12 l13 i14 i15=>again (aK Tryz.f60 0) (Bf i0 b1 l2 i3 i4 l5 i6 i7 i8 i9 i10 i11 l12 l13 i14 i15)) i0 b1 l2 i3 i4 l5 i6 i7 i8 i9 i10 i11 l12 l13 i14 i15:=by kernel_rfl
theorem E60 (a0:List V) (a1:Int) (a2:Int) (a3:Int) (a4:Int) (a5:Int) (a6:Int) (a7:List V) (a8:List V) (a9:Int) (a10:Int) (a11:Int) (a12:Bool):GO 60 Tryz.f60 (A60 a11 a12) (O60 a0 a1 a2 a3 a4 a5 a6 a7 a8 a9 a10) call icall again=T60 call (fun i0 b1 l2 i3 i4 l5 i6 i7 i8 i9 i10 i11 l12 l13 i14 i15=>again (aK Tryz.f60 0) (Bf i0 b1 l2 i3 i4 l5 i6 i7 i8 i9 i10 i11 l12 l13 i14 i15)) a0 a1 a2 a3 a4 a5 a6 a7 a8 a9 a10 a11 a12:=by kernel_rfl
def L60 (call:FuncId→Fun):Nat→(Int→Bool→List V→Int→Int→List V→Int→Int→Int→Int→Int→Int→List V→List V→Int→Int→Option (V×List Ob))
 |0=>fun _ _ _ _ _ _ _ _ _ _ _ _ _ _ _ _=>none
 |n+1=>Be call (L60 call n)
theorem R60 (call:FuncId→Fun) (icall:aQ (V×List Ob)) (a0:List V) (a1:Int) (a2:Int) (a3:Int) (a4:Int) (a5:Int) (a6:Int) (a7:List V) (a8:List V) (a9:Int) (a10:Int):∀n,(∀(i0:Int) (b1:Bool) (l2:List V) (i3:Int) (i4:Int) (l5:List V) (i6:Int) (i7:Int) (i8:Int) (i9:Int) (i10:Int) (i11:Int) (l12:List V) (l13:List V) (i14:Int) (i15:Int),RN 60 Tryz.f60 (O60 a0 a1 a2 a3 a4 a5 a6 a7 a8 a9 a10) call icall n (aK Tryz.f60 0) (Bf i0 b1 l2 i3 i4 l5 i6 i7 i8 i9 i10 i11 l12 l13 i14 i15)=(L60 call n) i0 b1 l2 i3 i4 l5 i6 i7 i8 i9 i10 i11 l12 l13 i14 i15)
 |0=>fun i0 b1 l2 i3 i4 l5 i6 i7 i8 i9 i10 i11 l12 l13 i14 i15=>rfl
 |n+1=>by
  have ih:=R60 call icall a0 a1 a2 a3 a4 a5 a6 a7 a8 a9 a10 n
  exact fun i0 b1 l2 i3 i4 l5 i6 i7 i8 i9 i10 i11 l12 l13 i14 i15=>(Oo call icall (RN 60 Tryz.f60 (O60 a0 a1 a2 a3 a4 a5 a6 a7 a8 a9 a10) call icall n) a0 a1 a2 a3 a4 a5 a6 a7 a8 a9 a10 i0 b1 l2 i3 i4 l5 i6 i7 i8 i9 i10 i11 l12 l13 i14 i15).trans (by rw[show(fun i0 b1 l2 i3 i4 l5 i6 i7 i8 i9 i10 i11 l12 l13 i14 i15=>RN 60 Tryz.f60 (O60 a0 a1 a2 a3 a4 a5 a6 a7 a8 a9 a10) call icall n (aK Tryz.f60 0) (Bf i0 b1 l2 i3 i4 l5 i6 i7 i8 i9 i10 i11 l12 l13 i14 i15))=(L60 call n)from(funext fun i0=>funext fun b1=>funext fun l2=>funext fun i3=>funext fun i4=>funext fun l5=>funext fun i6=>funext fun i7=>funext fun i8=>funext fun i9=>funext fun i10=>funext fun i11=>funext fun l12=>funext fun l13=>funext fun i14=>funext fun i15=>ih i0 b1 l2 i3 i4 l5 i6 i7 i8 i9 i10 i11 l12 l13 i14 i15)];rfl)
theorem C60 (k:Nat) (a0:List V) (a1:Int) (a2:Int) (a3:Int) (a4:Int) (a5:Int) (a6:Int) (a7:List V) (a8:List V) (a9:Int) (a10:Int) (a11:Int) (a12:Bool):aA cfg (k+1) 60 (A60 a11 a12) (O60 a0 a1 a2 a3 a4 a5 a6 a7 a8 a9 a10)=T60 (aA cfg k) (L60 (aA cfg k) k) a0 a1 a2 a3 a4 a5 a6 a7 a8 a9 a10 a11 a12:=by
 have ih:=R60 (aA cfg k) (aE cfg (aA cfg k) 20) a0 a1 a2 a3 a4 a5 a6 a7 a8 a9 a10 k
 refine(show aA cfg (k+1) 60 (A60 a11 a12) (O60 a0 a1 a2 a3 a4 a5 a6 a7 a8 a9 a10)=GO 60 Tryz.f60 (A60 a11 a12) (O60 a0 a1 a2 a3 a4 a5 a6 a7 a8 a9 a10) (aA cfg k) (aE cfg (aA cfg k) 20) (RN 60 Tryz.f60 (O60 a0 a1 a2 a3 a4 a5 a6 a7 a8 a9 a10) (aA cfg k) (aE cfg (aA cfg k) 20) k)by kernel_rfl).trans ((E60 _ _ _ a0 a1 a2 a3 a4 a5 a6 a7 a8 a9 a10 a11 a12).trans ?_)
 rw[show(fun i0 b1 l2 i3 i4 l5 i6 i7 i8 i9 i10 i11 l12 l13 i14 i15=>RN 60 Tryz.f60 (O60 a0 a1 a2 a3 a4 a5 a6 a7 a8 a9 a10) (aA cfg k) (aE cfg (aA cfg k) 20) k (aK Tryz.f60 0) (Bf i0 b1 l2 i3 i4 l5 i6 i7 i8 i9 i10 i11 l12 l13 i14 i15))=(L60 (aA cfg k) k)from(funext fun i0=>funext fun b1=>funext fun l2=>funext fun i3=>funext fun i4=>funext fun l5=>funext fun i6=>funext fun i7=>funext fun i8=>funext fun i9=>funext fun i10=>funext fun i11=>funext fun l12=>funext fun l13=>funext fun i14=>funext fun i15=>ih i0 b1 l2 i3 i4 l5 i6 i7 i8 i9 i10 i11 l12 l13 i14 i15)]
theorem M60 (a0:List V) (a1:Int) (a2:Int) (a3:Int) (a4:Int) (a5:Int) (a6:Int) (a7:List V) (a8:List V) (a9:Int) (a10:Int) (a11:Int) (a12:Bool) {r:V×List Ob} (h:Evt (fun k n=>T60 (aA cfg k) (L60 (aA cfg k) n) a0 a1 a2 a3 a4 a5 a6 a7 a8 a9 a10 a11 a12) r):Ret 60 [V.ref 0 0,V.ref 1 0,V.int IntKind.i64 a11,V.bool a12] [Ob.cells [V.lst 5 false a0,V.int IntKind.i64 a1],Ob.cells [V.int IntKind.i64 a2,V.int IntKind.i64 a3,V.int IntKind.i64 a4,V.int IntKind.i64 a5,V.int IntKind.i64 a6,V.lst 36 true a7,V.lst 32 false a8,V.int IntKind.i64 a9,V.int IntKind.i64 a10]] r:=aS (g:=fun k n=>T60 (aA cfg k) (L60 (aA cfg k) n) a0 a1 a2 a3 a4 a5 a6 a7 a8 a9 a10 a11 a12) (fun k=>C60 k a0 a1 a2 a3 a4 a5 a6 a7 a8 a9 a10 a11 a12) h
theorem Ld (i0:Int) (b1:Bool) (l2:List V) (i3:Int) (i4:Int) (l5:List V) (i6:Int) (i7:Int) (i8:Int) (i9:Int) (i10:Int) (i11:Int) (l12:List V) (l13:List V) (i14:Int) (i15:Int) {r:V×List Ob} (h:Evt (fun k n=>Be (aA cfg k) (L60 (aA cfg k) n) i0 b1 l2 i3 i4 l5 i6 i7 i8 i9 i10 i11 l12 l13 i14 i15) r):Evt (fun k n=>(L60 (aA cfg k) n) i0 b1 l2 i3 i4 l5 i6 i7 i8 i9 i10 i11 l12 l13 i14 i15) r:=aV (fun k n=>rfl) h
def T61 (call:FuncId→Fun) (a0:List V) (a1:Int) (a2:List V):Option (V×List Ob):=
 Option.bind (call 33 [(V.lst 91 false a2),(V.str [99,111,110,116,101,110,116,45,116,114,97,110,115,102,101,114,45,101,110,99,111,100,105,110,103])] []) fun z0=>
 if(!(getB (headD (tail (getT z0.1)) V.bot)))=true then
 some ((V.bool true),[(Ob.cells [(V.lst 5 false a0),(V.int .i64 a1)])])
 else
 Option.bind (call 70 [(V.lst 5 false a0),(V.agg [(V.str (getS (headD (V.cells (headD (getT z0.1) V.bot)) V.bot))),(V.int .i64 (getI (headD (tail (V.cells (headD (getT z0.1) V.bot))) V.bot))),(V.int .i64 (getI (headD (tail (tail (V.cells (headD (getT z0.1) V.bot)))) V.bot))),(V.int .i64 (getI (headD (tail (tail (tail (V.cells (headD (getT z0.1) V.bot))))) V.bot)))])] []) fun z1=>
 Option.bind (call 73 [(V.str (getS z1.1))] []) fun z2=>
 if(sEq (getS z2.1) [55,98,105,116])=true then
 some ((V.bool true),[(Ob.cells [(V.lst 5 false a0),(V.int .i64 a1)])])
 else
 if(sEq (getS z2.1) [56,98,105,116])=true then
 some ((V.bool true),[(Ob.cells [(V.lst 5 false a0),(V.int .i64 a1)])])
 else
 if(sEq (getS z2.1) [98,105,110,97,114,121])=true then
 some ((V.bool true),[(Ob.cells [(V.lst 5 false a0),(V.int .i64 a1)])])
 else
 some ((V.bool false),[(Ob.cells [(V.lst 5 false a0),(V.int .i64 a1)])])
def O61 (a0:List V) (a1:Int):List Ob:=[Ob.cells [V.lst 5 false a0,V.int IntKind.i64 a1]]
def A61 (a2:List V):List V:=[V.ref 0 0,V.lst 91 false a2]
theorem E61 (a0:List V) (a1:Int) (a2:List V):GO 61 Tryz.f61 (A61 a2) (O61 a0 a1) call icall again=T61 call a0 a1 a2:=by kernel_rfl
theorem C61 (k:Nat) (a0:List V) (a1:Int) (a2:List V):aA cfg (k+1) 61 (A61 a2) (O61 a0 a1)=T61 (aA cfg k) a0 a1 a2:=
 (show aA cfg (k+1) 61 (A61 a2) (O61 a0 a1)=GO 61 Tryz.f61 (A61 a2) (O61 a0 a1) (aA cfg k) (aE cfg (aA cfg k) 20) (RN 61 Tryz.f61 (O61 a0 a1) (aA cfg k) (aE cfg (aA cfg k) 20) k)by kernel_rfl).trans (E61 _ _ _ a0 a1 a2)
theorem M61 (a0:List V) (a1:Int) (a2:List V) {r:V×List Ob} (h:Evt (fun k n=>T61 (aA cfg k) a0 a1 a2) r):Ret 61 [V.ref 0 0,V.lst 91 false a2] [Ob.cells [V.lst 5 false a0,V.int IntKind.i64 a1]] r:=aS (g:=fun k n=>T61 (aA cfg k) a0 a1 a2) (fun k=>C61 k a0 a1 a2) h
def T31 (call:FuncId→Fun) (a0:List V) (a1:Int) (a2:Int) (a3:Int) (a4:Int) (a5:Bool):Option (V×List Ob):=
 Option.bind (call 32 [(V.lst 5 false a0),(V.agg [(V.int .i64 a2),(V.int .i64 a3)])] []) fun z0=>
 if(a4==(32:Int))=true then
 some ((V.agg [(V.int .i64 0),(V.int .i64 a2),(V.int .i64 (getI (headD (tail (getT z0.1)) V.bot))),(V.int .i64 (getI (headD (tail (getT z0.1)) V.bot))),(V.int .i64 a3),(V.lst 36 false []),(V.lst 32 false []),(V.int .i64 0),(V.int .i64 0)]),[(Ob.cells [(V.lst 5 false a0),(V.int .i64 a1)])])
 else
 Option.bind (call 57 [(V.ref 0 0),(V.lst 91 false (getL (headD (getT z0.1) V.bot))),(V.bool a5)] [(Ob.cells [(V.lst 5 false a0),(V.int .i64 a1)])]) fun z1=>
 Option.bind (call 58 [(V.agg [(V.str (getS (headD (V.cells z1.1) V.bot))),(V.str (getS (headD (tail (V.cells z1.1)) V.bot))),(V.lst 176 false (getL (headD (tail (tail (V.cells z1.1))) V.bot)))]),(V.str [98,111,117,110,100,97,114,121])] []) fun z2=>
 Option.bind (if(sEq (getS (headD (V.cells z1.1) V.bot)) [109,117,108,116,105,112,97,114,116])=true then
 if(!(sEq (getS (headD (getT z2.1) V.bot)) []))=true then
 some (decide (((length (getS (headD (getT z2.1) V.bot)):Nat):Int)≤(70:Int)))
 else
 some false
 else
 some false) fun y3=>
 if y3=true then
 Option.bind (call 59 [(V.ref 0 0),(V.agg [(V.int .i64 (getI (headD (tail (getT z0.1)) V.bot))),(V.int .i64 a3)]),(V.str (getS (headD (getT z2.1) V.bot)))] [(Ob.cells [(V.lst 5 false (getL (headD (Ob.getC (headD z1.2 Ob.dead)) V.bot))),(V.int .i64 (getI (headD (tail (Ob.getC (headD z1.2 Ob.dead))) V.bot)))])]) fun z4=>
 Option.bind (if(getB (headD (tail (tail (getT z4.1))) V.bot))=true then
 some (decide ((IntKind.wrap .i64 ((getI (headD (tail (Ob.getC (headD z4.2 Ob.dead))) V.bot))+((length (getL (headD (getT z4.1) V.bot)):Nat):Int)))≤(1000:Int)))
 else
 some false) fun y5=>
 if y5=true then
 Option.bind (call 60 [(V.ref 0 0),(V.ref 1 0),(V.int .i64 (IntKind.wrap .i64 (a4+(1:Int)))),(V.bool (sEq (getS (headD (tail (V.cells z1.1)) V.bot)) [100,105,103,101,115,116]))] [(Ob.cells [(V.lst 5 false (getL (headD (Ob.getC (headD z4.2 Ob.dead)) V.bot))),(V.int .i64 (IntKind.wrap .i64 ((getI (headD (tail (Ob.getC (headD z4.2 Ob.dead))) V.bot))+((length (getL (headD (getT z4.1) V.bot)):Nat):Int))))]),(Ob.cells [(V.int .i64 1),(V.int .i64 a2),(V.int .i64 (getI (headD (tail (getT z0.1)) V.bot))),(V.int .i64 (getI (headD (tail (getT z0.1)) V.bot))),(V.int .i64 a3),(V.lst 36 true []),(V.lst 32 false (getL (headD (getT z4.1) V.bot))),(V.int .i64 (getI (headD (V.cells (headD (tail (getT z4.1)) V.bot)) V.bot))),(V.int .i64 (getI (headD (tail (V.cells (headD (tail (getT z4.1)) V.bot))) V.bot)))])]) fun z6=>
 some ((V.agg [(V.int .i64 (getI (headD (Ob.getC (headD (tail z6.2) Ob.dead)) V.bot))),(V.int .i64 (getI (headD (tail (Ob.getC (headD (tail z6.2) Ob.dead))) V.bot))),(V.int .i64 (getI (headD (tail (tail (Ob.getC (headD (tail z6.2) Ob.dead)))) V.bot))),(V.int .i64 (getI (headD (tail (tail (tail (Ob.getC (headD (tail z6.2) Ob.dead))))) V.bot))),(V.int .i64 (getI (headD (tail (tail (tail (tail (Ob.getC (headD (tail z6.2) Ob.dead)))))) V.bot))),(V.lst 36 false (getL (headD (tail (tail (tail (tail (tail (Ob.getC (headD (tail z6.2) Ob.dead))))))) V.bot))),(V.lst 32 false (getL (headD (tail (tail (tail (tail (tail (tail (Ob.getC (headD (tail z6.2) Ob.dead)))))))) V.bot))),(V.int .i64 (getI (headD (tail (tail (tail (tail (tail (tail (tail (Ob.getC (headD (tail z6.2) Ob.dead))))))))) V.bot))),(V.int .i64 (getI (headD (tail (tail (tail (tail (tail (tail (tail (tail (Ob.getC (headD (tail z6.2) Ob.dead)))))))))) V.bot)))]),[(Ob.cells [(V.lst 5 false (getL (headD (Ob.getC (headD z6.2 Ob.dead)) V.bot))),(V.int .i64 (getI (headD (tail (Ob.getC (headD z6.2 Ob.dead))) V.bot)))])])
 else
 some ((V.agg [(V.int .i64 0),(V.int .i64 a2),(V.int .i64 (getI (headD (tail (getT z0.1)) V.bot))),(V.int .i64 (getI (headD (tail (getT z0.1)) V.bot))),(V.int .i64 a3),(V.lst 36 false []),(V.lst 32 false []),(V.int .i64 0),(V.int .i64 0)]),[(Ob.cells [(V.lst 5 false (getL (headD (Ob.getC (headD z4.2 Ob.dead)) V.bot))),(V.int .i64 (getI (headD (tail (Ob.getC (headD z4.2 Ob.dead))) V.bot)))])])
 else
 if(sEq (getS (headD (V.cells z1.1) V.bot)) [109,101,115,115,97,103,101])=true then
 if(sEq (getS (headD (tail (V.cells z1.1)) V.bot)) [114,102,99,56,50,50])=true then
 Option.bind (call 61 [(V.ref 0 0),(V.lst 91 false (getL (headD (getT z0.1) V.bot)))] [(Ob.cells [(V.lst 5 false (getL (headD (Ob.getC (headD z1.2 Ob.dead)) V.bot))),(V.int .i64 (getI (headD (tail (Ob.getC (headD z1.2 Ob.dead))) V.bot)))])]) fun z4=>
 if(getB z4.1)=true then
 if(decide ((getI (headD (tail (Ob.getC (headD z4.2 Ob.dead))) V.bot))<(1000:Int)))=true then
 Option.bind (call 31 [(V.ref 0 0),(V.agg [(V.int .i64 (getI (headD (tail (getT z0.1)) V.bot))),(V.int .i64 a3)]),(V.int .i64 (IntKind.wrap .i64 (a4+(1:Int)))),(V.bool false)] [(Ob.cells [(V.lst 5 false (getL (headD (Ob.getC (headD z4.2 Ob.dead)) V.bot))),(V.int .i64 (IntKind.wrap .i64 ((getI (headD (tail (Ob.getC (headD z4.2 Ob.dead))) V.bot))+(1:Int))))])]) fun z5=>
 some ((V.agg [(V.int .i64 2),(V.int .i64 a2),(V.int .i64 (getI (headD (tail (getT z0.1)) V.bot))),(V.int .i64 (getI (headD (tail (getT z0.1)) V.bot))),(V.int .i64 a3),(V.lst 36 false [(V.agg [(V.int .i64 (getI (headD (V.cells z5.1) V.bot))),(V.int .i64 (getI (headD (tail (V.cells z5.1)) V.bot))),(V.int .i64 (getI (headD (tail (tail (V.cells z5.1))) V.bot))),(V.int .i64 (getI (headD (tail (tail (tail (V.cells z5.1)))) V.bot))),(V.int .i64 (getI (headD (tail (tail (tail (tail (V.cells z5.1))))) V.bot))),(V.lst 36 false (getL (headD (tail (tail (tail (tail (tail (V.cells z5.1)))))) V.bot))),(V.lst 32 false (getL (headD (tail (tail (tail (tail (tail (tail (V.cells z5.1))))))) V.bot))),(V.int .i64 (getI (headD (tail (tail (tail (tail (tail (tail (tail (V.cells z5.1)))))))) V.bot))),(V.int .i64 (getI (headD (tail (tail (tail (tail (tail (tail (tail (tail (V.cells z5.1))))))))) V.bot)))])]),(V.lst 32 false []),(V.int .i64 0),(V.int .i64 0)]),[(Ob.cells [(V.lst 5 false (getL (headD (Ob.getC (headD z5.2 Ob.dead)) V.bot))),(V.int .i64 (getI (headD (tail (Ob.getC (headD z5.2 Ob.dead))) V.bot)))])])
 else
 some ((V.agg [(V.int .i64 0),(V.int .i64 a2),(V.int .i64 (getI (headD (tail (getT z0.1)) V.bot))),(V.int .i64 (getI (headD (tail (getT z0.1)) V.bot))),(V.int .i64 a3),(V.lst 36 false []),(V.lst 32 false []),(V.int .i64 0),(V.int .i64 0)]),[(Ob.cells [(V.lst 5 false (getL (headD (Ob.getC (headD z4.2 Ob.dead)) V.bot))),(V.int .i64 (getI (headD (tail (Ob.getC (headD z4.2 Ob.dead))) V.bot)))])])
 else
 some ((V.agg [(V.int .i64 0),(V.int .i64 a2),(V.int .i64 (getI (headD (tail (getT z0.1)) V.bot))),(V.int .i64 (getI (headD (tail (getT z0.1)) V.bot))),(V.int .i64 a3),(V.lst 36 false []),(V.lst 32 false []),(V.int .i64 0),(V.int .i64 0)]),[(Ob.cells [(V.lst 5 false (getL (headD (Ob.getC (headD z4.2 Ob.dead)) V.bot))),(V.int .i64 (getI (headD (tail (Ob.getC (headD z4.2 Ob.dead))) V.bot)))])])
 else
 some ((V.agg [(V.int .i64 0),(V.int .i64 a2),(V.int .i64 (getI (headD (tail (getT z0.1)) V.bot))),(V.int .i64 (getI (headD (tail (getT z0.1)) V.bot))),(V.int .i64 a3),(V.lst 36 false []),(V.lst 32 false []),(V.int .i64 0),(V.int .i64 0)]),[(Ob.cells [(V.lst 5 false (getL (headD (Ob.getC (headD z1.2 Ob.dead)) V.bot))),(V.int .i64 (getI (headD (tail (Ob.getC (headD z1.2 Ob.dead))) V.bot)))])])
 else
 some ((V.agg [(V.int .i64 0),(V.int .i64 a2),(V.int .i64 (getI (headD (tail (getT z0.1)) V.bot))),(V.int .i64 (getI (headD (tail (getT z0.1)) V.bot))),(V.int .i64 a3),(V.lst 36 false []),(V.lst 32 false []),(V.int .i64 0),(V.int .i64 0)]),[(Ob.cells [(V.lst 5 false (getL (headD (Ob.getC (headD z1.2 Ob.dead)) V.bot))),(V.int .i64 (getI (headD (tail (Ob.getC (headD z1.2 Ob.dead))) V.bot)))])])
def O31 (a0:List V) (a1:Int):List Ob:=[Ob.cells [V.lst 5 false a0,V.int IntKind.i64 a1]]
def A31 (a2:Int) (a3:Int) (a4:Int) (a5:Bool):List V:=[V.ref 0 0,V.agg [V.int IntKind.i64 a2,V.int IntKind.i64 a3],V.int IntKind.i64 a4,V.bool a5]
theorem E31 (a0:List V) (a1:Int) (a2:Int) (a3:Int) (a4:Int) (a5:Bool):GO 31 Tryz.f31 (A31 a2 a3 a4 a5) (O31 a0 a1) call icall again=T31 call a0 a1 a2 a3 a4 a5:=by kernel_rfl
theorem C31 (k:Nat) (a0:List V) (a1:Int) (a2:Int) (a3:Int) (a4:Int) (a5:Bool):aA cfg (k+1) 31 (A31 a2 a3 a4 a5) (O31 a0 a1)=T31 (aA cfg k) a0 a1 a2 a3 a4 a5:=
 (show aA cfg (k+1) 31 (A31 a2 a3 a4 a5) (O31 a0 a1)=GO 31 Tryz.f31 (A31 a2 a3 a4 a5) (O31 a0 a1) (aA cfg k) (aE cfg (aA cfg k) 20) (RN 31 Tryz.f31 (O31 a0 a1) (aA cfg k) (aE cfg (aA cfg k) 20) k)by kernel_rfl).trans (E31 _ _ _ a0 a1 a2 a3 a4 a5)
theorem M31 (a0:List V) (a1:Int) (a2:Int) (a3:Int) (a4:Int) (a5:Bool) {r:V×List Ob} (h:Evt (fun k n=>T31 (aA cfg k) a0 a1 a2 a3 a4 a5) r):Ret 31 [V.ref 0 0,V.agg [V.int IntKind.i64 a2,V.int IntKind.i64 a3],V.int IntKind.i64 a4,V.bool a5] [Ob.cells [V.lst 5 false a0,V.int IntKind.i64 a1]] r:=aS (g:=fun k n=>T31 (aA cfg k) a0 a1 a2 a3 a4 a5) (fun k=>C31 k a0 a1 a2 a3 a4 a5) h
def T14 (call:FuncId→Fun) (a0:List V):Option (V×List Ob):=
 if(decide (((length a0:Nat):Int)>(67108864:Int)))=true then
 some ((V.tup [(V.agg [(V.int .i64 0),(V.int .i64 0),(V.int .i64 0),(V.int .i64 0),(V.int .i64 0),(V.lst 36 false []),(V.lst 32 false []),(V.int .i64 0),(V.int .i64 0)]),(V.int .i64 13)]),[])
 else
 Option.bind (call 31 [(V.ref 0 0),(V.agg [(V.int .i64 0),(V.int .i64 ((length a0:Nat):Int))]),(V.int .i64 0),(V.bool false)] [(Ob.cells [(V.lst 5 false a0),(V.int .i64 1)])]) fun z0=>
 some ((V.tup [(V.agg [(V.int .i64 (getI (headD (V.cells z0.1) V.bot))),(V.int .i64 (getI (headD (tail (V.cells z0.1)) V.bot))),(V.int .i64 (getI (headD (tail (tail (V.cells z0.1))) V.bot))),(V.int .i64 (getI (headD (tail (tail (tail (V.cells z0.1)))) V.bot))),(V.int .i64 (getI (headD (tail (tail (tail (tail (V.cells z0.1))))) V.bot))),(V.lst 36 false (getL (headD (tail (tail (tail (tail (tail (V.cells z0.1)))))) V.bot))),(V.lst 32 false (getL (headD (tail (tail (tail (tail (tail (tail (V.cells z0.1))))))) V.bot))),(V.int .i64 (getI (headD (tail (tail (tail (tail (tail (tail (tail (V.cells z0.1)))))))) V.bot))),(V.int .i64 (getI (headD (tail (tail (tail (tail (tail (tail (tail (tail (V.cells z0.1))))))))) V.bot)))]),(V.int .i64 0)]),[])
def A14 (a0:List V):List V:=[V.lst 5 false a0]
theorem E14 (a0:List V):GO 14 Tryz.f14 (A14 a0) [] call icall again=T14 call a0:=by kernel_rfl
theorem C14 (k:Nat) (a0:List V):aA cfg (k+1) 14 (A14 a0) []=T14 (aA cfg k) a0:=
 (show aA cfg (k+1) 14 (A14 a0) []=GO 14 Tryz.f14 (A14 a0) [] (aA cfg k) (aE cfg (aA cfg k) 20) (RN 14 Tryz.f14 [] (aA cfg k) (aE cfg (aA cfg k) 20) k)by kernel_rfl).trans (E14 _ _ _ a0)
theorem M14 (a0:List V) {r:V×List Ob} (h:Evt (fun k n=>T14 (aA cfg k) a0) r):Ret 14 [V.lst 5 false a0] [] r:=aS (g:=fun k n=>T14 (aA cfg k) a0) (fun k=>C14 k a0) h
end Go.Proofs.YtdoaoaicdimbeaaGreatDoor
end
section
namespace Go.Proofs.YtdoaoaicdimbeaaGreatDoor
open Go.Ev Go
def rK (s:Bs):Bool:=trimF s==[]
def rL (text bd:Bs):Bool×Bool:=
 if text.length<2+bd.length∨text.take (2+bd.length)≠[45,45]++bd then(false,false)else
 if rK (text.drop (2+bd.length))then(true,false)else
 if 2≤(text.drop (2+bd.length)).length∧(text.drop (2+bd.length)).take 2=[45,45]∧rK ((text.drop (2+bd.length)).drop 2)=true then(true,true)else(false,false)
theorem Ih (s:Bs) (hs:s.length≤1000000):Ret 135 [.str s] [] (.bool (rK s),[]):=by
 refine QA s ?_
 simp only[Ia]
 refine aD (If s (by omega)) ?_
 exact aC _
theorem Mp (text bd:Bs) (ht:text.length≤1000000) (hb:bd.length≤1000000):Ret 100 [.str text, .str bd] [] (.tup [.bool (rL text bd).1, .bool (rL text bd).2],[]):=by
 refine Qx text bd ?_
 have hw:IntKind.wrap .i64 ((2:Int)+(bd.length:Int))=((2+bd.length:Nat):Int):=by rw[wrap64 (by omega) (by omega)];omega
 have h0:(0:Int)≤((2+bd.length:Nat):Int):=by omega
 have hc:dS [45,45] bd=true:=lC (by simp;omega)
 simp only[H9,hw]
 unfold rL
 by_cases h1:text.length<2+bd.length
 ·have h1' :(text.length:Int)<((2+bd.length:Nat):Int):=by omega
  simp only[h1',decide_true,Bool.true_eq_false,if_false,bS,if_true,h1,true_or]
  exact aC _
 ·have h1' :¬((text.length:Int)<((2+bd.length:Nat):Int)):=by omega
  have h2:((2+bd.length:Nat):Int)≤(text.length:Int):=by omega
  simp only[h1',decide_false,if_true,aI h0,aI h2,aI (show(0:Int)≤0 by omega),cJ hc,Int.toNat_zero,Int.toNat_natCast,List.drop_zero,bS,h1,false_or]
  by_cases h3:text.take (2+bd.length)=[45,45]++bd
  ·have h3' :sEq (text.take (2+bd.length)) ([45,45]++bd)=true:=by simp[sEq,h3]
   simp only[h3',Bool.not_true,Bool.false_eq_true,if_false]
   simp only[h3,ne_eq,not_true_eq_false,if_false]
   have hr:(text.drop (2+bd.length)).length≤1000000:=by simp;omega
   obtain⟨rest,hrest⟩:∃rest,text.drop (2+bd.length)=rest:=⟨_,rfl⟩
   simp only[hrest]at hr ⊢
   refine aD (Ih rest hr) ?_
   simp only[V.getB]
   by_cases h4:rK rest=true
   ·simp only[h4,if_true];exact aC _
   ·have h4' :rK rest=false:=by simpa using h4
    simp only[h4',Bool.false_eq_true,if_false]
    by_cases h5:2≤rest.length
    ·have h5' :((rest.length:Int)≥(2:Int)):=by omega
     have h5'' :((2:Int)≤(rest.length:Int)):=by omega
     simp only[h5',decide_true,if_true,aI (show(0:Int)≤2 by omega),aI h5'',aI (show(0:Int)≤0 by omega),Int.toNat_zero,List.drop_zero,h5,true_and,show Int.toNat 2=2 from rfl,bX]
     by_cases h6:rest.take 2=[45,45]
     ·have h6' :sEq (rest.take 2) [45,45]=true:=by simp[sEq,h6]
      simp only[h6',if_true,h6,true_and]
      refine aD (Ih (rest.drop 2) (by simp;omega)) ?_
      simp only[V.getB]
      by_cases h7:rK (rest.drop 2)=true
      ·simp only[h7,if_true];exact aC _
      ·have h7' :rK (rest.drop 2)=false:=by simpa using h7
       simp only[h7',Bool.false_eq_true,if_false];exact aC _
     ·have h6' :sEq (rest.take 2) [45,45]=false:=by simp[sEq,h6]
      simp only[h6',Bool.false_eq_true,if_false,h6,false_and];exact aC _
    ·have h5' :¬((rest.length:Int)≥(2:Int)):=by omega
     simp only[h5',decide_false,Bool.false_eq_true,if_false,h5,false_and];exact aC _
  ·have h3' :sEq (text.take (2+bd.length)) ([45,45]++bd)=false:=beq_eq_false_iff_ne.2 h3
   simp only[h3',Bool.not_false,if_true]
   simp only[h3,ne_eq,not_false_eq_true,if_true]
   exact aC _
end Go.Proofs.YtdoaoaicdimbeaaGreatDoor
end
section
namespace Go.Proofs.YtdoaoaicdimbeaaGreatDoor
open Go.Ev Go
def nF (b bd:Bs):List Ln→List (Nat×Nat)→Nat→List (Nat×Nat)×Option (Nat×Nat)
 |[],out,_=>(out,none)
 |l::r,out,from_=>
  if(rL (bO b l) bd).1=false then nF b bd r out l.2.1
  else if(rL (bO b l) bd).2 then(out,some (from_,l.2.2))else nF b bd r (out++[(from_,l.2.2)]) l.2.2
def gZ (b:Bs) (fr to:Nat) (bd:Bs):List (Nat×Nat)×(Nat×Nat):=((nF b bd (aU fr to b) [] fr).1,(nF b bd (aU fr to b) [] fr).2.getD (to,to))
def sJ (b:Bs) (n:Int):List Ob:=[.cells [.lst 5 false (ofBytes b), .int .i64 n]]
theorem EN (b bd:Bs) (hb:b.length≤1000000) (hbd:bd.length≤1000000) (nn:Int) (l:List Ln) (hl:l.length≤1000000) (c d e f:Int) (fr to:Nat):∀(n i:Nat) (out:List (Nat×Nat)) (from_:Nat),l.length - i=n→i≤l.length→out.length≤i→
  Evt (fun k j=>L59 (aA cfg k) j bd (out.map cutV) (from_:Nat) (l.map lnV) (l.length:Nat) (i:Nat) (ofBytes b) nn c d e f (to:Nat) (to:Nat))
   (.tup [.lst 32 false ((nF b bd (l.drop i) out from_).1.map cutV),cutV ((nF b bd (l.drop i) out from_).2.getD (to,to)), .bool (decide (0<(nF b bd (l.drop i) out from_).1.length))],sJ b nn)
 |0,i,out,from_,h,hi,ho=>by
  refine Lc bd (out.map cutV) (from_:Nat) (l.map lnV) (l.length:Nat) (i:Nat) (ofBytes b) nn c d e f (to:Nat) (to:Nat) ?_
  have h1:¬((i:Int)<(l.length:Int)):=by omega
  have h2:decide ((((out.map cutV).length:Nat):Int)>(0:Int))=decide (0<out.length):=by simp
  rw[List.drop_eq_nil_of_le (by omega)]
  simp only[Dx,h1,decide_false,Bool.false_eq_true,if_false,nF,h2]
  exact aC _
 |n+1,i,out,from_,h,hi,ho=>by
  have hlt:i<l.length:=by omega
  refine Lc bd (out.map cutV) (from_:Nat) (l.map lnV) (l.length:Nat) (i:Nat) (ofBytes b) nn c d e f (to:Nat) (to:Nat) ?_
  have h1:((i:Int)<(l.length:Int)):=by omega
  have h2:(0:Int)≤(i:Int):=by omega
  have hw:IntKind.wrap .i64 ((i:Int)+1)=((i+1:Nat):Int):=by rw[wrap64 (by omega) (by omega)];omega
  have hd:l.drop i=l[i]::l.drop (i+1):=List.drop_eq_getElem_cons hlt
  have htl:=zF b l[i]
  have h57:Ret 64 [.lst 5 false (ofBytes b), .agg [.int .i64 (l[i].1:Nat), .int .i64 (l[i].2.1:Nat), .int .i64 (l[i].2.2:Nat)]] [] (.str (bO b l[i]),[]):=Ic b l[i]
  rw[hd,nF]
  simp only[Dx,h1,decide_true,if_true,aI h2,List.length_map,bX,Int.toNat_natCast,pW hlt,lnV,V.cells,List.headD_cons,List.tail_cons,V.getI,hw]
  refine aD h57 ?_
  simp only[V.getS]
  refine aD (Mp (bO b l[i]) bd (by omega) hbd) ?_
  simp only[V.getT,List.headD_cons,List.tail_cons,V.getB]
  cases hd1:(rL (bO b l[i]) bd).1 with
  |false=>
   simp only[Bool.not_false,if_true]
   exact EN b bd hb hbd nn l hl c d e f fr to n (i+1) out l[i].2.1 (by omega) (by omega) (by omega)
  |true=>
   simp only[Bool.not_true,Bool.false_eq_true,if_false,Bool.true_eq_false]
   cases hd2:(rL (bO b l[i]) bd).2 with
   |true=>
    have h3:decide (((out.length:Nat):Int)>(0:Int))=decide (0<out.length):=by simp
    simp only[if_true,h3]
    exact aC _
   |false=>
    have hap:bI (out.map cutV) [V.agg [.int .i64 (from_:Nat), .int .i64 (l[i].2.2:Nat)]] 17=true:=eC (by simp;omega)
    simp only[Bool.false_eq_true,if_false,cJ hap]
    have:=EN b bd hb hbd nn l hl c d e f fr to n (i+1) (out++[(from_,l[i].2.2)]) l[i].2.2 (by omega) (by omega) (by simp;omega)
    simp only[List.map_append,List.map_cons,List.map_nil,cutV]at this
    exact this
theorem Oq (b bd:Bs) (hb:b.length≤1000000) (hbd:bd.length≤1000000) (nn:Int) (fr to:Nat):
  Ret 59 [.ref 0 0, .agg [.int .i64 (fr:Nat), .int .i64 (to:Nat)], .str bd] (sJ b nn)
   (.tup [.lst 32 false ((gZ b fr to bd).1.map cutV),cutV (gZ b fr to bd).2, .bool (decide (0<(gZ b fr to bd).1.length))],sJ b nn):=by
 refine M59 (ofBytes b) nn (fr:Nat) (to:Nat) bd ?_
 simp only[T59]
 refine aD (Ib b hb (fr:Nat) (to:Nat)) ?_
 have h1:=dF fr to b
 simp only[V.getL,List.length_map]
 exact EN b bd hb hbd nn (aU fr to b) (by omega) (fr:Nat) (to:Nat) 0 0 fr to (aU fr to b).length 0 [] fr (by omega) (by omega) (by simp)
def ctB:Bs:=[99,111,110,116,101,110,116,45,116,121,112,101]
def Kh:Bs:=[99,111,110,116,101,110,116,45,116,114,97,110,115,102,101,114,45,101,110,99,111,100,105,110,103]
def nG (b:Bs) (l:List Fd) (digest:Bool):Bs×Bs×Ps:=
 match rJ (gW b l ctB) true with
 |some p=>p
 |none=>if digest then([109,101,115,115,97,103,101],[114,102,99,56,50,50],[])else([116,101,120,116],[112,108,97,105,110],[])
theorem Ot (b:Bs) (hb:b.length≤1000000) (l:List Fd) (hl:l.length≤1000000) (hv:∀f∈l,f.1.length≤1000000) (digest:Bool) (nn:Int):
  Ret 57 [.ref 0 0, .lst 91 false (l.map fdV), .bool digest] (sJ b nn)
   (.agg [.str (nG b l digest).1, .str (nG b l digest).2.1, .lst 176 false ((nG b l digest).2.2.map pV)],sJ b nn):=by
 refine M57 (ofBytes b) nn (l.map fdV) digest ?_
 simp only[T57]
 refine aD (Lb b hb l hl hv ctB (by simp[ctB])) ?_
 have hle:=uP b l ctB
 simp only[V.getS]
 refine aD (N8 (gW b l ctB) (by omega) true) ?_
 unfold nG
 cases rJ (gW b l ctB) true with
 |some p=>
  obtain⟨t,u,ps⟩:=p
  simp only[yZ,V.getT,List.tail_cons,List.headD_cons,V.getB,if_true,V.cells,V.getS,V.getL]
  exact aC _
 |none=>
  simp only[yZ,V.getT,List.tail_cons,List.headD_cons,V.getB,Bool.false_eq_true,if_false]
  cases digest with
  |true=>simp only[if_true];exact aC _
  |false=>simp only[Bool.false_eq_true,if_false];exact aC _
def Bg (b:Bs) (l:List Fd):Bool:=
 match jI l Kh with
 |none=>true
 |some f=>low (iW b f)==[55,98,105,116]||(low (iW b f)==[56,98,105,116]||low (iW b f)==[98,105,110,97,114,121])
theorem Ou (b:Bs) (hb:b.length≤1000000) (l:List Fd) (hl:l.length≤1000000) (hv:∀f∈l,f.1.length≤1000000) (nn:Int):
  Ret 61 [.ref 0 0, .lst 91 false (l.map fdV)] (sJ b nn) (.bool (Bg b l),sJ b nn):=by
 refine M61 (ofBytes b) nn (l.map fdV) ?_
 simp only[T61]
 refine aD (K9 l hl hv Kh (by simp[Kh])) ?_
 unfold Bg
 cases jI l Kh with
 |none=>
  simp only[uN,V.getT,List.tail_cons,List.headD_cons,V.getB,Bool.not_false,if_true]
  exact aC _
 |some f=>
  have h66:Ret 70 [.lst 5 false (ofBytes b), .agg [.str f.1, .int .i64 f.2.1, .int .i64 f.2.2.1, .int .i64 f.2.2.2]] [] (.str (iW b f),[]):=La b hb f
  have hle:=Dw b f
  simp only[uN,V.getT,List.tail_cons,List.headD_cons,V.getB,Bool.not_true,Bool.false_eq_true,if_false,fdV,V.cells,V.getS,V.getI]
  refine aD h66 ?_
  simp only[V.getS]
  refine aD (yU (iW b f) (by omega)) ?_
  simp only[V.getS,sEq]
  unfold low
  by_cases h1:((iW b f).map dB==[55,98,105,116])=true
  ·simp only[h1,if_true,Bool.true_or];exact aC _
  ·have h1' :((iW b f).map dB==[55,98,105,116])=false:=Bool.eq_false_iff.2 h1
   simp only[h1',Bool.false_eq_true,if_false,Bool.false_or]
   by_cases h2:((iW b f).map dB==[56,98,105,116])=true
   ·simp only[h2,if_true,Bool.true_or];exact aC _
   ·have h2' :((iW b f).map dB==[56,98,105,116])=false:=Bool.eq_false_iff.2 h2
    simp only[h2',Bool.false_eq_true,if_false,Bool.false_or]
    by_cases h3:((iW b f).map dB==[98,105,110,97,114,121])=true
    ·simp only[h3,if_true];exact aC _
    ·have h3' :((iW b f).map dB==[98,105,110,97,114,121])=false:=Bool.eq_false_iff.2 h3
     simp only[h3',Bool.false_eq_true,if_false];exact aC _
end Go.Proofs.YtdoaoaicdimbeaaGreatDoor
end
section
namespace Go.Proofs.YtdoaoaicdimbeaaGreatDoor
open Go.Ev Go
def dZ (fr at_ to:Nat):Pt:= .mk 0 (fr,at_) (at_,to) [] [] (0,0)
def bdB:Bs:=[98,111,117,110,100,97,114,121]
def mpB:Bs:=[109,117,108,116,105,112,97,114,116]
def Ki:Bs:=[109,101,115,115,97,103,101]
def Kj:Bs:=[114,102,99,56,50,50]
def dgB:Bs:=[100,105,103,101,115,116]
def Fh (fin:Nat):List (Nat×Nat)→Nat
 |[]=>fin
 |d::_=>d.1
def iY (ent:Nat→Nat→Nat→Pt×Nat) (fin:Nat):List (Nat×Nat)→Nat→List Pt×Nat
 |[],n=>([],n)
 |c::r,n=>
  ((ent c.2 (max (Fh fin r) c.2) n).1::(iY ent fin r (ent c.2 (max (Fh fin r) c.2) n).2).1,(iY ent fin r (ent c.2 (max (Fh fin r) c.2) n).2).2)
def fV (b:Bs):Nat→Nat→Nat→Bool→Nat→Pt×Nat
 |0,fr,to,_,n=>(dZ fr (dP b fr to).2.toNat to,n)
 |d+1,fr,to,dg,n=>
  let at_:=(dP b fr to).2.toNat
  let v:=nG b (dP b fr to).1 dg
  let bd:=(getF v.2.2 bdB).getD []
  if v.1=mpB∧bd≠[]∧bd.length≤70 then
   let c:=gZ b at_ to bd
   if 0<c.1.length∧n+c.1.length≤1000 then
    let q:=iY (fun fr to n=>fV b d fr to (v.2.1==dgB) n) c.2.1 c.1 (n+c.1.length)
    (.mk 1 (fr,at_) (at_,to) q.1 c.1 c.2,q.2)
   else(dZ fr at_ to,n)
  else if v.1=Ki∧v.2.1=Kj∧Bg b (dP b fr to).1=true∧n<1000 then
   let k:=fV b d at_ to false (n+1)
   (.mk 2 (fr,at_) (at_,to) [k.1] [] (0,0),k.2)
  else(dZ fr at_ to,n)
def Kk (m:Nat) (f:Fd):Prop:=f.1.length≤m
theorem Dy {s:Bs} {p:Bs×Nat} (h:eE s=some p):p.1.length≤s.length:=by
 unfold eE at h
 split at h
 ·cases h
 ·split at h
  ·cases h;simp only[List.length_take];omega
  ·cases h
theorem Ii (b:Bs) (st:List Fd×Bool) (x:Ln) (h:∀f∈st.1,Kk b.length f):(∀f∈(eW b st x).1,Kk b.length f)∧(eW b st x).1.length≤st.1.length+1:=by
 unfold eW
 split
 ·split
  ·refine⟨fun f hf=>?_,by simp only[mV];omega⟩
   unfold qP at hf
   split at hf
   ·rename_i g hg
    rcases List.mem_or_eq_of_mem_set hf with hf|rfl
    ·exact h f hf
    ·exact h g (List.mem_of_getElem? hg)
   ·exact h f hf
  ·exact⟨h,by omega⟩
 ·split
  ·exact⟨h,by simp⟩
  ·rename_i p hp
   refine⟨fun f hf=>?_,by simp⟩
   rw[List.mem_append]at hf
   rcases hf with hf|hf
   ·exact h f hf
   ·simp at hf;subst hf
    exact Nat.le_trans (Dy hp) (zF b x)
theorem zJ (b:Bs):∀(l:List Ln) (st:List Fd×Bool),(∀f∈st.1,Kk b.length f)→(∀f∈(l.foldl (eW b) st).1,Kk b.length f)∧(l.foldl (eW b) st).1.length≤st.1.length+l.length
 |[],st,h=>⟨h,by simp⟩
 |x::r,st,h=>by
  obtain⟨h1,h2⟩:=Ii b st x h
  obtain⟨h3,h4⟩:=zJ b r (eW b st x) h1
  exact⟨h3,by simp only[List.foldl_cons,List.length_cons]at h4 ⊢;omega⟩
theorem sK (b:Bs) (fr to:Int):(∀f∈(dP b fr to).1,f.1.length≤b.length)∧(dP b fr to).1.length≤b.length:=by
 have hl:=dF fr to b
 unfold dP
 split
 ·simp
 ·split
  ·rename_i k hk
   obtain⟨h1,h2⟩:=zJ b ((aU fr to b).take k) ([],false) (by simp)
   exact⟨h1,by simp at h2 ⊢;omega⟩
  ·obtain⟨h1,h2⟩:=zJ b (aU fr to b) ([],false) (by simp)
   exact⟨h1,by simp at h2 ⊢;omega⟩
theorem Dz (b:Bs) (fr to:Nat):(((dP b fr to).2.toNat:Nat):Int)=(dP b fr to).2:=by
 unfold dP
 split
 ·simp
 ·split<;>simp
end Go.Proofs.YtdoaoaicdimbeaaGreatDoor
end
section
namespace Go.Proofs.YtdoaoaicdimbeaaGreatDoor
open Go.Ev Go
theorem Fi {n:Nat} (h:n<4611686018427387904):(BitVec.ofInt 64 ((n:Nat):Int)).toNat=n:=by
 rw[BitVec.toNat_ofInt]
 omega
theorem Fj {a b:Nat} (ha:a<4611686018427387904) (hb:b<4611686018427387904):bits .or .i64 ((a:Nat):Int) ((b:Nat):Int)=((a ||| b:Nat):Int):=by
 show IntKind.wrap .i64 (((BitVec.ofInt 64 ((a:Nat):Int) ||| BitVec.ofInt 64 ((b:Nat):Int)).toNat:Nat):Int)=_
 rw[BitVec.toNat_or,Fi ha,Fi hb]
 have:a ||| b<2 ^ 62:=Nat.or_lt_two_pow ha hb
 exact wrap64 (by omega) (by omega)
theorem DC {a b:Nat} (ha:a<4611686018427387904) (hb:b<4611686018427387904):bits .and .i64 ((a:Nat):Int) ((b:Nat):Int)=((a &&& b:Nat):Int):=by
 show IntKind.wrap .i64 (((BitVec.ofInt 64 ((a:Nat):Int) &&& BitVec.ofInt 64 ((b:Nat):Int)).toNat:Nat):Int)=_
 rw[BitVec.toNat_and,Fi ha,Fi hb]
 have:a &&& b≤a:=Nat.and_le_left
 exact wrap64 (by omega) (by omega)
theorem Ij {a v:Nat} (k:Nat) (hv:v<2 ^ k):a*2 ^ k ||| v=a*2 ^ k+v:=by
 have:=Nat.two_pow_add_eq_or_of_lt hv a
 rw[Nat.mul_comm a];exact this.symm
theorem QC {a:Nat} (h:a≤16777216):IntKind.wrap .i64 (((a:Nat):Int)*2 ^ min (Int.toNat (6:Int)) (IntKind.bits IntKind.i64))=((a*64:Nat):Int):=by
 have e:(2:Int) ^ min (Int.toNat (6:Int)) (IntKind.bits IntKind.i64)=64:=rfl
 rw[e,wrap64 (by omega) (by omega)];omega
theorem QD {a:Nat} (h:a≤16777216):IntKind.wrap .i64 (((a:Nat):Int)*2 ^ min (Int.toNat (8:Int)) (IntKind.bits IntKind.i64))=((a*256:Nat):Int):=by
 have e:(2:Int) ^ min (Int.toNat (8:Int)) (IntKind.bits IntKind.i64)=256:=rfl
 rw[e,wrap64 (by omega) (by omega)];omega
theorem or6 {a v:Nat} (h:a≤16777216) (hv:v<64):bits .or .i64 ((a*64:Nat):Int) ((v:Nat):Int)=((a*64+v:Nat):Int):=by
 rw[Fj (by omega) (by omega),Ij 6 hv]
theorem or8 {a v:Nat} (h:a≤16777216) (hv:v<256):bits .or .i64 ((a*256:Nat):Int) ((v:Nat):Int)=((a*256+v:Nat):Int):=by
 rw[Fj (by omega) (by omega),Ij 8 hv]
theorem Ov {a:Nat} (h:a≤1073741824):bits .and .i64 ((a:Nat):Int) (63:Int)=((a % 64:Nat):Int):=by
 have:=DC (a:=a) (b:=63) (by omega) (by omega)
 rw[show((63:Nat):Int)=63 from rfl]at this
 rw[this,show(63:Nat)=2 ^ 6 - 1 from rfl,Nat.and_two_pow_sub_one_eq_mod]
theorem zK (a b:Nat):Int.fdiv ((a:Nat):Int) ((b:Nat):Int)=((a / b:Nat):Int):=by
 rw[Int.fdiv_eq_ediv_of_nonneg _ (by omega)];rfl
def QE:Bs:=[65,66,67,68,69,70,71,72,73,74,75,76,77,78,79,80,81,82,83,84,85,86,87,88,89,90,97,98,99,100,101,102,103,104,105,106,107,108,109,110,111,112,113,114,115,116,117,118,119,120,121,122,48,49,50,51,52,53,54,55,56,57,43,47]
def fE (v:Nat):UInt8:=QE.getD v 0
def bY:Bs→Nat
 |a::b::c::_=>(a.toNat*256+b.toNat)*256+c.toNat
 |[a,b]=>(a.toNat*256+b.toNat)*256
 |[a]=>a.toNat*256*256
 |[]=>0
def cB (g:Bs):Bs:=[fE (bY g / 262144 % 64),fE (bY g / 4096 % 64),if 1<g.length then fE (bY g / 64 % 64)else 61,if 2<g.length then fE (bY g % 64)else 61]
theorem Fl (g:Bs):bY g≤16777215:=by
 match g with
 |[]=>simp[bY]
 |[a]=>have:=a.toNat_lt;simp only[bY];omega
 |[a,b]=>have:=a.toNat_lt;have:=b.toNat_lt;simp only[bY];omega
 |a::b::c::_=>have:=a.toNat_lt;have:=b.toNat_lt;have:=c.toNat_lt;simp only[bY];omega
def wsB (c:UInt8):Bool:=c==32||c==9||c==13||c==10
def eX (s:Bs):Bs:=s.filter fun c=> !(wsB c)
theorem sL:∀v:Nat,v<64→wsB (fE v)=false∧fE v≠61:=by
 have:∀v:Fin 64,wsB (fE v.val)=false∧fE v.val≠61:=by decide+kernel
 exact fun v h=>this ⟨v,h⟩
theorem Kl (g:Bs):∀c∈cB g,wsB c=false:=by
 intro c hc
 have h1:=(sL (bY g / 262144 % 64) (by omega)).1
 have h2:=(sL (bY g / 4096 % 64) (by omega)).1
 have h3:=(sL (bY g / 64 % 64) (by omega)).1
 have h4:=(sL (bY g % 64) (by omega)).1
 have h5:wsB 61=false:=by decide
 simp only[cB,List.mem_cons,List.not_mem_nil,or_false]at hc
 rcases hc with rfl|rfl|rfl|rfl
 ·exact h1
 ·exact h2
 ·split<;>assumption
 ·split<;>assumption
theorem wK (g:Bs) (h1:1≤g.length) (h3:g.length≤3) (j:Nat) (hj:j<4):(cB g).getD j 0=if j>g.length then 61 else fE (bY g / 2 ^ (6* (3 - j)) % 64):=by
 obtain rfl|rfl|rfl|rfl:j=0∨j=1∨j=2∨j=3:=by omega
 ·rw[if_neg (by omega)];rfl
 ·rw[if_neg (by omega)];rfl
 ·show(if 1<g.length then fE (bY g / 64 % 64)else 61)=_
  by_cases h:1<g.length
  ·rw[if_pos h,if_neg (by omega)]
  ·rw[if_neg h,if_pos (by omega)]
 ·show(if 2<g.length then fE (bY g % 64)else 61)=_
  by_cases h:2<g.length
  ·rw[if_pos h,if_neg (by omega)]
   rw[show 2 ^ (6* (3 - 3))=1 from rfl,Nat.div_one]
  ·rw[if_neg h,if_pos (by omega)]
def putS (w:Nat) (st:Bs×Nat) (c:UInt8):Bs×Nat:=if st.2+1=w then(st.1++[c,13,10],0)else(st.1++[c],st.2+1)
def encS (w:Nat):Nat→Bs×Nat→Bs→Bs×Nat
 |0,st,_=>st
 |n+1,st,b=>if b=[]then st else encS w n ((cB (b.take 3)).foldl (putS w) st) (b.drop 3)
def zL (w:Nat) (b:Bs):Bs:=if 0<w∧0<(encS w b.length ([],0) b).2 then(encS w b.length ([],0) b).1++[13,10]else(encS w b.length ([],0) b).1
def iZ:Nat→Bs→Bs
 |0,_=>[]
 |n+1,b=>if b=[]then[]else cB (b.take 3)++iZ n (b.drop 3)
theorem Ik (w:Nat) (st:Bs×Nat) (c:UInt8) (h:wsB c=false):eX (putS w st c).1=eX st.1++[c]:=by
 unfold putS eX
 split
 ·simp[List.filter_append,h,wsB]
  simp[wsB]at h
  simp[h]
 ·simp[List.filter_append,h]
theorem Bh (w:Nat):∀(l:Bs) (st:Bs×Nat),(∀c∈l,wsB c=false)→eX (l.foldl (putS w) st).1=eX st.1++l
 |[],st,_=>by simp
 |c::l,st,h=>by
  rw[List.foldl_cons,Bh w l _ fun x hx=>h x (by simp[hx]),Ik w st c (h c (by simp))]
  simp
theorem DD (w:Nat):∀(n:Nat) (st:Bs×Nat) (b:Bs),eX (encS w n st b).1=eX st.1++iZ n b
 |0,st,b=>by simp[encS,iZ]
 |n+1,st,b=>by
  rw[encS,iZ]
  split
  ·simp
  ·rw[DD w n,Bh w _ _ (Kl _),List.append_assoc]
theorem Gi (w:Nat) (b:Bs):eX (zL w b)=iZ b.length b:=by
 have h:=DD w b.length ([],0) b
 have e:eX []=[]:=rfl
 rw[e,List.nil_append]at h
 unfold zL
 split
 ·have:∀s:Bs,eX (s++[13,10])=eX s:=fun s=>by simp[eX,List.filter_append,wsB]
  rw[this];exact h
 ·exact h
theorem B7 (w:Nat) (st:Bs×Nat) (c:UInt8):(putS w st c).1.length≤st.1.length+3∧(putS w st c).2≤st.2+1:=by
 unfold putS
 split
 ·simp
 ·simp
theorem wL (w:Nat):∀(l:Bs) (st:Bs×Nat),(l.foldl (putS w) st).1.length≤st.1.length+3*l.length∧(l.foldl (putS w) st).2≤st.2+l.length
 |[],st=>by simp
 |c::l,st=>by
  have h1:=wL w l (putS w st c)
  have h2:=B7 w st c
  simp only[List.foldl_cons,List.length_cons];omega
theorem Il (w:Nat):∀(n:Nat) (st:Bs×Nat) (b:Bs),(encS w n st b).1.length≤st.1.length+12*n∧(encS w n st b).2≤st.2+4*n
 |0,st,b=>by simp[encS]
 |n+1,st,b=>by
  rw[encS]
  split
  ·omega
  ·have h1:=Il w n ((cB (b.take 3)).foldl (putS w) st) (b.drop 3)
   have h2:=wL w (cB (b.take 3)) st
   have h3:(cB (b.take 3)).length=4:=rfl
   omega
def hexL:Bs:=[48,49,50,51,52,53,54,55,56,57,65,66,67,68,69,70]
def rM (v:Nat):UInt8:=hexL.getD v 0
def Gj (c:UInt8):Bool:=decide (33≤c.toNat)&&decide (c.toNat≤126)&&c != 61
def qpF (c:UInt8):Bs:=if Gj c=true then[c]else[61,rM (c.toNat / 16),rM (c.toNat % 16)]
def qpT (c:UInt8):Bool:=decide (33≤c.toNat)&&decide (c.toNat≤126)
theorem Mq:∀c:UInt8,(qpF c).all qpT=true:=fB (by decide+kernel)
end Go.Proofs.YtdoaoaicdimbeaaGreatDoor
end
section
namespace Go.Proofs.YtdoaoaicdimbeaaGreatDoor
open Go.Ev Go
open List (headD tail getD length drop take)
open V (getI getL getT getS getB)
set_option maxRecDepth 100000
variable (call : FuncId → Fun) (icall : aQ (V × List Ob)) (again : List It → St → Option (V × List Ob))
def bbT (c:Int) (l:List V) (col w:Int):Option (V×List Ob):=
 chk (bI l [V.int .u8 c] 2) (if((IntKind.wrap IntKind.i64 (col+(1:Int)))==w)=true then
  chk (bI (l++[V.int .u8 c]) [V.int .u8 13,V.int .u8 10] 2) (some (V.tup [],[Ob.cells [V.lst 5 true ((l++[V.int .u8 c])++[V.int .u8 13,V.int .u8 10])],Ob.cells [V.int .i64 0],Ob.cells [V.int .i64 w]]))
 else some (V.tup [],[Ob.cells [V.lst 5 true (l++[V.int .u8 c])],Ob.cells [V.int .i64 (IntKind.wrap IntKind.i64 (col+(1:Int)))],Ob.cells [V.int .i64 w]]))
theorem bbC (k:Nat) (c:Int) (l:List V) (col w:Int):aA cfg (k+1) 42 [V.int .u8 c,V.ref 0 0,V.ref 1 0,V.ref 2 0] [Ob.cells [V.lst 5 true l],Ob.cells [V.int .i64 col],Ob.cells [V.int .i64 w]]=bbT c l col w:=by kernel_rfl
def Mr:List V:=[65,66,67,68,69,70,71,72,73,74,75,76,77,78,79,80,81,82,83,84,85,86,87,88,89,90,97,98,99,100,101,102,103,104,105,106,107,108,109,110,111,112,113,114,115,116,117,118,119,120,121,122,48,49,50,51,52,53,54,55,56,57,43,47].map (V.int .u8)
def beK (b l:List V) (col w:Int) (r1 r2:List V):St:=⟨[V.lst 5 false b,V.bot,V.bot,V.ref 0 0,V.bot,V.ref 1 0,V.ref 2 0,V.clo (.func 42) [] [V.ref 1 0,V.ref 2 0,V.ref 0 0]]++r1++r2,[Ob.cells [V.int .i64 w],Ob.cells [V.lst 5 true l],Ob.cells [V.int .i64 col]]⟩
def beO (b l:List V) (col w:Int):St:=beK b l col w (List.replicate 59 V.bot) []
def beI (n x j:Int) (b l:List V) (col w:Int):St:=beK b l col w ([V.int .i64 n,V.int .i64 x]++List.replicate 9 V.bot) (V.int .i64 j::List.replicate 47 V.bot)
def beP (n x j:Int) (b l:List V) (col w:Int):St:=beK b l col w ([V.int .i64 n,V.int .i64 x]++List.replicate 25 V.bot) (V.int .i64 j::List.replicate 31 V.bot)
def Im (ag:List V→Int→Int→Option (V×List Ob)) (c:Int) (l:List V) (col w:Int):Option (V×List Ob):=
 Option.bind (call 42 [V.int .u8 c,V.ref 0 0,V.ref 1 0,V.ref 2 0] [Ob.cells [V.lst 5 true l],Ob.cells [V.int .i64 col],Ob.cells [V.int .i64 w]]) fun z=>
 ag (getL (headD (Ob.getC (headD z.2 Ob.dead)) V.bot)) (getI (headD (Ob.getC (headD (tail z.2) Ob.dead)) V.bot)) (getI (headD (Ob.getC (headD (tail (tail z.2)) Ob.dead)) V.bot))
def Io (x j:Int):Int:=bits BinOp.and IntKind.i64 (Int.fdiv x (2 ^ min (Int.toNat (IntKind.wrap IntKind.i64 ((6:Int)* (IntKind.wrap IntKind.i64 ((3:Int) - j))))) (IntKind.bits IntKind.i64))) (63:Int)
def Ip (ag:Int→List V→Int→Int→Option (V×List Ob)) (ag0:List V→List V→Int→Int→Option (V×List Ob)) (n x j:Int) (b l:List V) (col w:Int):Option (V×List Ob):=
 if(decide (j<(4:Int)))=true then
  if(decide (j>n))=true then Im call (ag (IntKind.wrap IntKind.i64 (j+(1:Int)))) 61 l col w
  else chk (decide (0≤(IntKind.wrap IntKind.i64 ((6:Int)* (IntKind.wrap IntKind.i64 ((3:Int) - j)))))) (chk (decide (0≤Io x j)) (chk (decide (Io x j<((64:Nat):Int))) (Im call (ag (IntKind.wrap IntKind.i64 (j+(1:Int)))) (getI (getD Mr (Int.toNat (Io x j)) V.bot)) l col w)))
 else chk (decide (0≤n)) (chk (decide (n≤((length b:Nat):Int))) (ag0 (drop (Int.toNat n) b) l col w))
def Iq (ag:Int→Int→Option (V×List Ob)) (ag2:Option (V×List Ob)) (n x j:Int) (b:List V):Option (V×List Ob):=
 if(decide (j<(3:Int)))=true then
  chk (decide (0≤(8:Int))) (if(decide (j<n))=true then chk (decide (0≤j)) (chk (decide (j<((length b:Nat):Int))) (ag (bits BinOp.or IntKind.i64 (IntKind.wrap IntKind.i64 (x*2 ^ min (Int.toNat (8:Int)) (IntKind.bits IntKind.i64))) (IntKind.wrap IntKind.i64 (getI (getD b (Int.toNat j) V.bot)))) (IntKind.wrap IntKind.i64 (j+(1:Int)))))
  else ag (IntKind.wrap IntKind.i64 (x*2 ^ min (Int.toNat (8:Int)) (IntKind.bits IntKind.i64))) (IntKind.wrap IntKind.i64 (j+(1:Int))))
 else ag2
def Ir (ag1:Int→Option (V×List Ob)) (b l:List V) (col w:Int):Option (V×List Ob):=
 if(decide (((length b:Nat):Int)>(0:Int)))=true then ag1 (if(3:Int)<((length b:Nat):Int)then(3:Int)else((length b:Nat):Int))
 else Option.bind (if(decide (w>(0:Int)))=true then some (decide (col>(0:Int)))else some false) fun y0=>
  if y0=true then chk (bI l [V.int .u8 13,V.int .u8 10] 2) (some (V.lst 5 false (l++[V.int .u8 13,V.int .u8 10]),[]))else some (V.lst 5 false l,[])
theorem QF (n x j:Int) (b l:List V) (col w:Int):RM 20 Tryz.f20 [] call icall again (aK Tryz.f20 2) (beP n x j b l col w)=
  Ip call (fun j l col w=>again (aK Tryz.f20 2) (beP n x j b l col w)) (fun b l col w=>again (aK Tryz.f20 0) (beO b l col w)) n x j b l col w:=by kernel_rfl
theorem QG (n x j:Int) (b l:List V) (col w:Int):RM 20 Tryz.f20 [] call icall again (aK Tryz.f20 1) (beI n x j b l col w)=
  Iq (fun x j=>again (aK Tryz.f20 1) (beI n x j b l col w)) (again (aK Tryz.f20 2) (beP n x 0 b l col w)) n x j b:=by kernel_rfl
theorem QH (b l:List V) (col w:Int):RM 20 Tryz.f20 [] call icall again (aK Tryz.f20 0) (beO b l col w)=
  Ir (fun n=>again (aK Tryz.f20 1) (beI n 0 0 b l col w)) b l col w:=by kernel_rfl
theorem beE (b:List V) (w:Int):GO 20 Tryz.f20 [V.lst 5 false b,V.int .i64 w] [] call icall again=again (aK Tryz.f20 0) (beO b [] 0 w):=by kernel_rfl
def beL:Nat→(List V→List V→Int→Int→Option (V×List Ob))×(Int→Int→Int→List V→List V→Int→Int→Option (V×List Ob))×(Int→Int→Int→List V→List V→Int→Int→Option (V×List Ob))
 |0=>(fun _ _ _ _=>none,fun _ _ _ _ _ _ _=>none,fun _ _ _ _ _ _ _=>none)
 |k+1=>(fun b l col w=>Ir (fun n=>(beL k).2.1 n 0 0 b l col w) b l col w,
   fun n x j b l col w=>Iq (fun x j=>(beL k).2.1 n x j b l col w) ((beL k).2.2 n x 0 b l col w) n x j b,
   fun n x j b l col w=>Ip call (fun j l col w=>(beL k).2.2 n x j b l col w) (fun b l col w=>(beL k).1 b l col w) n x j b l col w)
theorem beR:∀k:Nat,(∀b l col w,RN 20 Tryz.f20 [] call icall k (aK Tryz.f20 0) (beO b l col w)=(beL call k).1 b l col w)∧
  (∀n x j b l col w,RN 20 Tryz.f20 [] call icall k (aK Tryz.f20 1) (beI n x j b l col w)=(beL call k).2.1 n x j b l col w)∧
  (∀n x j b l col w,RN 20 Tryz.f20 [] call icall k (aK Tryz.f20 2) (beP n x j b l col w)=(beL call k).2.2 n x j b l col w)
 |0=>⟨fun _ _ _ _=>rfl,fun _ _ _ _ _ _ _=>rfl,fun _ _ _ _ _ _ _=>rfl⟩
 |k+1=>by
  obtain⟨h1,h2,h3⟩:=beR k
  refine⟨fun b l col w=>?_,fun n x j b l col w=>?_,fun n x j b l col w=>?_⟩
  ·refine(QH call icall (RN 20 Tryz.f20 [] call icall k) b l col w).trans ?_
   simp only[h2]
   rfl
  ·refine(QG call icall (RN 20 Tryz.f20 [] call icall k) n x j b l col w).trans ?_
   simp only[h2,h3]
   rfl
  ·refine(QF call icall (RN 20 Tryz.f20 [] call icall k) n x j b l col w).trans ?_
   simp only[h1,h3]
   rfl
theorem M20 (b:List V) (w:Int) {res:V×List Ob} (h:Evt (fun k n=>(beL (aA cfg k) n).1 b [] 0 w) res):Ret 20 [V.lst 5 false b,V.int .i64 w] [] res:=by
 refine aS (g:=fun k n=>(beL (aA cfg k) n).1 b [] 0 w) (fun k=>?_) h
 refine(show aA cfg (k+1) 20 [V.lst 5 false b,V.int .i64 w] []=GO 20 Tryz.f20 [V.lst 5 false b,V.int .i64 w] [] (aA cfg k) (aE cfg (aA cfg k) 20) (RN 20 Tryz.f20 [] (aA cfg k) (aE cfg (aA cfg k) 20) k)by kernel_rfl).trans ?_
 rw[beE,(beR (aA cfg k) (aE cfg (aA cfg k) 20) k).1]
end Go.Proofs.YtdoaoaicdimbeaaGreatDoor
end
section
namespace Go.Proofs.YtdoaoaicdimbeaaGreatDoor
open Go.Ev Go
theorem zM (l:Ps) (m:Nat):∀(q:Ps) (seen:List Bs),(∀p∈q,p.1.length≤m)→(qA l seen q).length≤q.length∧∀p∈qA l seen q,p.1.length≤m
 |[],seen,_=>by simp[qA]
 |p::r,seen,h=>by
  have hp:=h p (by simp)
  have hb:=Dl p.1
  have ih:=fun seen=>zM l m r seen fun p hp=>h p (by simp[hp])
  unfold qA
  split
  ·obtain⟨h1,h2⟩:=ih seen
   exact⟨by simp;omega,h2⟩
  ·split
   ·obtain⟨h1,h2⟩:=ih (dG p.1::seen)
    refine⟨by simp;omega,fun x hx=>?_⟩
    rcases List.mem_cons.1 hx with rfl|hx
    ·simp only;omega
    ·exact h2 x hx
   ·obtain⟨h1,h2⟩:=ih (dG p.1::seen)
    exact⟨by simp;omega,h2⟩
theorem B8 {s:Bs} {two:Bool} {t u:Bs} {ps:Ps} (h:rJ s two=some (t,u,ps)):ps.length≤s.length∧∀p∈ps,p.1.length≤s.length:=by
 have key:∀q:Bs,q.length≤s.length→(qA (cS q) [] (cS q)).length≤s.length∧∀p∈qA (cS q) [] (cS q),p.1.length≤s.length:=by
  intro q hq
  obtain⟨g1,g2⟩:=sG q.length q (Nat.le_refl _)
  obtain⟨h1,h2⟩:=zM (cS q) s.length (cS q) [] fun p hp=>by have:=g2 p hp;omega
  exact⟨by omega,h2⟩
 have h0:=oO s
 have h1:=kU (cR s)
 unfold rJ at h
 split at h
 ·cases h
 ·split at h
  ·split at h
   ·cases h
   ·rename_i s2 hs2
    split at h
    ·cases h
    ·cases h
     have h2:=iT hs2
     have h3:=kU s2
     exact key _ (by omega)
  ·cases h
   exact key _ (by omega)
theorem DF (b:Bs) (l:List Fd) (dg:Bool):(nG b l dg).2.2.length≤b.length∧∀p∈(nG b l dg).2.2,p.1.length≤b.length:=by
 have hv:=uP b l ctB
 unfold nG
 split
 ·rename_i p hp
  obtain⟨t,u,ps⟩:=p
  obtain⟨h1,h2⟩:=B8 hp
  exact⟨by simp only;omega,fun p hp=>by have:=h2 p hp;omega⟩
 ·split<;>simp
end Go.Proofs.YtdoaoaicdimbeaaGreatDoor
end
section
namespace Go.Proofs.YtdoaoaicdimbeaaGreatDoor
open Go.Ev Go
theorem Fo {ent:Nat→Nat→Nat→Pt×Nat} (h:∀fr to n,n≤1000→(ent fr to n).2≤1000) (fin:Nat):∀(cs:List (Nat×Nat)) (n:Nat),n≤1000→(iY ent fin cs n).2≤1000
 |[],n,hn=>hn
 |c::r,n,hn=>by
  unfold iY
  exact Fo h fin r _ (h _ _ _ hn)
theorem EO (b:Bs):∀(d fr to:Nat) (dg:Bool) (n:Nat),n≤1000→(fV b d fr to dg n).2≤1000
 |0,fr,to,dg,n,hn=>by simpa[fV]using hn
 |d+1,fr,to,dg,n,hn=>by
  unfold fV
  simp only
  split
  ·split
   ·rename_i h
    exact Fo (fun fr to n hn=>EO b d fr to _ n hn) _ _ _ h.2
   ·exact hn
  ·split
   ·rename_i h
    exact EO b d _ _ _ _ (by have:=h.2.2.2;omega)
   ·exact hn
def uQ (b:Bs) (d:Nat):Prop:=∀(fr to n:Nat) (dg:Bool),n≤1000→
 Ret 31 [.ref 0 0, .agg [.int .i64 (fr:Nat), .int .i64 (to:Nat)], .int .i64 ((32 - d:Nat):Int), .bool dg] (sJ b (n:Nat)) (partV (fV b d fr to dg n).1,sJ b ((fV b d fr to dg n).2:Nat))
def Is (k h1 h2 b1 b2:Int) (kids:List V) (cs:List (Nat×Nat)) (e1 e2:Int):Ob:=
 .cells [.int .i64 k, .int .i64 h1, .int .i64 h2, .int .i64 b1, .int .i64 b2, .lst 36 true kids, .lst 32 false (cs.map cutV), .int .i64 e1, .int .i64 e2]
theorem zN {l:List (Nat×Nat)} {i:Nat} (h:i<l.length):(l.map cutV).getD i .bot=cutV l[i]:=by simp[List.getD,h]
theorem jA (p:Pt):V.agg [V.int .i64 (V.getI (List.headD (V.cells (partV p)) V.bot)),V.int .i64 (V.getI (List.headD (List.tail (V.cells (partV p))) V.bot)),V.int .i64 (V.getI (List.headD (List.tail (List.tail (V.cells (partV p)))) V.bot)),
  V.int .i64 (V.getI (List.headD (List.tail (List.tail (List.tail (V.cells (partV p))))) V.bot)),V.int .i64 (V.getI (List.headD (List.tail (List.tail (List.tail (List.tail (V.cells (partV p)))))) V.bot)),
  V.lst 36 false (V.getL (List.headD (List.tail (List.tail (List.tail (List.tail (List.tail (V.cells (partV p))))))) V.bot)),V.lst 32 false (V.getL (List.headD (List.tail (List.tail (List.tail (List.tail (List.tail (List.tail (V.cells (partV p)))))))) V.bot)),
  V.int .i64 (V.getI (List.headD (List.tail (List.tail (List.tail (List.tail (List.tail (List.tail (List.tail (V.cells (partV p))))))))) V.bot)),V.int .i64 (V.getI (List.headD (List.tail (List.tail (List.tail (List.tail (List.tail (List.tail (List.tail (List.tail (V.cells (partV p)))))))))) V.bot))]=partV p:=by
 cases p;rw[partV];rfl
theorem Fp (x y:Nat):(if((y:Nat):Int)>((x:Nat):Int)then((y:Nat):Int)else((x:Nat):Int))=((max x y:Nat):Int):=by
 split<;>omega
theorem Iu (b:Bs) (d:Nat) (he:uQ b d) (dg:Bool) (cs:List (Nat×Nat)) (hcs:cs.length≤1000) (h1 h2 b1 b2:Int) (e1 e2:Nat):∀(m i:Nat) (kids:List Pt) (n:Nat),cs.length - i=m→i≤cs.length→kids.length=i→n≤1000→
  Evt (fun k j=>L60 (aA cfg k) j ((32 - d:Nat):Int) dg (cs.map cutV) (cs.length:Nat) (i:Nat) (ofBytes b) (n:Nat) 1 h1 h2 b1 b2 (kids.map partV) (cs.map cutV) (e1:Nat) (e2:Nat))
   (.tup [],[.cells [.lst 5 false (ofBytes b), .int .i64 ((iY (fun fr to n=>fV b d fr to dg n) e1 (cs.drop i) n).2:Nat)],Is 1 h1 h2 b1 b2 ((kids++(iY (fun fr to n=>fV b d fr to dg n) e1 (cs.drop i) n).1).map partV) cs (e1:Nat) (e2:Nat)])
 |0,i,kids,n,h,hi,hk,hn=>by
  refine Ld ((32 - d:Nat):Int) dg (cs.map cutV) (cs.length:Nat) (i:Nat) (ofBytes b) (n:Nat) 1 h1 h2 b1 b2 (kids.map partV) (cs.map cutV) (e1:Nat) (e2:Nat) ?_
  have g1:¬((i:Int)<(cs.length:Int)):=by omega
  rw[List.drop_eq_nil_of_le (by omega)]
  simp only[Be,g1,decide_false,Bool.false_eq_true,if_false,iY,List.append_nil,Is]
  exact aC _
 |m+1,i,kids,n,h,hi,hk,hn=>by
  have hlt:i<cs.length:=by omega
  refine Ld ((32 - d:Nat):Int) dg (cs.map cutV) (cs.length:Nat) (i:Nat) (ofBytes b) (n:Nat) 1 h1 h2 b1 b2 (kids.map partV) (cs.map cutV) (e1:Nat) (e2:Nat) ?_
  have g1:((i:Int)<(cs.length:Int)):=by omega
  have g2:(0:Int)≤(i:Int):=by omega
  have hw:IntKind.wrap .i64 ((i:Int)+1)=((i+1:Nat):Int):=by rw[wrap64 (by omega) (by omega)];omega
  have hd:cs.drop i=cs[i]::cs.drop (i+1):=List.drop_eq_getElem_cons hlt
  have hap:∀v:V,bI (kids.map partV) [v] 105=true:=fun v=>eC (by simp;omega)
  have hkl:((((kids.map partV).length:Nat):Int)==(((kids.map partV).length:Nat):Int))=true:=by simp
  rw[hd]
  have fin:∀x:Nat,Fh e1 (cs.drop (i+1))=x→
    Evt (fun k j=>Option.bind (aA cfg k 31 [.ref 0 0, .agg [.int .i64 (cs[i].2:Nat), .int .i64 ((max x cs[i].2:Nat):Int)], .int .i64 ((32 - d:Nat):Int), .bool dg] (sJ b (n:Nat))) fun z0=>
     L60 (aA cfg k) j ((32 - d:Nat):Int) dg (cs.map cutV) (cs.length:Nat) ((i+1:Nat):Int) ((V.getL (List.headD (Ob.getC (List.headD z0.2 Ob.dead)) V.bot))) ((V.getI (List.headD (List.tail (Ob.getC (List.headD z0.2 Ob.dead))) V.bot))) 1 h1 h2 b1 b2 (kids.map partV++[V.agg [V.int .i64 (V.getI (List.headD (V.cells z0.1) V.bot)),V.int .i64 (V.getI (List.headD (List.tail (V.cells z0.1)) V.bot)),V.int .i64 (V.getI (List.headD (List.tail (List.tail (V.cells z0.1))) V.bot)),V.int .i64 (V.getI (List.headD (List.tail (List.tail (List.tail (V.cells z0.1)))) V.bot)),V.int .i64 (V.getI (List.headD (List.tail (List.tail (List.tail (List.tail (V.cells z0.1))))) V.bot)),V.lst 36 false (V.getL (List.headD (List.tail (List.tail (List.tail (List.tail (List.tail (V.cells z0.1)))))) V.bot)),V.lst 32 false (V.getL (List.headD (List.tail (List.tail (List.tail (List.tail (List.tail (List.tail (V.cells z0.1))))))) V.bot)),V.int .i64 (V.getI (List.headD (List.tail (List.tail (List.tail (List.tail (List.tail (List.tail (List.tail (V.cells z0.1)))))))) V.bot)),V.int .i64 (V.getI (List.headD (List.tail (List.tail (List.tail (List.tail (List.tail (List.tail (List.tail (List.tail (V.cells z0.1))))))))) V.bot))]]) (cs.map cutV) (e1:Nat) (e2:Nat))
    (.tup [],[.cells [.lst 5 false (ofBytes b), .int .i64 ((iY (fun fr to n=>fV b d fr to dg n) e1 (cs[i]::cs.drop (i+1)) n).2:Nat)],Is 1 h1 h2 b1 b2 ((kids++(iY (fun fr to n=>fV b d fr to dg n) e1 (cs[i]::cs.drop (i+1)) n).1).map partV) cs (e1:Nat) (e2:Nat)]):=by
   intro x hx
   refine aD (he cs[i].2 (max x cs[i].2) n dg hn) ?_
   have:=Iu b d he dg cs hcs h1 h2 b1 b2 e1 e2 m (i+1) (kids++[(fV b d cs[i].2 (max x cs[i].2) dg n).1]) (fV b d cs[i].2 (max x cs[i].2) dg n).2 (by omega) (by omega) (by simp[hk]) (EO b d _ _ _ _ hn)
   unfold iY
   rw[hx]
   simp only[jA]
   simp only[List.map_append,List.map_cons,List.map_nil,List.append_assoc,List.singleton_append]at this ⊢
   exact this
  by_cases hn1:i+1<cs.length
  ·have q1:(((i+1:Nat):Int)<(cs.length:Int)):=by omega
   have q2:(0:Int)≤((i+1:Nat):Int):=by omega
   simp only[Be,g1,decide_true,if_true,aI g2,List.length_map,bX,hw,q1,aI q2,Int.toNat_natCast,zN hlt,zN hn1,cutV,V.cells,List.headD_cons,List.tail_cons,V.getI,Fp,beq_self_eq_true,cJ (hap _)]
   exact fin cs[i+1].1 (by rw[List.drop_eq_getElem_cons hn1];rfl)
  ·have q1:¬(((i+1:Nat):Int)<(cs.length:Int)):=by omega
   simp only[Be,g1,decide_true,decide_false,Bool.false_eq_true,if_false,if_true,aI g2,List.length_map,bX,hw,q1,Int.toNat_natCast,zN hlt,cutV,V.cells,List.headD_cons,List.tail_cons,V.getI,Fp,beq_self_eq_true,cJ (hap _)]
   exact fin e1 (by rw[List.drop_eq_nil_of_le (by omega)];rfl)
end Go.Proofs.YtdoaoaicdimbeaaGreatDoor
end
section
namespace Go.Proofs.YtdoaoaicdimbeaaGreatDoor
open Go.Ev Go
theorem Ow (b:Bs) (d:Nat) (he:uQ b d) (dg:Bool) (cs:List (Nat×Nat)) (hcs:cs.length≤1000) (h1 h2 b1 b2:Int) (e1 e2:Nat) (n:Nat) (hn:n≤1000):
  Ret 60 [.ref 0 0, .ref 1 0, .int .i64 ((32 - d:Nat):Int), .bool dg] [.cells [.lst 5 false (ofBytes b), .int .i64 (n:Nat)],Is 1 h1 h2 b1 b2 [] cs (e1:Nat) (e2:Nat)]
   (.tup [],[.cells [.lst 5 false (ofBytes b), .int .i64 ((iY (fun fr to n=>fV b d fr to dg n) e1 cs n).2:Nat)],Is 1 h1 h2 b1 b2 ((iY (fun fr to n=>fV b d fr to dg n) e1 cs n).1.map partV) cs (e1:Nat) (e2:Nat)]):=by
 refine M60 (ofBytes b) (n:Nat) 1 h1 h2 b1 b2 [] (cs.map cutV) (e1:Nat) (e2:Nat) ((32 - d:Nat):Int) dg ?_
 simp only[T60,List.length_map]
 have:=Iu b d he dg cs hcs h1 h2 b1 b2 e1 e2 cs.length 0 [] n (by omega) (by omega) rfl hn
 simpa using this
theorem Ox (b:Bs) (hb:b.length≤100000):uQ b 0:=by
 intro fr to n dg hn
 refine M31 (ofBytes b) (n:Nat) (fr:Nat) (to:Nat) ((32 - 0:Nat):Int) dg ?_
 simp only[T31]
 refine aD (Du b (by omega) (fr:Nat) (to:Nat)) ?_
 have h1:((((32 - 0:Nat):Int))==(32:Int))=true:=rfl
 simp only[h1,if_true,V.getT,List.headD_cons,List.tail_cons,V.getI]
 rw[←Dz]
 exact aC _
theorem mX (b bd:Bs):∀(l:List Ln) (out:List (Nat×Nat)) (fr:Nat),(nF b bd l out fr).1.length≤out.length+l.length
 |[],out,fr=>by simp[nF]
 |x::r,out,fr=>by
  unfold nF
  split
  ·have:=mX b bd r out x.2.1;simp only[List.length_cons];omega
  ·split
   ·simp
   ·have:=mX b bd r (out++[(fr,x.2.2)]) x.2.2;simp only[List.length_append,List.length_cons,List.length_nil]at this ⊢;omega
theorem B9 (b:Bs) (fr to:Nat) (bd:Bs):(gZ b fr to bd).1.length≤b.length:=by
 have h1:=dF fr to b
 have h2:=mX b bd (aU fr to b) [] fr
 unfold gZ;simp at h2;simp only;omega
theorem bF (k:IntKind) (z:Int):(V.int k z).getI=z:=rfl
theorem aW (t:TypeId) (o:Bool) (l:List V):(V.lst t o l).getL=l:=rfl
theorem aY (x:Bool):(V.bool x).getB=x:=rfl
theorem fN (x:Bs):(V.str x).getS=x:=rfl
theorem bN (l:List V):(V.tup l).getT=l:=rfl
theorem Bi (l:List V):(V.agg l).cells=l:=rfl
theorem Iv (fr at_ to:Nat):partV (dZ fr at_ to)= .agg [.int .i64 0, .int .i64 (fr:Nat), .int .i64 (at_:Nat), .int .i64 (at_:Nat), .int .i64 (to:Nat), .lst 36 false [], .lst 32 false [], .int .i64 0, .int .i64 0]:=by
 unfold dZ;rw[partV];rfl
theorem cG {α β:Type} {o:Option β} {v:β} {F:Nat→Nat→β→Option α} {r:α} (h:o=some v) (h2:Evt (fun k n=>F k n v) r):Evt (fun k n=>Option.bind o (F k n)) r:=by subst h;exact h2
theorem Oy (b:Bs) (hb:b.length≤100000) (d:Nat) (hd:d+1≤32) (he:uQ b d):uQ b (d+1):=by
 intro fr to n dg hn
 refine M31 (ofBytes b) (n:Nat) (fr:Nat) (to:Nat) ((32 - (d+1):Nat):Int) dg ?_
 simp only[T31]
 refine aD (Du b (by omega) (fr:Nat) (to:Nat)) ?_
 obtain⟨k1,k2⟩:=sK b (fr:Nat) (to:Nat)
 have h1:((((32 - (d+1):Nat):Int))==(32:Int))=false:=beq_eq_false_iff_ne.2 (by omega)
 have hw:IntKind.wrap .i64 (((32 - (d+1):Nat):Int)+1)=((32 - d:Nat):Int):=by rw[wrap64 (by omega) (by omega)];omega
 simp only[h1,Bool.false_eq_true,if_false,bN,List.headD_cons,List.tail_cons,bF,aW,hw]
 rw[←Dz]
 generalize hat:(dP b (fr:Nat) (to:Nat)).2.toNat=at_
 generalize hfl:(dP b (fr:Nat) (to:Nat)).1=l at k1 k2
 refine aD (Ot b (by omega) l (by omega) (fun f hf=>by have:=k1 f hf;omega) dg (n:Nat)) ?_
 obtain⟨m1,m2⟩:=DF b l dg
 generalize hv:nG b l dg=v at m1 m2
 obtain⟨t,u,ps⟩:=v
 simp only at m1 m2
 simp only[Bi,fN,aW,List.headD_cons,List.tail_cons]
 refine aD (N9 t u ps (by omega) (fun p hp=>by have:=m2 p hp;omega) bdB (by simp[bdB])) ?_
 simp only[bN,fN,List.headD_cons]
 have hent:fV b (d+1) fr to dg n=(if t=mpB∧(getF ps bdB).getD []≠[]∧((getF ps bdB).getD []).length≤70 then
   if 0<(gZ b at_ to ((getF ps bdB).getD [])).1.length∧n+(gZ b at_ to ((getF ps bdB).getD [])).1.length≤1000 then
    (Pt.mk 1 (fr,at_) (at_,to) (iY (fun fr to n=>fV b d fr to (u==dgB) n) (gZ b at_ to ((getF ps bdB).getD [])).2.1 (gZ b at_ to ((getF ps bdB).getD [])).1 (n+(gZ b at_ to ((getF ps bdB).getD [])).1.length)).1 (gZ b at_ to ((getF ps bdB).getD [])).1 (gZ b at_ to ((getF ps bdB).getD [])).2,
     (iY (fun fr to n=>fV b d fr to (u==dgB) n) (gZ b at_ to ((getF ps bdB).getD [])).2.1 (gZ b at_ to ((getF ps bdB).getD [])).1 (n+(gZ b at_ to ((getF ps bdB).getD [])).1.length)).2)
   else(dZ fr at_ to,n)
  else if t=Ki∧u=Kj∧Bg b l=true∧n<1000 then(Pt.mk 2 (fr,at_) (at_,to) [(fV b d at_ to false (n+1)).1] [] (0,0),(fV b d at_ to false (n+1)).2)
  else(dZ fr at_ to,n)):=by
  rw[fV]
  simp only[hat,hfl,hv]
 rw[hent]
 generalize hbd:(getF ps bdB).getD []=bd
 have hsq:∀x y:Bs,sEq x y=decide (x=y):=fun x y=>by
  by_cases h:x=y
  ·subst h;simp[sEq]
  ·simp[sEq,h]
 have leaf:∀x:Int,x=(n:Int)→Evt (fun _ _=>some (V.agg [.int .i64 0, .int .i64 (fr:Nat), .int .i64 (at_:Nat), .int .i64 (at_:Nat), .int .i64 (to:Nat), .lst 36 false [], .lst 32 false [], .int .i64 0, .int .i64 0],
   [Ob.cells [.lst 5 false (ofBytes b), .int .i64 x]])) (partV (dZ fr at_ to),sJ b (n:Nat)):=by
  intro x hx
  subst hx
  rw[Iv]
  exact aC _
 have hy3:(if sEq t [109,117,108,116,105,112,97,114,116]=true then(if(!(sEq bd []))=true then some (decide (((bd.length:Nat):Int)≤(70:Int)))else some false)else some false)=some (decide (t=mpB∧bd≠[]∧bd.length≤70)):=by
  have e1:sEq t [109,117,108,116,105,112,97,114,116]=decide (t=mpB):=hsq t mpB
  rw[e1,hsq bd []]
  by_cases c1:t=mpB
  ·by_cases c2:bd=[]
   ·simp[c1,c2]
   ·by_cases c3:bd.length≤70
    ·have:((bd.length:Nat):Int)≤70:=by omega
     simp[c1,c2,c3,this]
    ·have:¬(((bd.length:Nat):Int)≤70):=by omega
     simp[c1,c2,c3,this]
  ·simp[c1]
 refine cG hy3 ?_
 by_cases hc:t=mpB∧bd≠[]∧bd.length≤70
 ·rw[if_pos hc]
  simp only[decide_eq_true hc,if_true]
  refine aD (Oq b bd (by omega) (by have:=hc.2.2;omega) (n:Nat) at_ to) ?_
  have hcl:=B9 b at_ to bd
  generalize hcu:gZ b at_ to bd=cu at hcl
  obtain⟨cs,e1,e2⟩:=cu
  simp only at hcl
  have hwn:IntKind.wrap .i64 ((n:Int)+((cs.length:Nat):Int))=((n+cs.length:Nat):Int):=by rw[wrap64 (by omega) (by omega)];omega
  simp only[V.getT,List.headD_cons,List.tail_cons,V.getB,V.getL,sJ,Ob.getC,V.getI,cutV,V.cells,List.length_map,hwn]
  have hy5:(if decide (0<cs.length)=true then some (decide (((n+cs.length:Nat):Int)≤(1000:Int)))else some false)=some (decide (0<cs.length∧n+cs.length≤1000)):=by
   by_cases c1:0<cs.length
   ·by_cases c2:n+cs.length≤1000
    ·have:((n+cs.length:Nat):Int)≤1000:=by omega
     simp only[c1,c2,this,decide_true,if_true,and_self]
    ·have:¬(((n+cs.length:Nat):Int)≤1000):=by omega
     simp only[c1,c2,this,decide_true,decide_false,if_true,and_false]
   ·simp only[c1,decide_false,Bool.false_eq_true,if_false,false_and]
  refine cG hy5 ?_
  by_cases hc2:0<cs.length∧n+cs.length≤1000
  ·rw[if_pos hc2]
   simp only[decide_eq_true hc2,if_true]
   refine aD (Ow b d he (u==dgB) cs (by omega) (fr:Nat) (at_:Nat) (at_:Nat) (to:Nat) e1 e2 (n+cs.length) hc2.2) ?_
   rw[partV,tW]
   exact aC _
  ·rw[if_neg hc2]
   simp only[decide_eq_false hc2,Bool.false_eq_true,if_false]
   exact leaf _ rfl
 ·rw[if_neg hc]
  simp only[decide_eq_false hc,Bool.false_eq_true,if_false]
  by_cases t1:t=Ki
  ·by_cases t2:u=Kj
   ·have s1:sEq t [109,101,115,115,97,103,101]=true:=by rw[hsq];exact decide_eq_true t1
    have s2:sEq u [114,102,99,56,50,50]=true:=by rw[hsq];exact decide_eq_true t2
    simp only[s1,s2,if_true]
    refine aD (Ou b (by omega) l (by omega) (fun f hf=>by have:=k1 f hf;omega) (n:Nat)) ?_
    simp only[aY,sJ,Ob.getC,List.headD_cons,List.tail_cons,bF,aW]
    by_cases t3:Bg b l=true
    ·by_cases t4:n<1000
     ·have t4' :((n:Nat):Int)<1000:=by omega
      have hwn:IntKind.wrap .i64 ((n:Int)+1)=((n+1:Nat):Int):=by rw[wrap64 (by omega) (by omega)];omega
      rw[if_pos ⟨t1,t2,t3,t4⟩]
      simp only[t3,if_true,t4',decide_true,hwn]
      refine aD (he at_ to (n+1) false (by omega)) ?_
      simp only[jA]
      rw[partV,tV,tV]
      exact aC _
     ·have t4' :¬(((n:Nat):Int)<1000):=by omega
      rw[if_neg (fun h=>t4 h.2.2.2)]
      simp only[t3,if_true,t4',decide_false,Bool.false_eq_true,if_false]
      exact leaf _ rfl
    ·rw[if_neg (fun h=>t3 h.2.2.1)]
     simp only[t3,Bool.false_eq_true,if_false]
     exact leaf _ rfl
   ·rw[if_neg (fun h=>t2 h.2.1)]
    have s1:sEq t [109,101,115,115,97,103,101]=true:=by rw[hsq];exact decide_eq_true t1
    have s2:sEq u [114,102,99,56,50,50]=false:=by rw[hsq];exact decide_eq_false t2
    simp only[s1,s2,if_true,Bool.false_eq_true,if_false]
    exact leaf _ rfl
  ·rw[if_neg (fun h=>t1 h.1)]
   have s1:sEq t [109,101,115,115,97,103,101]=false:=by rw[hsq];exact decide_eq_false t1
   simp only[s1,Bool.false_eq_true,if_false]
   exact leaf _ rfl
theorem Fq (b:Bs) (hb:b.length≤100000):∀d,d≤32→uQ b d
 |0,_=>Ox b hb
 |d+1,h=>Oy b hb d h (Fq b hb d (by omega))
end Go.Proofs.YtdoaoaicdimbeaaGreatDoor
end
section
namespace Go.Proofs.YtdoaoaicdimbeaaGreatDoor
open Go.Ev Go
theorem Oz (b:Bs) (hb:b.length≤100000):
  Ret 14 [.lst 5 false (ofBytes b)] [] (.tup [partV (fV b 32 0 b.length false 1).1, .int .i64 0],[]):=by
 refine M14 (ofBytes b) ?_
 have h1:¬(((b.length:Nat):Int)>67108864):=by omega
 simp only[T14,aH,h1,decide_false,Bool.false_eq_true,if_false]
 have he:Ret 31 [.ref 0 0, .agg [.int .i64 (0:Int), .int .i64 (b.length:Nat)], .int .i64 (0:Int), .bool false] [.cells [.lst 5 false (ofBytes b), .int .i64 (1:Int)]] (partV (fV b 32 0 b.length false 1).1,sJ b ((fV b 32 0 b.length false 1).2:Nat)):=
  Fq b hb 32 (by omega) 0 b.length 1 false (by omega)
 refine aD he ?_
 simp only[jA]
 exact aC _
mutual
def cntF:Pt→Nat
 | .mk _ _ _ kids _ _=>1+An kids
def An:List Pt→Nat
 |[]=>0
 |p::r=>cntF p+An r
end
theorem Iw (p:Pt):1≤cntF p:=by cases p;rw[cntF];omega
theorem DG:∀l:List Pt,l.length≤An l
 |[]=>by simp[An]
 |p::r=>by have:=DG r;have:=Iw p;rw[An,List.length_cons];omega
end Go.Proofs.YtdoaoaicdimbeaaGreatDoor
end
section
namespace Go.Proofs.YtdoaoaicdimbeaaGreatDoor
open Go.Ev Go
open List (headD tail getD length drop take)
open V (getI getL getT getS getB)
set_option maxRecDepth 100000
variable (call : FuncId → Fun) (icall : aQ (V × List Ob)) (again : List It → St → Option (V × List Ob))
def T36 (call:FuncId→Fun) (a0:List V) (a1:Int) (a2:Int) (a3:Int) (a4:Int) (a5:Int) (a6:List V) (a7:List V) (a8:Int) (a9:Int):Option (V×List Ob):=
 Option.bind (call 32 [(V.lst 5 false a0),(V.agg [(V.int .i64 a2),(V.int .i64 a3)])] []) fun z0=>
 Option.bind (call 34 [(V.lst 5 false a0),(V.lst 91 false (getL (headD (getT z0.1) V.bot))),(V.str [99,111,110,116,101,110,116,45,116,114,97,110,115,102,101,114,45,101,110,99,111,100,105,110,103])] []) fun z1=>
 Option.bind (call 73 [(V.str (getS z1.1))] []) fun z2=>
 if(!(sEq (getS z2.1) []))=true then
 some ((V.str (getS z2.1)),[])
 else
 some ((V.str [55,98,105,116]),[])
def A36 (a0:List V) (a1:Int) (a2:Int) (a3:Int) (a4:Int) (a5:Int) (a6:List V) (a7:List V) (a8:Int) (a9:Int):List V:=[V.lst 5 false a0,V.agg [V.int IntKind.i64 a1,V.int IntKind.i64 a2,V.int IntKind.i64 a3,V.int IntKind.i64 a4,V.int IntKind.i64 a5,V.lst 36 false a6,V.lst 32 false a7,V.int IntKind.i64 a8,V.int IntKind.i64 a9]]
theorem E36 (a0:List V) (a1:Int) (a2:Int) (a3:Int) (a4:Int) (a5:Int) (a6:List V) (a7:List V) (a8:Int) (a9:Int):GO 36 Tryz.f36 (A36 a0 a1 a2 a3 a4 a5 a6 a7 a8 a9) [] call icall again=T36 call a0 a1 a2 a3 a4 a5 a6 a7 a8 a9:=by kernel_rfl
theorem C36 (k:Nat) (a0:List V) (a1:Int) (a2:Int) (a3:Int) (a4:Int) (a5:Int) (a6:List V) (a7:List V) (a8:Int) (a9:Int):aA cfg (k+1) 36 (A36 a0 a1 a2 a3 a4 a5 a6 a7 a8 a9) []=T36 (aA cfg k) a0 a1 a2 a3 a4 a5 a6 a7 a8 a9:=
 (show aA cfg (k+1) 36 (A36 a0 a1 a2 a3 a4 a5 a6 a7 a8 a9) []=GO 36 Tryz.f36 (A36 a0 a1 a2 a3 a4 a5 a6 a7 a8 a9) [] (aA cfg k) (aE cfg (aA cfg k) 20) (RN 36 Tryz.f36 [] (aA cfg k) (aE cfg (aA cfg k) 20) k)by kernel_rfl).trans (E36 _ _ _ a0 a1 a2 a3 a4 a5 a6 a7 a8 a9)
theorem M36 (a0:List V) (a1:Int) (a2:Int) (a3:Int) (a4:Int) (a5:Int) (a6:List V) (a7:List V) (a8:Int) (a9:Int) {r:V×List Ob} (h:Evt (fun k n=>T36 (aA cfg k) a0 a1 a2 a3 a4 a5 a6 a7 a8 a9) r):Ret 36 [V.lst 5 false a0,V.agg [V.int IntKind.i64 a1,V.int IntKind.i64 a2,V.int IntKind.i64 a3,V.int IntKind.i64 a4,V.int IntKind.i64 a5,V.lst 36 false a6,V.lst 32 false a7,V.int IntKind.i64 a8,V.int IntKind.i64 a9]] [] r:=aS (g:=fun k n=>T36 (aA cfg k) a0 a1 a2 a3 a4 a5 a6 a7 a8 a9) (fun k=>C36 k a0 a1 a2 a3 a4 a5 a6 a7 a8 a9) h
end Go.Proofs.YtdoaoaicdimbeaaGreatDoor
end
section
namespace Go.Proofs.YtdoaoaicdimbeaaGreatDoor
open Go.Ev Go
end Go.Proofs.YtdoaoaicdimbeaaGreatDoor
end
section
namespace Go.Proofs.YtdoaoaicdimbeaaGreatDoor
open Go.Ev Go
open List (headD tail getD length drop take)
open V (getI getL getT getS getB)
set_option maxRecDepth 100000
variable (call : FuncId → Fun) (icall : aQ (V × List Ob)) (again : List It → St → Option (V × List Ob))
def T17 (call:FuncId→Fun) (a0:List V) (a1:Int) (a2:Int) (a3:Int) (a4:Int) (a5:Int) (a6:List V) (a7:List V) (a8:Int) (a9:Int) (a10:List V):Option (V×List Ob):=
 if(((length a10:Nat):Int)==(0:Int))=true then
 Option.bind (call 37 [(V.lst 5 false a0),(V.agg [(V.int .i64 a2),(V.int .i64 a5)])] []) fun z0=>
 some ((V.tup [(V.lst 5 false (getL z0.1)),(V.int .i64 0)]),[])
 else
 Option.bind (call 38 [(V.agg [(V.int .i64 a1),(V.int .i64 a2),(V.int .i64 a3),(V.int .i64 a4),(V.int .i64 a5),(V.lst 36 false a6),(V.lst 32 false a7),(V.int .i64 a8),(V.int .i64 a9)]),(V.lst 3 false a10)] []) fun z0=>
 if(!(getB (headD (tail (getT z0.1)) V.bot)))=true then
 some ((V.tup [(V.lst 5 false []),(V.int .i64 30)]),[])
 else
 Option.bind (call 39 [(V.lst 5 false a0),(V.agg [(V.int .i64 (getI (headD (V.cells (headD (getT z0.1) V.bot)) V.bot))),(V.int .i64 (getI (headD (tail (V.cells (headD (getT z0.1) V.bot))) V.bot))),(V.int .i64 (getI (headD (tail (tail (V.cells (headD (getT z0.1) V.bot)))) V.bot))),(V.int .i64 (getI (headD (tail (tail (tail (V.cells (headD (getT z0.1) V.bot))))) V.bot))),(V.int .i64 (getI (headD (tail (tail (tail (tail (V.cells (headD (getT z0.1) V.bot)))))) V.bot))),(V.lst 36 false (getL (headD (tail (tail (tail (tail (tail (V.cells (headD (getT z0.1) V.bot))))))) V.bot))),(V.lst 32 false (getL (headD (tail (tail (tail (tail (tail (tail (V.cells (headD (getT z0.1) V.bot)))))))) V.bot))),(V.int .i64 (getI (headD (tail (tail (tail (tail (tail (tail (tail (V.cells (headD (getT z0.1) V.bot))))))))) V.bot))),(V.int .i64 (getI (headD (tail (tail (tail (tail (tail (tail (tail (tail (V.cells (headD (getT z0.1) V.bot)))))))))) V.bot)))])] []) fun z1=>
 if(!(getB (headD (tail (getT z1.1)) V.bot)))=true then
 some ((V.tup [(V.lst 5 false []),(V.int .i64 22)]),[])
 else
 some ((V.tup [(V.lst 5 false (getL (headD (getT z1.1) V.bot))),(V.int .i64 0)]),[])
def A17 (a0:List V) (a1:Int) (a2:Int) (a3:Int) (a4:Int) (a5:Int) (a6:List V) (a7:List V) (a8:Int) (a9:Int) (a10:List V):List V:=[V.lst 5 false a0,V.agg [V.int IntKind.i64 a1,V.int IntKind.i64 a2,V.int IntKind.i64 a3,V.int IntKind.i64 a4,V.int IntKind.i64 a5,V.lst 36 false a6,V.lst 32 false a7,V.int IntKind.i64 a8,V.int IntKind.i64 a9],V.lst 3 false a10]
theorem E17 (a0:List V) (a1:Int) (a2:Int) (a3:Int) (a4:Int) (a5:Int) (a6:List V) (a7:List V) (a8:Int) (a9:Int) (a10:List V):GO 17 Tryz.f17 (A17 a0 a1 a2 a3 a4 a5 a6 a7 a8 a9 a10) [] call icall again=T17 call a0 a1 a2 a3 a4 a5 a6 a7 a8 a9 a10:=by kernel_rfl
theorem C17 (k:Nat) (a0:List V) (a1:Int) (a2:Int) (a3:Int) (a4:Int) (a5:Int) (a6:List V) (a7:List V) (a8:Int) (a9:Int) (a10:List V):aA cfg (k+1) 17 (A17 a0 a1 a2 a3 a4 a5 a6 a7 a8 a9 a10) []=T17 (aA cfg k) a0 a1 a2 a3 a4 a5 a6 a7 a8 a9 a10:=
 (show aA cfg (k+1) 17 (A17 a0 a1 a2 a3 a4 a5 a6 a7 a8 a9 a10) []=GO 17 Tryz.f17 (A17 a0 a1 a2 a3 a4 a5 a6 a7 a8 a9 a10) [] (aA cfg k) (aE cfg (aA cfg k) 20) (RN 17 Tryz.f17 [] (aA cfg k) (aE cfg (aA cfg k) 20) k)by kernel_rfl).trans (E17 _ _ _ a0 a1 a2 a3 a4 a5 a6 a7 a8 a9 a10)
theorem M17 (a0:List V) (a1:Int) (a2:Int) (a3:Int) (a4:Int) (a5:Int) (a6:List V) (a7:List V) (a8:Int) (a9:Int) (a10:List V) {r:V×List Ob} (h:Evt (fun k n=>T17 (aA cfg k) a0 a1 a2 a3 a4 a5 a6 a7 a8 a9 a10) r):Ret 17 [V.lst 5 false a0,V.agg [V.int IntKind.i64 a1,V.int IntKind.i64 a2,V.int IntKind.i64 a3,V.int IntKind.i64 a4,V.int IntKind.i64 a5,V.lst 36 false a6,V.lst 32 false a7,V.int IntKind.i64 a8,V.int IntKind.i64 a9],V.lst 3 false a10] [] r:=aS (g:=fun k n=>T17 (aA cfg k) a0 a1 a2 a3 a4 a5 a6 a7 a8 a9 a10) (fun k=>C17 k a0 a1 a2 a3 a4 a5 a6 a7 a8 a9 a10) h
def T37 (call:FuncId→Fun) (a0:List V) (a1:Int) (a2:Int):Option (V×List Ob):=
 Option.bind (call 74 [(V.agg [(V.int .i64 a1),(V.int .i64 a2)]),(V.int .i64 ((length a0:Nat):Int))] []) fun z0=>
 if(!(getB z0.1))=true then
 some ((V.lst 5 false []),[])
 else
 chk (decide (0≤a2)) (chk (decide (a2≤((length a0:Nat):Int))) (chk (decide (0≤a1)) (chk (decide (a1≤a2)) (Option.bind (call 75 [(V.lst 5 false (drop (Int.toNat a1) (take (Int.toNat a2) a0)))] []) fun z1=>
 some ((V.lst 5 false (getL z1.1)),[])))))
def A37 (a0:List V) (a1:Int) (a2:Int):List V:=[V.lst 5 false a0,V.agg [V.int IntKind.i64 a1,V.int IntKind.i64 a2]]
theorem E37 (a0:List V) (a1:Int) (a2:Int):GO 37 Tryz.f37 (A37 a0 a1 a2) [] call icall again=T37 call a0 a1 a2:=by kernel_rfl
theorem C37 (k:Nat) (a0:List V) (a1:Int) (a2:Int):aA cfg (k+1) 37 (A37 a0 a1 a2) []=T37 (aA cfg k) a0 a1 a2:=
 (show aA cfg (k+1) 37 (A37 a0 a1 a2) []=GO 37 Tryz.f37 (A37 a0 a1 a2) [] (aA cfg k) (aE cfg (aA cfg k) 20) (RN 37 Tryz.f37 [] (aA cfg k) (aE cfg (aA cfg k) 20) k)by kernel_rfl).trans (E37 _ _ _ a0 a1 a2)
theorem M37 (a0:List V) (a1:Int) (a2:Int) {r:V×List Ob} (h:Evt (fun k n=>T37 (aA cfg k) a0 a1 a2) r):Ret 37 [V.lst 5 false a0,V.agg [V.int IntKind.i64 a1,V.int IntKind.i64 a2]] [] r:=aS (g:=fun k n=>T37 (aA cfg k) a0 a1 a2) (fun k=>C37 k a0 a1 a2) h
def zO (call:FuncId→Fun) (ag0:List V→List V→Int→Int→Option (V×List Ob)) (l0:List V) (l1:List V) (i2:Int) (i3:Int):Option (V×List Ob):=
 if(decide (i3<i2))=true then
 chk (decide (0≤i3)) (chk (decide (i3<((length l1:Nat):Int))) (if((getI (getD l1 (Int.toNat i3) V.bot))==(32:Int))=true then
 (ag0 (l0) (l1) (i2) ((IntKind.wrap .i64 (i3+(1:Int)))))
 else
 if((getI (getD l1 (Int.toNat i3) V.bot))==(9:Int))=true then
 (ag0 (l0) (l1) (i2) ((IntKind.wrap .i64 (i3+(1:Int)))))
 else
 if((getI (getD l1 (Int.toNat i3) V.bot))==(13:Int))=true then
 (ag0 (l0) (l1) (i2) ((IntKind.wrap .i64 (i3+(1:Int)))))
 else
 if((getI (getD l1 (Int.toNat i3) V.bot))==(10:Int))=true then
 (ag0 (l0) (l1) (i2) ((IntKind.wrap .i64 (i3+(1:Int)))))
 else
 chk (bI l0 [(V.int .u8 (getI (getD l1 (Int.toNat i3) V.bot)))] 2) ((ag0 ((l0++[(V.int .u8 (getI (getD l1 (Int.toNat i3) V.bot)))])) (l1) (i2) ((IntKind.wrap .i64 (i3+(1:Int))))))))
 else
 some ((V.lst 5 false l0),[])
def Ix (call:FuncId→Fun) (ag0:List V→List V→Int→Int→Option (V×List Ob)) (a0:List V):Option (V×List Ob):=
 (ag0 ([]) (a0) (((length a0:Nat):Int)) ((0:Int)))
def Km (a0:List V):List V:=[V.lst 5 false a0]
def uR (l0:List V) (l1:List V) (i2:Int) (i3:Int):St:=⟨[V.bot,V.bot,V.bot,(V.lst 5 true l0),V.bot,V.bot,(V.lst 5 false l1),(V.int IntKind.i64 i2),(V.int IntKind.i64 i3)]++List.replicate 15 V.bot,[]⟩
theorem Ms (l0:List V) (l1:List V) (i2:Int) (i3:Int):
 RM 113 Tryz.f113 [] call icall again (aK Tryz.f113 0) (uR l0 l1 i2 i3)=zO call (fun l0 l1 i2 i3=>again (aK Tryz.f113 0) (uR l0 l1 i2 i3)) l0 l1 i2 i3:=by kernel_rfl
theorem QI (a0:List V):GO 113 Tryz.f113 (Km a0) [] call icall again=Ix call (fun l0 l1 i2 i3=>again (aK Tryz.f113 0) (uR l0 l1 i2 i3)) a0:=by kernel_rfl
def Ao (call:FuncId→Fun):Nat→(List V→List V→Int→Int→Option (V×List Ob))
 |0=>fun _ _ _ _=>none
 |n+1=>zO call (Ao call n)
theorem OA (call:FuncId→Fun) (icall:aQ (V×List Ob)):∀n,(∀(l0:List V) (l1:List V) (i2:Int) (i3:Int),RN 113 Tryz.f113 [] call icall n (aK Tryz.f113 0) (uR l0 l1 i2 i3)=(Ao call n) l0 l1 i2 i3)
 |0=>fun l0 l1 i2 i3=>rfl
 |n+1=>by
  have ih:=OA call icall n
  exact fun l0 l1 i2 i3=>(Ms call icall (RN 113 Tryz.f113 [] call icall n) l0 l1 i2 i3).trans (by rw[show(fun l0 l1 i2 i3=>RN 113 Tryz.f113 [] call icall n (aK Tryz.f113 0) (uR l0 l1 i2 i3))=(Ao call n)from(funext fun l0=>funext fun l1=>funext fun i2=>funext fun i3=>ih l0 l1 i2 i3)];rfl)
theorem QJ (k:Nat) (a0:List V):aA cfg (k+1) 113 (Km a0) []=Ix (aA cfg k) (Ao (aA cfg k) k) a0:=by
 have ih:=OA (aA cfg k) (aE cfg (aA cfg k) 20) k
 refine(show aA cfg (k+1) 113 (Km a0) []=GO 113 Tryz.f113 (Km a0) [] (aA cfg k) (aE cfg (aA cfg k) 20) (RN 113 Tryz.f113 [] (aA cfg k) (aE cfg (aA cfg k) 20) k)by kernel_rfl).trans ((QI _ _ _ a0).trans ?_)
 rw[show(fun l0 l1 i2 i3=>RN 113 Tryz.f113 [] (aA cfg k) (aE cfg (aA cfg k) 20) k (aK Tryz.f113 0) (uR l0 l1 i2 i3))=(Ao (aA cfg k) k)from(funext fun l0=>funext fun l1=>funext fun i2=>funext fun i3=>ih l0 l1 i2 i3)]
theorem QK (a0:List V) {r:V×List Ob} (h:Evt (fun k n=>Ix (aA cfg k) (Ao (aA cfg k) n) a0) r):Ret 113 [V.lst 5 false a0] [] r:=aS (g:=fun k n=>Ix (aA cfg k) (Ao (aA cfg k) n) a0) (fun k=>QJ k a0) h
theorem Iy (l0:List V) (l1:List V) (i2:Int) (i3:Int) {r:V×List Ob} (h:Evt (fun k n=>zO (aA cfg k) (Ao (aA cfg k) n) l0 l1 i2 i3) r):Evt (fun k n=>(Ao (aA cfg k) n) l0 l1 i2 i3) r:=aV (fun k n=>rfl) h
def Ca (call:FuncId→Fun) (ag0:List V→Bool→Int→Option (V×List Ob)) (ag1:List V→Int→Int→Int→Option (V×List Ob)) (l0:List V) (b1:Bool) (i2:Int):Option (V×List Ob):=
 Option.bind (if b1=true then
 if(decide (i2>(2:Int)))=true then
 chk (decide (0≤(IntKind.wrap .i64 (i2 - (1:Int))))) (chk (decide ((IntKind.wrap .i64 (i2 - (1:Int)))<((length l0:Nat):Int))) (some ((getI (getD l0 (Int.toNat (IntKind.wrap .i64 (i2 - (1:Int)))) V.bot))==(61:Int))))
 else
 some false
 else
 some false) fun y0=>
 if y0=true then
 (ag0 (l0) (b1) ((IntKind.wrap .i64 (i2 - (1:Int)))))
 else
 (ag1 (l0) (i2) ((0:Int)) ((0:Int)))
def uS (call:FuncId→Fun) (ag0:List V→Bool→Int→Option (V×List Ob)) (ag1:List V→Int→Int→Int→Option (V×List Ob)) (l0:List V) (i1:Int) (i2:Int) (i3:Int):Option (V×List Ob):=
 if(decide (i3<(4:Int)))=true then
 chk (decide (0≤(6:Int))) (if(decide (i3≥i1))=true then
 (ag1 (l0) (i1) ((IntKind.wrap .i64 (i2*2 ^ min (Int.toNat (6:Int)) (IntKind.bits .i64)))) ((IntKind.wrap .i64 (i3+(1:Int)))))
 else
 chk (decide (0≤i3)) (chk (decide (i3<((length l0:Nat):Int))) (Option.bind (call 141 [(V.int .u8 (getI (getD l0 (Int.toNat i3) V.bot)))] []) fun z0=>
 if(decide ((getI z0.1)<(0:Int)))=true then
 some ((V.tup [(V.lst 5 false []),(V.bool false)]),[])
 else
 (ag1 (l0) (i1) ((bits BinOp.or .i64 (IntKind.wrap .i64 (i2*2 ^ min (Int.toNat (6:Int)) (IntKind.bits .i64))) (getI z0.1))) ((IntKind.wrap .i64 (i3+(1:Int))))))))
 else
 chk (decide (0≤(16:Int))) (chk (decide (0≤(8:Int))) (chk (decide (0≤(IntKind.wrap .i64 ((8:Int)* (IntKind.wrap .i64 ((4:Int) - i1)))))) (if((bits BinOp.and .i64 i2 (IntKind.wrap .i64 ((IntKind.wrap .i64 ((1:Int)*2 ^ min (Int.toNat (IntKind.wrap .i64 ((8:Int)* (IntKind.wrap .i64 ((4:Int) - i1))))) (IntKind.bits .i64))) - (1:Int)))) != (0:Int))=true then
 some ((V.tup [(V.lst 5 false []),(V.bool false)]),[])
 else
 chk (decide (0≤(IntKind.wrap .i64 (i1 - (1:Int))))) (chk (decide ((IntKind.wrap .i64 (i1 - (1:Int)))≤((length [(V.int .u8 (IntKind.wrap .u8 (Int.fdiv i2 (2 ^ min (Int.toNat (16:Int)) (IntKind.bits .i64))))),(V.int .u8 (IntKind.wrap .u8 (Int.fdiv i2 (2 ^ min (Int.toNat (8:Int)) (IntKind.bits .i64))))),(V.int .u8 (IntKind.wrap .u8 i2))]:Nat):Int))) (chk (decide (0≤(0:Int))) (chk (decide ((0:Int)≤(IntKind.wrap .i64 (i1 - (1:Int))))) (some ((V.tup [(V.lst 5 false (drop (Int.toNat (0:Int)) (take (Int.toNat (IntKind.wrap .i64 (i1 - (1:Int)))) [(V.int .u8 (IntKind.wrap .u8 (Int.fdiv i2 (2 ^ min (Int.toNat (16:Int)) (IntKind.bits .i64))))),(V.int .u8 (IntKind.wrap .u8 (Int.fdiv i2 (2 ^ min (Int.toNat (8:Int)) (IntKind.bits .i64))))),(V.int .u8 (IntKind.wrap .u8 i2))]))),(V.bool true)]),[]))))))))
def Iz (call:FuncId→Fun) (ag0:List V→Bool→Int→Option (V×List Ob)) (ag1:List V→Int→Int→Int→Option (V×List Ob)) (a0:List V) (a1:Bool):Option (V×List Ob):=
 (ag0 (a0) (a1) ((4:Int)))
def Kn (a0:List V) (a1:Bool):List V:=[V.lst 5 false a0,V.bool a1]
def oS (l0:List V) (b1:Bool) (i2:Int):St:=⟨[(V.lst 5 false l0),(V.bool b1),V.bot,V.bot,V.bot,V.bot,(V.int IntKind.i64 i2)]++List.replicate 59 V.bot,[]⟩
def oU (l0:List V) (i1:Int) (i2:Int) (i3:Int):St:=⟨[(V.lst 5 false l0),V.bot,V.bot,V.bot,V.bot,V.bot,(V.int IntKind.i64 i1),(V.int IntKind.i64 i2),V.bot,V.bot,V.bot,V.bot,V.bot,V.bot,V.bot,V.bot,V.bot,V.bot,V.bot,V.bot,V.bot,V.bot,V.bot,V.bot,V.bot,V.bot,(V.int IntKind.i64 i3)]++List.replicate 39 V.bot,[]⟩
theorem Mt (l0:List V) (b1:Bool) (i2:Int):
 RM 114 Tryz.f114 [] call icall again (aK Tryz.f114 0) (oS l0 b1 i2)=Ca call (fun l0 b1 i2=>again (aK Tryz.f114 0) (oS l0 b1 i2)) (fun l0 i1 i2 i3=>again (aK Tryz.f114 1) (oU l0 i1 i2 i3)) l0 b1 i2:=by kernel_rfl
theorem Mv (l0:List V) (i1:Int) (i2:Int) (i3:Int):
 RM 114 Tryz.f114 [] call icall again (aK Tryz.f114 1) (oU l0 i1 i2 i3)=uS call (fun l0 b1 i2=>again (aK Tryz.f114 0) (oS l0 b1 i2)) (fun l0 i1 i2 i3=>again (aK Tryz.f114 1) (oU l0 i1 i2 i3)) l0 i1 i2 i3:=by kernel_rfl
theorem QL (a0:List V) (a1:Bool):GO 114 Tryz.f114 (Kn a0 a1) [] call icall again=Iz call (fun l0 b1 i2=>again (aK Tryz.f114 0) (oS l0 b1 i2)) (fun l0 i1 i2 i3=>again (aK Tryz.f114 1) (oU l0 i1 i2 i3)) a0 a1:=by kernel_rfl
def fD (call:FuncId→Fun):Nat→(List V→Bool→Int→Option (V×List Ob))×(List V→Int→Int→Int→Option (V×List Ob))
 |0=>⟨fun _ _ _=>none,fun _ _ _ _=>none⟩
 |n+1=>⟨Ca call (fD call n).1 (fD call n).2,uS call (fD call n).1 (fD call n).2⟩
theorem OB (call:FuncId→Fun) (icall:aQ (V×List Ob)):∀n,(∀(l0:List V) (b1:Bool) (i2:Int),RN 114 Tryz.f114 [] call icall n (aK Tryz.f114 0) (oS l0 b1 i2)=(fD call n).1 l0 b1 i2)∧(∀(l0:List V) (i1:Int) (i2:Int) (i3:Int),RN 114 Tryz.f114 [] call icall n (aK Tryz.f114 1) (oU l0 i1 i2 i3)=(fD call n).2 l0 i1 i2 i3)
 |0=>⟨fun l0 b1 i2=>rfl,fun l0 i1 i2 i3=>rfl⟩
 |n+1=>by
  have ih:=OB call icall n
  exact⟨fun l0 b1 i2=>(Mt call icall (RN 114 Tryz.f114 [] call icall n) l0 b1 i2).trans (by rw[show(fun l0 b1 i2=>RN 114 Tryz.f114 [] call icall n (aK Tryz.f114 0) (oS l0 b1 i2))=(fD call n).1 from(funext fun l0=>funext fun b1=>funext fun i2=>ih.1 l0 b1 i2),show(fun l0 i1 i2 i3=>RN 114 Tryz.f114 [] call icall n (aK Tryz.f114 1) (oU l0 i1 i2 i3))=(fD call n).2 from(funext fun l0=>funext fun i1=>funext fun i2=>funext fun i3=>ih.2 l0 i1 i2 i3)];rfl),
   fun l0 i1 i2 i3=>(Mv call icall (RN 114 Tryz.f114 [] call icall n) l0 i1 i2 i3).trans (by rw[show(fun l0 b1 i2=>RN 114 Tryz.f114 [] call icall n (aK Tryz.f114 0) (oS l0 b1 i2))=(fD call n).1 from(funext fun l0=>funext fun b1=>funext fun i2=>ih.1 l0 b1 i2),show(fun l0 i1 i2 i3=>RN 114 Tryz.f114 [] call icall n (aK Tryz.f114 1) (oU l0 i1 i2 i3))=(fD call n).2 from(funext fun l0=>funext fun i1=>funext fun i2=>funext fun i3=>ih.2 l0 i1 i2 i3)];rfl)⟩
theorem QM (k:Nat) (a0:List V) (a1:Bool):aA cfg (k+1) 114 (Kn a0 a1) []=Iz (aA cfg k) (fD (aA cfg k) k).1 (fD (aA cfg k) k).2 a0 a1:=by
 have ih:=OB (aA cfg k) (aE cfg (aA cfg k) 20) k
 refine(show aA cfg (k+1) 114 (Kn a0 a1) []=GO 114 Tryz.f114 (Kn a0 a1) [] (aA cfg k) (aE cfg (aA cfg k) 20) (RN 114 Tryz.f114 [] (aA cfg k) (aE cfg (aA cfg k) 20) k)by kernel_rfl).trans ((QL _ _ _ a0 a1).trans ?_)
 rw[show(fun l0 b1 i2=>RN 114 Tryz.f114 [] (aA cfg k) (aE cfg (aA cfg k) 20) k (aK Tryz.f114 0) (oS l0 b1 i2))=(fD (aA cfg k) k).1 from(funext fun l0=>funext fun b1=>funext fun i2=>ih.1 l0 b1 i2),show(fun l0 i1 i2 i3=>RN 114 Tryz.f114 [] (aA cfg k) (aE cfg (aA cfg k) 20) k (aK Tryz.f114 1) (oU l0 i1 i2 i3))=(fD (aA cfg k) k).2 from(funext fun l0=>funext fun i1=>funext fun i2=>funext fun i3=>ih.2 l0 i1 i2 i3)]
theorem QN (a0:List V) (a1:Bool) {r:V×List Ob} (h:Evt (fun k n=>Iz (aA cfg k) (fD (aA cfg k) n).1 (fD (aA cfg k) n).2 a0 a1) r):Ret 114 [V.lst 5 false a0,V.bool a1] [] r:=aS (g:=fun k n=>Iz (aA cfg k) (fD (aA cfg k) n).1 (fD (aA cfg k) n).2 a0 a1) (fun k=>QM k a0 a1) h
theorem Mw (l0:List V) (b1:Bool) (i2:Int) {r:V×List Ob} (h:Evt (fun k n=>Ca (aA cfg k) (fD (aA cfg k) n).1 (fD (aA cfg k) n).2 l0 b1 i2) r):Evt (fun k n=>(fD (aA cfg k) n).1 l0 b1 i2) r:=aV (fun k n=>rfl) h
theorem IA (l0:List V) (i1:Int) (i2:Int) (i3:Int) {r:V×List Ob} (h:Evt (fun k n=>uS (aA cfg k) (fD (aA cfg k) n).1 (fD (aA cfg k) n).2 l0 i1 i2 i3) r):Evt (fun k n=>(fD (aA cfg k) n).2 l0 i1 i2 i3) r:=aV (fun k n=>rfl) h
def IB (call:FuncId→Fun) (a0:Int):Option (V×List Ob):=
 Option.bind (if(decide (a0≥(65:Int)))=true then
 some (decide (a0≤(90:Int)))
 else
 some false) fun y0=>
 if y0=true then
 some ((V.int .i64 (IntKind.wrap .i64 (IntKind.wrap .u8 (a0 - (65:Int))))),[])
 else
 Option.bind (if(decide (a0≥(97:Int)))=true then
 some (decide (a0≤(122:Int)))
 else
 some false) fun y1=>
 if y1=true then
 some ((V.int .i64 (IntKind.wrap .i64 ((IntKind.wrap .i64 (IntKind.wrap .u8 (a0 - (97:Int))))+(26:Int)))),[])
 else
 Option.bind (if(decide (a0≥(48:Int)))=true then
 some (decide (a0≤(57:Int)))
 else
 some false) fun y2=>
 if y2=true then
 some ((V.int .i64 (IntKind.wrap .i64 ((IntKind.wrap .i64 (IntKind.wrap .u8 (a0 - (48:Int))))+(52:Int)))),[])
 else
 if(a0==(43:Int))=true then
 some ((V.int .i64 62),[])
 else
 if(a0==(47:Int))=true then
 some ((V.int .i64 63),[])
 else
 some ((V.int .i64 (-1:Int)),[])
def Ko (a0:Int):List V:=[V.int IntKind.u8 a0]
theorem QO (a0:Int):GO 141 Tryz.f141 (Ko a0) [] call icall again=IB call a0:=by kernel_rfl
theorem QP (k:Nat) (a0:Int):aA cfg (k+1) 141 (Ko a0) []=IB (aA cfg k) a0:=
 (show aA cfg (k+1) 141 (Ko a0) []=GO 141 Tryz.f141 (Ko a0) [] (aA cfg k) (aE cfg (aA cfg k) 20) (RN 141 Tryz.f141 [] (aA cfg k) (aE cfg (aA cfg k) 20) k)by kernel_rfl).trans (QO _ _ _ a0)
theorem QQ (a0:Int) {r:V×List Ob} (h:Evt (fun k n=>IB (aA cfg k) a0) r):Ret 141 [V.int IntKind.u8 a0] [] r:=aS (g:=fun k n=>IB (aA cfg k) a0) (fun k=>QP k a0) h
end Go.Proofs.YtdoaoaicdimbeaaGreatDoor
end
section
namespace Go.Proofs.YtdoaoaicdimbeaaGreatDoor
open Go.Ev Go
end Go.Proofs.YtdoaoaicdimbeaaGreatDoor
end
section
namespace Go.Proofs.YtdoaoaicdimbeaaGreatDoor
open Go.Ev Go
def Pt.kd:Pt→Nat| .mk k _ _ _ _ _=>k
def Pt.hd:Pt→Nat×Nat| .mk _ h _ _ _ _=>h
def Pt.bd:Pt→Nat×Nat| .mk _ _ b _ _ _=>b
def Pt.ks:Pt→List Pt| .mk _ _ _ l _ _=>l
def Pt.cs:Pt→List (Nat×Nat)| .mk _ _ _ _ c _=>c
def Pt.en:Pt→Nat×Nat| .mk _ _ _ _ _ e=>e
def oV:Pt:=dZ 0 0 0
theorem cX (p:Pt):V.agg [.int .i64 (p.kd:Nat), .int .i64 (p.hd.1:Nat), .int .i64 (p.hd.2:Nat), .int .i64 (p.bd.1:Nat), .int .i64 (p.bd.2:Nat), .lst 36 false (p.ks.map partV), .lst 32 false (p.cs.map cutV), .int .i64 (p.en.1:Nat), .int .i64 (p.en.2:Nat)]=partV p:=by
 cases p;rw[partV,tW];rfl
theorem kL (p:Pt):V.cells (partV p)=[.int .i64 (p.kd:Nat), .int .i64 (p.hd.1:Nat), .int .i64 (p.hd.2:Nat), .int .i64 (p.bd.1:Nat), .int .i64 (p.bd.2:Nat), .lst 36 false (p.ks.map partV), .lst 32 false (p.cs.map cutV), .int .i64 (p.en.1:Nat), .int .i64 (p.en.2:Nat)]:=by
 rw[←cX];rfl
theorem Cb {l:List Pt} {i:Nat} (h:i<l.length):(l.map partV).getD i .bot=partV (l.getD i oV):=by simp[List.getD,h]
theorem Cc:∀{l:List Pt} {q:Pt},q∈l→cntF q≤An l
 |p::r,q,h=>by
  rw[An]
  rcases List.mem_cons.1 h with rfl|h
  ·omega
  ·have:=Cc h;omega
theorem EP (p:Pt):cntF p=1+An p.ks:=by cases p;rw[cntF];rfl
theorem getD_mem {l:List Pt} {i:Nat} (h:i<l.length):l.getD i oV∈l:=by
 have:l.getD i oV=l[i]:=by simp[List.getD,h]
 rw[this];exact List.getElem_mem h
theorem Mx (b:Bs) (d fr to:Nat) (dg:Bool) (n:Nat) {at_:Nat} {l:List Fd} {t u:Bs} {ps:Ps} {bd:Bs} {cs:List (Nat×Nat)} {e:Nat×Nat}
  (h1:(dP b (fr:Nat) (to:Nat)).1=l) (h2:(dP b (fr:Nat) (to:Nat)).2.toNat=at_) (h3:nG b l dg=(t,u,ps)) (h4:(getF ps bdB).getD []=bd) (h5:gZ b at_ to bd=(cs,e)):
  fV b (d+1) fr to dg n=if t=mpB∧bd≠[]∧bd.length≤70 then
   if 0<cs.length∧n+cs.length≤1000 then
    (Pt.mk 1 (fr,at_) (at_,to) (iY (fun fr to n=>fV b d fr to (u==dgB) n) e.1 cs (n+cs.length)).1 cs e,(iY (fun fr to n=>fV b d fr to (u==dgB) n) e.1 cs (n+cs.length)).2)
   else(dZ fr at_ to,n)
  else if t=Ki∧u=Kj∧Bg b l=true∧n<1000 then(Pt.mk 2 (fr,at_) (at_,to) [(fV b d at_ to false (n+1)).1] [] (0,0),(fV b d at_ to false (n+1)).2)
  else(dZ fr at_ to,n):=by
 rw[fV]
 simp only[h1,h2,h3,h4,h5]
theorem oW (x y:Bs):ofBytes x++ofBytes y=ofBytes (x++y):=by simp[ofBytes]
theorem kV {b:Bs} {i:Nat} (h:i<b.length):(ofBytes b).getD i .bot= .int .u8 (b[i].toNat:Nat):=by simp[ofBytes,List.getD,h]
end Go.Proofs.YtdoaoaicdimbeaaGreatDoor
end
section
namespace Go.Proofs.YtdoaoaicdimbeaaGreatDoor
open Go.Ev Go
theorem Ft {x y:Bs} (h:x=y):sEq x y=true:=by subst h;simp[sEq]
theorem IC {x y:Bs} (h:¬x=y):sEq x y=false:=by simp[sEq,h]
def hdL (b:Bs) (p:Pt):List Fd:=(dP b (p.hd.1:Nat) (p.hd.2:Nat)).1
def DI:Bs:=[99,111,110,116,101,110,116,45,116,114,97,110,115,102,101,114,45,101,110,99,111,100,105,110,103]
def ID (b:Bs) (p:Pt):Bs:=if(gW b (hdL b p) DI).map dB=[]then[55,98,105,116]else(gW b (hdL b p) DI).map dB
theorem OC (b:Bs) (hb:b.length≤3000) (p:Pt):Ret 36 [.lst 5 false (ofBytes b),partV p] [] (.str (ID b p),[]):=by
 obtain⟨h1,h2⟩:=sK b (p.hd.1:Nat) (p.hd.2:Nat)
 have hv:=uP b (hdL b p) DI
 have hl:(hdL b p).length≤1000000:=by unfold hdL;omega
 have hl2:∀f∈hdL b p,f.1.length≤1000000:=fun f hf=>by have:=h1 f hf;omega
 rw[←cX p]
 refine M36 (ofBytes b) (p.kd:Nat) (p.hd.1:Nat) (p.hd.2:Nat) (p.bd.1:Nat) (p.bd.2:Nat) (p.ks.map partV) (p.cs.map cutV) (p.en.1:Nat) (p.en.2:Nat) ?_
 simp only[T36]
 refine aD (Du b (by omega) (p.hd.1:Nat) (p.hd.2:Nat)) ?_
 simp only[bN,List.headD_cons,aW]
 refine aD (Lb b (by omega) (hdL b p) hl hl2 DI (by simp[DI])) ?_
 simp only[fN]
 refine aD (yU _ (by omega)) ?_
 simp only[fN]
 unfold ID
 by_cases h:(gW b (hdL b p) DI).map dB=[]
 ·rw[if_pos h]
  simp only[Ft h,Bool.not_true,Bool.false_eq_true,if_false]
  exact aC _
 ·rw[if_neg h]
  simp only[IC h,Bool.not_false,if_true]
  exact aC _
end Go.Proofs.YtdoaoaicdimbeaaGreatDoor
end
section
namespace Go.Proofs.YtdoaoaicdimbeaaGreatDoor
open Go.Ev Go
end Go.Proofs.YtdoaoaicdimbeaaGreatDoor
end
section
namespace Go.Proofs.YtdoaoaicdimbeaaGreatDoor
open Go.Ev Go
theorem IE {m:Nat} {l:List Fd} {to:Nat} (h:∀f∈l,f.2.2.2≤m) (ht:to≤m):∀f∈qP l to,f.2.2.2≤m:=by
 intro f hf
 unfold qP at hf
 split at hf
 ·rename_i g hg
  rcases List.mem_or_eq_of_mem_set hf with hf|rfl
  ·exact h f hf
  ·exact ht
 ·exact h f hf
theorem IF {m:Nat} {b:Bs} {st:List Fd×Bool} {x:Ln} (h:∀f∈st.1,f.2.2.2≤m) (hx:x.2.2≤m):∀f∈(eW b st x).1,f.2.2.2≤m:=by
 unfold eW
 split
 ·split
  ·exact IE h hx
  ·exact h
 ·split
  ·exact h
  ·intro f hf
   rw[List.mem_append]at hf
   rcases hf with hf|hf
   ·exact h f hf
   ·simp at hf;subst hf;exact hx
theorem zP {m:Nat} {b:Bs}:∀(l:List Ln) (st:List Fd×Bool),(∀f∈st.1,f.2.2.2≤m)→(∀x∈l,x.2.2≤m)→∀f∈(l.foldl (eW b) st).1,f.2.2.2≤m
 |[],st,h,_=>h
 |x::r,st,h,hx=>zP r _ (IF h (hx x (by simp))) fun y hy=>hx y (by simp[hy])
theorem IG (b:Bs) (fr to:Nat):∀f∈(dP b (fr:Nat) (to:Nat)).1,f.2.2.2≤b.length:=by
 have hb:∀x∈aU (fr:Nat) (to:Nat) b,x.2.2≤b.length:=fun x hx=>(oQ x hx).2.2
 unfold dP
 split
 ·simp
 ·split
  ·exact zP _ _ (by simp) fun x hx=>hb x (List.mem_of_mem_take hx)
  ·exact zP _ _ (by simp) hb
end Go.Proofs.YtdoaoaicdimbeaaGreatDoor
end
section
namespace Go.Proofs.YtdoaoaicdimbeaaGreatDoor
open Go.Ev Go
end Go.Proofs.YtdoaoaicdimbeaaGreatDoor
end
