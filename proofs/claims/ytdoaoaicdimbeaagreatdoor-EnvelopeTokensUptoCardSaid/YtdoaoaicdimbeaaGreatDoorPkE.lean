/- Lemmas for the claim, merged: the plain reading of the program's functions, its soundness, and what they compute. -/
import Derived.Test.YtdoaoaicdimbeaaGreatDoorPkD
import Derived.ChangeSlices
import Derived.WideKeyArgs
import Derived.MapPlaces
import Derived.Deep.Frames
import Derived.SizedLaws
import Derived.OpenShut
set_option linter.all false
set_option linter.unusedVariables false
set_option linter.unusedSimpArgs false
section
namespace Go.Proofs.YtdoaoaicdimbeaaGreatDoor
open Go.Ev Go
theorem iL (pre:Bs) (c:UInt8) (q:Bs):List.getD (pre++c::q) pre.length 0=c:=by simp[List.getD]
theorem Bf (pre:Bs) (a c:UInt8) (q:Bs):List.getD (pre++a::c::q) (pre.length+1) 0=c:=by
 have e:pre++a::c::q=(pre++[a])++c::q:=by simp
 have e2:pre.length+1=(pre++[a]).length:=by simp
 rw[e,e2]
 exact iL _ _ _
theorem Bg (pre:Bs) (c:UInt8) (q:Bs):List.drop (pre.length+1) (pre++c::q)=q:=by
 have e:pre++c::q=(pre++[c])++q:=by simp
 have e2:pre.length+1=(pre++[c]).length:=by simp
 rw[e,e2]
 exact List.drop_left
theorem wr1 {n:Nat} (h:n≤1000000000000000):IntKind.wrap .i64 (((n:Nat):Int)+1)=((n+1:Nat):Int):=by rw[wrap64 (by omega) (by omega)];omega
theorem zY (r S:Bs) (hS:S.length≤200000000000000):∀(v pre out:Bs),S=pre++(v.flatMap pS++34::r)→out.length+v.length≤1000000→
  Evt (fun k j=>L91 (aB cfg k) j S (ofBytes out) (pre.length:Nat)) (.tup [.str (out++v), .str r, .bool true],[])
 |[],pre,out,h,ho=>by
  rw[List.flatMap_nil,List.nil_append]at h
  refine Ek S (ofBytes out) (pre.length:Nat) ?_
  have hl:S.length=pre.length+(r.length+1):=by rw[h];simp
  have h1:((pre.length:Int)<((S.length:Nat):Int)):=by omega
  have h2:(0:Int)≤(pre.length:Nat):=by omega
  have h3:(0:Int)≤((pre.length+1:Nat):Int):=by omega
  have h4:((pre.length+1:Nat):Int)≤((S.length:Nat):Int):=by omega
  have g:List.getD S pre.length 0=34:=by rw[h];exact iL _ _ _
  have gd:List.drop (pre.length+1) S=r:=by rw[h];exact Bg _ _ _
  have e:((((34:UInt8).toNat:Nat):Int)==(34:Int))=true:=rfl
  simp only[uK,h1,decide_true,if_true,aW h2,lU,Int.toNat_natCast,g,e,wr1 (show pre.length≤1000000000000000 by omega),aW h3,aW h4,gd,eG,List.append_nil]
  exact aM _
 |c::v,pre,out,h,ho=>by
  rw[List.flatMap_cons,List.append_assoc]at h
  rw[List.length_cons]at ho
  refine Ek S (ofBytes out) (pre.length:Nat) ?_
  have hap:∀n:Int,cK (ofBytes out) [V.int IntKind.u8 n] 2=true:=fun n=>lV (by rw[dD];simp only[List.length_cons,List.length_nil];omega)
  have h2:(0:Int)≤(pre.length:Nat):=by omega
  by_cases hc:c=34∨c=92
  ·have hx:S=pre++92::c::(v.flatMap pS++34::r):=by rw[h,pS,if_pos hc];simp
   have hl:pre.length+2≤S.length:=by rw[hx];simp
   have hl2:S.length≠pre.length+1:=by omega
   have h1:((pre.length:Int)<((S.length:Nat):Int)):=by omega
   have h3:(0:Int)≤((pre.length+1:Nat):Int):=by omega
   have h4:((pre.length+1:Nat):Int)<((S.length:Nat):Int):=by omega
   have h5:(((pre.length+1:Nat):Int)==((S.length:Nat):Int))=false:=by
    have:¬(((pre.length+1:Nat):Int)=((S.length:Nat):Int)):=by omega
    simpa using this
   have g:List.getD S pre.length 0=92:=by rw[hx];exact iL _ _ _
   have g1:List.getD S (pre.length+1) 0=c:=by rw[hx];exact Bf _ _ _ _
   have e:((((92:UInt8).toNat:Nat):Int)==(34:Int))=false:=rfl
   have e2:((((92:UInt8).toNat:Nat):Int)==(92:Int))=true:=rfl
   have ih:=zY r S hS v (pre++[92,c]) (out++[c]) (by rw[hx];simp) (by simp only[List.length_append,List.length_cons,List.length_nil];omega)
   have e3:(pre++[92,c]).length=pre.length+1+1:=by simp
   rw[e3,List.append_assoc,List.singleton_append]at ih
   simp only[uK,h1,decide_true,if_true,aW h2,lU,Int.toNat_natCast,g,e,e2,Bool.false_eq_true,if_false,wr1 (show pre.length≤1000000000000000 by omega),wr1 (show pre.length+1≤1000000000000000 by omega),h5,aW h3,aW h4,g1]
   refine fE (v:=false) ?_ ?_
   ·rcases hc with rfl|rfl<;>rfl
   ·simp only[Bool.false_eq_true,if_false,eQ (hap _),dX]
    exact ih
  ·have hx:S=pre++c::(v.flatMap pS++34::r):=by rw[h,pS,if_neg hc];simp
   have hl:pre.length+1≤S.length:=by rw[hx];simp
   have h1:((pre.length:Int)<((S.length:Nat):Int)):=by omega
   have g:List.getD S pre.length 0=c:=by rw[hx];exact iL _ _ _
   have e:(((c.toNat:Nat):Int)==(34:Int))=false:=(jR c 34 (by omega)).trans (by simpa using fun h=>hc (Or.inl h))
   have e2:(((c.toNat:Nat):Int)==(92:Int))=false:=(jR c 92 (by omega)).trans (by simpa using fun h=>hc (Or.inr h))
   have ih:=zY r S hS v (pre++[c]) (out++[c]) (by rw[hx];simp) (by simp only[List.length_append,List.length_cons,List.length_nil];omega)
   have e3:(pre++[c]).length=pre.length+1:=by simp
   rw[e3,List.append_assoc,List.singleton_append]at ih
   simp only[uK,h1,decide_true,if_true,aW h2,lU,Int.toNat_natCast,g,e,e2,Bool.false_eq_true,if_false,wr1 (show pre.length≤1000000000000000 by omega),eQ (hap _),dX]
   exact ih
theorem Gv (s r:Bs) (hs:s.length≤1000000) (hr:(dY s++r).length≤200000000000000):Ret 91 [.str (dY s++r)] [] (.tup [.str s, .str r, .bool true],[]):=by
 refine M91 (dY s++r) ?_
 simp only[T91]
 exact zY r (dY s++r) hr s [34] [] (by simp[dY]) (by simpa using hs)
def hpB (s p:Bs):Bool:=if p.length≤s.length then sEq (s.take p.length) p else false
theorem zZ (s p:Bs):Ret 165 [.str s, .str p] [] (.bool (hpB s p),[]):=by
 refine Hg s p ?_
 simp only[Cp]
 refine fE (v:=hpB s p) ?_ (aM _)
 unfold hpB
 by_cases h:p.length≤s.length
 ·have h1:((s.length:Nat):Int)≥((p.length:Nat):Int):=by omega
  have h2:(0:Int)≤((p.length:Nat):Int):=by omega
  have h3:((p.length:Nat):Int)≤((s.length:Nat):Int):=by omega
  simp only[h1,decide_true,if_true,aW h2,aW h3,aW (show(0:Int)≤0 by omega),Int.toNat_natCast,if_pos h]
  rfl
 ·have h1:¬(((s.length:Nat):Int)≥((p.length:Nat):Int)):=by omega
  simp only[h1,decide_false,Bool.false_eq_true,if_false,if_neg h]
theorem Ay (s:Bs) (h:hpB s [126]=false):Ret 147 [.str s, .str [126]] [] (.str s,[]):=by
 refine Gt s [126] ?_
 simp only[Bd]
 have:Ret 163 [.str s, .str [126]] [] (.str s,[]):=by
  refine Gs s [126] ?_
  simp only[Bc]
  refine aL (zZ s [126]) ?_
  simp only[bS,h,Bool.false_eq_true,if_false]
  exact aM _
 refine aL this ?_
 exact aM _
theorem Cv (s:Bs):Ret 147 [.str (126::s), .str [126]] [] (.str s,[]):=by
 refine Gt (126::s) [126] ?_
 simp only[Bd]
 have:Ret 163 [.str (126::s), .str [126]] [] (.str s,[]):=by
  refine Gs (126::s) [126] ?_
  simp only[Bc]
  refine aL (zZ (126::s) [126]) ?_
  have h:hpB (126::s) [126]=true:=by simp[hpB,sEq]
  have h2:(0:Int)≤((List.length [(126:UInt8)]:Nat):Int):=by omega
  have h3:((List.length [(126:UInt8)]:Nat):Int)≤((List.length (126::s):Nat):Int):=by simp only[List.length_cons,List.length_nil];omega
  simp only[bS,h,if_true,aW h2,aW h3]
  exact aM _
 refine aL this ?_
 exact aM _
theorem Cw (p s:Bs):Ret 126 [.str (p++s), .str p] [] (.tup [.str s, .bool true],[]):=by
 refine G9 (p++s) p ?_
 simp only[Cn]
 have:Ret 150 [.str (p++s), .str p] [] (.tup [.str s, .bool true],[]):=by
  refine Hd (p++s) p ?_
  simp only[Co]
  refine aL (zZ (p++s) p) ?_
  have h:hpB (p++s) p=true:=by simp[hpB,sEq]
  have h2:(0:Int)≤((List.length p:Nat):Int):=by omega
  have h3:((List.length p:Nat):Int)≤((List.length (p++s):Nat):Int):=by rw[List.length_append];omega
  simp only[bS,h,Bool.not_true,Bool.false_eq_true,if_false,aW h2,aW h3,Int.toNat_natCast,List.drop_left]
  exact aM _
 refine aL this ?_
 exact aM _
theorem DG (u:Bs) (c:UInt8) (hc:c≠43) (hu:u.length≤1000000):Ret 148 [.str (u++[c]), .str [43]] [] (.tup [.str (u++[c]), .bool false],[]):=by
 refine G3 (u++[c]) [43] ?_
 simp only[Cl]
 have h0:Ret 171 [.str (u++[c]), .str [43]] [] (.bool false,[]):=by
  refine Hj (u++[c]) [43] ?_
  simp only[Cq]
  refine fE (v:=false) ?_ (aM _)
  have hl:(u++[c]).length=u.length+1:=by simp
  have h1:(((u++[c]).length:Nat):Int)≥((List.length [(43:UInt8)]:Nat):Int):=by rw[hl];simp only[List.length_cons,List.length_nil];omega
  have hw:IntKind.wrap .i64 ((((u++[c]).length:Nat):Int) - ((List.length [(43:UInt8)]:Nat):Int))=((u.length:Nat):Int):=by rw[hl];simp only[List.length_cons,List.length_nil];rw[wrap64 (by omega) (by omega)];omega
  have h2:(0:Int)≤((u.length:Nat):Int):=by omega
  have h3:((u.length:Nat):Int)≤(((u++[c]).length:Nat):Int):=by omega
  have e:sEq [c] [43]=false:=uF (by simpa using hc)
  simp only[h1,decide_true,if_true,hw,aW h2,aW h3,Int.toNat_natCast,List.drop_left,e]
 have:Ret 164 [.str (u++[c]), .str [43]] [] (.tup [.str (u++[c]), .bool false],[]):=by
  refine G6 (u++[c]) [43] ?_
  simp only[Cm]
  refine aL h0 ?_
  simp only[bS,Bool.not_false,if_true]
  exact aM _
 refine aL this ?_
 exact aM _
def isD (c:UInt8):Prop:=48≤c.toNat∧c.toNat≤57
def Bh (a:Nat) (ds:Bs):Nat:=ds.foldl (fun a d=>10*a+(d.toNat - 48)) a
theorem Az:∀(ds:Bs) (a:Nat),a≤Bh a ds
 |[],a=>Nat.le_refl _
 |d::ds,a=>by
  have:=Az ds (10*a+(d.toNat - 48))
  show a≤Bh (10*a+(d.toNat - 48)) ds
  omega
theorem Aa:∀n:Nat,∀d∈bT n,isD d:=by
 intro n
 induction n using Nat.strongRecOn with
 |_ n ih=>
  intro d hd
  by_cases h:n<10
  ·rw[dG h,List.mem_singleton]at hd
   subst hd
   unfold isD;rw[jS h];omega
  ·rw[iK h,List.mem_append]at hd
   rcases hd with hd|hd
   ·exact ih (n / 10) (by omega) d hd
   ·rw[List.mem_singleton]at hd;subst hd
    unfold isD;rw[jS (by omega)];omega
theorem vQ (n:Nat):bT n≠[]:=by
 by_cases h:n<10
 ·rw[dG h];simp
 ·rw[iK h];simp
theorem yA:∀(k n:Nat),1≤k→n<10 ^ k→(bT n).length≤k:=by
 intro k
 induction k with
 |zero=>intro n h;omega
 |succ k ih=>
  intro n _ h
  by_cases hn:n<10
  ·rw[dG hn];simp
  ·rw[iK hn,List.length_append,List.length_singleton]
   by_cases hk:k=0
   ·subst hk;omega
   ·have:=ih (n / 10) (by omega) (by rw[Nat.pow_succ]at h;omega)
    omega
theorem Bi:∀n:Nat,1≤n→(bT n).getD 0 0≠48:=by
 intro n
 induction n using Nat.strongRecOn with
 |_ n ih=>
  intro h1
  by_cases h:n<10
  ·rw[dG h]
   intro e
   have e2:=congrArg UInt8.toNat e
   have:=jS h
   simp only[List.getD,List.getElem?_cons_zero,Option.getD_some]at e2
   rw[this]at e2
   have:(48:UInt8).toNat=48:=rfl
   omega
  ·have:=ih (n / 10) (by omega) (by omega)
   rw[iK h]
   have hne:=vQ (n / 10)
   cases hd:bT (n / 10)with
   |nil=>exact absurd hd hne
   |cons c q=>rw[hd]at this;exact this
theorem AA (s:Bs) (hs:s.length≤10):∀(v pre:Bs) (a:Nat),s=pre++v→(∀d∈v,isD d)→Bh a v≤4294967295→
  Evt (fun k j=>sY (aB cfg k) j s (a:Nat) (s.length:Nat) (pre.length:Nat)) (.tup [.int .i64 (Bh a v:Nat), .bool true],[])
 |[],pre,a,h,hd,hv=>by
  refine Cs s (a:Nat) (s.length:Nat) (pre.length:Nat) ?_
  have h1:¬((pre.length:Int)<((s.length:Nat):Int)):=by rw[h];simp
  have h2:¬(((a:Nat):Int)>4294967295):=by have:a≤4294967295:=hv;omega
  simp only[sO,h1,h2,decide_false,Bool.false_eq_true,if_false]
  exact aM _
 |d::v,pre,a,h,hd,hv=>by
  refine Cs s (a:Nat) (s.length:Nat) (pre.length:Nat) ?_
  have hl:s.length=pre.length+(v.length+1):=by rw[h];simp
  have h1:((pre.length:Int)<((s.length:Nat):Int)):=by omega
  have h2:(0:Int)≤(pre.length:Nat):=by omega
  have g:List.getD s pre.length 0=d:=by rw[h];exact iL _ _ _
  obtain⟨d1,d2⟩:=hd d (by simp)
  have e1:¬(((d.toNat:Nat):Int)<48):=by omega
  have e2:¬(((d.toNat:Nat):Int)>57):=by omega
  have hge:=Az v (10*a+(d.toNat - 48))
  have hv' :Bh (10*a+(d.toNat - 48)) v≤4294967295:=hv
  have w1:IntKind.wrap .i64 ((10:Int)* ((a:Nat):Int))=10* (a:Int):=wrap64 (by omega) (by omega)
  have w2:IntKind.wrap .u8 (((d.toNat:Nat):Int) - 48)=((d.toNat:Nat):Int) - 48:=F5 (by omega) (by omega)
  have w3:IntKind.wrap .i64 (((d.toNat:Nat):Int) - 48)=((d.toNat:Nat):Int) - 48:=wrap64 (by omega) (by omega)
  have w4:IntKind.wrap .i64 (10* (a:Int)+(((d.toNat:Nat):Int) - 48))=((10*a+(d.toNat - 48):Nat):Int):=by rw[wrap64 (by omega) (by omega)];omega
  have ih:=AA s hs v (pre++[d]) (10*a+(d.toNat - 48)) (by rw[h];simp) (fun x hx=>hd x (by simp[hx])) hv'
  have e3:(pre++[d]).length=pre.length+1:=by simp
  rw[e3]at ih
  simp only[sO,h1,decide_true,if_true,aW h2,lU,Int.toNat_natCast,g,e1,e2,decide_false,w1,w2,w3,w4,wr1 (show pre.length≤1000000000000000 by omega)]
  refine fE (v:=false) rfl ?_
  simp only[Bool.false_eq_true,if_false]
  exact ih
theorem EY (n:Nat) (hn:n≤4294967295):Ret 149 [.str (bT n)] [] (.tup [.int .i64 (n:Nat), .bool true],[]):=by
 refine Hm (bT n) ?_
 simp only[Cr]
 have hl:=yA 10 n (by omega) (by have:(10:Nat) ^ 10=10000000000:=rfl;omega)
 have hne:=vQ n
 have hl1:1≤(bT n).length:=by cases hd:bT n with|nil=>exact absurd hd hne|cons c q=>simp
 have h1:¬((((bT n).length:Nat):Int)<1):=by omega
 have h2:¬((((bT n).length:Nat):Int)>10):=by omega
 have h3:(0:Int)<(((bT n).length:Nat):Int):=by omega
 have hv:Bh 0 (bT n)=n:=A9 n
 have lp:=AA (bT n) hl (bT n) [] 0 rfl (Aa n) (by rw[hv];exact hn)
 rw[hv]at lp
 refine fE (v:=false) ?_ ?_
 ·simp only[h1,h2,decide_false,if_true,aW h3,aW (show(0:Int)≤0 by omega)]
  by_cases hb:n<10
  ·rw[dG hb];rfl
  ·have:=Bi n (by omega)
   have e:(((((bT n).getD 0 0).toNat:Nat):Int)==(48:Int))=false:=(jR _ 48 (by omega)).trans (by simpa using this)
   split
   ·exact congrArg some e
   ·rfl
 ·simp only[Bool.false_eq_true,if_false]
  exact lp
end Go.Proofs.YtdoaoaicdimbeaaGreatDoor
end
section
namespace Go.Proofs.YtdoaoaicdimbeaaGreatDoor
open Go.Ev Go
theorem eqI (c:UInt8) (n:Nat) (hn:n<256) (h:c≠UInt8.ofNat n):(((c.toNat:Nat):Int)==(n:Int))=false:=(jR c n hn).trans (by simpa using h)
theorem Cx {s:Bs} {p:UInt8} (h:∀q,s≠p::q):hpB s [p]=false:=by
 unfold hpB
 split
 ·cases s with
  |nil=>exact uF (by simp)
  |cons c q=>exact uF (by
    intro e
    simp only[List.length_cons,List.length_nil,Nat.zero_add,List.take_succ_cons,List.take_zero,List.cons.injEq,and_true]at e
    exact h q (by rw[e]))
 ·rfl
theorem DI (c:UInt8) (q:Bs) (h1:c≠126) (h2:c≠123):Ret 125 [.str (c::q)] [] (.tup [.int .i64 0, .int .i64 0, .bool false],[]):=by
 refine Gq (c::q) ?_
 simp only[Bb]
 refine aL (Ay (c::q) (Cx fun q' e=>h1 (List.cons.inj e).1)) ?_
 have e0:sEq (c::q) []=false:=uF (by simp)
 have h3:((0:Int)<((List.length (c::q):Nat):Int)):=by rw[List.length_cons];omega
 have g:List.getD (c::q) (Int.toNat 0) 0=c:=rfl
 have e:(((c.toNat:Nat):Int) != (123:Int))=true:=by
  have h:(((c.toNat:Nat):Int)==(123:Int))=false:=eqI c 123 (by omega) h2
  show(!(((c.toNat:Nat):Int)==(123:Int)))=true
  rw[h];rfl
 dsimp+instances only[cT]
 simp only[e0,if_true,aW (show(0:Int)≤0 by omega),aW h3,g,e]
 refine fE (v:=true) rfl ?_
 simp only[if_true]
 exact aM _
theorem Ab (c:UInt8) (q:Bs) (h1:c≠126) (h2:c≠123):Ret 92 [.str (c::q)] [] (.tup [.str [], .str [], .bool false],[]):=by
 refine M92 (c::q) ?_
 simp only[T92]
 refine aL (DI c q h1 h2) ?_
 have e:((0:Int)==0)=true:=rfl
 simp only[eD,List.headD_cons,fD,e,if_true]
 exact aM _
theorem EZ (ds:Bs) (q:Bs) (hd:∀d∈ds,isD d):Lib.indexByte (123::(ds++125::q)) 125=((ds.length+1:Nat):Int):=by
 have key:∀(ds:Bs),(∀d∈ds,isD d)→Lib.indexByte (ds++125::q) 125=(ds.length:Int):=by
  intro ds
  induction ds with
  |nil=>intro _;simp[Lib.indexByte]
  |cons d ds ih=>
   intro hd
   have hne:d≠125:=fun e=>by
    have:=(hd d (by simp)).2
    rw[e]at this
    exact absurd this (by decide)
   have:=ih fun x hx=>hd x (by simp[hx])
   have hm:(((ds.length:Nat):Int)== -1)=false:=by simp
   rw[List.cons_append,Lib.indexByte,if_neg (by simpa using hne),this,hm]
   simp
 have hm:(((ds.length:Nat):Int)== -1)=false:=by simp
 rw[Lib.indexByte,if_neg (by decide),key ds hd,hm]
 simp
theorem Cy (u:Bs) (hu:u=[]∨u=[126]) (n:Nat) (hn:n≤4294967295) (q:Bs) (hq:q.length≤200000000000000):
  Ret 125 [.str (u++123::(bT n++125::q))] [] (.tup [.int .i64 ((u++123::(bT n++[125])).length:Nat), .int .i64 (n:Nat), .bool true],[]):=by
 have hdl:=yA 10 n (by omega) (by have:(10:Nat) ^ 10=10000000000:=rfl;omega)
 refine Gq (u++123::(bT n++125::q)) ?_
 simp only[Bb]
 have ht:Ret 147 [.str (u++123::(bT n++125::q)), .str [126]] [] (.str (123::(bT n++125::q)),[]):=by
  rcases hu with rfl|rfl
  ·exact Ay _ (Cx fun q' e=>by simp at e)
  ·exact Cv _
 refine aL ht ?_
 generalize hT:(123::(bT n++125::q):Bs)=T
 have e0:sEq T []=false:=uF (by rw[←hT];simp)
 have hTl:T.length=(bT n).length+2+q.length:=by rw[←hT];simp;omega
 have h3:((0:Int)<((List.length T:Nat):Int)):=by omega
 have g:List.getD T (Int.toNat 0) 0=123:=by rw[←hT];rfl
 have e:((((123:UInt8).toNat:Nat):Int) != (123:Int))=false:=rfl
 dsimp+instances only[cT]
 simp only[e0,if_true,aW (show(0:Int)≤0 by omega),aW h3,g,e]
 refine fE (v:=false) rfl ?_
 simp only[Bool.false_eq_true,if_false]
 have hix:Ret 89 [.str T, .int .u8 125] [] (.int .i64 (((bT n).length+1:Nat):Int),[]):=by
  have:=Dc T 125
  rw[←hT,EZ (bT n) q (Aa n),hT]at this
  exact this
 refine aL hix ?_
 have h4:¬((((bT n).length+1:Nat):Int)<0):=by omega
 have h5:(0:Int)≤(((bT n).length+1:Nat):Int):=by omega
 have h6:(((bT n).length+1:Nat):Int)≤((T.length:Nat):Int):=by omega
 have h7:(1:Int)≤(((bT n).length+1:Nat):Int):=by omega
 have ed:List.drop (Int.toNat 1) (List.take ((bT n).length+1) T)=bT n:=by
  rw[←hT,List.take_succ_cons,List.take_left];rfl
 dsimp+instances only[fD]
 simp only[h4,decide_false,Bool.false_eq_true,if_false,aW h5,aW h6,aW (show(0:Int)≤1 by omega),aW h7,Int.toNat_natCast,ed]
 have hcs:Ret 148 [.str (bT n), .str [43]] [] (.tup [.str (bT n), .bool false],[]):=by
  have hne:=vQ n
  rcases List.eq_nil_or_concat (bT n)with h|⟨v,c,h⟩
  ·exact absurd h hne
  ·have hc:isD c:=Aa n c (by rw[h];simp)
   have:c≠43:=fun e=>by
    have:=hc.1
    rw[e]at this
    exact absurd this (by decide)
   have hv:v.length≤1000000:=by
    have:=congrArg List.length h
    simp at this;omega
   rw[h]
   simpa using DG v c this hv
 refine aL hcs ?_
 simp only[eD,List.headD_cons,List.tail_cons,cT,bS,Bool.not_false]
 refine aL (EY n hn) ?_
 have hul:u.length≤1:=by rcases hu with rfl|rfl<;>simp
 have hS:(u++123::(bT n++125::q)).length=u.length+T.length:=by rw[hT,List.length_append]
 have w1:IntKind.wrap .i64 ((((u++T).length:Nat):Int) - ((T.length:Nat):Int))=((u.length:Nat):Int):=by rw[List.length_append,wrap64 (by omega) (by omega)];omega
 have w2:IntKind.wrap .i64 (((u.length:Nat):Int)+(((bT n).length+1:Nat):Int))=((u.length+(bT n).length+1:Nat):Int):=by rw[wrap64 (by omega) (by omega)];omega
 have hE:(u++123::(bT n++[125])).length=u.length+(bT n).length+1+1:=by simp;omega
 rw[hT]at hS
 rw[hE]
 simp only[eD,List.headD_cons,List.tail_cons,bS,fD,Bool.not_true,Bool.false_eq_true,if_false,w1,w2,wr1 (show u.length+(bT n).length+1≤1000000000000000 by omega)]
 exact aM _
theorem DJ (u:Bs) (hu:u=[]∨u=[126]) (s r:Bs) (hn:s.length≤4294967295) (hr:r.length≤100000000000000):
  Ret 92 [.str ((u++jT s)++r)] [] (.tup [.str s, .str r, .bool true],[]):=by
 have hh:=Cy u hu s.length hn (13::10::(s++r)) (by simp;omega)
 have eS:(u++jT s)++r=u++123::(bT s.length++125::(13::10::(s++r))):=by simp[jT]
 have eS2:(u++jT s)++r=(u++123::(bT s.length++[125]))++([13,10]++(s++r)):=by simp[jT]
 rw[←eS]at hh
 generalize(u++jT s)++r=S at*
 generalize hP:u++123::(bT s.length++[125])=P at*
 have hPl:0<P.length:=by rw[←hP];simp;omega
 refine M92 S ?_
 simp only[T92]
 refine aL hh ?_
 have e1:(((P.length:Nat):Int)==0)=false:=by
  have:¬(((P.length:Nat):Int)=0):=by omega
  simpa using this
 have h1:(0:Int)≤((P.length:Nat):Int):=by omega
 have h2:((P.length:Nat):Int)≤((S.length:Nat):Int):=by rw[eS2,List.length_append];omega
 have ed:List.drop P.length S=[13,10]++(s++r):=by rw[eS2,List.drop_left]
 have h3:¬((((s++r).length:Nat):Int)<((s.length:Nat):Int)):=by rw[List.length_append];omega
 have h4:(0:Int)≤((s.length:Nat):Int):=by omega
 have h5:((s.length:Nat):Int)≤(((s++r).length:Nat):Int):=by rw[List.length_append];omega
 dsimp+instances only[eD,List.headD_cons,List.tail_cons,fD]
 simp only[e1,Bool.false_eq_true,if_false,aW h1,aW h2,Int.toNat_natCast,ed]
 refine aL (Cw [13,10] (s++r)) ?_
 dsimp+instances only[eD,List.headD_cons,List.tail_cons,bS,cT]
 simp only[Bool.not_true,if_true,h3,decide_false]
 refine fE (v:=false) rfl ?_
 simp only[Bool.false_eq_true,if_false,aW h4,aW h5,aW (show(0:Int)≤0 by omega),Int.toNat_natCast,List.take_left,List.drop_left]
 exact aM _
theorem yB (u:Bs) (hu:u=[]∨u=[126]) (s r:Bs) (hn:s.length≤4294967295) (hr:r.length≤100000000000000):pV ((u++jT s)++r) (2,s) r:=by
 have hl:=DJ u hu s r hn hr
 obtain⟨c,q,hS,hc⟩:∃c q,(u++jT s)++r=c::q∧(c=123∨c=126):=by
  rcases hu with rfl|rfl
  ·exact⟨123,_,rfl,Or.inl rfl⟩
  ·exact⟨126,_,rfl,Or.inr rfl⟩
 rw[hS]at hl ⊢
 refine M51 (c::q) ?_
 have h1:((0:Int)<((List.length (c::q):Nat):Int)):=by rw[List.length_cons];omega
 have g:List.getD (c::q) (Int.toNat 0) 0=c:=rfl
 have e:(((c.toNat:Nat):Int)==(40:Int))=false∧(((c.toNat:Nat):Int)==(41:Int))=false∧(((c.toNat:Nat):Int)==(32:Int))=false∧(((c.toNat:Nat):Int)==(34:Int))=false:=by
  rcases hc with rfl|rfl<;>exact⟨rfl,rfl,rfl,rfl⟩
 simp only[T51,aW h1,g,e,Bool.false_eq_true,if_false,aW (show(0:Int)≤0 by omega)]
 refine aL hl ?_
 simp only[eD,List.headD_cons,List.tail_cons,bS,cT,if_true]
 exact aM _
theorem Cz (s r:Bs) (hs:s.length≤1000000) (hr:(dY s++r).length≤200000000000000):pV (dY s++r) (2,s) r:=by
 have hq:=Gv s r hs hr
 obtain⟨q,hS⟩:∃q,dY s++r=34::q:=⟨_,rfl⟩
 rw[hS]at hq ⊢
 refine M51 (34::q) ?_
 have h1:((0:Int)<((List.length ((34:UInt8)::q):Nat):Int)):=by rw[List.length_cons];omega
 have g:List.getD ((34:UInt8)::q) (Int.toNat 0) 0=34:=rfl
 have e:((((34:UInt8).toNat:Nat):Int)==(40:Int))=false∧((((34:UInt8).toNat:Nat):Int)==(41:Int))=false∧((((34:UInt8).toNat:Nat):Int)==(32:Int))=false∧((((34:UInt8).toNat:Nat):Int)==(34:Int))=true:=⟨rfl,rfl,rfl,rfl⟩
 simp only[T51,aW h1,g,e,Bool.false_eq_true,if_false,if_true,aW (show(0:Int)≤0 by omega)]
 refine aL hq ?_
 simp only[eD,List.headD_cons,List.tail_cons,bS,cT]
 exact aM _
def Bj (c:UInt8):Bool:=decide (32<c.toNat)&&decide (c.toNat<127)&&c != 40&&c != 41&&c != 34&&c != 123&&c != 126&&c != 91
theorem CB {c:UInt8} (h:Bj c=true):32<c.toNat∧c.toNat<127∧c≠40∧c≠41∧c≠34∧c≠123∧c≠126∧c≠91:=by
 simpa[Bj,and_assoc]using h
theorem CC (r S:Bs) (hr:Dl r) (hS:S.length≤200000000000000):∀(v pre:Bs),S=pre++(v++r)→v.all Bj=true→
  Evt (fun k j=>L93 (aB cfg k) j S (pre.length:Nat)) (.int .i64 ((pre.length+v.length:Nat):Int),[])
 |[],pre,h,_=>by
  rw[List.nil_append]at h
  refine El S (pre.length:Nat) ?_
  rcases hr with rfl|⟨c,q,rfl,hc⟩
  ·have h1:¬((pre.length:Int)<((S.length:Nat):Int)):=by rw[h];simp
   simp only[uM,h1,decide_false,Bool.false_eq_true,if_false]
   exact aM _
  ·have hl:pre.length+1≤S.length:=by rw[h];simp
   have h1:((pre.length:Int)<((S.length:Nat):Int)):=by omega
   have h2:(0:Int)≤(pre.length:Nat):=by omega
   have g:List.getD S pre.length 0=c:=by rw[h];exact iL _ _ _
   simp only[uM,h1,decide_true,if_true,aW h2,lU,Int.toNat_natCast,g]
   refine fE (v:=true) ?_ ?_
   ·rcases hc with rfl|rfl|rfl<;>rfl
   ·simp only[if_true]
    exact aM _
 |c::v,pre,h,hv=>by
  rw[List.all_cons,Bool.and_eq_true]at hv
  obtain⟨p1,p2,p3,p4,p5,p6,p7,p8⟩:=CB hv.1
  refine El S (pre.length:Nat) ?_
  have hl:pre.length+1≤S.length:=by rw[h];simp
  have h1:((pre.length:Int)<((S.length:Nat):Int)):=by omega
  have h2:(0:Int)≤(pre.length:Nat):=by omega
  have g:List.getD S pre.length 0=c:=by rw[h];exact iL _ _ _
  have e1:¬(((c.toNat:Nat):Int)≤32):=by omega
  have e2:¬(((c.toNat:Nat):Int)≥127):=by omega
  have e3:(((c.toNat:Nat):Int)==(40:Int))=false:=eqI c 40 (by omega) p3
  have e4:(((c.toNat:Nat):Int)==(41:Int))=false:=eqI c 41 (by omega) p4
  have e5:(((c.toNat:Nat):Int)==(34:Int))=false:=eqI c 34 (by omega) p5
  have e6:(((c.toNat:Nat):Int)==(123:Int))=false:=eqI c 123 (by omega) p6
  have e7:(((c.toNat:Nat):Int)==(126:Int))=false:=eqI c 126 (by omega) p7
  have e8:(((c.toNat:Nat):Int)==(91:Int))=false:=eqI c 91 (by omega) p8
  have ih:=CC r S hr hS v (pre++[c]) (by rw[h];simp) hv.2
  have e9:(pre++[c]).length=pre.length+1:=by simp
  have e10:pre.length+(c::v).length=pre.length+1+v.length:=by rw[List.length_cons];omega
  rw[e9]at ih
  rw[e10]
  simp only[uM,h1,decide_true,if_true,aW h2,lU,Int.toNat_natCast,g,e1,e2,e3,e4,e5,e6,e7,e8,decide_false,Bool.false_eq_true,if_false,vM,wr1 (show pre.length≤1000000000000000 by omega)]
  exact ih
theorem Bl (v r:Bs) (h0:v≠[]) (hv:v.all Bj=true) (hr:Dl r) (hl:(v++r).length≤200000000000000):pV (v++r) (1,v) r:=by
 have hw:Ret 93 [.str (v++r)] [] (.int .i64 (v.length:Nat),[]):=by
  refine M93 (v++r) ?_
  simp only[T93]
  have:=CC r (v++r) hr hl v [] rfl hv
  rw[List.length_nil,Nat.zero_add]at this
  exact this
 obtain⟨c,q,hS,hc⟩:∃c q,v++r=c::q∧Bj c=true:=by
  cases v with
  |nil=>exact absurd rfl h0
  |cons c q=>rw[List.all_cons,Bool.and_eq_true]at hv;exact⟨c,q++r,rfl,hv.1⟩
 obtain⟨p1,p2,p3,p4,p5,p6,p7,p8⟩:=CB hc
 have e3:(((c.toNat:Nat):Int)==(40:Int))=false:=eqI c 40 (by omega) p3
 have e4:(((c.toNat:Nat):Int)==(41:Int))=false:=eqI c 41 (by omega) p4
 have e5:(((c.toNat:Nat):Int)==(34:Int))=false:=eqI c 34 (by omega) p5
 have e6:(((c.toNat:Nat):Int)==(32:Int))=false:=eqI c 32 (by omega) fun e=>by rw[e]at p1;exact absurd p1 (by decide)
 have hno:=Ab c q p7 p6
 have hvl:0<v.length:=by cases v with|nil=>exact absurd rfl h0|cons c q=>simp
 have t1:List.take v.length (c::q)=v:=by rw[←hS,List.take_left]
 have t2:List.drop v.length (c::q)=r:=by rw[←hS,List.drop_left]
 have h2:(0:Int)≤((v.length:Nat):Int):=by omega
 have h3:((v.length:Nat):Int)≤(((c::q).length:Nat):Int):=by rw[←hS,List.length_append];omega
 have h4:((v.length:Nat):Int)>0:=by omega
 rw[hS]at hw ⊢
 refine M51 (c::q) ?_
 have h1:((0:Int)<((List.length (c::q):Nat):Int)):=by rw[List.length_cons];omega
 have g:List.getD (c::q) (Int.toNat 0) 0=c:=rfl
 simp only[T51,aW h1,g,e3,e4,e5,e6,Bool.false_eq_true,if_false,aW (show(0:Int)≤0 by omega)]
 refine aL hno ?_
 simp only[eD,List.headD_cons,List.tail_cons,bS,Bool.false_eq_true,if_false]
 refine aL hw ?_
 dsimp+instances only[fD]
 simp only[aW h2,aW h3,aW (show(0:Int)≤0 by omega),Int.toNat_natCast,t1,t2,h4,decide_true]
 exact aM _
theorem DK {v:Bs} (h0:v≠[]) (hv:v.all Bj=true):Tx 1 1 v:=Ct (n:=1) (s:=v) (Or.inl rfl) (qU h0 fun r hr hl=>Bl v r h0 hv hr (by rw[List.length_append];omega))
theorem vR:Tx 1 1 oK:=DK (by decide) (by decide)
theorem AB (u s:Bs):u++jT s≠[]:=by simp[jT]
theorem Ac (s:Bs) (hs:s.length≤4294967295):Tx 1 1 (vN s):=by
 refine Ct (n:=2) (s:=s) (Or.inr rfl) ?_
 unfold vN
 split
 ·rename_i h
  refine qU (by simp[dY]) fun r hr hl=>Cz s r (by omega) (by rw[List.length_append];omega)
 ·split
  ·refine qU (AB [] s) fun r hr hl=>yB [] (Or.inl rfl) s r hs (by omega)
  ·refine qU (AB [126] s) fun r hr hl=>yB [126] (Or.inr rfl) s r hs (by omega)
theorem oN (s:Bs) (is:Bool) (hs:s.length≤4294967295):Tx 1 1 (nB s is):=by
 unfold nB
 split
 ·exact Ac s hs
 ·exact vR
theorem E0 {s:Bs} {ts:List Tkn} (h:Tks s ts):∀(out:List V),out.length+ts.length≤1000000000000→
  Evt (fun k j=>L25 (aB cfg k) j out s) (.tup [.lst 68 false (out++ts.map tkV), .int .i64 0],[]):=by
 induction h with
 |nil=>
  intro out ho
  refine Ej out [] ?_
  simp only[xZ,Gi rfl,Bool.not_true,Bool.false_eq_true,if_false,List.map_nil,List.append_nil]
  exact aM _
 |cons h0 h hr ih=>
  rename_i s r t ts
  intro out ho
  rw[List.length_cons]at ho
  refine Ej out s ?_
  have e0:sEq s []=false:=uF h0
  have ap:cK out [tkV t] 25=true:=lV (by simp only[List.length_cons,List.length_nil];omega)
  have:=ih (out++[tkV t]) (by simp only[List.length_append,List.length_cons,List.length_nil];omega)
  rw[List.append_assoc,List.singleton_append]at this
  simp only[xZ,e0,Bool.not_false,if_true]
  refine aL h ?_
  simp only[eD,List.headD_cons,List.tail_cons,bS,Bool.not_true,Bool.false_eq_true,if_false,cT]
  show Evt (fun k j=>chk (cK out [tkV t] 25) (L25 (aB cfg k) j (out++[tkV t]) r)) _
  simp only[eQ ap]
  exact this
theorem Gw {s:Bs} {ts:List Tkn} (h:Tks s ts) (hn:ts.length≤1000000000000):Ret 25 [.lst 5 false (ofBytes s)] [] (.tup [.lst 68 false (ts.map tkV), .int .i64 0],[]):=by
 refine M25 (ofBytes s) ?_
 simp only[T25,eG]
 exact E0 h [] (by simpa using hn)
theorem CE {k n:Nat} {x:Bs} (h:Tx k n x) (hl:x.length≤99999999999900):∃ts,Sq k ts∧ts.length≤n∧Tks (([40]++x)++[41]) ((3,[])::(ts++[(4,[])])):=by
 obtain⟨ts,h1,h2,h3⟩:=h
 refine⟨ts,h1,h2,?_⟩
 have e:([40]++x)++[41]=40::(x++[41]):=by simp
 rw[e]
 refine .cons (by simp) (jU 40 3 (by simp) _) (h3 _ _ (Dx _ (by simp)) (by simp only[List.length_cons,List.length_nil];omega) ?_)
 exact .cons (by simp) (jU 41 4 (by simp) _) .nil
end Go.Proofs.YtdoaoaicdimbeaaGreatDoor
end
section
namespace Go.Proofs.YtdoaoaicdimbeaaGreatDoor
open Go.Ev Go
theorem yC (s:Bs) (hs:s.length≤4294967295):Tx 1 1 (sM s):=oN s _ hs
theorem Bm (l:List Bs):∃q,zU l=40::q:=⟨_,rfl⟩
theorem DL (a:Ad) (ha:aw1 a≤4294967295):Tx 1 10 (qQ a):=by
 have hs:a.2.1.length≤4294967295∧a.2.2.1.length≤4294967295∧a.2.2.2.length≤4294967295:=by unfold aw1 at ha;omega
 have key:∀x∈sN a,Tx 1 1 x:=by
  have t1:=yC a.2.1 hs.1
  have t2:=Ac a.2.2.1 hs.2.1
  have t3:=yC a.2.2.2 hs.2.2
  have t4:=Ac a.2.1 hs.1
  have t5:=vR
  intro x hx
  unfold sN at hx
  split at hx
  ·simp only[List.mem_cons,List.not_mem_nil,or_false]at hx
   rcases hx with rfl|rfl|rfl|rfl<;>assumption
  ·split at hx
   ·simp only[List.mem_cons,List.not_mem_nil,or_false]at hx
    rcases hx with rfl|rfl|rfl|rfl<;>assumption
   ·simp only[List.mem_cons,List.not_mem_nil,or_false]at hx
    rcases hx with rfl|rfl|rfl|rfl<;>assumption
 have:=DD (vP (sN a) key)
 rw[oL]at this
 exact this
theorem DN (o:List Ad) (ho:ow o≤4294967295):Tx 1 (10*o.length+2) (pT o):=by
 unfold pT
 split
 ·exact iT vR (by omega)
 ·have hm:∀x∈o.map qQ,Tx 1 10 x:=by
   intro x hx
   obtain⟨a,ha,rfl⟩:=List.mem_map.1 hx
   obtain⟨i,hi,rfl⟩:=List.mem_iff_getElem.1 ha
   exact DL _ (Nat.le_trans (Ci hi) ho)
  have hq:∀x∈o.map qQ,∃q,x=40::q:=by
   intro x hx
   obtain⟨a,ha,rfl⟩:=List.mem_map.1 hx
   exact Bm _
  have:=Cu (DF (vP _ hm) hq).1
  rw[List.length_map]at this
  have e:eR o=(o.map qQ).flatten:=rfl
  rw[e]
  exact iT this (by omega)
theorem DO (e:En) (m:Nat) (hd:e.d.length≤4294967295) (hs:e.s.length≤4294967295) (hr:e.r.length≤4294967295) (hi:e.i.length≤4294967295)
  (g0:ow e.l0≤m) (g1:ow e.l1≤m) (g2:ow e.l2≤m) (g3:ow e.l3≤m) (g4:ow e.l4≤m) (g5:ow e.l5≤m) (hm:m≤4294967295):TxL 10 (10* (10*m+2)) (enL e):=by
 have key:∀x∈enL e,Tx 1 (10*m+2) x:=by
  have q0:=iT (oN e.d e.h0 hd) (show 1≤10*m+2 by omega)
  have q1:=iT (oN e.s e.h1 hs) (show 1≤10*m+2 by omega)
  have q2:=iT (oN e.r e.h2 hr) (show 1≤10*m+2 by omega)
  have q3:=iT (oN e.i e.h3 hi) (show 1≤10*m+2 by omega)
  have ls:∀o:List Ad,ow o≤m→Tx 1 (10*m+2) (pT o):=fun o h=>iT (DN o (by omega)) (by have:=zV o;omega)
  have p0:=ls e.l0 g0
  have p1:=ls e.l1 g1
  have p2:=ls e.l2 g2
  have p3:=ls e.l3 g3
  have p4:=ls e.l4 g4
  have p5:=ls e.l5 g5
  intro x hx
  simp only[enL,List.mem_cons,List.not_mem_nil,or_false]at hx
  rcases hx with rfl|rfl|rfl|rfl|rfl|rfl|rfl|rfl|rfl|rfl<;>assumption
 exact vP (enL e) key
end Go.Proofs.YtdoaoaicdimbeaaGreatDoor
end
section
namespace Go.Proofs.YtdoaoaicdimbeaaGreatDoor
open Go.Ev Go
theorem DR (pre:List Tkn) (t:Tkn) (ts:List Tkn):List.getD ((pre++t::ts).map tkV) pre.length V.bot=tkV t:=by
 have:pre.length=(pre.map tkV).length:=by simp
 rw[List.map_append,List.map_cons,this]
 simp[List.getD]
theorem DT (e:Nat) (i n:Nat) (h:e=0→n≤i+1) (hn:1≤n) (hn2:n≤1000000000000):
  (if(decide (((e:Nat):Int)<(0:Int)))=false then
    if(((e:Nat):Int)==(0:Int))=true then some (decide (((i:Nat):Int)<(IntKind.wrap IntKind.i64 (((n:Nat):Int) - (1:Int)))))else some false
   else some true)=some false:=by
 have h1:¬(((e:Nat):Int)<0):=by omega
 have hw:IntKind.wrap .i64 (((n:Nat):Int) - 1)=((n - 1:Nat):Int):=by rw[wrap64 (by omega) (by omega)];omega
 simp only[h1,decide_false,if_true,hw]
 by_cases h0:e=0
 ·have:=h h0
  have h2:¬(((i:Nat):Int)<((n - 1:Nat):Int)):=by omega
  simp only[h2,decide_false,ite_self]
 ·have h2:(((e:Nat):Int)==0)=false:=by
   have:¬((e:Nat):Int)=0:=by omega
   simpa using this
  simp only[h2,Bool.false_eq_true,if_false]
end Go.Proofs.YtdoaoaicdimbeaaGreatDoor
end
section
namespace Go.Proofs.YtdoaoaicdimbeaaGreatDoor
open Go.Ev Go
structure CG (e:En):Prop where
 d:e.d.length≤10000000
 s:e.s.length≤10000000
 r:e.r.length≤10000000
 i:e.i.length≤10000000
 l0:ow e.l0≤10000000
 l1:ow e.l1≤10000000
 l2:ow e.l2≤10000000
 l3:ow e.l3≤10000000
 l4:ow e.l4≤10000000
 l5:ow e.l5≤10000000
theorem E1 (pre:List Tkn) (t:Tkn) (ts:List Tkn):etK ((pre++t::ts).map tkV) ((pre.length:Nat):Int)=((t.1:Nat):Int):=by
 unfold etK
 rw[Int.toNat_natCast,DR]
 rfl
theorem eqN (a b:Nat) (h:a≠b):(((a:Nat):Int)==((b:Nat):Int))=false:=by
 have:¬(((a:Nat):Int)=((b:Nat):Int)):=by omega
 simpa using this
theorem DU (d n:Nat) (j m:Int) (h1:0≤j) (h2:j<m):
  (if(((d:Nat):Int)==(1:Int))=true then
    chk (decide (0≤j)) (chk (decide (j<m)) (if(((n:Nat):Int)==(1:Int))=false then
     chk (decide (0≤j)) (chk (decide (j<m)) (if(((n:Nat):Int)==(2:Int))=false then
      chk (decide (0≤j)) (chk (decide (j<m)) (some (((n:Nat):Int)==(3:Int))))
     else some true))
    else some true))
   else some false)=some (decide (d=1∧(n=1∨n=2∨n=3))):=by
 simp only[aW h1,aW h2]
 by_cases hd:d=1
 ·subst hd
  have e:(((1:Nat):Int)==1)=true:=rfl
  simp only[e,if_true,true_and]
  by_cases n1:n=1
  ·subst n1;rfl
  ·have e1:(((n:Nat):Int)==1)=false:=eqN n 1 n1
   by_cases n2:n=2
   ·subst n2;rfl
   ·have e2:(((n:Nat):Int)==2)=false:=eqN n 2 n2
    by_cases n3:n=3
    ·subst n3;rfl
    ·have e3:(((n:Nat):Int)==3)=false:=eqN n 3 n3
     simp only[e1,e2,e3,if_true,n1,n2,n3,or_self,decide_false]
 ·have e:(((d:Nat):Int)==1)=false:=eqN d 1 hd
  simp only[e,Bool.false_eq_true,if_false,hd,false_and,decide_false]
theorem Em (L:List Tkn) (hL2:L.length≤1000000000000):∀(ts pre:List Tkn) (d p:Nat),L=pre++ts→d≤pre.length→p≤pre.length→run d p ts=some (0,10)→
  Evt (fun _ j=>L9 j (L.map tkV) (d:Nat) (p:Nat) (pre.length:Nat)) (.bool true,[])
 |[],pre,d,p,h,hd,hp,hr=>by
  refine N9 (L.map tkV) (d:Nat) (p:Nat) (pre.length:Nat) ?_
  have hl:pre.length=L.length:=by rw[h];simp
  have h1:¬((pre.length:Int)<(L.length:Int)):=by omega
  rw[run]at hr
  cases hr
  have e:(((0:Nat):Int)==0)=true:=rfl
  have e2:(((10:Nat):Int)==10)=true:=rfl
  simp only[etT,List.length_map,h1,decide_false,Bool.false_eq_true,if_false,e,e2,if_true]
  exact aM _
 |t::ts,pre,d,p,h,hd,hp,hr=>by
  have hl:L.length=pre.length+(ts.length+1):=by rw[h];simp
  have h1:((pre.length:Int)<(L.length:Int)):=by omega
  have h2:(0:Int)≤(pre.length:Nat):=by omega
  have g:etK (L.map tkV) ((pre.length:Nat):Int)=((t.1:Nat):Int):=by rw[h];exact E1 _ _ _
  have hp1:(pre++[t]).length=pre.length+1:=by simp
  rw[run]at hr
  cases hdn:dn d t.1 with
  |none=>rw[hdn]at hr;cases hr
  |some e=>
   rw[hdn]at hr
   by_cases hc:e=0∧ts≠[]
   ·simp only[if_pos hc]at hr;cases hr
   ·simp only[if_neg hc]at hr
    have hde:e≤pre.length+1:=by
     unfold dn at hdn
     split at hdn
     ·cases hdn;omega
     ·split at hdn
      ·split at hdn
       ·cases hdn
       ·cases hdn;omega
      ·cases hdn;omega
    have hlast:e=0→L.length≤pre.length+1:=fun h0=>by
     have:ts=[]:=Classical.byContradiction fun hn=>hc ⟨h0,hn⟩
     rw[this]at hl;simp at hl;omega
    have dt:=DT e pre.length L.length hlast (by omega) hL2
    have ih:=Em L hL2 ts (pre++[t]) e _ (by rw[h];simp) (by rw[hp1];exact hde) (by rw[hp1];split<;>omega) hr
    rw[hp1]at ih
    have key:∀q:Nat,Evt (fun _ j=>L9 j (L.map tkV) (e:Nat) (q:Nat) ((pre.length+1:Nat):Int)) (.bool true,[])→
      Evt (fun _ n=>etO (L9 n) (L.map tkV) (d:Nat) (q:Nat) (pre.length:Nat)) (.bool true,[]):=by
     intro q ih
     have fin:Evt (fun _ n=>etL (L9 n) (L.map tkV) (e:Nat) (q:Nat) (pre.length:Nat)) (.bool true,[]):=by
      simp only[etL,List.length_map,wr1 (show pre.length≤1000000000000000 by omega)]
      refine fE (v:=false) dt ?_
      simp only[Bool.false_eq_true,if_false]
      exact ih
     simp only[etO,etM,List.length_map,aW h1,aW h2,g,wr1 (show d≤1000000000000000 by omega)]
     unfold dn at hdn
     by_cases h3:t.1=3
     ·rw[if_pos h3]at hdn
      cases hdn
      have z3:(((t.1:Nat):Int)==3)=true:=by rw[h3];rfl
      have z4:(((t.1:Nat):Int)==4)=false:=by rw[h3];rfl
      simp only[z3,z4,if_true,Bool.false_eq_true,if_false]
      exact fin
     ·rw[if_neg h3]at hdn
      have z3:(((t.1:Nat):Int)==3)=false:=eqN _ 3 h3
      by_cases h4:t.1=4
      ·rw[if_pos h4]at hdn
       split at hdn
       ·cases hdn
       ·cases hdn
        have z4:(((t.1:Nat):Int)==4)=true:=by rw[h4];rfl
        have hw:IntKind.wrap .i64 (((d:Nat):Int) - 1)=((d - 1:Nat):Int):=by rw[wrap64 (by omega) (by omega)];omega
        simp only[z3,z4,if_true,Bool.false_eq_true,if_false,hw]
        exact fin
      ·rw[if_neg h4]at hdn
       cases hdn
       have z4:(((t.1:Nat):Int)==4)=false:=eqN _ 4 h4
       simp only[z3,z4,Bool.false_eq_true,if_false]
       exact fin
    refine N9 (L.map tkV) (d:Nat) (p:Nat) (pre.length:Nat) ?_
    simp only[etT,List.length_map,h1,decide_true,if_true,g]
    refine fE (v:=decide (d=1∧(t.1=1∨t.1=2∨t.1=3))) ?_ ?_
    ·have:=DU d t.1 (pre.length:Nat) (L.length:Nat) h2 h1
     simpa only[h1,decide_true]using this
    ·by_cases hq:d=1∧(t.1=1∨t.1=2∨t.1=3)
     ·rw[if_pos hq]at ih
      simp only[hq,and_self,decide_true,if_true,wr1 (show p≤1000000000000000 by omega)]
      have:=key (p+1) ih
      simpa only[hq]using this
     ·rw[if_neg hq]at ih
      simp only[hq,decide_false,Bool.false_eq_true,if_false]
      exact key p ih
theorem Hn (e:En) (h:CG e):Ret 9 [enV e] [] (.bool true,[]):=by
 obtain⟨hd,hs,hr,hi,g0,g1,g2,g3,g4,g5⟩:=h
 have hput:Ret 26 [V.agg (etC e.d e.s (e.l0.map adV) (e.l1.map adV) (e.l2.map adV) (e.l3.map adV) (e.l4.map adV) (e.l5.map adV) e.r e.i e.h0 e.h1 e.h2 e.h3)] [] (.str (ET e),[]):=
  Gm e (by omega) (by omega) (by omega) (by omega) (by omega) (by omega) (by omega) (by omega) (by omega) (by omega)
 have hl:=DO e 10000000 (by omega) (by omega) (by omega) (by omega) g0 g1 g2 g3 g4 g5 (by omega)
 have hj:=Ax hl
 have e10:(enL e).length=10:=rfl
 have hm:∀x∈enL e,x.length≤400000000:=by
  have q0:=fF e.d e.h0
  have q1:=fF e.s e.h1
  have q2:=fF e.r e.h2
  have q3:=fF e.i e.h3
  have p0:=eH e.l0
  have p1:=eH e.l1
  have p2:=eH e.l2
  have p3:=eH e.l3
  have p4:=eH e.l4
  have p5:=eH e.l5
  intro x hx
  simp only[enL,List.mem_cons,List.not_mem_nil,or_false]at hx
  rcases hx with rfl|rfl|rfl|rfl|rfl|rfl|rfl|rfl|rfl|rfl<;>omega
 have hjl:=qT _ _ hm
 rw[e10]at hjl
 obtain⟨ts,t1,t2,t3⟩:=CE hj (by omega)
 rw[e10]at t2
 have htk:=Gw t3 (by simp only[List.length_append,List.length_cons,List.length_nil];omega)
 have lp:=Em ((3,[])::(ts++[(4,[])])) (by simp only[List.length_append,List.length_cons,List.length_nil];omega) _ [] 0 0 rfl (Nat.le_refl _) (Nat.le_refl _) (Dw t1)
 refine M9 e.d e.s (e.l0.map adV) (e.l1.map adV) (e.l2.map adV) (e.l3.map adV) (e.l4.map adV) (e.l5.map adV) e.r e.i e.h0 e.h1 e.h2 e.h3 ?_
 simp only[etE]
 refine aL Gj ?_
 simp only[bS,Bool.not_true,Bool.false_eq_true,if_false,etP]
 generalize etN (e.l0.map adV) (e.l1.map adV) (e.l2.map adV) (e.l3.map adV) (e.l4.map adV) (e.l5.map adV)=n
 by_cases hn:n>30
 ·simp only[hn,decide_true,if_true]
  exact aM _
 ·simp only[hn,decide_false,Bool.false_eq_true,if_false]
  refine aL hput ?_
  simp only[cT]
  refine aL htk ?_
  have e:((0:Int) != 0)=false:=rfl
  simp only[eD,List.headD_cons,List.tail_cons,fD,Cf,e,Bool.false_eq_true,if_false]
  exact lp
end Go.Proofs.YtdoaoaicdimbeaaGreatDoor
end
section
namespace Go.Proofs.YtdoaoaicdimbeaaGreatDoor
open Go.ChangeShapes Go.WideShapes Go.ChangeAt Go.RowKit Go.Ev
end Go.Proofs.YtdoaoaicdimbeaaGreatDoor
end
section
namespace Go.Proofs.YtdoaoaicdimbeaaGreatDoor
open Go.ChangeShapes Go.WideShapes Go.ChangeAt Go.RowKit Go.Ev
theorem trod_back {H:Type} {enc:TypeId×Value→H} {W:World} {v:Value} {d:DataW H} {p:List MemPlace} {t:TypeId} (hr:Tryz.prog.readableRec t=true) (ht:t<Tryz.prog.types.size)
  (h:DataW.Trod enc Tryz.prog W 0 (fun _=>true) true t v d p):∀W',Kept W W'→∀sp:Nat→Bool,(∀x∈p,sp x.block=true)→DataW.Trod enc Tryz.prog W' 0 sp true t v d p:=by
 intro W' hk sp hsp
 have hl:laidOutB Tryz.prog=true:=by kernel_rfl
 refine Go.WideElems.Trod_stays hl hr ht h (fun x hx=>?_) hsp
 have hb:x.block<W.heap.size:=by
  obtain⟨n,hn⟩:=h
  exact DataW.trod_lt n _ _ _ hn x hx
 exact World.keptBut.sameAt (hk.but fun _=>False) hb (fun h=>h) (h.sound x hx)
theorem DV {P:Program} {w:World} {r:Reach} {base:Nat} {t e:TypeId} {a:Addr} {len cap:Nat} (ht:P.underlying t=some (.slice e)) (h:Cell.okWide P w r base t (.slice (some a) len cap)):a.block<w.heap.size:=by
 simp only[ht,Cell.okWide,Cell.ok]at h
 obtain⟨_,_,_,_,row,cells,hs,_⟩:=h
 unfold World.shape? at hs
 by_cases hb:a.block<w.heap.size
 ·exact hb
 ·rw[Array.getElem?_eq_none (by omega)]at hs
  simp at hs
def adX (a:Ad):Value:= .agg #[.int .i64 a.1, .string ⟨a.2.1.toArray⟩, .string ⟨a.2.2.1.toArray⟩, .string ⟨a.2.2.2.toArray⟩]
set_option maxRecDepth 100000 in
theorem E2 (w:World) (G:Gh) (a:Ad):Rep cfg w G [] (adV a) (adX a):=by
 refine Rep.agg _ [.int .i64 a.1, .string ⟨a.2.1.toArray⟩, .string ⟨a.2.2.1.toArray⟩, .string ⟨a.2.2.2.toArray⟩] rfl (fun x hx=>?_) (fun i v x hv hx=>?_)
 ·simp at hx
  rcases hx with rfl|rfl|rfl|rfl<;>rfl
 ·match i,hv,hx with
  |0,hv,hx=>simp at hv hx;subst hv;subst hx;exact .int _ _
  |1,hv,hx=>simp at hv hx;subst hv;subst hx;exact .str _
  |2,hv,hx=>simp at hv hx;subst hv;subst hx;exact .str _
  |3,hv,hx=>simp at hv hx;subst hv;subst hx;exact .str _
theorem cellsA:Tryz.prog.cellsOf 26=4:=by kernel_rfl
theorem DW:Tryz.prog.cellsOf 3=1:=by kernel_rfl
theorem AC:Tryz.prog.cellsOf 9=1:=by kernel_rfl
theorem CH:aC cfg 26=4:=by kernel_rfl
theorem Gx (a:Ad):bM cfg 26 (adV a)=true:=by kernel_rfl
theorem yD {P:Nat→Value→Prop}:∀(l:List Value) (m off:Nat),(∀x∈l,x.cells.size=m)→(∀(i:Nat) x,l[i]? =some x→∀(k:Nat) y,x.cells[k]? =some y→P (off+m*i+k) y)→
  ∀(j:Nat) y,(flat l)[j]? =some y→P (off+j) y
 |[],_,_,_,_,j,y,h=>by simp[flat]at h
 |x::r,m,off,hs,hp,j,y,h=>by
  have hx:x.cells.size=m:=hs x (by simp)
  have e:flat (x::r)=x.cells.toList++flat r:=by simp[flat]
  rw[e]at h
  by_cases hj:j<m
  ·rw[List.getElem?_append_left (by simpa[hx]using hj)]at h
   have:=hp 0 x (by simp) j y (by simpa using h)
   simpa using this
  ·rw[List.getElem?_append_right (by simp[hx];omega)]at h
   have ih:=yD r m (off+m) (fun z hz=>hs z (by simp[hz])) (fun i z hz k y' hy=>by
    have:=hp (i+1) z (by simpa using hz) k y' hy
    rw[show off+m+m*i+k=off+m* (i+1)+k by rw[Nat.mul_add];omega]
    exact this) (j - m) y (by simpa[hx]using h)
   rw[show off+m+(j - m)=off+j by omega]at ih
   exact ih
def adD {H:Type} (a:Ad):DataW H:= .agg [.lit (.int .i64 a.1), .lit (.string a.2.1), .lit (.string a.2.2.1), .lit (.string a.2.2.2)]
set_option maxRecDepth 100000 in
theorem DX {H:Type} {enc:TypeId×Value→H} {w:World} {base n:Nat} {spare:Nat→Bool} {held:Bool} {cs:List Value} {y:DataW H×List MemPlace} (h:DataW.trod enc Tryz.prog w base spare held n 26 cs=some y):
  ∃a:Ad,cs=(adX a).cells.toList∧y.1=adD a:=by
 obtain⟨xs,m,_,rfl,hlen,hxl,hf⟩:=DataW.trod_struct Tryz.underlying26 h
 rw[cellsA]at hlen
 obtain⟨c0,c1,c2,c3,rfl⟩:∃c0 c1 c2 c3,cs=[c0,c1,c2,c3]:=by
  match cs,hlen with
  |[c0,c1,c2,c3],_=>exact⟨c0,c1,c2,c3,rfl⟩
 obtain⟨x0,x1,x2,x3,rfl⟩:∃x0 x1 x2 x3,xs=[x0,x1,x2,x3]:=by
  match xs,hxl with
  |[x0,x1,x2,x3],_=>exact⟨x0,x1,x2,x3,rfl⟩
 have t0:=hf 0 _ rfl
 have t1:=hf 1 _ rfl
 have t2:=hf 2 _ rfl
 have t3:=hf 3 _ rfl
 simp[DW,AC]at t0 t1 t2 t3
 obtain⟨z0,e0,rfl,_⟩:=DataW.trod_int Tryz.underlying3 t0
 obtain⟨z1,e1,rfl,_⟩:=DataW.trod_string Tryz.underlying9 t1
 obtain⟨z2,e2,rfl,_⟩:=DataW.trod_string Tryz.underlying9 t2
 obtain⟨z3,e3,rfl,_⟩:=DataW.trod_string Tryz.underlying9 t3
 simp only[List.cons.injEq,and_true]at e0 e1 e2 e3
 subst e0 e1 e2 e3
 exact⟨(z0,z1.data.toList,z2.data.toList,z3.data.toList),rfl,rfl⟩
set_option maxRecDepth 100000 in
theorem gW {H:Type} {enc:TypeId×Value→H} {W:World} {v:Value} {d:DataW H} {p:List MemPlace} {fuel:Nat} (hb:∀a len cap,v= .slice (some a) len cap→a.block<W.heap.size)
  (hf:DataW.trod enc Tryz.prog W 0 (fun _=>true) true fuel 22 [v]=some (d,p)):
  ∃o:List Ad,Rep cfg W (lQ W) [] (lsV o) v∧(d= .nil∧o=[]∨∃r,d= .slice (o.map adD) r):=by
 rcases DataW.trod_slice Tryz.underlying22 hf with⟨hcs,hx⟩|⟨a,len,cap,elems,rest,n,_,hcs,hx,_,hl,hm,hlen,hel,hsp,_⟩
 ·simp only[List.cons.injEq,and_true]at hcs
  subst hcs
  simp only[Prod.mk.injEq]at hx
  obtain⟨rfl,rfl⟩:=hx
  refine⟨[],?_, .inl ⟨rfl,rfl⟩⟩
  exact Rep.lst 26 false [] none 0 [] rfl (fun i v x h=>by simp at h) (fun v h=>by cases h) (fun x h=>by cases h) (by rw[CH];omega) (Nat.le_refl _) ⟨fun _=>rfl,fun p h=>by cases h⟩ (fun p h=>by cases h)
 ·simp only[List.cons.injEq,and_true]at hcs
  subst hcs
  simp only[Prod.mk.injEq]at hx
  obtain⟨rfl,rfl⟩:=hx
  have hblk:=hb a len cap rfl
  have hsn:some a=none→cap=0:=fun h=>by cases h
  have hsb:∀p,some a=some p→p.block<W.heap.size:=fun p hp=>by cases hp;exact hblk
  rw[cellsA]at hel
  have each:∀l:List (DataW H×List MemPlace),(∀(i:Nat) y,l[i]? =some y→∃a' :Ad,y.1=adD a'∧∀(k:Nat) c,(adX a').cells[k]? =some c→W.cell? ((a.add (i*4)).add k)=some c)→
    ∃o:List Ad,o.length=l.length∧l.map (·.1)=o.map adD∧∀(i:Nat) a',o[i]? =some a'→∀(k:Nat) c,(adX a').cells[k]? =some c→W.cell? ((a.add (i*4)).add k)=some c:=by
   intro l hl
   have hch:∀i:Nat,∃a' :Ad,i<l.length→(l[i]?.map (·.1))=some (adD a')∧∀(k:Nat) c,(adX a').cells[k]? =some c→W.cell? ((a.add (i*4)).add k)=some c:=by
    intro i
    by_cases hi:i<l.length
    ·obtain⟨a',h1,h2⟩:=hl i l[i] (List.getElem?_eq_getElem hi)
     exact⟨a',fun _=>⟨by rw[List.getElem?_eq_getElem hi];exact congrArg some h1,h2⟩⟩
    ·exact⟨(0,[],[],[]),fun h=>absurd h hi⟩
   have hg:=Classical.axiomOfChoice hch
   obtain⟨g,hg⟩:=hg
   refine⟨(List.range l.length).map g,by simp,?_,?_⟩
   ·apply List.ext_getElem?
    intro i
    by_cases hi:i<l.length
    ·have:=(hg i hi).1
     rw[List.getElem?_map,this]
     simp[hi]
    ·simp[hi]
   ·intro i a' h
    rw[List.getElem?_map]at h
    by_cases hi:i<l.length
    ·rw[List.getElem?_range hi]at h
     cases h
     exact(hg i hi).2
    ·rw[List.getElem?_eq_none (by simpa using hi)]at h
     cases h
  obtain⟨o,ho,hod,hoc⟩:=each elems (fun i y hy=>by
   have hi:i<len:=by have:=(List.getElem?_eq_some_iff.1 hy).1;omega
   have h1:=hel i hi
   rw[hy,Option.bind_eq_some_iff]at h1
   obtain⟨cs,hc1,hc2⟩:=h1
   obtain⟨a',rfl,hy'⟩:=DX hc2
   obtain⟨_,_,hc3⟩:=World.cells?_some hc1
   refine⟨a',hy',fun k c hk=>?_⟩
   have hk4:k<4:=(Array.getElem?_eq_some_iff.1 hk).1
   rw[hc3 k hk4]
   simpa using hk)
  refine⟨o,?_, .inr ⟨_,by rw[hod]⟩⟩
  have hlen' :(o.map adV).length=len:=by simp;omega
  have:=Rep.lst (c:=cfg) (w:=W) (G:=lQ W) (μ:=[]) 26 false (o.map adV) (some a) cap (o.map adX) (by simp) (fun i v x hv hx=>by
    obtain⟨n,h1,rfl⟩:=bC hv
    obtain⟨n',h2,rfl⟩:=bC hx
    rw[h1]at h2;cases h2
    exact E2 _ _ _) (fun v hv=>by
    obtain⟨n,_,rfl⟩:=List.mem_map.1 hv
    exact Gx n) (fun x hx=>by
    obtain⟨n,_,rfl⟩:=List.mem_map.1 hx
    rw[CH];rfl) (by rw[CH];omega) (by rw[hlen'];exact hl) ⟨hsn,hsb⟩ (fun p hp hne=>by
    cases hp
    have hl0:0<o.length:=by
     rcases Nat.eq_zero_or_pos o.length with h0|h0
     ·exact absurd (by rw[List.eq_nil_of_length_eq_zero h0];rfl) hne
     ·exact h0
    obtain⟨ab,ao,spot⟩:=a
    have hspot:spot=none:=by
     have:=hoc 0 o[0] (List.getElem?_eq_getElem hl0) 0 _ rfl
     simpa[Addr.add]using World.cell?_spot this
    subst hspot
    refine⟨rfl,?_⟩
    refine zK fun j x hj=>?_
    refine yD (P:=fun j x=>W.cell? ⟨ab,j,none⟩=some x) (o.map adX) 4 ao (fun x hx=>by
     obtain⟨n,_,rfl⟩:=List.mem_map.1 hx
     rfl) (fun i x hx k y hy=>?_) j x hj
    obtain⟨n,h1,rfl⟩:=bC hx
    have:=hoc i n h1 k y hy
    rw[Addr.add_lit,Addr.add_lit]at this
    rw[Nat.mul_comm 4 i]
    exact this)
  rw[hlen']at this
  exact this
end Go.Proofs.YtdoaoaicdimbeaaGreatDoor
end
section
namespace Go.Proofs.YtdoaoaicdimbeaaGreatDoor
open Go.Ev Go
theorem yE {H:Type}:∀o:List Ad,ow o≤Rows.uptoBulkAll (o.map (adD (H:=H)))
 |[]=>by simp[ow]
 |a::r=>by
  have h1:=yE (H:=H) r
  have h2:ow (a::r)=aw1 a+ow r:=by simp[ow]
  rw[h2,List.map_cons]
  simp only[Rows.uptoBulkAll,adD,Rows.uptoBulk,aw1]
  omega
theorem gX {H:Type} {d:DataW H} {o:List Ad} (h:d= .nil∧o=[]∨∃r,d= .slice (o.map adD) r):ow o≤Rows.uptoBulk d:=by
 rcases h with⟨_,rfl⟩|⟨r,rfl⟩
 ·simp[ow]
 ·have:=yE (H:=H) o
  simp only[Rows.uptoBulk]
  omega
end Go.Proofs.YtdoaoaicdimbeaaGreatDoor
end
section
namespace Go.Proofs.YtdoaoaicdimbeaaGreatDoor
open Go.ChangeShapes Go.WideShapes Go.ChangeAt Go.RowKit Go.Ev
def AdD {H:Type} (o:List Ad) (d:DataW H):Prop:=d= .nil∧o=[]∨∃r,d= .slice (o.map adD) r
def Gy {H:Type} (e:En) (d:DataW H):Prop:=∃d0 d1 d2 d3 d4 d5:DataW H,∃bs:List (DataW H),
 d= .agg [.lit (.string e.d), .lit (.string e.s), .agg [d0,d1,d2,d3,d4,d5], .lit (.string e.r), .lit (.string e.i), .agg bs]∧
 AdD e.l0 d0∧AdD e.l1 d1∧AdD e.l2 d2∧AdD e.l3 d3∧AdD e.l4 d4∧AdD e.l5 d5
theorem E3 {H:Type} {e:En} {d:DataW H} (h:Gy e d) (hb:Rows.uptoBulk d≤10000000):CG e:=by
 obtain⟨d0,d1,d2,d3,d4,d5,bs,rfl,h0,h1,h2,h3,h4,h5⟩:=h
 have g0:=gX h0
 have g1:=gX h1
 have g2:=gX h2
 have g3:=gX h3
 have g4:=gX h4
 have g5:=gX h5
 simp only[Rows.uptoBulk,Rows.uptoBulkAll]at hb
 exact⟨by omega,by omega,by omega,by omega,by omega,by omega,by omega,by omega,by omega,by omega⟩
theorem CJ:Tryz.prog.cellsOf 44=14∧Tryz.prog.cellTypes Tryz.prog.depth 44=some [9,9,22,22,22,22,22,22,9,9,4,4,4,4]:=⟨by kernel_rfl,by kernel_rfl⟩
theorem Bn:Tryz.prog.cellsOf 22=1∧Tryz.prog.cellsOf 4=1∧Tryz.prog.cellsOf 41=6∧Tryz.prog.cellsOf 42=4:=⟨by kernel_rfl,by kernel_rfl,by kernel_rfl,by kernel_rfl⟩
set_option maxRecDepth 100000 in
theorem E4 {H:Type} {enc:TypeId×Value→H} {W:World} {base:Nat} {v:Value} {d:DataW H} {p:List MemPlace} (hval:Value.okWide Tryz.prog W .any base 44 v)
  (h:DataW.Trod enc Tryz.prog W 0 (fun _=>true) true 44 v d p):∃e:En,Rep cfg W (lQ W) [] (enV e) v∧Gy e d:=by
 obtain⟨c14,ct⟩:=CJ
 obtain⟨o1,o2,o3,o4⟩:=Bn
 simp only[Value.okWide,Tryz.underlying44]at hval
 obtain⟨cs,rfl,hsz,ts,hts,_,hcell⟩:=hval
 rw[ct]at hts;cases hts
 rw[c14]at hsz
 obtain⟨a0,a1,a2,a3,a4,a5,a6,a7,a8,a9,a10,a11,a12,a13,hcs⟩:∃a0 a1 a2 a3 a4 a5 a6 a7 a8 a9 a10 a11 a12 a13,cs= #[a0,a1,a2,a3,a4,a5,a6,a7,a8,a9,a10,a11,a12,a13]:=by
  obtain⟨l⟩:=cs
  match l,hsz with
  |[a0,a1,a2,a3,a4,a5,a6,a7,a8,a9,a10,a11,a12,a13],_=>exact⟨a0,a1,a2,a3,a4,a5,a6,a7,a8,a9,a10,a11,a12,a13,rfl⟩
 subst hcs
 obtain⟨fuel,hf⟩:=h
 obtain⟨xs,n,hn,hx,_,hxl,hxs⟩:=DataW.trod_struct Tryz.underlying44 hf
 obtain⟨x0,x1,x2,x3,x4,x5,rfl⟩:∃x0 x1 x2 x3 x4 x5,xs=[x0,x1,x2,x3,x4,x5]:=by
  match xs,hxl with
  |[x0,x1,x2,x3,x4,x5],_=>exact⟨x0,x1,x2,x3,x4,x5,rfl⟩
 have t0:=hxs 0 _ rfl
 have t1:=hxs 1 _ rfl
 have t2:=hxs 2 _ rfl
 have t3:=hxs 3 _ rfl
 have t4:=hxs 4 _ rfl
 have t5:=hxs 5 _ rfl
 simp[o1,o2,o3,o4,AC,Value.cells]at t0 t1 t2 t3 t4 t5
 obtain⟨s0,e0,rfl,_⟩:=DataW.trod_string Tryz.underlying9 t0
 obtain⟨s1,e1,rfl,_⟩:=DataW.trod_string Tryz.underlying9 t1
 obtain⟨s3,e3,rfl,_⟩:=DataW.trod_string Tryz.underlying9 t3
 obtain⟨s4,e4,rfl,_⟩:=DataW.trod_string Tryz.underlying9 t4
 obtain⟨ys,m,_,rfl,_,hyl,hys⟩:=DataW.trod_array Tryz.underlying41 t2
 obtain⟨zs,m',_,rfl,_,hzl,hzs⟩:=DataW.trod_array Tryz.underlying42 t5
 obtain⟨y0,y1,y2,y3,y4,y5,rfl⟩:∃x0 x1 x2 x3 x4 x5,ys=[x0,x1,x2,x3,x4,x5]:=by
  match ys,hyl with
  |[x0,x1,x2,x3,x4,x5],_=>exact⟨x0,x1,x2,x3,x4,x5,rfl⟩
 obtain⟨z0,z1,z2,z3,rfl⟩:∃x0 x1 x2 x3,zs=[x0,x1,x2,x3]:=by
  match zs,hzl with
  |[x0,x1,x2,x3],_=>exact⟨x0,x1,x2,x3,rfl⟩
 have u0:=hys 0 (by omega)
 have u1:=hys 1 (by omega)
 have u2:=hys 2 (by omega)
 have u3:=hys 3 (by omega)
 have u4:=hys 4 (by omega)
 have u5:=hys 5 (by omega)
 have w0:=hzs 0 (by omega)
 have w1:=hzs 1 (by omega)
 have w2:=hzs 2 (by omega)
 have w3:=hzs 3 (by omega)
 simp[o1,o2]at u0 u1 u2 u3 u4 u5 w0 w1 w2 w3
 obtain⟨b0,f0,rfl⟩:=DataW.trod_bool Tryz.underlying4 w0
 obtain⟨b1,f1,rfl⟩:=DataW.trod_bool Tryz.underlying4 w1
 obtain⟨b2,f2,rfl⟩:=DataW.trod_bool Tryz.underlying4 w2
 obtain⟨b3,f3,rfl⟩:=DataW.trod_bool Tryz.underlying4 w3
 have hb:∀(k:Nat) (a:Value),[a0,a1,a2,a3,a4,a5,a6,a7,a8,a9,a10,a11,a12,a13][k]? =some a→([9,9,22,22,22,22,22,22,9,9,4,4,4,4]:List TypeId)[k % 14]? =some 22→
   ∀q len cap,a= .slice (some q) len cap→q.block<W.heap.size:=fun k a hk ht q len cap e=>by
  obtain⟨u,hu,hc⟩:=hcell k a (by simpa using hk)
  have hu' :u=22:=Option.some.inj (hu.symm.trans ht)
  subst hu'
  subst e
  exact DV Tryz.underlying22 hc
 obtain⟨dy0,py0⟩:=y0
 obtain⟨dy1,py1⟩:=y1
 obtain⟨dy2,py2⟩:=y2
 obtain⟨dy3,py3⟩:=y3
 obtain⟨dy4,py4⟩:=y4
 obtain⟨dy5,py5⟩:=y5
 obtain⟨l0,r0,g0⟩:=gW (hb 2 a2 rfl rfl) u0
 obtain⟨l1,r1,g1⟩:=gW (hb 3 a3 rfl rfl) u1
 obtain⟨l2,r2,g2⟩:=gW (hb 4 a4 rfl rfl) u2
 obtain⟨l3,r3,g3⟩:=gW (hb 5 a5 rfl rfl) u3
 obtain⟨l4,r4,g4⟩:=gW (hb 6 a6 rfl rfl) u4
 obtain⟨l5,r5,g5⟩:=gW (hb 7 a7 rfl rfl) u5
 simp only[List.cons.injEq,and_true]at e0 e1 e3 e4 f0 f1 f2 f3
 subst e0 e1 e3 e4 f0 f1 f2 f3
 simp only[Prod.mk.injEq]at hx
 obtain⟨rfl,rfl⟩:=hx
 have n0:single a2=true:=by cases r0;rfl
 have n1:single a3=true:=by cases r1;rfl
 have n2:single a4=true:=by cases r2;rfl
 have n3:single a5=true:=by cases r3;rfl
 have n4:single a6=true:=by cases r4;rfl
 have n5:single a7=true:=by cases r5;rfl
 refine⟨⟨s0.data.toList,s1.data.toList,l0,l1,l2,l3,l4,l5,s3.data.toList,s4.data.toList,b0,b1,b2,b3⟩,?_,dy0,dy1,dy2,dy3,dy4,dy5,_,rfl,g0,g1,g2,g3,g4,g5⟩
 unfold enV
 refine Rep.agg _ [.string s0, .string s1,a2,a3,a4,a5,a6,a7, .string s3, .string s4, .bool b0, .bool b1, .bool b2, .bool b3] rfl (fun x hx=>?_) (fun i v x hv hx=>?_)
 ·simp at hx
  rcases hx with rfl|rfl|rfl|rfl|rfl|rfl|rfl|rfl|rfl|rfl|rfl|rfl|rfl|rfl
  all_goals first|rfl|assumption
 ·match i,hv,hx with
  |0,hv,hx=>simp at hv hx;subst hv;subst hx;exact .str _
  |1,hv,hx=>simp at hv hx;subst hv;subst hx;exact .str _
  |2,hv,hx=>simp at hv hx;subst hv;subst hx;exact r0
  |3,hv,hx=>simp at hv hx;subst hv;subst hx;exact r1
  |4,hv,hx=>simp at hv hx;subst hv;subst hx;exact r2
  |5,hv,hx=>simp at hv hx;subst hv;subst hx;exact r3
  |6,hv,hx=>simp at hv hx;subst hv;subst hx;exact r4
  |7,hv,hx=>simp at hv hx;subst hv;subst hx;exact r5
  |8,hv,hx=>simp at hv hx;subst hv;subst hx;exact .str _
  |9,hv,hx=>simp at hv hx;subst hv;subst hx;exact .str _
  |10,hv,hx=>simp at hv hx;subst hv;subst hx;exact .bool _
  |11,hv,hx=>simp at hv hx;subst hv;subst hx;exact .bool _
  |12,hv,hx=>simp at hv hx;subst hv;subst hx;exact .bool _
  |13,hv,hx=>simp at hv hx;subst hv;subst hx;exact .bool _
end Go.Proofs.YtdoaoaicdimbeaaGreatDoor
end
