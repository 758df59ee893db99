/- Lemmas for the claim, merged: the plain reading of the program's functions, its soundness, and what they compute. -/
import Derived.Test.YtdoaoaicdimbeaaGreatDoorPkD
import Derived.KernelRfl
set_option linter.all false
set_option linter.unusedVariables false
set_option linter.unusedSimpArgs false
section
namespace Go.Proofs.YtdoaoaicdimbeaaGreatDoor
open Go.Ev Go
def cM (b:UInt8):Bs→Option (Bs×Bs)
 |[]=>none
 |c::r=>if c=b then some ([],r)else(cM b r).map fun p=>(c::p.1,p.2)
theorem fS {b:UInt8}:∀{s t r:Bs},cM b s=some (t,r)→s=t++b::r
 |[],_,_,h=>by simp[cM]at h
 |c::s,t,r,h=>by
  unfold cM at h
  split at h
  ·rename_i e;cases h;simp[e]
  ·simp at h
   obtain⟨a,ha,rfl⟩:=h
   rw[fS ha];rfl
theorem kF (b:UInt8):∀s:Bs,Lib.indexByte s b=match cM b s with|some p=>(p.1.length:Int)|none=> -1
 |[]=>rfl
 |c::s=>by
  unfold Lib.indexByte cM
  rw[kF b s]
  by_cases h:c=b
  ·simp[h]
  ·have h' :(c==b)=false:=by simpa using h
   simp only[h',Bool.false_eq_true,if_false,h]
   cases cM b s with
   |none=>rfl
   |some p=>
    have:((p.1.length:Int)== -1)=false:=by simp
    simp[this]
def dM (s:Bs):Bs:=match cM 42 s with|some p=>p.1|none=>s
theorem D9 (s:Bs):(dM s).length≤s.length:=by
 unfold dM
 cases h:cM 42 s with
 |none=>simp
 |some p=>have:=congrArg List.length (fS h);simp at this ⊢;omega
theorem IR (s:Bs) (b:UInt8):Ret 168 [.str s, .str [b]] [] (.int .i64 (Lib.indexByte s b),[]):=dV (h:=J4) rfl rfl
theorem MW (s:Bs) (hs:s.length≤1000000):∃r b,Ret 155 [.str s, .str [42]] [] (.tup [.str (dM s), .str r, .bool b],[]):=by
 unfold dM
 cases h:cM 42 s with
 |none=>
  refine⟨[],false,OI s [42] ?_⟩
  simp only[He]
  refine aB (IR s 42) ?_
  rw[kF,h]
  simp only[V.getI,show¬((-1:Int)≥0)by omega,decide_false,Bool.false_eq_true,if_false]
  exact aD _
 |some p=>
  have hl:=congrArg List.length (fS h)
  simp at hl
  have hw:IntKind.wrap .i64 ((p.1.length:Int)+((([42]:Bs).length:Nat):Int))=((p.1.length+1:Nat):Int):=by
   rw[show((([42]:Bs).length:Nat):Int)=1 from rfl,wrap64 (by omega) (by omega)];omega
  have g0:(p.1.length:Int)≥0:=by omega
  have g1:(p.1.length:Int)≤(s.length:Int):=by omega
  have g2:((p.1.length+1:Nat):Int)≤(s.length:Int):=by omega
  have g3:(0:Int)≤((p.1.length+1:Nat):Int):=by omega
  refine⟨s.drop (p.1.length+1),true,OI s [42] ?_⟩
  simp only[He]
  obtain⟨x,hx⟩:∃x:Int,x=(p.1.length:Int):=⟨_,rfl⟩
  have h51:Ret 168 [.str s, .str [42]] [] (.int .i64 x,[]):=by
   have:=IR s 42
   rw[kF,h]at this
   rw[hx];exact this
  refine aB h51 ?_
  have e1:(s.take p.1.length)=p.1:=by
   have:=fS h
   conv=>lhs;rw[this]
   simp
  rw[←hx]at hw g0 g1
  show Evt (fun _ _=>if decide (x≥0)=true then
    chk (decide (0≤x)) (chk (decide (x≤((List.length s:Nat):Int))) (chk (decide ((0:Int)≤0)) (chk (decide (0≤x)) (chk (decide (0≤(IntKind.wrap IntKind.i64 (x+((List.length ([42]:Bs):Nat):Int))))) (chk (decide ((IntKind.wrap IntKind.i64 (x+((List.length ([42]:Bs):Nat):Int)))≤((List.length s:Nat):Int))) (some ((V.tup [(V.str (List.drop (Int.toNat (0:Int)) (List.take (Int.toNat x) s))),(V.str (List.drop (Int.toNat (IntKind.wrap IntKind.i64 (x+((List.length ([42]:Bs):Nat):Int)))) s)),(V.bool true)]),[])))))))
   else some ((V.tup [(V.str s),(V.str []),(V.bool false)]),[])) _
  rw[hw]
  have hxn:x.toNat=p.1.length:=by omega
  simp only[g0,decide_true,if_true,ge_iff_le.1 g0,cK,aJ g1,aJ g2,aJ g3,aJ (Int.le_refl 0),hxn,Int.toNat_natCast,Int.toNat_zero,List.drop_zero,e1]
  exact aD _
theorem MX (s:Bs) (hs:s.length≤1000000):∃r b,Ret 133 [.str s, .str [42]] [] (.tup [.str (dM s), .str r, .bool b],[]):=by
 obtain⟨r,b,h⟩:=MW s hs
 refine⟨r,b,Qd s [42] ?_⟩
 simp only[Ir]
 exact aB h (aD _)
def pO (s:Bs):Bs:=match cM 39 s with
 |none=>s
 |some p=>match cM 39 p.2 with|none=>s|some q=>q.2
theorem tI (s:Bs):(pO s).length≤s.length:=by
 unfold pO
 cases h:cM 39 s with
 |none=>simp
 |some p=>
  have h1:=congrArg List.length (fS h)
  dsimp only
  cases h' :cM 39 p.2 with
  |none=>simp
  |some q=>have h2:=congrArg List.length (fS h');simp at h1 h2 ⊢;omega
theorem pP (b:UInt8) (k:Nat) (s:Bs):sE b (k+1) s=match cM b s with|none=>[s]|some p=>p.1::sE b k p.2:=by
 rw[sE,kF]
 cases h:cM b s with
 |none=>simp
 |some p=>
  have e:=fS h
  have h1:¬((p.1.length:Int)= -1):=by omega
  simp only[h1,if_false,Int.toNat_natCast]
  have e1:s.take p.1.length=p.1:=by
   conv=>lhs;rw[e]
   simp
  have e2:s.drop (p.1.length+1)=p.2:=by
   conv=>lhs;rw[e]
   simp
  rw[e1,e2]
theorem IS (s:Bs) (hs:s.length≤1000000):Ret 158 [.str s] [] (.str (pO s),[]):=by
 have h53:Ret 170 [.str s, .str [39], .int .i64 (3:Int)] [] (.lst 9 false ((sE 39 (min (Int.toNat 3) (s.length+1) - 1) s).map V.str),[]):=by
  refine dV (h:=zD) rfl ?_
  have:s.length<4294967281:=by omega
  simp[zD,this]
 refine QI s ?_
 simp only[IG]
 refine aB h53 ?_
 simp only[V.getL,List.length_map]
 generalize hk:sE 39 (min (Int.toNat 3) (s.length+1) - 1) s=ps
 have hmain:(ps.length<3∧pO s=s)∨(∃a b,ps=[a,b,pO s]):=by
  unfold pO
  by_cases h2:2≤s.length
  ·have:min (Int.toNat 3) (s.length+1) - 1=2:=by simp;omega
   rw[this,pP]at hk
   cases h:cM 39 s with
   |none=>rw[h]at hk;left;subst hk;simp
   |some p=>
    rw[h]at hk
    simp only[pP]at hk
    cases h' :cM 39 p.2 with
    |none=>rw[h']at hk;left;subst hk;exact⟨by simp,by simp only[h']⟩
    |some q=>rw[h']at hk;right;subst hk;exact⟨p.1,q.1,by simp[h',sE]⟩
  ·left
   have hsm:(match cM 39 s with|none=>s|some p=>match cM 39 p.2 with|none=>s|some q=>q.2)=s:=by
    cases h:cM 39 s with
    |none=>rfl
    |some p=>
     have h1:=congrArg List.length (fS h)
     dsimp only
     cases h' :cM 39 p.2 with
     |none=>rfl
     |some q=>have h3:=congrArg List.length (fS h');simp at h1 h3;omega
   refine⟨?_,hsm⟩
   have:min (Int.toNat 3) (s.length+1) - 1≤1:=by simp;omega
   have hk2:∀k,k≤1→(sE 39 k s).length<3:=by
    intro k hk
    match k,hk with
    |0,_=>simp[sE]
    |1,_=>rw[pP];cases cM 39 s<;>simp[sE]
   rw[←hk];exact hk2 _ this
 rcases hmain with⟨h1,h2⟩|⟨a,b,h⟩
 ·have g:(ps.length:Int)<3:=by omega
  simp only[g,decide_true,if_true,h2]
  exact aD _
 ·subst h
  simp only[List.length_cons,List.length_nil,show¬(((0+1+1+1:Nat):Int)<3)by omega,decide_false,Bool.false_eq_true,if_false]
  generalize pO s=x
  exact aD _
def fU (n:Nat):Bs:=if n<10 then[UInt8.ofNat (48+n)]else fU (n / 10)++[UInt8.ofNat (48+n % 10)]
termination_by n
theorem jB {n:Nat} (h:n<10):fU n=[UInt8.ofNat (48+n)]:=by rw[fU,if_pos h]
theorem tJ {n:Nat} (h:¬n<10):fU n=fU (n / 10)++[UInt8.ofNat (48+n % 10)]:=by rw[fU,if_neg h]
theorem lO:∀n:Nat,(fU n).length≤n+1:=by
 intro n
 induction n using Nat.strongRecOn with
 |_ n ih=>
  by_cases h:n<10
  ·rw[jB h];simp
  ·rw[tJ h]
   have:=ih (n / 10) (by omega)
   simp;omega
theorem OQ:∀d:Fin 10,(Utf8.encode (IntKind.wrap .i32 (IntKind.wrap .i64 (48+(d.val:Int))))).data.toList=[UInt8.ofNat (48+d.val)]:=by decide+kernel
theorem MY:∀(n:Nat) (out:Bs),0<n→n+out.length≤2000000000→Evt (fun k m=>L47 (aA cfg k) m (n:Int) out false) (.str (fU n++out),[]):=by
 intro n
 induction n using Nat.strongRecOn with
 |_ n ih=>
  intro out hn hb
  refine LG (n:Int) out false ?_
  have h1:((n:Int) != 0)=true:=by simp;omega
  have h2:((10:Int) != 0)=true:=by decide
  have ht:Int.tmod (n:Int) 10=((n % 10:Nat):Int):=by rw[Int.tmod_eq_emod_of_nonneg (by omega)];omega
  have hq:IntKind.wrap .i64 (Int.tdiv (n:Int) 10)=((n / 10:Nat):Int):=by
   rw[Int.tdiv_eq_ediv_of_nonneg (by omega),wrap64 (by omega) (by omega)];omega
  have hm:IntKind.wrap .i64 (0 - ((n % 10:Nat):Int))= -((n % 10:Nat):Int):=by rw[wrap64 (by omega) (by omega)];omega
  have hng:¬(-((n % 10:Nat):Int)>((n % 10:Nat):Int)):=by omega
  have he:=OQ ⟨n % 10,by omega⟩
  simp only at he
  have hc:bJ [UInt8.ofNat (48+n % 10)] out=true:=eJ (by simp;omega)
  simp only[D7,h1,if_true,h2,cK,ht,hq,hm,hng,if_false,he,bM hc]
  by_cases hs:n<10
  ·have e:n / 10=0:=by omega
   have e' :n % 10=n:=by omega
   rw[e,e',jB hs]
   refine LG ((0:Nat):Int) _ false ?_
   have h0:((((0:Nat):Int)) != 0)=false:=by decide
   simp only[D7,h0,Bool.false_eq_true,if_false]
   exact aD _
  ·rw[tJ hs]
   have:=ih (n / 10) (by omega) ([UInt8.ofNat (48+n % 10)]++out) (by omega) (by simp;omega)
   simpa using this
theorem Ea (n:Nat) (hn:n≤1000000001):Ret 47 [.int .i64 (n:Int)] [] (.str (fU n),[]):=by
 refine M47 (n:Int) ?_
 simp only[T47]
 by_cases h:n=0
 ·subst h
  have h0:((((0:Nat):Int))==0)=true:=by decide
  simp only[h0,if_true,jB (show 0<10 by omega)]
  exact aD _
 ·have h0:((n:Int)==0)=false:=by simp;omega
  have h1:¬((n:Int)<0):=by omega
  simp only[h0,Bool.false_eq_true,if_false,h1,decide_false]
  have:=MY n [] (by omega) (by simp;omega)
  simpa using this
end Go.Proofs.YtdoaoaicdimbeaaGreatDoor
end
section
namespace Go.Proofs.YtdoaoaicdimbeaaGreatDoor
open Go.Ev Go
theorem gK:∀{l:Ps} {name v:Bs},gW l name=some v→∃p∈l,p.1=name∧p.2=v
 |[],_,_,h=>by simp[gW]at h
 |p::l,name,v,h=>by
  unfold gW at h
  split at h
  ·rename_i e;cases h;exact⟨p,by simp,e,rfl⟩
  ·obtain⟨q,hq,h1⟩:=gK h
   exact⟨q,by simp[hq],h1⟩
def jP (l:Ps) (base:Bs) (n:Nat):Option Bs:=
 match gW l ((base++[42])++fU n)with
 |some v=>some v
 |none=>match gW l (((base++[42])++fU n)++[42])with
  |some v=>some (dB (if n=0 then pO v else v))
  |none=>none
def joinL (l:Ps) (base:Bs):Nat→Nat→Bs
 |0,_=>[]
 |f+1,n=>match jP l base n with|none=>[]|some v=>v++joinL l base f (n+1)
def OR (ds:Bs):Nat:=ds.foldl (fun a d=>10*a+(d.toNat - 48)) 0
theorem vQ {d:Nat} (h:d<10):(UInt8.ofNat (48+d)).toNat=48+d:=by simp;omega
theorem BF:∀n:Nat,OR (fU n)=n:=by
 intro n
 induction n using Nat.strongRecOn with
 |_ n ih=>
  by_cases h:n<10
  ·rw[jB h]
   show 10*0+((UInt8.ofNat (48+n)).toNat - 48)=n
   rw[vQ h];omega
  ·rw[tJ h]
   have:=ih (n / 10) (by omega)
   unfold OR at this ⊢
   rw[List.foldl_append,this]
   show 10* (n / 10)+((UInt8.ofNat (48+n % 10)).toNat - 48)=n
   rw[vQ (by omega)];omega
theorem Hf:∀n:Nat,∀d∈fU n,d≠42:=by
 intro n
 have key:∀m,m<10→UInt8.ofNat (48+m)≠42:=fun m hm e=>by
  have:=congrArg UInt8.toNat e
  rw[vQ hm]at this
  simp at this;omega
 induction n using Nat.strongRecOn with
 |_ n ih=>
  by_cases h:n<10
  ·rw[jB h]
   intro d hd
   rw[List.mem_singleton]at hd;subst hd;exact key n h
  ·rw[tJ h]
   intro d hd
   rw[List.mem_append]at hd
   rcases hd with hd|hd
   ·exact ih (n / 10) (by omega) d hd
   ·rw[List.mem_singleton]at hd;subst hd;exact key _ (by omega)
theorem zU (n:Nat) (e:Bs) (he:e=[]∨e=[42]):(fU n++e).filter (· != 42)=fU n:=by
 rw[List.filter_append]
 have h1:(fU n).filter (· != 42)=fU n:=List.filter_eq_self.2 fun d hd=>by simpa using Hf n d hd
 rw[h1]
 rcases he with rfl|rfl<;>simp
def jX (base:Bs) (p:Bs×Bs) (n:Nat):Bool:=p.1==(base++[42])++fU n||p.1==((base++[42])++fU n)++[42]
theorem Fu {base:Bs} {p:Bs×Bs} {n m:Nat} (h:jX base p n=true) (h' :jX base p m=true):n=m:=by
 have key:∀k,jX base p k=true→∃e,(e=[]∨e=[42])∧p.1=(base++[42])++(fU k++e):=by
  intro k hk
  simp only[jX,Bool.or_eq_true,beq_iff_eq]at hk
  rcases hk with hk|hk
  ·exact⟨[], .inl rfl,by rw[hk];simp⟩
  ·exact⟨[42], .inr rfl,by rw[hk];simp⟩
 obtain⟨e1,he1,h1⟩:=key n h
 obtain⟨e2,he2,h2⟩:=key m h'
 have:=List.append_cancel_left (h1.symm.trans h2)
 have h3:=congrArg (List.filter (· != 42)) this
 rw[zU n e1 he1,zU m e2 he2]at h3
 rw[←BF n,←BF m,h3]
theorem pQ {l:Ps} {base:Bs} {n:Nat} {v:Bs} (h:jP l base n=some v):∃p∈l,jX base p n=true∧v.length≤p.2.length:=by
 unfold jP at h
 split at h
 ·rename_i u hu
  cases h
  obtain⟨p,hp,h1,h2⟩:=gK hu
  exact⟨p,hp,by simp[jX,h1],by rw[h2];exact Nat.le_refl _⟩
 ·split at h
  ·rename_i u hu
   cases h
   obtain⟨p,hp,h1,h2⟩:=gK hu
   refine⟨p,hp,by simp[jX,h1],?_⟩
   rw[h2]
   split
   ·exact Nat.le_trans (zT _) (tI _)
   ·exact zT _
  ·cases h
theorem tK {α:Type} (q:α→Bool):∀S:List α,S.length=(S.filter q).length+(S.filter fun x=> !q x).length
 |[]=>rfl
 |x::S=>by
  have:=tK q S
  cases h:q x<;>simp[h]<;>omega
theorem Hg {α:Type}:∀{S:List α},S.Nodup→(∀x∈S,∀y∈S,x=y)→S.length≤1
 |[],_,_=>by simp
 |[x],_,_=>by simp
 |x::y::S,h,h' =>by
  have:=h' x (by simp) y (by simp)
  subst this
  simp at h
theorem IT (base:Bs):∀(l:Ps) (S:List Nat),S.Nodup→(∀n∈S,∃p∈l,jX base p n=true)→S.length≤l.length
 |[],S,_,h=>by
  cases S with
  |nil=>simp
  |cons n S=>obtain⟨p,hp,_⟩:=h n (by simp);simp at hp
 |p::l,S,hn,h=>by
  have h1:=tK (fun n=>jX base p n) S
  have h2:(S.filter fun n=>jX base p n).length≤1:=Hg (hn.filter _) fun x hx y hy=>by
   rw[List.mem_filter]at hx hy
   exact Fu hx.2 hy.2
  have h3:=IT base l (S.filter fun n=> !jX base p n) (hn.filter _) fun n hnm=>by
   rw[List.mem_filter]at hnm
   obtain⟨q,hq,hm⟩:=h n hnm.1
   rw[List.mem_cons]at hq
   rcases hq with rfl|hq
   ·rw[hm]at hnm;simp at hnm
   ·exact⟨q,hq,hm⟩
  rw[List.length_cons];omega
theorem Fv (l:Ps) (base:Bs):∃m,m≤l.length∧jP l base m=none:=by
 apply Classical.byContradiction
 intro hno
 have:∀n∈List.range (l.length+1),∃p∈l,jX base p n=true:=by
  intro n hn
  rw[List.mem_range]at hn
  cases h:jP l base n with
  |none=>exact absurd ⟨n,by omega,h⟩ hno
  |some v=>obtain⟨p,hp,hm,_⟩:=pQ h;exact⟨p,hp,hm⟩
 have:=IT base l _ List.nodup_range this
 simp at this;omega
theorem Ga (l:Ps) (base:Bs) (hl:l.length≤1000000) (hv:∀p∈l,p.2.length≤1000000) (hb:base.length≤1000000):∀(f n:Nat) (out:Bs),n+f≤1000001→out.length≤n*1000000→
  (∃m,n≤m∧m<n+f∧jP l base m=none)→
  Evt (fun k j=>zJ (aA cfg k) j (l.map pV) base out (n:Int)) (.tup [.str (out++joinL l base f n), .bool (decide (0<n)||(jP l base n).isSome)],[])
 |0,n,out,_,_,⟨m,h1,h2,_⟩=>by omega
 |f+1,n,out,hf,ho,⟨m,h1,h2,h3⟩=>by
  refine MK (l.map pV) base out (n:Int) ?_
  have hd:=lO n
  have c1:bJ base [42]=true:=eJ (by simp;omega)
  have c2:bJ (base++[42]) (fU n)=true:=eJ (by simp;omega)
  have c3:bJ ((base++[42])++fU n) [42]=true:=eJ (by simp;omega)
  have hw:IntKind.wrap .i64 ((n:Int)+1)=((n+1:Nat):Int):=by rw[wrap64 (by omega) (by omega)];omega
  have next:∀v,jP l base n=some v→bJ out v=true∧Evt (fun k j=>zJ (aA cfg k) j (l.map pV) base (out++v) ((n+1:Nat):Int)) (.tup [.str (out++joinL l base (f+1) n), .bool (decide (0<n)||(jP l base n).isSome)],[]):=by
   intro v hj
   obtain⟨p,hp,_,hle⟩:=pQ hj
   have:=hv p hp
   refine⟨eJ (by omega),?_⟩
   have hne:n≠m:=fun e=>by rw[e,h3]at hj;cases hj
   have:=Ga l base hl hv hb f (n+1) (out++v) (by omega) (by simp;omega) ⟨m,by omega,by omega,h3⟩
   rw[joinL,hj]
   simpa using this
  simp only[Cz,bM c1]
  refine aB (Ea n (by omega)) ?_
  simp only[V.getS,bM c2]
  refine aB (CM l hl _) ?_
  simp only[V.getT,List.tail_cons,List.headD_cons,V.getB,V.getS]
  cases hj1:gW l ((base++[42])++fU n)with
  |some v=>
   have hj:jP l base n=some v:=by unfold jP;rw[hj1]
   obtain⟨hc,hn⟩:=next v hj
   simp only[Option.isSome_some,Bool.not_true,Bool.false_eq_true,if_false,Option.getD_some,bM hc,hw]
   exact hn
  |none=>
   simp only[Option.isSome_none,Bool.not_false,if_true,bM c3]
   refine aB (CM l hl _) ?_
   simp only[V.getT,List.tail_cons,List.headD_cons,V.getB,V.getS]
   cases hj2:gW l (((base++[42])++fU n)++[42])with
   |none=>
    have hj:jP l base n=none:=by unfold jP;rw[hj1];dsimp only;rw[hj2]
    simp only[Option.isSome_none,Bool.not_false,if_true]
    rw[joinL,hj]
    have:(decide ((n:Int)>0))=(decide (0<n)||(none:Option Bs).isSome):=by simp
    rw[this]
    simp only[List.append_nil]
    exact aD _
   |some v=>
    have hj:jP l base n=some (dB (if n=0 then pO v else v)):=by unfold jP;rw[hj1];dsimp only;rw[hj2]
    obtain⟨hc,hn⟩:=next _ hj
    obtain⟨p,hp,_,rfl⟩:=gK hj2
    have hvl:=hv p hp
    simp only[Option.isSome_some,Bool.not_true,Bool.false_eq_true,if_false,Option.getD_some]
    by_cases h0:n=0
    ·have hb0:((n:Int)==0)=true:=by simp[h0]
     simp only[hb0,if_true]
     refine aB (IS p.2 hvl) ?_
     simp only[V.getS]
     refine aB (Ft _ (Nat.le_trans (tI _) hvl)) ?_
     rw[if_pos h0]at hc hn
     simp only[V.getS,bM hc,hw]
     exact hn
    ·have hb0:((n:Int)==0)=false:=by simp[h0]
     simp only[hb0,Bool.false_eq_true,if_false]
     refine aB (Ft _ hvl) ?_
     rw[if_neg h0]at hc hn
     simp only[V.getS,bM hc,hw]
     exact hn
def Eb (l:Ps) (base:Bs):Option Bs:=if(jP l base 0).isSome then some (joinL l base (l.length+1) 0)else none
theorem MZ (l:Ps) (base:Bs) (hl:l.length≤1000000) (hv:∀p∈l,p.2.length≤1000000) (hb:base.length≤1000000):
  Ret 159 [.lst 176 false (l.map pV), .str base] [] (.tup [.str ((Eb l base).getD []), .bool (Eb l base).isSome],[]):=by
 refine QL (l.map pV) base ?_
 simp only[IH]
 obtain⟨m,h1,h2⟩:=Fv l base
 have:=Ga l base hl hv hb (l.length+1) 0 [] (by omega) (by simp) ⟨m,by omega,by omega,h2⟩
 unfold Eb
 cases hj:jP l base 0 with
 |none=>rw[hj]at this;simpa[joinL,hj]using this
 |some v=>rw[hj]at this;simpa[hj]using this
def zV (l:Ps) (base:Bs):Option Bs:=
 match gW l base with
 |some v=>some v
 |none=>match gW l (base++[42])with
  |some v=>some (dB (pO v))
  |none=>Eb l base
theorem M1 (l:Ps) (base:Bs) (hl:l.length≤1000000) (hv:∀p∈l,p.2.length≤1000000) (hb:base.length≤1000000):
  Ret 134 [.lst 176 false (l.map pV), .str base] [] (.tup [.str ((zV l base).getD []), .bool (zV l base).isSome],[]):=by
 refine Qg (l.map pV) base ?_
 have c1:bJ base [42]=true:=eJ (by simp;omega)
 simp only[Is]
 refine aB (CM l hl base) ?_
 simp only[V.getT,List.tail_cons,List.headD_cons,V.getB,V.getS]
 unfold zV
 cases h1:gW l base with
 |some v=>
  simp only[Option.isSome_some,if_true,Option.getD_some]
  exact aD _
 |none=>
  simp only[Option.isSome_none,Bool.false_eq_true,if_false,bM c1]
  refine aB (CM l hl _) ?_
  simp only[V.getT,List.tail_cons,List.headD_cons,V.getB,V.getS]
  cases h2:gW l (base++[42])with
  |some v=>
   obtain⟨p,hp,_,rfl⟩:=gK h2
   simp only[Option.isSome_some,if_true,Option.getD_some]
   refine aB (IS _ (hv p hp)) ?_
   simp only[V.getS]
   refine aB (Ft _ (Nat.le_trans (tI _) (hv p hp))) ?_
   exact aD _
  |none=>
   simp only[Option.isSome_none,Bool.false_eq_true,if_false]
   refine aB (MZ l base hl hv hb) ?_
   exact aD _
end Go.Proofs.YtdoaoaicdimbeaaGreatDoor
end
section
namespace Go.Proofs.YtdoaoaicdimbeaaGreatDoor
open Go.Ev Go
theorem nU:∀(n:Nat) (s:Bs),s.length≤n→(cL s).length≤s.length∧∀p∈cL s,p.1.length≤s.length∧p.2.length≤s.length:=by
 intro n
 induction n with
 |zero=>
  intro s h
  have:s=[]:=List.eq_nil_of_length_eq_zero (by omega)
  subst this
  have hb:iH 59 []=none:=by simp[iH,qP]
  rw[qQ];simp[hb]
 |succ n ih=>
  intro s h
  rw[qQ]
  cases h1:iH 59 s with
  |none=>simp
  |some s1=>
   have g1:=iI h1
   have g2:=jF s1
   dsimp only
   split
   ·simp
   ·cases h2:iH 61 (tokF s1).2 with
    |none=>simp
    |some s3=>
     have g3:=iI h2
     dsimp only
     cases h3:CJ s3 with
     |none=>simp
     |some p=>
      obtain⟨v,s4⟩:=p
      have g4:=CL h3
      obtain⟨e1,e2⟩:=ih s4 (by omega)
      dsimp only
      refine⟨by rw[List.length_cons];omega,fun p hp=>?_⟩
      rw[List.mem_cons]at hp
      rcases hp with rfl|hp
      ·simp only[List.length_map];omega
      ·have:=e2 p hp;omega
theorem tL (a b:Bs):(Sc.str a).same (.str b)=(a==b):=rfl
theorem Ec (x y:Bs):∀m:List (Sc×Sc),Sc.getB (jT (.str x) (qW (.str y) (.bool true) m))=(x==y||Sc.getB (jT (.str x) m))
 |[]=>by
  simp only[qW,jT,tL]
  by_cases h:x=y
  ·simp[h,Sc.getB]
  ·simp[h,Sc.getB]
 |(k,u)::m=>by
  have ih:=Ec x y m
  simp only[qW]
  cases hk:(Sc.str y).same k
  ·simp only[Bool.false_eq_true,if_false,jT]
   cases hx:(Sc.str x).same k
   ·simp only[Bool.false_eq_true,if_false];exact ih
   ·simp only[if_true]
    have:(x==y)=false:=by
     cases k with
     |str b=>
      rw[tL]at hk hx
      have e:=eq_of_beq hx
      subst e
      cases hxy:(x==y)with
      |false=>rfl
      |true=>have e:=eq_of_beq hxy;subst e;simp at hk
     |_=>cases hx
    rw[this,Bool.false_or]
  ·simp only[if_true,jT]
   cases k with
   |str b=>
    rw[tL]at hk
    have e:=eq_of_beq hk
    subst e
    simp only[tL]
    by_cases h:x=y
    ·simp[h,Sc.getB]
    ·simp[h]
   |_=>cases hk
def mU (l:Ps):List Bs→Ps→Ps
 |_,[]=>[]
 |seen,p::r=>
  if dM p.1=[]∨dM p.1∈seen then mU l seen r
  else match zV l (dM p.1)with
   |some x=>(dM p.1,x)::mU l (dM p.1::seen) r
   |none=>mU l (dM p.1::seen) r
theorem M3 (l:Ps) (hl:l.length≤1000000) (hv:∀p∈l,p.1.length≤1000000∧p.2.length≤1000000) (s4 s5 s7 t u:Bs) (l6:List V):∀(n i:Nat) (out:Ps) (seen:List Bs) (m:List (Sc×Sc)),
  l.length - i≤n→out.length≤i→(∀x,Sc.getB (jT (.str x) m)=decide (x∈seen))→
  Evt (fun k j=>L99 (aA cfg k) j (l.map pV) (l.map pV) (l.length:Nat) (i:Nat) s4 s5 l6 s7 t u (out.map pV) m) (.tup [.agg [.str t, .str u, .lst 176 false ((out++mU l seen (l.drop i)).map pV)], .bool true],[]):=by
 have fin:∀(i:Nat) (out:Ps) (seen:List Bs) (m:List (Sc×Sc)),l.length≤i→
   Evt (fun k j=>L99 (aA cfg k) j (l.map pV) (l.map pV) (l.length:Nat) (i:Nat) s4 s5 l6 s7 t u (out.map pV) m) (.tup [.agg [.str t, .str u, .lst 176 false ((out++mU l seen (l.drop i)).map pV)], .bool true],[]):=by
  intro i out seen m h
  refine LF (l.map pV) (l.map pV) (l.length:Nat) (i:Nat) s4 s5 l6 s7 t u (out.map pV) m ?_
  have h1:¬((i:Int)<(l.length:Int)):=by omega
  rw[List.drop_eq_nil_of_le h]
  simp only[D6,h1,decide_false,Bool.false_eq_true,if_false,mU,List.append_nil]
  exact aD _
 intro n
 induction n with
 |zero=>intro i out seen m h _ _;exact fin i out seen m (by omega)
 |succ n ih=>
  intro i out seen m h ho hm
  by_cases hlt:i<l.length
  ·refine LF (l.map pV) (l.map pV) (l.length:Nat) (i:Nat) s4 s5 l6 s7 t u (out.map pV) m ?_
   have h1:((i:Int)<(l.length:Int)):=by omega
   have h2:(0:Int)≤(i:Int):=by omega
   have hw:IntKind.wrap .i64 ((i:Int)+1)=((i+1:Nat):Int):=by rw[wrap64 (by omega) (by omega)];omega
   have hd:l.drop i=l[i]::l.drop (i+1):=List.drop_eq_getElem_cons hlt
   have hpv:=hv l[i] (List.getElem_mem hlt)
   have hvv:∀p∈l,p.2.length≤1000000:=fun p hp=>(hv p hp).2
   obtain⟨r,b,h21⟩:=MX l[i].1 hpv.1
   rw[hd,mU]
   simp only[D6,h1,decide_true,if_true,aJ h2,List.length_map,cK,Int.toNat_natCast,xI hlt,pV,V.cells,List.headD_cons,List.tail_cons,V.getS]
   refine aB h21 ?_
   simp only[V.getT,V.getS,List.headD_cons,hm,sEq,hw]
   have hskip:(if(dM l[i].1==[])=false then some (decide (dM l[i].1∈seen))else some true)=some (decide (dM l[i].1=[]∨dM l[i].1∈seen)):=by
    by_cases e:dM l[i].1=[]
    ·simp[e]
    ·have:(dM l[i].1==[])=false:=by simpa using e
     simp[e]
   rw[hskip]
   simp only[cS]
   by_cases hs:dM l[i].1=[]∨dM l[i].1∈seen
   ·simp only[hs,decide_true,if_true]
    exact ih (i+1) out seen m (by omega) (by omega) hm
   ·simp only[hs,decide_false,Bool.false_eq_true,if_false]
    refine aB (M1 l (dM l[i].1) hl hvv (Nat.le_trans (D9 _) hpv.1)) ?_
    have hm' :∀x,Sc.getB (jT (.str x) (qW (.str (dM l[i].1)) (.bool true) m))=decide (x∈dM l[i].1::seen):=by
     intro x
     rw[Ec,hm]
     by_cases e:x=dM l[i].1
     ·simp[e]
     ·have:(x==dM l[i].1)=false:=by simpa using e
      rw[this];simp[e]
    simp only[V.getT,V.getB,V.getS,List.headD_cons,List.tail_cons]
    cases ht:zV l (dM l[i].1)with
    |none=>
     simp only[Option.isSome_none,Bool.false_eq_true,if_false]
     exact ih (i+1) out (dM l[i].1::seen) _ (by omega) (by omega) hm'
    |some x=>
     have hap:aW (out.map pV) [V.agg [V.str (dM l[i].1),V.str x]] 33=true:=dQ (by simp;omega)
     simp only[Option.isSome_some,if_true,Option.getD_some]
     simp only[bM hap]
     have:=ih (i+1) (out++[(dM l[i].1,x)]) (dM l[i].1::seen) _ (by omega) (by simp;omega) hm'
     simpa[pV]using this
  ·exact fin i out seen m (by omega)
def eY (s:Bs) (two:Bool):Option (Bs×Bs×Ps):=
 if(tokF (cU s)).1=[]then none
 else if two then match iH 47 (tokF (cU s)).2 with
  |none=>none
  |some s2=>if(tokF s2).1=[]then none else some ((tokF (cU s)).1.map dL,(tokF s2).1.map dL,mU (cL (tokF s2).2) [] (cL (tokF s2).2))
 else some ((tokF (cU s)).1.map dL,[],mU (cL (tokF (cU s)).2) [] (cL (tokF (cU s)).2))
def mA:Option (Bs×Bs×Ps)→V
 |none=> .tup [.agg [.str [], .str [], .lst 176 false []], .bool false]
 |some (t,u,ps)=> .tup [.agg [.str t, .str u, .lst 176 false (ps.map pV)], .bool true]
theorem BG (s:Bs) (hs:s.length≤1000000) (rest t u s4 s5:Bs) (l6:List V):
  Evt (fun k j=>L99 (aA cfg k) j ((cL s).map pV) ((cL s).map pV) ((((cL s).map pV).length:Nat):Int) (0:Int) s4 s5 l6 rest t u [] []) (mA (some (t,u,mU (cL s) [] (cL s))),[]):=by
 obtain⟨g1,g2⟩:=nU s.length s (Nat.le_refl _)
 have:=M3 (cL s) (by omega) (fun p hp=>by have:=g2 p hp;omega) s4 s5 rest t u l6 (cL s).length 0 [] [] [] (by omega) (by simp) (fun x=>by simp[jT,Sc.getB])
 rw[List.length_map]
 simpa[mA]using this
theorem LI (s:Bs) (hs:s.length≤1000000) (two:Bool):Ret 99 [.str s, .bool two] [] (mA (eY s two),[]):=by
 refine M99 s two ?_
 have h0:=mT s
 have h1:=jF (cU s)
 simp only[T99]
 refine aB (Fp s hs) ?_
 simp only[List.headD_cons,Ob.getC,V.getS]
 refine aB (CE (cU s) (by omega)) ?_
 simp only[V.getS]
 refine aB (zQ _ (by omega)) ?_
 simp only[V.getS,List.headD_cons,Ob.getC,sEq]
 unfold eY
 by_cases ht:(tokF (cU s)).1=[]
 ·simp only[ht,List.map_nil,beq_self_eq_true,if_true]
  exact aD _
 ·have hb:(((tokF (cU s)).1.map dL)==[])=false:=by simp[ht]
  simp only[hb,Bool.false_eq_true,if_false,ht]
  cases two with
  |false=>
   simp only[Bool.false_eq_true,if_false]
   obtain⟨rest,h20⟩:=IO (tokF (cU s)).2 (by omega)
   refine aB h20 ?_
   simp only[V.getL,List.headD_cons,Ob.getC,V.getS]
   exact BG _ (by omega) _ _ _ _ _ _
  |true=>
   simp only[if_true]
   refine aB (zS (tokF (cU s)).2 (by omega) 47 (by decide)) ?_
   simp only[V.getB,List.headD_cons,Ob.getC,V.getS]
   cases h2:iH 47 (tokF (cU s)).2 with
   |none=>
    simp only[Option.isSome_none,Bool.not_false,if_true]
    exact aD _
   |some s2=>
    have g2:=iI h2
    have g3:=jF s2
    simp only[Option.isSome_some,Bool.not_true,Bool.false_eq_true,if_false,tH,h2]
    refine aB (CE s2 (by omega)) ?_
    simp only[V.getS,List.headD_cons,Ob.getC]
    refine aB (zQ _ (by omega)) ?_
    simp only[V.getS]
    by_cases hu:(tokF s2).1=[]
    ·simp only[hu,List.map_nil,beq_self_eq_true,if_true]
     exact aD _
    ·have hb2:(((tokF s2).1.map dL)==[])=false:=by simp[hu]
     simp only[hb2,Bool.false_eq_true,if_false,hu]
     obtain⟨rest,h20⟩:=IO (tokF s2).2 (by omega)
     refine aB h20 ?_
     simp only[V.getL,List.headD_cons,Ob.getC,V.getS]
     exact BG _ (by omega) _ _ _ _ _ _
def getF:Ps→Bs→Option Bs
 |[],_=>none
 |p::r,name=>if p.1.map dL=name.map dL then some p.2 else getF r name
theorem M4 (name:Bs) (hn:name.length≤1000000) (l:Ps) (hl:l.length≤1000000) (hv:∀p∈l,p.1.length≤1000000):∀(n i:Nat),l.length - i≤n→
  Evt (fun k n=>L58 (aA cfg k) n name (l.map pV) (l.length:Nat) (i:Nat)) (.tup [.str ((getF (l.drop i) name).getD []), .bool (getF (l.drop i) name).isSome],[]):=by
 have fin:∀i:Nat,l.length≤i→Evt (fun k n=>L58 (aA cfg k) n name (l.map pV) (l.length:Nat) (i:Nat)) (.tup [.str ((getF (l.drop i) name).getD []), .bool (getF (l.drop i) name).isSome],[]):=by
  intro i h
  refine LE name (l.map pV) (l.length:Nat) (i:Nat) ?_
  have h1:¬((i:Int)<(l.length:Int)):=by omega
  rw[List.drop_eq_nil_of_le h]
  simp only[D5,h1,decide_false,Bool.false_eq_true,if_false,getF]
  exact aD _
 intro n
 induction n with
 |zero=>intro i h;exact fin i (by omega)
 |succ n ih=>
  intro i h
  by_cases hlt:i<l.length
  ·refine LE name (l.map pV) (l.length:Nat) (i:Nat) ?_
   have h1:((i:Int)<(l.length:Int)):=by omega
   have h2:(0:Int)≤(i:Int):=by omega
   have hw:IntKind.wrap .i64 ((i:Int)+1)=((i+1:Nat):Int):=by rw[wrap64 (by omega) (by omega)];omega
   have hd:l.drop i=l[i]::l.drop (i+1):=List.drop_eq_getElem_cons hlt
   have hpv:=hv l[i] (List.getElem_mem hlt)
   rw[hd,getF]
   simp only[D5,h1,decide_true,if_true,aJ h2,List.length_map,cK,Int.toNat_natCast,xI hlt,pV,V.cells,List.headD_cons,List.tail_cons,V.getS,hw]
   refine aB (LH l[i].1 name (by omega) (by omega)) ?_
   simp only[V.getB]
   by_cases he:l[i].1.map dL=name.map dL
   ·simp only[he,beq_self_eq_true,if_true]
    exact aD _
   ·have:(l[i].1.map dL==name.map dL)=false:=by simpa using he
    simp only[this,Bool.false_eq_true,if_false,he]
    exact ih (i+1) (by omega)
  ·exact fin i (by omega)
theorem OS (t u:Bs) (l:Ps) (hl:l.length≤1000000) (hv:∀p∈l,p.1.length≤1000000) (name:Bs) (hn:name.length≤1000000):
  Ret 58 [.agg [.str t, .str u, .lst 176 false (l.map pV)], .str name] [] (.tup [.str ((getF l name).getD []), .bool (getF l name).isSome],[]):=by
 refine M58 t u (l.map pV) name ?_
 simp only[T58,List.length_map]
 exact M4 name hn l hl hv l.length 0 (by omega)
end Go.Proofs.YtdoaoaicdimbeaaGreatDoor
end
section
namespace Go.Proofs.YtdoaoaicdimbeaaGreatDoor
open Go.Ev Go
open List (headD tail getD length drop take)
open V (getI getL getT getS getB)
set_option maxRecDepth 100000
variable (call : FuncId → Fun) (icall : aO (V × List Ob)) (again : List It → St → Option (V × List Ob))
def T63 (call:FuncId→Fun) (a0:List V):Option (V×List Ob):=
 Option.bind (call 102 [(V.lst 134 false a0),(V.clo (Fn.func 103) [] [])] []) fun z0=>
 some ((V.int .i64 (getI z0.1)),[])
def A63 (a0:List V):List V:=[V.lst 134 false a0]
theorem E63 (a0:List V):GO 63 Tryz.f63 (A63 a0) [] call icall again=T63 call a0:=by kernel_rfl
theorem C63 (k:Nat) (a0:List V):aA cfg (k+1) 63 (A63 a0) []=T63 (aA cfg k) a0:=
 (show aA cfg (k+1) 63 (A63 a0) []=GO 63 Tryz.f63 (A63 a0) [] (aA cfg k) (aE cfg (aA cfg k) 20) (RN 63 Tryz.f63 [] (aA cfg k) (aE cfg (aA cfg k) 20) k)by kernel_rfl).trans (E63 _ _ _ a0)
theorem M63 (a0:List V) {r:V×List Ob} (h:Evt (fun k n=>T63 (aA cfg k) a0) r):Ret 63 [V.lst 134 false a0] [] r:=aR (g:=fun k n=>T63 (aA cfg k) a0) (fun k=>C63 k a0) h
def T64 (call:FuncId→Fun) (a0:List V) (a1:Int) (a2:Int) (a3:Int):Option (V×List Ob):=
 Option.bind (call 74 [(V.agg [(V.int .i64 a1),(V.int .i64 a2)]),(V.int .i64 ((length a0:Nat):Int))] []) fun z0=>
 if(!(getB z0.1))=true then
 some ((V.str []),[])
 else
 chk (decide (0≤a2)) (chk (decide (a2≤((length a0:Nat):Int))) (chk (decide (0≤a1)) (chk (decide (a1≤a2)) (some ((V.str (bytesOf (drop (Int.toNat a1) (take (Int.toNat a2) a0)))),[])))))
def A64 (a0:List V) (a1:Int) (a2:Int) (a3:Int):List V:=[V.lst 5 false a0,V.agg [V.int IntKind.i64 a1,V.int IntKind.i64 a2,V.int IntKind.i64 a3]]
theorem E64 (a0:List V) (a1:Int) (a2:Int) (a3:Int):GO 64 Tryz.f64 (A64 a0 a1 a2 a3) [] call icall again=T64 call a0 a1 a2 a3:=by kernel_rfl
theorem C64 (k:Nat) (a0:List V) (a1:Int) (a2:Int) (a3:Int):aA cfg (k+1) 64 (A64 a0 a1 a2 a3) []=T64 (aA cfg k) a0 a1 a2 a3:=
 (show aA cfg (k+1) 64 (A64 a0 a1 a2 a3) []=GO 64 Tryz.f64 (A64 a0 a1 a2 a3) [] (aA cfg k) (aE cfg (aA cfg k) 20) (RN 64 Tryz.f64 [] (aA cfg k) (aE cfg (aA cfg k) 20) k)by kernel_rfl).trans (E64 _ _ _ a0 a1 a2 a3)
theorem M64 (a0:List V) (a1:Int) (a2:Int) (a3:Int) {r:V×List Ob} (h:Evt (fun k n=>T64 (aA cfg k) a0 a1 a2 a3) r):Ret 64 [V.lst 5 false a0,V.agg [V.int IntKind.i64 a1,V.int IntKind.i64 a2,V.int IntKind.i64 a3]] [] r:=aR (g:=fun k n=>T64 (aA cfg k) a0 a1 a2 a3) (fun k=>C64 k a0 a1 a2 a3) h
def T65 (call:FuncId→Fun) (a0:List UInt8):Option (V×List Ob):=
 if(!(sEq a0 []))=true then
 chk (decide (0≤(0:Int))) (chk (decide ((0:Int)<((length a0:Nat):Int))) (Option.bind (call 104 [(V.int .u8 ((UInt8.toNat (getD a0 (Int.toNat (0:Int)) 0):Nat):Int))] []) fun z0=>
 some ((V.bool (getB z0.1)),[])))
 else
 some ((V.bool false),[])
def A65 (a0:List UInt8):List V:=[V.str a0]
theorem E65 (a0:List UInt8):GO 65 Tryz.f65 (A65 a0) [] call icall again=T65 call a0:=by kernel_rfl
theorem C65 (k:Nat) (a0:List UInt8):aA cfg (k+1) 65 (A65 a0) []=T65 (aA cfg k) a0:=
 (show aA cfg (k+1) 65 (A65 a0) []=GO 65 Tryz.f65 (A65 a0) [] (aA cfg k) (aE cfg (aA cfg k) 20) (RN 65 Tryz.f65 [] (aA cfg k) (aE cfg (aA cfg k) 20) k)by kernel_rfl).trans (E65 _ _ _ a0)
theorem M65 (a0:List UInt8) {r:V×List Ob} (h:Evt (fun k n=>T65 (aA cfg k) a0) r):Ret 65 [V.str a0] [] r:=aR (g:=fun k n=>T65 (aA cfg k) a0) (fun k=>C65 k a0) h
def BH (call:FuncId→Fun) (ag0:List UInt8→Int→Int→Option (V×List Ob)) (ag1:List UInt8→Int→Int→Int→Int→Option (V×List Ob)) (s0:List UInt8) (i1:Int) (i2:Int):Option (V×List Ob):=
 if(decide (i2>(0:Int)))=true then
 chk (decide (0≤(IntKind.wrap .i64 (i2 - (1:Int))))) (chk (decide ((IntKind.wrap .i64 (i2 - (1:Int)))<((length s0:Nat):Int))) (Option.bind (call 104 [(V.int .u8 ((UInt8.toNat (getD s0 (Int.toNat (IntKind.wrap .i64 (i2 - (1:Int)))) 0):Nat):Int))] []) fun z0=>
 if(getB z0.1)=true then
 (ag0 (s0) (i1) ((IntKind.wrap .i64 (i2 - (1:Int)))))
 else
 (ag1 (s0) (i1) (i2) (i2) ((0:Int)))))
 else
 (ag1 (s0) (i1) (i2) (i2) ((0:Int)))
def BI (call:FuncId→Fun) (ag0:List UInt8→Int→Int→Option (V×List Ob)) (ag1:List UInt8→Int→Int→Int→Int→Option (V×List Ob)) (s0:List UInt8) (i1:Int) (i2:Int) (i3:Int) (i4:Int):Option (V×List Ob):=
 if(decide (i4<i3))=true then
 Option.bind (chk (decide (0≤i4)) (chk (decide (i4<((length s0:Nat):Int))) (if(decide (((UInt8.toNat (getD s0 (Int.toNat i4) 0):Nat):Int)<(33:Int)))=false then
 chk (decide (0≤i4)) (chk (decide (i4<((length s0:Nat):Int))) (some (decide (((UInt8.toNat (getD s0 (Int.toNat i4) 0):Nat):Int)>(126:Int)))))
 else
 some true))) fun y0=>
 if y0=true then
 some ((V.tup [(V.str []),(V.int .i64 0),(V.bool false)]),[])
 else
 (ag1 (s0) (i1) (i2) (i3) ((IntKind.wrap .i64 (i4+(1:Int)))))
 else
 chk (decide (0≤i2)) (chk (decide (i2≤((length s0:Nat):Int))) (chk (decide (0≤(0:Int))) (chk (decide ((0:Int)≤i2)) (some ((V.tup [(V.str (drop (Int.toNat (0:Int)) (take (Int.toNat i2) s0))),(V.int .i64 (IntKind.wrap .i64 (i1+(1:Int)))),(V.bool (decide (i2>(0:Int))))]),[])))))
def T66 (call:FuncId→Fun) (ag0:List UInt8→Int→Int→Option (V×List Ob)) (ag1:List UInt8→Int→Int→Int→Int→Option (V×List Ob)) (a0:List UInt8):Option (V×List Ob):=
 Option.bind (call 89 [(V.str a0),(V.int .u8 58)] []) fun z0=>
 if(decide ((getI z0.1)<(0:Int)))=true then
 some ((V.tup [(V.str []),(V.int .i64 0),(V.bool false)]),[])
 else
 (ag0 (a0) ((getI z0.1)) ((getI z0.1)))
def A66 (a0:List UInt8):List V:=[V.str a0]
def wT (s0:List UInt8) (i1:Int) (i2:Int):St:=⟨[(V.str s0),V.bot,V.bot,V.bot,V.bot,(V.int IntKind.i64 i1),(V.int IntKind.i64 i2)]++List.replicate 39 V.bot,[]⟩
def wU (s0:List UInt8) (i1:Int) (i2:Int) (i3:Int) (i4:Int):St:=⟨[(V.str s0),V.bot,V.bot,V.bot,V.bot,(V.int IntKind.i64 i1),(V.int IntKind.i64 i2),V.bot,V.bot,V.bot,V.bot,V.bot,V.bot,V.bot,V.bot,V.bot,V.bot,V.bot,V.bot,V.bot,V.bot,V.bot,V.bot,V.bot,(V.int IntKind.i64 i3),(V.int IntKind.i64 i4)]++List.replicate 20 V.bot,[]⟩
theorem OT (s0:List UInt8) (i1:Int) (i2:Int):
 RM 66 Tryz.f66 [] call icall again (aI Tryz.f66 0) (wT s0 i1 i2)=BH call (fun s0 i1 i2=>again (aI Tryz.f66 0) (wT s0 i1 i2)) (fun s0 i1 i2 i3 i4=>again (aI Tryz.f66 1) (wU s0 i1 i2 i3 i4)) s0 i1 i2:=by kernel_rfl
theorem OU (s0:List UInt8) (i1:Int) (i2:Int) (i3:Int) (i4:Int):
 RM 66 Tryz.f66 [] call icall again (aI Tryz.f66 1) (wU s0 i1 i2 i3 i4)=BI call (fun s0 i1 i2=>again (aI Tryz.f66 0) (wT s0 i1 i2)) (fun s0 i1 i2 i3 i4=>again (aI Tryz.f66 1) (wU s0 i1 i2 i3 i4)) s0 i1 i2 i3 i4:=by kernel_rfl
theorem E66 (a0:List UInt8):GO 66 Tryz.f66 (A66 a0) [] call icall again=T66 call (fun s0 i1 i2=>again (aI Tryz.f66 0) (wT s0 i1 i2)) (fun s0 i1 i2 i3 i4=>again (aI Tryz.f66 1) (wU s0 i1 i2 i3 i4)) a0:=by kernel_rfl
def L66 (call:FuncId→Fun):Nat→(List UInt8→Int→Int→Option (V×List Ob))×(List UInt8→Int→Int→Int→Int→Option (V×List Ob))
 |0=>⟨fun _ _ _=>none,fun _ _ _ _ _=>none⟩
 |n+1=>⟨BH call (L66 call n).1 (L66 call n).2,BI call (L66 call n).1 (L66 call n).2⟩
theorem R66 (call:FuncId→Fun) (icall:aO (V×List Ob)):∀n,(∀(s0:List UInt8) (i1:Int) (i2:Int),RN 66 Tryz.f66 [] call icall n (aI Tryz.f66 0) (wT s0 i1 i2)=(L66 call n).1 s0 i1 i2)∧(∀(s0:List UInt8) (i1:Int) (i2:Int) (i3:Int) (i4:Int),RN 66 Tryz.f66 [] call icall n (aI Tryz.f66 1) (wU s0 i1 i2 i3 i4)=(L66 call n).2 s0 i1 i2 i3 i4)
 |0=>⟨fun s0 i1 i2=>rfl,fun s0 i1 i2 i3 i4=>rfl⟩
 |n+1=>by
  have ih:=R66 call icall n
  exact⟨fun s0 i1 i2=>(OT call icall (RN 66 Tryz.f66 [] call icall n) s0 i1 i2).trans (by rw[show(fun s0 i1 i2=>RN 66 Tryz.f66 [] call icall n (aI Tryz.f66 0) (wT s0 i1 i2))=(L66 call n).1 from(funext fun s0=>funext fun i1=>funext fun i2=>ih.1 s0 i1 i2),show(fun s0 i1 i2 i3 i4=>RN 66 Tryz.f66 [] call icall n (aI Tryz.f66 1) (wU s0 i1 i2 i3 i4))=(L66 call n).2 from(funext fun s0=>funext fun i1=>funext fun i2=>funext fun i3=>funext fun i4=>ih.2 s0 i1 i2 i3 i4)];rfl),
   fun s0 i1 i2 i3 i4=>(OU call icall (RN 66 Tryz.f66 [] call icall n) s0 i1 i2 i3 i4).trans (by rw[show(fun s0 i1 i2=>RN 66 Tryz.f66 [] call icall n (aI Tryz.f66 0) (wT s0 i1 i2))=(L66 call n).1 from(funext fun s0=>funext fun i1=>funext fun i2=>ih.1 s0 i1 i2),show(fun s0 i1 i2 i3 i4=>RN 66 Tryz.f66 [] call icall n (aI Tryz.f66 1) (wU s0 i1 i2 i3 i4))=(L66 call n).2 from(funext fun s0=>funext fun i1=>funext fun i2=>funext fun i3=>funext fun i4=>ih.2 s0 i1 i2 i3 i4)];rfl)⟩
theorem C66 (k:Nat) (a0:List UInt8):aA cfg (k+1) 66 (A66 a0) []=T66 (aA cfg k) (L66 (aA cfg k) k).1 (L66 (aA cfg k) k).2 a0:=by
 have ih:=R66 (aA cfg k) (aE cfg (aA cfg k) 20) k
 refine(show aA cfg (k+1) 66 (A66 a0) []=GO 66 Tryz.f66 (A66 a0) [] (aA cfg k) (aE cfg (aA cfg k) 20) (RN 66 Tryz.f66 [] (aA cfg k) (aE cfg (aA cfg k) 20) k)by kernel_rfl).trans ((E66 _ _ _ a0).trans ?_)
 rw[show(fun s0 i1 i2=>RN 66 Tryz.f66 [] (aA cfg k) (aE cfg (aA cfg k) 20) k (aI Tryz.f66 0) (wT s0 i1 i2))=(L66 (aA cfg k) k).1 from(funext fun s0=>funext fun i1=>funext fun i2=>ih.1 s0 i1 i2),show(fun s0 i1 i2 i3 i4=>RN 66 Tryz.f66 [] (aA cfg k) (aE cfg (aA cfg k) 20) k (aI Tryz.f66 1) (wU s0 i1 i2 i3 i4))=(L66 (aA cfg k) k).2 from(funext fun s0=>funext fun i1=>funext fun i2=>funext fun i3=>funext fun i4=>ih.2 s0 i1 i2 i3 i4)]
theorem M66 (a0:List UInt8) {r:V×List Ob} (h:Evt (fun k n=>T66 (aA cfg k) (L66 (aA cfg k) n).1 (L66 (aA cfg k) n).2 a0) r):Ret 66 [V.str a0] [] r:=aR (g:=fun k n=>T66 (aA cfg k) (L66 (aA cfg k) n).1 (L66 (aA cfg k) n).2 a0) (fun k=>C66 k a0) h
theorem IU (s0:List UInt8) (i1:Int) (i2:Int) {r:V×List Ob} (h:Evt (fun k n=>BH (aA cfg k) (L66 (aA cfg k) n).1 (L66 (aA cfg k) n).2 s0 i1 i2) r):Evt (fun k n=>(L66 (aA cfg k) n).1 s0 i1 i2) r:=aZ (fun k n=>rfl) h
theorem IV (s0:List UInt8) (i1:Int) (i2:Int) (i3:Int) (i4:Int) {r:V×List Ob} (h:Evt (fun k n=>BI (aA cfg k) (L66 (aA cfg k) n).1 (L66 (aA cfg k) n).2 s0 i1 i2 i3 i4) r):Evt (fun k n=>(L66 (aA cfg k) n).2 s0 i1 i2 i3 i4) r:=aZ (fun k n=>rfl) h
def T74 (call:FuncId→Fun) (a0:Int) (a1:Int) (a2:Int):Option (V×List Ob):=
 Option.bind (if(decide (a0≥(0:Int)))=true then
 if(decide (a0≤a1))=true then
 some (decide (a1≤a2))
 else
 some false
 else
 some false) fun y0=>
 some ((V.bool y0),[])
def A74 (a0:Int) (a1:Int) (a2:Int):List V:=[V.agg [V.int IntKind.i64 a0,V.int IntKind.i64 a1],V.int IntKind.i64 a2]
theorem E74 (a0:Int) (a1:Int) (a2:Int):GO 74 Tryz.f74 (A74 a0 a1 a2) [] call icall again=T74 call a0 a1 a2:=by kernel_rfl
theorem C74 (k:Nat) (a0:Int) (a1:Int) (a2:Int):aA cfg (k+1) 74 (A74 a0 a1 a2) []=T74 (aA cfg k) a0 a1 a2:=
 (show aA cfg (k+1) 74 (A74 a0 a1 a2) []=GO 74 Tryz.f74 (A74 a0 a1 a2) [] (aA cfg k) (aE cfg (aA cfg k) 20) (RN 74 Tryz.f74 [] (aA cfg k) (aE cfg (aA cfg k) 20) k)by kernel_rfl).trans (E74 _ _ _ a0 a1 a2)
theorem M74 (a0:Int) (a1:Int) (a2:Int) {r:V×List Ob} (h:Evt (fun k n=>T74 (aA cfg k) a0 a1 a2) r):Ret 74 [V.agg [V.int IntKind.i64 a0,V.int IntKind.i64 a1],V.int IntKind.i64 a2] [] r:=aR (g:=fun k n=>T74 (aA cfg k) a0 a1 a2) (fun k=>C74 k a0 a1 a2) h
def zW (call:FuncId→Fun) (ag0:List V→Int→Int→Option (V×List Ob)) (l0:List V) (i1:Int) (i2:Int):Option (V×List Ob):=
 if(decide (i2<i1))=true then
 chk (decide (0≤i2)) (chk (decide (i2<((length l0:Nat):Int))) (Option.bind (call 103 [(V.agg [(V.int .i64 (getI (headD (V.cells (getD l0 (Int.toNat i2) V.bot)) V.bot))),(V.int .i64 (getI (headD (tail (V.cells (getD l0 (Int.toNat i2) V.bot))) V.bot))),(V.int .i64 (getI (headD (tail (tail (V.cells (getD l0 (Int.toNat i2) V.bot)))) V.bot)))])] []) fun z0=>
 if(getB z0.1)=true then
 some ((V.int .i64 i2),[])
 else
 (ag0 (l0) (i1) ((IntKind.wrap .i64 (i2+(1:Int)))))))
 else
 some ((V.int .i64 (-1:Int)),[])
def IW (call:FuncId→Fun) (ag0:List V→Int→Int→Option (V×List Ob)) (a0:List V):Option (V×List Ob):=
 (ag0 (a0) (((length a0:Nat):Int)) ((0:Int)))
def Kz (a0:List V):List V:=[V.lst 134 false a0,V.clo (Fn.func 103) [] []]
def vR (l0:List V) (i1:Int) (i2:Int):St:=⟨[(V.lst 134 false l0),(V.clo (Fn.func 103) [] []),V.bot,V.bot,V.bot,V.bot,V.bot,(V.int IntKind.i64 i1),(V.int IntKind.i64 i2)]++List.replicate 10 V.bot,[]⟩
theorem M5 (l0:List V) (i1:Int) (i2:Int):
 RM 102 Tryz.f102 [] call icall again (aI Tryz.f102 0) (vR l0 i1 i2)=zW call (fun l0 i1 i2=>again (aI Tryz.f102 0) (vR l0 i1 i2)) l0 i1 i2:=by kernel_rfl
theorem QZ (a0:List V):GO 102 Tryz.f102 (Kz a0) [] call icall again=IW call (fun l0 i1 i2=>again (aI Tryz.f102 0) (vR l0 i1 i2)) a0:=by kernel_rfl
def zX (call:FuncId→Fun):Nat→(List V→Int→Int→Option (V×List Ob))
 |0=>fun _ _ _=>none
 |n+1=>zW call (zX call n)
theorem OV (call:FuncId→Fun) (icall:aO (V×List Ob)):∀n,(∀(l0:List V) (i1:Int) (i2:Int),RN 102 Tryz.f102 [] call icall n (aI Tryz.f102 0) (vR l0 i1 i2)=(zX call n) l0 i1 i2)
 |0=>fun l0 i1 i2=>rfl
 |n+1=>by
  have ih:=OV call icall n
  exact fun l0 i1 i2=>(M5 call icall (RN 102 Tryz.f102 [] call icall n) l0 i1 i2).trans (by rw[show(fun l0 i1 i2=>RN 102 Tryz.f102 [] call icall n (aI Tryz.f102 0) (vR l0 i1 i2))=(zX call n)from(funext fun l0=>funext fun i1=>funext fun i2=>ih l0 i1 i2)];rfl)
theorem Q0 (k:Nat) (a0:List V):aA cfg (k+1) 102 (Kz a0) []=IW (aA cfg k) (zX (aA cfg k) k) a0:=by
 have ih:=OV (aA cfg k) (aE cfg (aA cfg k) 20) k
 refine(show aA cfg (k+1) 102 (Kz a0) []=GO 102 Tryz.f102 (Kz a0) [] (aA cfg k) (aE cfg (aA cfg k) 20) (RN 102 Tryz.f102 [] (aA cfg k) (aE cfg (aA cfg k) 20) k)by kernel_rfl).trans ((QZ _ _ _ a0).trans ?_)
 rw[show(fun l0 i1 i2=>RN 102 Tryz.f102 [] (aA cfg k) (aE cfg (aA cfg k) 20) k (aI Tryz.f102 0) (vR l0 i1 i2))=(zX (aA cfg k) k)from(funext fun l0=>funext fun i1=>funext fun i2=>ih l0 i1 i2)]
theorem Q1 (a0:List V) {r:V×List Ob} (h:Evt (fun k n=>IW (aA cfg k) (zX (aA cfg k) n) a0) r):Ret 102 [V.lst 134 false a0,V.clo (Fn.func 103) [] []] [] r:=aR (g:=fun k n=>IW (aA cfg k) (zX (aA cfg k) n) a0) (fun k=>Q0 k a0) h
theorem IX (l0:List V) (i1:Int) (i2:Int) {r:V×List Ob} (h:Evt (fun k n=>zW (aA cfg k) (zX (aA cfg k) n) l0 i1 i2) r):Evt (fun k n=>(zX (aA cfg k) n) l0 i1 i2) r:=aZ (fun k n=>rfl) h
def IY (call:FuncId→Fun) (a0:Int) (a1:Int) (a2:Int):Option (V×List Ob):=
 some ((V.bool (a0==a1)),[])
def KA (a0:Int) (a1:Int) (a2:Int):List V:=[V.agg [V.int IntKind.i64 a0,V.int IntKind.i64 a1,V.int IntKind.i64 a2]]
theorem Q2 (a0:Int) (a1:Int) (a2:Int):GO 103 Tryz.f103 (KA a0 a1 a2) [] call icall again=IY call a0 a1 a2:=by kernel_rfl
theorem Q3 (k:Nat) (a0:Int) (a1:Int) (a2:Int):aA cfg (k+1) 103 (KA a0 a1 a2) []=IY (aA cfg k) a0 a1 a2:=
 (show aA cfg (k+1) 103 (KA a0 a1 a2) []=GO 103 Tryz.f103 (KA a0 a1 a2) [] (aA cfg k) (aE cfg (aA cfg k) 20) (RN 103 Tryz.f103 [] (aA cfg k) (aE cfg (aA cfg k) 20) k)by kernel_rfl).trans (Q2 _ _ _ a0 a1 a2)
theorem Q4 (a0:Int) (a1:Int) (a2:Int) {r:V×List Ob} (h:Evt (fun k n=>IY (aA cfg k) a0 a1 a2) r):Ret 103 [V.agg [V.int IntKind.i64 a0,V.int IntKind.i64 a1,V.int IntKind.i64 a2]] [] r:=aR (g:=fun k n=>IY (aA cfg k) a0 a1 a2) (fun k=>Q3 k a0 a1 a2) h
def Ed (call:FuncId→Fun) (ag0:List V→Int→Int→List UInt8→Option (V×List Ob)) (l0:List V) (i1:Int) (i2:Int) (s3:List UInt8):Option (V×List Ob):=
 if(decide (i2<i1))=true then
 chk (decide (0≤i2)) (chk (decide (i2<((length l0:Nat):Int))) (Option.bind (call 68 [(V.agg [(V.str (getS (headD (V.cells (getD l0 (Int.toNat i2) V.bot)) V.bot))),(V.int .i64 (getI (headD (tail (V.cells (getD l0 (Int.toNat i2) V.bot))) V.bot))),(V.int .i64 (getI (headD (tail (tail (V.cells (getD l0 (Int.toNat i2) V.bot)))) V.bot))),(V.int .i64 (getI (headD (tail (tail (tail (V.cells (getD l0 (Int.toNat i2) V.bot))))) V.bot)))]),(V.ref 0 0)] [(Ob.cells [(V.str s3)])]) fun z0=>
 if(getB z0.1)=true then
 some ((V.int .i64 i2),[(Ob.cells [(V.str (getS (headD (Ob.getC (headD z0.2 Ob.dead)) V.bot)))])])
 else
 (ag0 (l0) (i1) ((IntKind.wrap .i64 (i2+(1:Int)))) ((getS (headD (Ob.getC (headD z0.2 Ob.dead)) V.bot))))))
 else
 some ((V.int .i64 (-1:Int)),[(Ob.cells [(V.str s3)])])
def T67 (call:FuncId→Fun) (ag0:List V→Int→Int→List UInt8→Option (V×List Ob)) (a0:List V) (a1:List UInt8):Option (V×List Ob):=
 (ag0 (a0) (((length a0:Nat):Int)) ((0:Int)) (a1))
def O67 (a1:List UInt8):List Ob:=[Ob.cells [V.str a1]]
def A67 (a0:List V):List V:=[V.lst 91 false a0,V.clo (Fn.func 68) [] [V.ref 0 0]]
def BJ (l0:List V) (i1:Int) (i2:Int) (s3:List UInt8):St:=⟨[(V.lst 91 false l0),(V.clo (Fn.func 68) [] [(V.ref 0 0)]),V.bot,V.bot,V.bot,V.bot,V.bot,(V.int IntKind.i64 i1),(V.int IntKind.i64 i2)]++List.replicate 10 V.bot,[(Ob.cells [(V.str s3)])]⟩
theorem OW (a1:List UInt8) (l0:List V) (i1:Int) (i2:Int) (s3:List UInt8):
 RM 67 Tryz.f67 (O67 a1) call icall again (aI Tryz.f67 0) (BJ l0 i1 i2 s3)=Ed call (fun l0 i1 i2 s3=>again (aI Tryz.f67 0) (BJ l0 i1 i2 s3)) l0 i1 i2 s3:=by kernel_rfl
theorem E67 (a0:List V) (a1:List UInt8):GO 67 Tryz.f67 (A67 a0) (O67 a1) call icall again=T67 call (fun l0 i1 i2 s3=>again (aI Tryz.f67 0) (BJ l0 i1 i2 s3)) a0 a1:=by kernel_rfl
def L67 (call:FuncId→Fun):Nat→(List V→Int→Int→List UInt8→Option (V×List Ob))
 |0=>fun _ _ _ _=>none
 |n+1=>Ed call (L67 call n)
theorem R67 (call:FuncId→Fun) (icall:aO (V×List Ob)) (a1:List UInt8):∀n,(∀(l0:List V) (i1:Int) (i2:Int) (s3:List UInt8),RN 67 Tryz.f67 (O67 a1) call icall n (aI Tryz.f67 0) (BJ l0 i1 i2 s3)=(L67 call n) l0 i1 i2 s3)
 |0=>fun l0 i1 i2 s3=>rfl
 |n+1=>by
  have ih:=R67 call icall a1 n
  exact fun l0 i1 i2 s3=>(OW call icall (RN 67 Tryz.f67 (O67 a1) call icall n) a1 l0 i1 i2 s3).trans (by rw[show(fun l0 i1 i2 s3=>RN 67 Tryz.f67 (O67 a1) call icall n (aI Tryz.f67 0) (BJ l0 i1 i2 s3))=(L67 call n)from(funext fun l0=>funext fun i1=>funext fun i2=>funext fun s3=>ih l0 i1 i2 s3)];rfl)
theorem C67 (k:Nat) (a0:List V) (a1:List UInt8):aA cfg (k+1) 67 (A67 a0) (O67 a1)=T67 (aA cfg k) (L67 (aA cfg k) k) a0 a1:=by
 have ih:=R67 (aA cfg k) (aE cfg (aA cfg k) 20) a1 k
 refine(show aA cfg (k+1) 67 (A67 a0) (O67 a1)=GO 67 Tryz.f67 (A67 a0) (O67 a1) (aA cfg k) (aE cfg (aA cfg k) 20) (RN 67 Tryz.f67 (O67 a1) (aA cfg k) (aE cfg (aA cfg k) 20) k)by kernel_rfl).trans ((E67 _ _ _ a0 a1).trans ?_)
 rw[show(fun l0 i1 i2 s3=>RN 67 Tryz.f67 (O67 a1) (aA cfg k) (aE cfg (aA cfg k) 20) k (aI Tryz.f67 0) (BJ l0 i1 i2 s3))=(L67 (aA cfg k) k)from(funext fun l0=>funext fun i1=>funext fun i2=>funext fun s3=>ih l0 i1 i2 s3)]
theorem M67 (a0:List V) (a1:List UInt8) {r:V×List Ob} (h:Evt (fun k n=>T67 (aA cfg k) (L67 (aA cfg k) n) a0 a1) r):Ret 67 [V.lst 91 false a0,V.clo (Fn.func 68) [] [V.ref 0 0]] [Ob.cells [V.str a1]] r:=aR (g:=fun k n=>T67 (aA cfg k) (L67 (aA cfg k) n) a0 a1) (fun k=>C67 k a0 a1) h
theorem LJ (l0:List V) (i1:Int) (i2:Int) (s3:List UInt8) {r:V×List Ob} (h:Evt (fun k n=>Ed (aA cfg k) (L67 (aA cfg k) n) l0 i1 i2 s3) r):Evt (fun k n=>(L67 (aA cfg k) n) l0 i1 i2 s3) r:=aZ (fun k n=>rfl) h
def T68 (call:FuncId→Fun) (a0:List UInt8) (a1:Int) (a2:Int) (a3:Int) (a4:List UInt8):Option (V×List Ob):=
 Option.bind (call 69 [(V.str a0),(V.str a4)] []) fun z0=>
 some ((V.bool (getB z0.1)),[(Ob.cells [(V.str a4)])])
def O68 (a4:List UInt8):List Ob:=[Ob.cells [V.str a4]]
def A68 (a0:List UInt8) (a1:Int) (a2:Int) (a3:Int):List V:=[V.agg [V.str a0,V.int IntKind.i64 a1,V.int IntKind.i64 a2,V.int IntKind.i64 a3],V.ref 0 0]
theorem E68 (a0:List UInt8) (a1:Int) (a2:Int) (a3:Int) (a4:List UInt8):GO 68 Tryz.f68 (A68 a0 a1 a2 a3) (O68 a4) call icall again=T68 call a0 a1 a2 a3 a4:=by kernel_rfl
theorem C68 (k:Nat) (a0:List UInt8) (a1:Int) (a2:Int) (a3:Int) (a4:List UInt8):aA cfg (k+1) 68 (A68 a0 a1 a2 a3) (O68 a4)=T68 (aA cfg k) a0 a1 a2 a3 a4:=
 (show aA cfg (k+1) 68 (A68 a0 a1 a2 a3) (O68 a4)=GO 68 Tryz.f68 (A68 a0 a1 a2 a3) (O68 a4) (aA cfg k) (aE cfg (aA cfg k) 20) (RN 68 Tryz.f68 (O68 a4) (aA cfg k) (aE cfg (aA cfg k) 20) k)by kernel_rfl).trans (E68 _ _ _ a0 a1 a2 a3 a4)
theorem M68 (a0:List UInt8) (a1:Int) (a2:Int) (a3:Int) (a4:List UInt8) {r:V×List Ob} (h:Evt (fun k n=>T68 (aA cfg k) a0 a1 a2 a3 a4) r):Ret 68 [V.agg [V.str a0,V.int IntKind.i64 a1,V.int IntKind.i64 a2,V.int IntKind.i64 a3],V.ref 0 0] [Ob.cells [V.str a4]] r:=aR (g:=fun k n=>T68 (aA cfg k) a0 a1 a2 a3 a4) (fun k=>C68 k a0 a1 a2 a3 a4) h
def T27 (call:FuncId→Fun) (a0:List V) (a1:List UInt8):Option (V×List Ob):=
 Option.bind (call 54 [(V.ref 0 0)] [(Ob.cells [(V.opt 0 0),(V.lst 5 true a0)])]) fun z0=>
 chk (mZ (getL (headD (tail (Ob.getC (headD z0.2 Ob.dead))) V.bot)) a1 2) (some ((V.tup [(V.int .i64 ((length a1:Nat):Int)),(V.raw (Value.nilIface))]),[(Ob.cells [(V.opt 0 0),(V.lst 5 true ((getL (headD (tail (Ob.getC (headD z0.2 Ob.dead))) V.bot))++(ofBytes a1)))])]))
def O27 (a0:List V):List Ob:=[Ob.cells [V.opt 0 0,V.lst 5 true a0]]
def A27 (a1:List UInt8):List V:=[V.ref 0 0,V.str a1]
theorem E27 (a0:List V) (a1:List UInt8):GO 27 Tryz.f27 (A27 a1) (O27 a0) call icall again=T27 call a0 a1:=by kernel_rfl
theorem C27 (k:Nat) (a0:List V) (a1:List UInt8):aA cfg (k+1) 27 (A27 a1) (O27 a0)=T27 (aA cfg k) a0 a1:=
 (show aA cfg (k+1) 27 (A27 a1) (O27 a0)=GO 27 Tryz.f27 (A27 a1) (O27 a0) (aA cfg k) (aE cfg (aA cfg k) 20) (RN 27 Tryz.f27 (O27 a0) (aA cfg k) (aE cfg (aA cfg k) 20) k)by kernel_rfl).trans (E27 _ _ _ a0 a1)
theorem M27 (a0:List V) (a1:List UInt8) {r:V×List Ob} (h:Evt (fun k n=>T27 (aA cfg k) a0 a1) r):Ret 27 [V.ref 0 0,V.str a1] [Ob.cells [V.opt 0 0,V.lst 5 true a0]] r:=aR (g:=fun k n=>T27 (aA cfg k) a0 a1) (fun k=>C27 k a0 a1) h
def Ee (call:FuncId→Fun) (ag0:List V→List V→Int→Int→List UInt8→Int→Int→Int→List V→Option (V×List Ob)) (l0:List V) (l1:List V) (i2:Int) (i3:Int) (s4:List UInt8) (i5:Int) (i6:Int) (i7:Int) (l8:List V):Option (V×List Ob):=
 if(decide (i3<i2))=true then
 chk (decide (0≤i3)) (chk (decide (i3<((length l1:Nat):Int))) (Option.bind (call 64 [(V.lst 5 false l0),(V.agg [(V.int .i64 (getI (headD (V.cells (getD l1 (Int.toNat i3) V.bot)) V.bot))),(V.int .i64 (getI (headD (tail (V.cells (getD l1 (Int.toNat i3) V.bot))) V.bot))),(V.int .i64 (getI (headD (tail (tail (V.cells (getD l1 (Int.toNat i3) V.bot)))) V.bot)))])] []) fun z0=>
 Option.bind (call 27 [(V.ref 0 0),(V.str (getS z0.1))] [(Ob.cells [(V.opt 0 0),(V.lst 5 true l8)])]) fun z1=>
 (ag0 (l0) (l1) (i2) ((IntKind.wrap .i64 (i3+(1:Int)))) (s4) (i5) (i6) (i7) ((getL (headD (tail (Ob.getC (headD z1.2 Ob.dead))) V.bot))))))
 else
 Option.bind (call 29 [(V.ref 0 0)] [(Ob.cells [(V.opt 0 0),(V.lst 5 true l8)])]) fun z0=>
 Option.bind (call 105 [(V.str (getS z0.1))] []) fun z1=>
 some ((V.str (getS z1.1)),[])
def T70 (call:FuncId→Fun) (ag0:List V→List V→Int→Int→List UInt8→Int→Int→Int→List V→Option (V×List Ob)) (a0:List V) (a1:List UInt8) (a2:Int) (a3:Int) (a4:Int):Option (V×List Ob):=
 Option.bind (call 62 [(V.lst 5 false a0),(V.agg [(V.int .i64 a3),(V.int .i64 a4)])] []) fun z0=>
 (ag0 (a0) ((getL z0.1)) (((length (getL z0.1):Nat):Int)) ((0:Int)) (a1) (a2) (a3) (a4) ([]))
def A70 (a0:List V) (a1:List UInt8) (a2:Int) (a3:Int) (a4:Int):List V:=[V.lst 5 false a0,V.agg [V.str a1,V.int IntKind.i64 a2,V.int IntKind.i64 a3,V.int IntKind.i64 a4]]
def BK (l0:List V) (l1:List V) (i2:Int) (i3:Int) (s4:List UInt8) (i5:Int) (i6:Int) (i7:Int) (l8:List V):St:=⟨[(V.lst 5 false l0),V.bot,V.bot,V.bot,V.bot,(V.ref 1 0),V.bot,V.bot,V.bot,V.bot,V.bot,V.bot,V.bot,V.bot,(V.lst 134 false l1),(V.int IntKind.i64 i2),(V.int IntKind.i64 i3)]++List.replicate 10 V.bot,[(Ob.cells [(V.str s4),(V.int IntKind.i64 i5),(V.int IntKind.i64 i6),(V.int IntKind.i64 i7)]),(Ob.cells [(V.opt 1 0),(V.lst 5 true l8)])]⟩
theorem OX (l0:List V) (l1:List V) (i2:Int) (i3:Int) (s4:List UInt8) (i5:Int) (i6:Int) (i7:Int) (l8:List V):
 RM 70 Tryz.f70 [] call icall again (aI Tryz.f70 0) (BK l0 l1 i2 i3 s4 i5 i6 i7 l8)=Ee call (fun l0 l1 i2 i3 s4 i5 i6 i7 l8=>again (aI Tryz.f70 0) (BK l0 l1 i2 i3 s4 i5 i6 i7 l8)) l0 l1 i2 i3 s4 i5 i6 i7 l8:=by kernel_rfl
theorem E70 (a0:List V) (a1:List UInt8) (a2:Int) (a3:Int) (a4:Int):GO 70 Tryz.f70 (A70 a0 a1 a2 a3 a4) [] call icall again=T70 call (fun l0 l1 i2 i3 s4 i5 i6 i7 l8=>again (aI Tryz.f70 0) (BK l0 l1 i2 i3 s4 i5 i6 i7 l8)) a0 a1 a2 a3 a4:=by kernel_rfl
def L70 (call:FuncId→Fun):Nat→(List V→List V→Int→Int→List UInt8→Int→Int→Int→List V→Option (V×List Ob))
 |0=>fun _ _ _ _ _ _ _ _ _=>none
 |n+1=>Ee call (L70 call n)
theorem R70 (call:FuncId→Fun) (icall:aO (V×List Ob)):∀n,(∀(l0:List V) (l1:List V) (i2:Int) (i3:Int) (s4:List UInt8) (i5:Int) (i6:Int) (i7:Int) (l8:List V),RN 70 Tryz.f70 [] call icall n (aI Tryz.f70 0) (BK l0 l1 i2 i3 s4 i5 i6 i7 l8)=(L70 call n) l0 l1 i2 i3 s4 i5 i6 i7 l8)
 |0=>fun l0 l1 i2 i3 s4 i5 i6 i7 l8=>rfl
 |n+1=>by
  have ih:=R70 call icall n
  exact fun l0 l1 i2 i3 s4 i5 i6 i7 l8=>(OX call icall (RN 70 Tryz.f70 [] call icall n) l0 l1 i2 i3 s4 i5 i6 i7 l8).trans (by rw[show(fun l0 l1 i2 i3 s4 i5 i6 i7 l8=>RN 70 Tryz.f70 [] call icall n (aI Tryz.f70 0) (BK l0 l1 i2 i3 s4 i5 i6 i7 l8))=(L70 call n)from(funext fun l0=>funext fun l1=>funext fun i2=>funext fun i3=>funext fun s4=>funext fun i5=>funext fun i6=>funext fun i7=>funext fun l8=>ih l0 l1 i2 i3 s4 i5 i6 i7 l8)];rfl)
theorem C70 (k:Nat) (a0:List V) (a1:List UInt8) (a2:Int) (a3:Int) (a4:Int):aA cfg (k+1) 70 (A70 a0 a1 a2 a3 a4) []=T70 (aA cfg k) (L70 (aA cfg k) k) a0 a1 a2 a3 a4:=by
 have ih:=R70 (aA cfg k) (aE cfg (aA cfg k) 20) k
 refine(show aA cfg (k+1) 70 (A70 a0 a1 a2 a3 a4) []=GO 70 Tryz.f70 (A70 a0 a1 a2 a3 a4) [] (aA cfg k) (aE cfg (aA cfg k) 20) (RN 70 Tryz.f70 [] (aA cfg k) (aE cfg (aA cfg k) 20) k)by kernel_rfl).trans ((E70 _ _ _ a0 a1 a2 a3 a4).trans ?_)
 rw[show(fun l0 l1 i2 i3 s4 i5 i6 i7 l8=>RN 70 Tryz.f70 [] (aA cfg k) (aE cfg (aA cfg k) 20) k (aI Tryz.f70 0) (BK l0 l1 i2 i3 s4 i5 i6 i7 l8))=(L70 (aA cfg k) k)from(funext fun l0=>funext fun l1=>funext fun i2=>funext fun i3=>funext fun s4=>funext fun i5=>funext fun i6=>funext fun i7=>funext fun l8=>ih l0 l1 i2 i3 s4 i5 i6 i7 l8)]
theorem M70 (a0:List V) (a1:List UInt8) (a2:Int) (a3:Int) (a4:Int) {r:V×List Ob} (h:Evt (fun k n=>T70 (aA cfg k) (L70 (aA cfg k) n) a0 a1 a2 a3 a4) r):Ret 70 [V.lst 5 false a0,V.agg [V.str a1,V.int IntKind.i64 a2,V.int IntKind.i64 a3,V.int IntKind.i64 a4]] [] r:=aR (g:=fun k n=>T70 (aA cfg k) (L70 (aA cfg k) n) a0 a1 a2 a3 a4) (fun k=>C70 k a0 a1 a2 a3 a4) h
theorem LK (l0:List V) (l1:List V) (i2:Int) (i3:Int) (s4:List UInt8) (i5:Int) (i6:Int) (i7:Int) (l8:List V) {r:V×List Ob} (h:Evt (fun k n=>Ee (aA cfg k) (L70 (aA cfg k) n) l0 l1 i2 i3 s4 i5 i6 i7 l8) r):Evt (fun k n=>(L70 (aA cfg k) n) l0 l1 i2 i3 s4 i5 i6 i7 l8) r:=aZ (fun k n=>rfl) h
def T33 (call:FuncId→Fun) (a0:List V) (a1:List UInt8):Option (V×List Ob):=
 Option.bind (call 67 [(V.lst 91 false a0),(V.clo (Fn.func 68) [] [(V.ref 0 0)])] [(Ob.cells [(V.str a1)])]) fun z0=>
 if(decide ((getI z0.1)<(0:Int)))=true then
 some ((V.tup [(V.agg [(V.str []),(V.int .i64 0),(V.int .i64 0),(V.int .i64 0)]),(V.bool false)]),[])
 else
 chk (decide (0≤(getI z0.1))) (chk (decide ((getI z0.1)<((length a0:Nat):Int))) (some ((V.tup [(V.agg [(V.str (getS (headD (V.cells (getD a0 (Int.toNat (getI z0.1)) V.bot)) V.bot))),(V.int .i64 (getI (headD (tail (V.cells (getD a0 (Int.toNat (getI z0.1)) V.bot))) V.bot))),(V.int .i64 (getI (headD (tail (tail (V.cells (getD a0 (Int.toNat (getI z0.1)) V.bot)))) V.bot))),(V.int .i64 (getI (headD (tail (tail (tail (V.cells (getD a0 (Int.toNat (getI z0.1)) V.bot))))) V.bot)))]),(V.bool true)]),[])))
def A33 (a0:List V) (a1:List UInt8):List V:=[V.lst 91 false a0,V.str a1]
theorem E33 (a0:List V) (a1:List UInt8):GO 33 Tryz.f33 (A33 a0 a1) [] call icall again=T33 call a0 a1:=by kernel_rfl
theorem C33 (k:Nat) (a0:List V) (a1:List UInt8):aA cfg (k+1) 33 (A33 a0 a1) []=T33 (aA cfg k) a0 a1:=
 (show aA cfg (k+1) 33 (A33 a0 a1) []=GO 33 Tryz.f33 (A33 a0 a1) [] (aA cfg k) (aE cfg (aA cfg k) 20) (RN 33 Tryz.f33 [] (aA cfg k) (aE cfg (aA cfg k) 20) k)by kernel_rfl).trans (E33 _ _ _ a0 a1)
theorem M33 (a0:List V) (a1:List UInt8) {r:V×List Ob} (h:Evt (fun k n=>T33 (aA cfg k) a0 a1) r):Ret 33 [V.lst 91 false a0,V.str a1] [] r:=aR (g:=fun k n=>T33 (aA cfg k) a0 a1) (fun k=>C33 k a0 a1) h
def T34 (call:FuncId→Fun) (a0:List V) (a1:List V) (a2:List UInt8):Option (V×List Ob):=
 Option.bind (call 33 [(V.lst 91 false a1),(V.str a2)] []) fun z0=>
 if(!(getB (headD (tail (getT z0.1)) V.bot)))=true then
 some ((V.str []),[])
 else
 Option.bind (call 70 [(V.lst 5 false a0),(V.agg [(V.str (getS (headD (V.cells (headD (getT z0.1) V.bot)) V.bot))),(V.int .i64 (getI (headD (tail (V.cells (headD (getT z0.1) V.bot))) V.bot))),(V.int .i64 (getI (headD (tail (tail (V.cells (headD (getT z0.1) V.bot)))) V.bot))),(V.int .i64 (getI (headD (tail (tail (tail (V.cells (headD (getT z0.1) V.bot))))) V.bot)))])] []) fun z1=>
 some ((V.str (getS z1.1)),[])
def A34 (a0:List V) (a1:List V) (a2:List UInt8):List V:=[V.lst 5 false a0,V.lst 91 false a1,V.str a2]
theorem E34 (a0:List V) (a1:List V) (a2:List UInt8):GO 34 Tryz.f34 (A34 a0 a1 a2) [] call icall again=T34 call a0 a1 a2:=by kernel_rfl
theorem C34 (k:Nat) (a0:List V) (a1:List V) (a2:List UInt8):aA cfg (k+1) 34 (A34 a0 a1 a2) []=T34 (aA cfg k) a0 a1 a2:=
 (show aA cfg (k+1) 34 (A34 a0 a1 a2) []=GO 34 Tryz.f34 (A34 a0 a1 a2) [] (aA cfg k) (aE cfg (aA cfg k) 20) (RN 34 Tryz.f34 [] (aA cfg k) (aE cfg (aA cfg k) 20) k)by kernel_rfl).trans (E34 _ _ _ a0 a1 a2)
theorem M34 (a0:List V) (a1:List V) (a2:List UInt8) {r:V×List Ob} (h:Evt (fun k n=>T34 (aA cfg k) a0 a1 a2) r):Ret 34 [V.lst 5 false a0,V.lst 91 false a1,V.str a2] [] r:=aR (g:=fun k n=>T34 (aA cfg k) a0 a1 a2) (fun k=>C34 k a0 a1 a2) h
def Ef (call:FuncId→Fun) (ag0:List V→Int→List V→Bool→List V→Int→Int→Option (V×List Ob)) (l0:List V) (i1:Int) (o2:List V) (b3:Bool) (l4:List V) (i5:Int) (i6:Int):Option (V×List Ob):=
 if(decide (i6<i5))=true then
 chk (decide (0≤i6)) (chk (decide (i6<((length l4:Nat):Int))) (Option.bind (call 64 [(V.lst 5 false l0),(V.agg [(V.int .i64 (getI (headD (V.cells (getD l4 (Int.toNat i6) V.bot)) V.bot))),(V.int .i64 (getI (headD (tail (V.cells (getD l4 (Int.toNat i6) V.bot))) V.bot))),(V.int .i64 (getI (headD (tail (tail (V.cells (getD l4 (Int.toNat i6) V.bot)))) V.bot)))])] []) fun z0=>
 Option.bind (call 65 [(V.str (getS z0.1))] []) fun z1=>
 if(getB z1.1)=true then
 if b3=true then
 chk (decide (0≤(IntKind.wrap .i64 (((length o2:Nat):Int) - (1:Int))))) (chk (decide ((IntKind.wrap .i64 (((length o2:Nat):Int) - (1:Int)))<((length o2:Nat):Int))) ((ag0 (l0) (i1) ((List.set o2 (Int.toNat (IntKind.wrap .i64 (((length o2:Nat):Int) - (1:Int)))) (V.agg [(V.str (getS (headD (V.cells (getD o2 (Int.toNat (IntKind.wrap .i64 (((length o2:Nat):Int) - (1:Int)))) V.bot)) V.bot))),(V.int .i64 (getI (headD (tail (V.cells (getD o2 (Int.toNat (IntKind.wrap .i64 (((length o2:Nat):Int) - (1:Int)))) V.bot))) V.bot))),(V.int .i64 (getI (headD (tail (tail (V.cells (getD o2 (Int.toNat (IntKind.wrap .i64 (((length o2:Nat):Int) - (1:Int)))) V.bot)))) V.bot))),(V.int .i64 (getI (headD (tail (tail (V.cells (getD l4 (Int.toNat i6) V.bot)))) V.bot)))]))) (b3) (l4) (i5) ((IntKind.wrap .i64 (i6+(1:Int)))))))
 else
 (ag0 (l0) (i1) (o2) (b3) (l4) (i5) ((IntKind.wrap .i64 (i6+(1:Int)))))
 else
 Option.bind (call 66 [(V.str (getS z0.1))] []) fun z2=>
 if(getB (headD (tail (tail (getT z2.1))) V.bot))=true then
 chk (aW o2 [(V.agg [(V.str (getS (headD (getT z2.1) V.bot))),(V.int .i64 (getI (headD (V.cells (getD l4 (Int.toNat i6) V.bot)) V.bot))),(V.int .i64 (IntKind.wrap .i64 ((getI (headD (V.cells (getD l4 (Int.toNat i6) V.bot)) V.bot))+(getI (headD (tail (getT z2.1)) V.bot))))),(V.int .i64 (getI (headD (tail (tail (V.cells (getD l4 (Int.toNat i6) V.bot)))) V.bot)))])] 41) ((ag0 (l0) (i1) ((o2++[(V.agg [(V.str (getS (headD (getT z2.1) V.bot))),(V.int .i64 (getI (headD (V.cells (getD l4 (Int.toNat i6) V.bot)) V.bot))),(V.int .i64 (IntKind.wrap .i64 ((getI (headD (V.cells (getD l4 (Int.toNat i6) V.bot)) V.bot))+(getI (headD (tail (getT z2.1)) V.bot))))),(V.int .i64 (getI (headD (tail (tail (V.cells (getD l4 (Int.toNat i6) V.bot)))) V.bot)))])])) ((getB (headD (tail (tail (getT z2.1))) V.bot))) (l4) (i5) ((IntKind.wrap .i64 (i6+(1:Int))))))
 else
 (ag0 (l0) (i1) (o2) ((getB (headD (tail (tail (getT z2.1))) V.bot))) (l4) (i5) ((IntKind.wrap .i64 (i6+(1:Int)))))))
 else
 some ((V.tup [(V.lst 91 false o2),(V.int .i64 i1)]),[])
def T32 (call:FuncId→Fun) (ag0:List V→Int→List V→Bool→List V→Int→Int→Option (V×List Ob)) (a0:List V) (a1:Int) (a2:Int):Option (V×List Ob):=
 Option.bind (call 62 [(V.lst 5 false a0),(V.agg [(V.int .i64 a1),(V.int .i64 a2)])] []) fun z0=>
 if(((length (getL z0.1):Nat):Int)==(0:Int))=true then
 some ((V.tup [(V.lst 91 false []),(V.int .i64 a1)]),[])
 else
 chk (decide (0≤(IntKind.wrap .i64 (((length (getL z0.1):Nat):Int) - (1:Int))))) (chk (decide ((IntKind.wrap .i64 (((length (getL z0.1):Nat):Int) - (1:Int)))<((length (getL z0.1):Nat):Int))) (Option.bind (call 63 [(V.lst 134 false (getL z0.1))] []) fun z1=>
 if(decide ((getI z1.1)≥(0:Int)))=true then
 chk (decide (0≤(getI z1.1))) (chk (decide ((getI z1.1)<((length (getL z0.1):Nat):Int))) (chk (decide (0≤(getI z1.1))) (chk (decide ((getI z1.1)≤((length (getL z0.1):Nat):Int))) (chk (decide (0≤(0:Int))) (chk (decide ((0:Int)≤(getI z1.1))) ((ag0 (a0) ((getI (headD (tail (tail (V.cells (getD (getL z0.1) (Int.toNat (getI z1.1)) V.bot)))) V.bot))) ([]) (false) ((drop (Int.toNat (0:Int)) (take (Int.toNat (getI z1.1)) (getL z0.1)))) (((length (drop (Int.toNat (0:Int)) (take (Int.toNat (getI z1.1)) (getL z0.1))):Nat):Int)) ((0:Int)))))))))
 else
 (ag0 (a0) ((getI (headD (tail (tail (V.cells (getD (getL z0.1) (Int.toNat (IntKind.wrap .i64 (((length (getL z0.1):Nat):Int) - (1:Int)))) V.bot)))) V.bot))) ([]) (false) ((getL z0.1)) (((length (getL z0.1):Nat):Int)) ((0:Int)))))
def A32 (a0:List V) (a1:Int) (a2:Int):List V:=[V.lst 5 false a0,V.agg [V.int IntKind.i64 a1,V.int IntKind.i64 a2]]
def BL (l0:List V) (i1:Int) (o2:List V) (b3:Bool) (l4:List V) (i5:Int) (i6:Int):St:=⟨[(V.lst 5 false l0),V.bot,V.bot,V.bot,V.bot,V.bot,V.bot,(V.int IntKind.i64 i1),V.bot,(V.own 91 o2),(V.bool b3),V.bot,V.bot,V.bot,V.bot,V.bot,V.bot,V.bot,V.bot,V.bot,V.bot,V.bot,V.bot,V.bot,V.bot,V.bot,V.bot,V.bot,V.bot,V.bot,V.bot,V.bot,V.bot,V.bot,V.bot,V.bot,V.bot,V.bot,V.bot,V.bot,V.bot,V.bot,V.bot,V.bot,(V.lst 134 false l4),(V.int IntKind.i64 i5),(V.int IntKind.i64 i6)]++List.replicate 41 V.bot,[]⟩
theorem OY (l0:List V) (i1:Int) (o2:List V) (b3:Bool) (l4:List V) (i5:Int) (i6:Int):
 RM 32 Tryz.f32 [] call icall again (aI Tryz.f32 0) (BL l0 i1 o2 b3 l4 i5 i6)=Ef call (fun l0 i1 o2 b3 l4 i5 i6=>again (aI Tryz.f32 0) (BL l0 i1 o2 b3 l4 i5 i6)) l0 i1 o2 b3 l4 i5 i6:=by kernel_rfl
theorem E32 (a0:List V) (a1:Int) (a2:Int):GO 32 Tryz.f32 (A32 a0 a1 a2) [] call icall again=T32 call (fun l0 i1 o2 b3 l4 i5 i6=>again (aI Tryz.f32 0) (BL l0 i1 o2 b3 l4 i5 i6)) a0 a1 a2:=by kernel_rfl
def L32 (call:FuncId→Fun):Nat→(List V→Int→List V→Bool→List V→Int→Int→Option (V×List Ob))
 |0=>fun _ _ _ _ _ _ _=>none
 |n+1=>Ef call (L32 call n)
theorem R32 (call:FuncId→Fun) (icall:aO (V×List Ob)):∀n,(∀(l0:List V) (i1:Int) (o2:List V) (b3:Bool) (l4:List V) (i5:Int) (i6:Int),RN 32 Tryz.f32 [] call icall n (aI Tryz.f32 0) (BL l0 i1 o2 b3 l4 i5 i6)=(L32 call n) l0 i1 o2 b3 l4 i5 i6)
 |0=>fun l0 i1 o2 b3 l4 i5 i6=>rfl
 |n+1=>by
  have ih:=R32 call icall n
  exact fun l0 i1 o2 b3 l4 i5 i6=>(OY call icall (RN 32 Tryz.f32 [] call icall n) l0 i1 o2 b3 l4 i5 i6).trans (by rw[show(fun l0 i1 o2 b3 l4 i5 i6=>RN 32 Tryz.f32 [] call icall n (aI Tryz.f32 0) (BL l0 i1 o2 b3 l4 i5 i6))=(L32 call n)from(funext fun l0=>funext fun i1=>funext fun o2=>funext fun b3=>funext fun l4=>funext fun i5=>funext fun i6=>ih l0 i1 o2 b3 l4 i5 i6)];rfl)
theorem C32 (k:Nat) (a0:List V) (a1:Int) (a2:Int):aA cfg (k+1) 32 (A32 a0 a1 a2) []=T32 (aA cfg k) (L32 (aA cfg k) k) a0 a1 a2:=by
 have ih:=R32 (aA cfg k) (aE cfg (aA cfg k) 20) k
 refine(show aA cfg (k+1) 32 (A32 a0 a1 a2) []=GO 32 Tryz.f32 (A32 a0 a1 a2) [] (aA cfg k) (aE cfg (aA cfg k) 20) (RN 32 Tryz.f32 [] (aA cfg k) (aE cfg (aA cfg k) 20) k)by kernel_rfl).trans ((E32 _ _ _ a0 a1 a2).trans ?_)
 rw[show(fun l0 i1 o2 b3 l4 i5 i6=>RN 32 Tryz.f32 [] (aA cfg k) (aE cfg (aA cfg k) 20) k (aI Tryz.f32 0) (BL l0 i1 o2 b3 l4 i5 i6))=(L32 (aA cfg k) k)from(funext fun l0=>funext fun i1=>funext fun o2=>funext fun b3=>funext fun l4=>funext fun i5=>funext fun i6=>ih l0 i1 o2 b3 l4 i5 i6)]
theorem M32 (a0:List V) (a1:Int) (a2:Int) {r:V×List Ob} (h:Evt (fun k n=>T32 (aA cfg k) (L32 (aA cfg k) n) a0 a1 a2) r):Ret 32 [V.lst 5 false a0,V.agg [V.int IntKind.i64 a1,V.int IntKind.i64 a2]] [] r:=aR (g:=fun k n=>T32 (aA cfg k) (L32 (aA cfg k) n) a0 a1 a2) (fun k=>C32 k a0 a1 a2) h
theorem LL (l0:List V) (i1:Int) (o2:List V) (b3:Bool) (l4:List V) (i5:Int) (i6:Int) {r:V×List Ob} (h:Evt (fun k n=>Ef (aA cfg k) (L32 (aA cfg k) n) l0 i1 o2 b3 l4 i5 i6) r):Evt (fun k n=>(L32 (aA cfg k) n) l0 i1 o2 b3 l4 i5 i6) r:=aZ (fun k n=>rfl) h
def IZ (call:FuncId→Fun) (a0:List UInt8) (a1:List UInt8):Option (V×List Ob):=
 Option.bind (if(decide (((length a0:Nat):Int)<(IntKind.wrap .i64 ((2:Int)+((length a1:Nat):Int)))))=false then
 chk (decide (0≤(IntKind.wrap .i64 ((2:Int)+((length a1:Nat):Int))))) (chk (decide ((IntKind.wrap .i64 ((2:Int)+((length a1:Nat):Int)))≤((length a0:Nat):Int))) (chk (decide (0≤(0:Int))) (chk (decide ((0:Int)≤(IntKind.wrap .i64 ((2:Int)+((length a1:Nat):Int))))) (chk (bJ [45,45] a1) (some (!(sEq (drop (Int.toNat (0:Int)) (take (Int.toNat (IntKind.wrap .i64 ((2:Int)+((length a1:Nat):Int)))) a0)) ([45,45]++a1))))))))
 else
 some true) fun y0=>
 if y0=true then
 some ((V.tup [(V.bool false),(V.bool false)]),[])
 else
 chk (decide (0≤(IntKind.wrap .i64 ((2:Int)+((length a1:Nat):Int))))) (chk (decide ((IntKind.wrap .i64 ((2:Int)+((length a1:Nat):Int)))≤((length a0:Nat):Int))) (Option.bind (call 135 [(V.str (drop (Int.toNat (IntKind.wrap .i64 ((2:Int)+((length a1:Nat):Int)))) a0))] []) fun z1=>
 if(getB z1.1)=true then
 some ((V.tup [(V.bool true),(V.bool false)]),[])
 else
 if(decide (((length (drop (Int.toNat (IntKind.wrap .i64 ((2:Int)+((length a1:Nat):Int)))) a0):Nat):Int)≥(2:Int)))=true then
 chk (decide (0≤(2:Int))) (chk (decide ((2:Int)≤((length (drop (Int.toNat (IntKind.wrap .i64 ((2:Int)+((length a1:Nat):Int)))) a0):Nat):Int))) (chk (decide (0≤(0:Int))) (chk (decide ((0:Int)≤(2:Int))) (if(sEq (drop (Int.toNat (0:Int)) (take (Int.toNat (2:Int)) (drop (Int.toNat (IntKind.wrap .i64 ((2:Int)+((length a1:Nat):Int)))) a0))) [45,45])=true then
 chk (decide (0≤(2:Int))) (chk (decide ((2:Int)≤((length (drop (Int.toNat (IntKind.wrap .i64 ((2:Int)+((length a1:Nat):Int)))) a0):Nat):Int))) (Option.bind (call 135 [(V.str (drop (Int.toNat (2:Int)) (drop (Int.toNat (IntKind.wrap .i64 ((2:Int)+((length a1:Nat):Int)))) a0)))] []) fun z2=>
 if(getB z2.1)=true then
 some ((V.tup [(V.bool true),(V.bool true)]),[])
 else
 some ((V.tup [(V.bool false),(V.bool false)]),[])))
 else
 some ((V.tup [(V.bool false),(V.bool false)]),[])))))
 else
 some ((V.tup [(V.bool false),(V.bool false)]),[])))
def KB (a0:List UInt8) (a1:List UInt8):List V:=[V.str a0,V.str a1]
theorem Q5 (a0:List UInt8) (a1:List UInt8):GO 100 Tryz.f100 (KB a0 a1) [] call icall again=IZ call a0 a1:=by kernel_rfl
theorem Q6 (k:Nat) (a0:List UInt8) (a1:List UInt8):aA cfg (k+1) 100 (KB a0 a1) []=IZ (aA cfg k) a0 a1:=
 (show aA cfg (k+1) 100 (KB a0 a1) []=GO 100 Tryz.f100 (KB a0 a1) [] (aA cfg k) (aE cfg (aA cfg k) 20) (RN 100 Tryz.f100 [] (aA cfg k) (aE cfg (aA cfg k) 20) k)by kernel_rfl).trans (Q5 _ _ _ a0 a1)
theorem Q7 (a0:List UInt8) (a1:List UInt8) {r:V×List Ob} (h:Evt (fun k n=>IZ (aA cfg k) a0 a1) r):Ret 100 [V.str a0,V.str a1] [] r:=aR (g:=fun k n=>IZ (aA cfg k) a0 a1) (fun k=>Q6 k a0 a1) h
def I0 (call:FuncId→Fun) (a0:List UInt8):Option (V×List Ob):=
 Option.bind (call 105 [(V.str a0)] []) fun z0=>
 some ((V.bool (sEq (getS z0.1) [])),[])
def KC (a0:List UInt8):List V:=[V.str a0]
theorem Q8 (a0:List UInt8):GO 135 Tryz.f135 (KC a0) [] call icall again=I0 call a0:=by kernel_rfl
theorem Q9 (k:Nat) (a0:List UInt8):aA cfg (k+1) 135 (KC a0) []=I0 (aA cfg k) a0:=
 (show aA cfg (k+1) 135 (KC a0) []=GO 135 Tryz.f135 (KC a0) [] (aA cfg k) (aE cfg (aA cfg k) 20) (RN 135 Tryz.f135 [] (aA cfg k) (aE cfg (aA cfg k) 20) k)by kernel_rfl).trans (Q8 _ _ _ a0)
theorem Ra (a0:List UInt8) {r:V×List Ob} (h:Evt (fun k n=>I0 (aA cfg k) a0) r):Ret 135 [V.str a0] [] r:=aR (g:=fun k n=>I0 (aA cfg k) a0) (fun k=>Q9 k a0) h
end Go.Proofs.YtdoaoaicdimbeaaGreatDoor
end
section
namespace Go.Proofs.YtdoaoaicdimbeaaGreatDoor
open Go.Ev Go
abbrev Ln:=Nat×Nat×Nat
def Hh (b:Bs) (fr to:Nat):Bs:=(b.take to).drop fr
def bU (b:Bs) (l:Ln):Bs:=if l.1≤l.2.1∧l.2.1≤b.length then Hh b l.1 l.2.1 else[]
theorem jG (b:Bs):(ofBytes b).all rL=true:=by
 simp only[List.all_eq_true,ofBytes,List.mem_map]
 rintro v ⟨c,_,rfl⟩
 have:=c.toNat_lt
 simp[rL];omega
theorem I1 (b:Bs) (hb:b.length≤1000000) (fr to:Int):
  Ret 62 [.lst 5 false (ofBytes b), .agg [.int .i64 fr, .int .i64 to]] [] (.lst 134 false ((aU fr to b).map lnV),[]):=by
 refine dV (h:=ofF) (by kernel_rfl) ?_
 have h1:=jG b
 have h2:(ofBytes b).length<1099511627776:=by rw[bC];omega
 simp only[ofF,h1,h2,decide_true,Bool.and_self,if_true,cC]
theorem OZ (a b n:Int):Ret 74 [.agg [.int .i64 a, .int .i64 b], .int .i64 n] [] (.bool (decide (0≤a∧a≤b∧b≤n)),[]):=by
 refine M74 a b n ?_
 simp only[T74]
 by_cases h1:a≥0
 ·by_cases h2:a≤b
  ·have e:decide (0≤a∧a≤b∧b≤n)=decide (b≤n):=by simp[h1,h2]
   rw[e]
   simp only[h1,h2,decide_true,if_true,cS]
   exact aD _
  ·have e:decide (0≤a∧a≤b∧b≤n)=false:=by simp[h2]
   rw[e]
   simp only[h1,h2,decide_true,decide_false,if_true,Bool.false_eq_true,if_false,cS]
   exact aD _
 ·have e:decide (0≤a∧a≤b∧b≤n)=false:=by simp;omega
  rw[e]
  simp only[h1,decide_false,Bool.false_eq_true,if_false,cS]
  exact aD _
theorem Rb (b:Bs) (fr to:Nat):bytesOf (List.drop fr (List.take to (ofBytes b)))=Hh b fr to:=by
 unfold ofBytes Hh
 rw[←List.map_take,←List.map_drop]
 exact cC _
theorem I2 (b:Bs) (l:Ln):Ret 64 [.lst 5 false (ofBytes b),lnV l] [] (.str (bU b l),[]):=by
 obtain⟨p,q,r⟩:=l
 refine M64 (ofBytes b) p q r ?_
 simp only[T64,bC]
 refine aB (OZ p q (b.length:Nat)) ?_
 simp only[V.getB]
 by_cases h:p≤q∧q≤b.length
 ·have h1:(0:Int)≤(p:Int)∧(p:Int)≤(q:Int)∧(q:Int)≤(b.length:Int):=by omega
  have e:bU b (p,q,r)=Hh b p q:=if_pos h
  simp only[h1,and_self,decide_true,Bool.not_true,Bool.false_eq_true,if_false,cK,Int.toNat_natCast,Rb,e,aJ (show(0:Int)≤(q:Int)by omega)]
  exact aD _
 ·have h1:¬((0:Int)≤(p:Int)∧(p:Int)≤(q:Int)∧(q:Int)≤(b.length:Int)):=by omega
  have e:bU b (p,q,r)=[]:=if_neg h
  simp only[h1,decide_false,Bool.not_false,if_true,e]
  exact aD _
def BM:Bs→Bool
 |[]=>false
 |c::_=>jA c
theorem O0 (s:Bs):Ret 65 [.str s] [] (.bool (BM s),[]):=by
 refine M65 s ?_
 simp only[T65]
 cases s with
 |nil=>simp only[sEq,beq_self_eq_true,Bool.not_true,Bool.false_eq_true,if_false,BM];exact aD _
 |cons c r=>
  have e:sEq (c::r) []=false:=rfl
  have h1:(0:Int)<(((c::r).length:Nat):Int):=by simp
  simp only[e,Bool.not_false,if_true,aJ h1,aJ (show(0:Int)≤0 by omega),Int.toNat_zero,List.getD_cons_zero,BM]
  refine aB (sH c) ?_
  exact aD _
def iJ:List Ln→Option Nat
 |[]=>none
 |l::r=>if l.1=l.2.1 then some 0 else(iJ r).map (· +1)
theorem qR {l:List Ln} {i:Nat} (h:i<l.length):(l.map lnV).getD i .bot=lnV l[i]:=by simp[List.getD,h]
theorem M6 (l:Ln):Ret 103 [lnV l] [] (.bool (decide (l.1=l.2.1)),[]):=by
 obtain⟨p,q,r⟩:=l
 refine Q4 p q r ?_
 simp only[IY]
 have e:(((p:Nat):Int)==((q:Nat):Int))=decide (p=q):=by
  by_cases h:p=q
  ·subst h;simp
  ·have:¬((p:Int)=(q:Int)):=by omega
   simp[h,this]
 rw[e]
 exact aD _
def sJ:Option Nat→Int
 |none=> -1
 |some k=>k
theorem KD (l:List Ln) (hl:l.length≤1000000):∀(n i:Nat),l.length - i≤n→i≤l.length→
  Evt (fun k n=>zX (aA cfg k) n (l.map lnV) (l.length:Nat) (i:Nat)) (.int .i64 (sJ ((iJ (l.drop i)).map (· +i))),[]):=by
 have fin:∀i:Nat,i=l.length→Evt (fun k n=>zX (aA cfg k) n (l.map lnV) (l.length:Nat) (i:Nat)) (.int .i64 (sJ ((iJ (l.drop i)).map (· +i))),[]):=by
  intro i h
  refine IX (l.map lnV) (l.length:Nat) (i:Nat) ?_
  have h1:¬((i:Int)<(l.length:Int)):=by omega
  rw[List.drop_eq_nil_of_le (by omega)]
  simp only[zW,h1,decide_false,Bool.false_eq_true,if_false,iJ,Option.map_none,sJ]
  exact aD _
 intro n
 induction n with
 |zero=>intro i h hi;exact fin i (by omega)
 |succ n ih=>
  intro i h hi
  by_cases hlt:i<l.length
  ·refine IX (l.map lnV) (l.length:Nat) (i:Nat) ?_
   have h1:((i:Int)<(l.length:Int)):=by omega
   have h2:(0:Int)≤(i:Int):=by omega
   have hw:IntKind.wrap .i64 ((i:Int)+1)=((i+1:Nat):Int):=by rw[wrap64 (by omega) (by omega)];omega
   have hd:l.drop i=l[i]::l.drop (i+1):=List.drop_eq_getElem_cons hlt
   simp only[zW,h1,decide_true,if_true,aJ h2,List.length_map,cK,Int.toNat_natCast,qR hlt,lnV,V.cells,List.headD_cons,List.tail_cons,V.getI,hw]
   refine aB (M6 l[i]) ?_
   simp only[V.getB,decide_eq_true_eq]
   rw[hd,iJ]
   by_cases hn:l[i].1=l[i].2.1
   ·simp only[hn,if_true,Option.map_some,Nat.zero_add,sJ]
    exact aD _
   ·simp only[hn,if_false]
    have:=ih (i+1) (by omega) (by omega)
    have e:((iJ (l.drop (i+1))).map (· +1)).map (· +i)=(iJ (l.drop (i+1))).map (· +(i+1)):=by
     rw[Option.map_map];congr 1;funext x;simp only[Function.comp];omega
    rw[e]
    exact this
  ·exact fin i (by omega)
theorem O1 (l:List Ln) (hl:l.length≤1000000):Ret 63 [.lst 134 false (l.map lnV)] [] (.int .i64 (sJ (iJ l)),[]):=by
 refine M63 (l.map lnV) ?_
 simp only[T63]
 have h76:Ret 102 [.lst 134 false (l.map lnV), .clo (Fn.func 103) [] []] [] (.int .i64 (sJ (iJ l)),[]):=by
  refine Q1 (l.map lnV) ?_
  simp only[IW,List.length_map]
  have:=KD l hl l.length 0 (by omega) (by omega)
  simpa using this
 refine aB h76 ?_
 exact aD _
end Go.Proofs.YtdoaoaicdimbeaaGreatDoor
end
section
namespace Go.Proofs.YtdoaoaicdimbeaaGreatDoor
open Go.Ev Go
def zY (c:UInt8):Bool:=33≤c&&c≤126
def lP (s:Bs):Nat→Nat
 |0=>0
 |n+1=>if jA (s.getD n 0)then lP s n else n+1
theorem zZ (s:Bs):∀n,lP s n≤n
 |0=>Nat.le_refl _
 |n+1=>by
  unfold lP
  split
  ·have:=zZ s n;omega
  ·exact Nat.le_refl _
def fM (s:Bs):Option (Bs×Nat):=
 if Lib.indexByte s 58<0 then none else
 if(s.take (lP s (Lib.indexByte s 58).toNat)).all zY&&decide (0<lP s (Lib.indexByte s 58).toNat)then some (s.take (lP s (Lib.indexByte s 58).toNat),(Lib.indexByte s 58).toNat+1)else none
def Fw (s:Bs) (r:V×List Ob):Prop:=∃u m,r=(.tup [.str u, .int .i64 m, .bool (fM s).isSome],[])∧∀p,fM s=some p→u=p.1∧m=p.2
theorem KE (c:UInt8):(((c.toNat:Nat):Int)<33∨((c.toNat:Nat):Int)>126)↔zY c=false:=by
 have h1:=qO 33 c
 have h2:=qO c 126
 have e33:((UInt8.toNat 33:Nat):Int)=33:=rfl
 have e126:((UInt8.toNat 126:Nat):Int)=126:=rfl
 rw[e33]at h1
 rw[e126]at h2
 simp only[zY,Bool.and_eq_false_iff,decide_eq_false_iff_not]
 rw[←h1,←h2]
 omega
theorem Aa (s:Bs) (hs:s.length≤1000000) (k n:Nat) (hk:Lib.indexByte s 58=k) (hks:k<s.length) (hn:n=lP s k):∀(m i:Nat),n - i=m→i≤n→(s.take i).all zY=true→
  ∃r,Fw s r∧Evt (fun q j=>(L66 (aA cfg q) j).2 s (k:Nat) (n:Nat) (n:Nat) (i:Nat)) r
 |0,i,h,hi,ha=>by
  have hin:i=n:=by omega
  subst hin
  have hnk:=zZ s k
  refine⟨_,⟨s.take i,(k:Int)+1,rfl,fun p hp=>?_⟩,IV s (k:Nat) (i:Nat) (i:Nat) (i:Nat) ?_⟩
  ·have h0:¬((k:Int)<0):=by omega
   unfold fM at hp
   rw[hk,if_neg h0,Int.toNat_natCast,←hn,ha]at hp
   split at hp
   ·cases hp;exact⟨rfl,by omega⟩
   ·cases hp
  ·have h1:¬((i:Int)<(i:Int)):=by omega
   have h2:(0:Int)≤(i:Int):=by omega
   have h3:(i:Int)≤(s.length:Int):=by omega
   have hw:IntKind.wrap .i64 ((k:Int)+1)=(k:Int)+1:=wrap64 (by omega) (by omega)
   have he:(fM s).isSome=decide ((i:Int)>0):=by
    have h0:¬((k:Int)<0):=by omega
    unfold fM
    rw[hk,if_neg h0,Int.toNat_natCast,←hn,ha]
    by_cases hi0:0<i
    ·have:(i:Int)>0:=by omega
     simp[hi0,this]
    ·have:¬((i:Int)>0):=by omega
     simp[hi0,this]
   rw[he]
   simp only[BI,h1,decide_false,Bool.false_eq_true,if_false,aJ h2,aJ h3,aJ (show(0:Int)≤0 by omega),Int.toNat_zero,List.drop_zero,Int.toNat_natCast,hw]
   exact aD _
 |m+1,i,h,hi,ha=>by
  have hnk:=zZ s k
  have his:i<s.length:=by omega
  have h1:((i:Int)<(n:Int)):=by omega
  have h2:(0:Int)≤(i:Int):=by omega
  have h3:(i:Int)<(s.length:Int):=by omega
  have hw:IntKind.wrap .i64 ((i:Int)+1)=((i+1:Nat):Int):=by rw[wrap64 (by omega) (by omega)];omega
  have hy:(chk (decide ((0:Int)≤(i:Int))) (chk (decide ((i:Int)<(s.length:Int))) (if(decide (((s[i].toNat:Nat):Int)<(33:Int)))=false then
    chk (decide ((0:Int)≤(i:Int))) (chk (decide ((i:Int)<(s.length:Int))) (some (decide (((s[i].toNat:Nat):Int)>(126:Int)))))
   else some true)))=some (!zY s[i]):=by
   rw[aJ h2,aJ h3]
   have hv:=KE s[i]
   by_cases c1:((s[i].toNat:Nat):Int)<33
   ·simp[c1,hv.1 (.inl c1)]
   ·by_cases c2:((s[i].toNat:Nat):Int)>126
    ·simp only[c1,c2,decide_false,decide_true,if_true,aJ h2,aJ h3,hv.1 (.inr c2),Bool.not_false]
    ·have:zY s[i]=true:=by
      cases hvv:zY s[i]with
      |true=>rfl
      |false=>rcases hv.2 hvv with h|h;exact absurd h c1;exact absurd h c2
     simp only[c1,c2,decide_false,if_true,aJ h2,aJ h3,this,Bool.not_true]
  by_cases hv:zY s[i]=true
  ·obtain⟨r,hr1,hr2⟩:=Aa s hs k n hk hks hn m (i+1) (by omega) (by omega) (by
    rw[List.take_add_one,List.all_append,ha,List.getElem?_eq_getElem his];simp[hv])
   refine⟨r,hr1,IV s (k:Nat) (n:Nat) (n:Nat) (i:Nat) ?_⟩
   simp only[BI,h1,decide_true,if_true,Int.toNat_natCast,getD_at his,hw]
   simp only[hy,cS,hv,Bool.not_true,Bool.false_eq_true,if_false]
   exact hr2
  ·have hv' :zY s[i]=false:=by simpa using hv
   refine⟨_,⟨[],0,rfl,fun p hp=>?_⟩,IV s (k:Nat) (n:Nat) (n:Nat) (i:Nat) ?_⟩
   ·exfalso
    have h0:¬((k:Int)<0):=by omega
    unfold fM at hp
    rw[hk,if_neg h0,Int.toNat_natCast,←hn]at hp
    have:(s.take n).all zY=false:=by
     rw[List.all_eq_false]
     exact⟨s[i],List.mem_take_iff_getElem.2 ⟨i,by omega,rfl⟩,by simp[hv']⟩
    rw[this]at hp
    simp at hp
   ·have he:(fM s).isSome=false:=by
     have h0:¬((k:Int)<0):=by omega
     have:(s.take n).all zY=false:=by
      rw[List.all_eq_false]
      exact⟨s[i],List.mem_take_iff_getElem.2 ⟨i,by omega,rfl⟩,by simp[hv']⟩
     unfold fM
     rw[hk,if_neg h0,Int.toNat_natCast,←hn,this]
     simp
    rw[he]
    simp only[BI,h1,decide_true,if_true,Int.toNat_natCast,getD_at his]
    simp only[hy,cS,hv',Bool.not_false,if_true]
    exact aD _
theorem Eg (s:Bs) (hs:s.length≤1000000) (k:Nat) (hk:Lib.indexByte s 58=k) (hks:k<s.length):∀n:Nat,n≤k→lP s n=lP s k→
  ∃r,Fw s r∧Evt (fun q j=>(L66 (aA cfg q) j).1 s (k:Nat) (n:Nat)) r
 |0,hn,hb=>by
  obtain⟨r,hr1,hr2⟩:=Aa s hs k 0 hk hks hb 0 0 rfl (Nat.le_refl _) rfl
  refine⟨r,hr1,IU s (k:Nat) (0:Nat) ?_⟩
  have h1:¬(((0:Nat):Int)>0):=by omega
  simp only[BH,h1,decide_false,Bool.false_eq_true,if_false]
  exact hr2
 |n+1,hn,hb=>by
  have hlt:n<s.length:=by omega
  have h1:(((n+1:Nat):Int)>0):=by omega
  have hw:IntKind.wrap .i64 (((n+1:Nat):Int) - 1)=(n:Int):=by rw[wrap64 (by omega) (by omega)];omega
  have h2:(0:Int)≤(n:Int):=by omega
  have h3:(n:Int)<(s.length:Int):=by omega
  by_cases hbl:jA s[n]=true
  ·have hb' :lP s n=lP s k:=by
    rw[←hb];conv=>rhs;unfold lP
    rw[getD_at hlt,hbl];rfl
   obtain⟨r,hr1,hr2⟩:=Eg s hs k hk hks n (by omega) hb'
   refine⟨r,hr1,IU s (k:Nat) ((n+1:Nat):Int) ?_⟩
   simp only[BH,h1,decide_true,if_true,hw,aJ h2,aJ h3,Int.toNat_natCast,getD_at hlt]
   refine aB (sH s[n]) ?_
   simp only[V.getB,hbl,if_true]
   exact hr2
  ·have hbl' :jA s[n]=false:=by simpa using hbl
   have hb' :n+1=lP s k:=by
    rw[←hb];unfold lP
    rw[getD_at hlt,hbl'];rfl
   obtain⟨r,hr1,hr2⟩:=Aa s hs k (n+1) hk hks hb' (n+1) 0 (by omega) (by omega) rfl
   refine⟨r,hr1,IU s (k:Nat) ((n+1:Nat):Int) ?_⟩
   simp only[BH,h1,decide_true,if_true,hw,aJ h2,aJ h3,Int.toNat_natCast,getD_at hlt]
   refine aB (sH s[n]) ?_
   simp only[V.getB,hbl',Bool.false_eq_true,if_false]
   exact hr2
theorem O2 (s:Bs) (hs:s.length≤1000000):∃r,Fw s r∧Ret 66 [.str s] [] r:=by
 have h79:Ret 89 [.str s, .int .u8 58] [] (.int .i64 (Lib.indexByte s 58),[]):=dV (h:=D3) (by kernel_rfl) rfl
 by_cases h:Lib.indexByte s 58<0
 ·refine⟨_,⟨[],0,rfl,fun p hp=>?_⟩,M66 s ?_⟩
  ·unfold fM at hp
   rw[if_pos h]at hp;cases hp
  ·have he:(fM s).isSome=false:=by unfold fM;rw[if_pos h];rfl
   rw[he]
   simp only[T66]
   refine aB h79 ?_
   simp only[V.getI,h,decide_true,if_true]
   exact aD _
 ·obtain⟨k,hk⟩:∃k:Nat,Lib.indexByte s 58=k:=⟨(Lib.indexByte s 58).toNat,by omega⟩
  have hks:k<s.length:=(List.getElem?_eq_some_iff.1 (Lib.indexByte_some hk).1).1
  obtain⟨r,hr1,hr2⟩:=Eg s hs k hk hks k (Nat.le_refl _) rfl
  refine⟨r,hr1,M66 s ?_⟩
  simp only[T66]
  refine aB h79 ?_
  simp only[V.getI,h,decide_false,Bool.false_eq_true,if_false]
  rw[hk]
  exact hr2
end Go.Proofs.YtdoaoaicdimbeaaGreatDoor
end
section
namespace Go.Proofs.YtdoaoaicdimbeaaGreatDoor
open Go.Ev Go
abbrev Fd:=Bs×Nat×Nat×Nat
def fdV (f:Fd):V:= .agg [.str f.1, .int .i64 f.2.1, .int .i64 f.2.2.1, .int .i64 f.2.2.2]
def wV (l:List Fd) (to:Nat):List Fd:=match l[l.length - 1]? with|some f=>l.set (l.length - 1) (f.1,f.2.1,f.2.2.1,to)|none=>l
def jQ (b:Bs) (st:List Fd×Bool) (x:Ln):List Fd×Bool:=
 if BM (bU b x)then(if st.2 then(wV st.1 x.2.2,true)else st)
 else match fM (bU b x)with
  |none=>(st.1,false)
  |some p=>(st.1++[(p.1,x.1,x.1+p.2,x.2.2)],true)
def dW (b:Bs) (fr to:Int):List Fd×Int:=
 if aU fr to b=[]then([],fr)else
 match iJ (aU fr to b)with
  |some k=>((((aU fr to b).take k).foldl (jQ b) ([],false)).1,((aU fr to b).getD k (0,0,0)).2.2)
  |none=>(((aU fr to b).foldl (jQ b) ([],false)).1,((aU fr to b).getD ((aU fr to b).length - 1) (0,0,0)).2.2)
theorem mB:∀(n a:Nat) (s:Bs),∀x∈eP n a s,a≤x.1∧x.1≤x.2.1∧x.2.1≤x.2.2∧x.2.2≤a+s.length
 |0,a,s,x,hx=>by cases hx
 |n+1,a,s,x,hx=>by
  unfold eP at hx
  split at hx
  ·cases hx
  ·rename_i hs
   split at hx
   ·simp at hx;subst hx;simp
   ·rename_i hk
    obtain⟨k,hk'⟩:∃k:Nat,Lib.indexByte s 10=k:=⟨(Lib.indexByte s 10).toNat,by omega⟩
    have hks:k<s.length:=(List.getElem?_eq_some_iff.1 (Lib.indexByte_some hk').1).1
    rw[hk']at hx
    simp only[Int.toNat_natCast]at hx
    rcases List.mem_cons.1 hx with rfl|hx
    ·simp only
     split<;>omega
    ·have:=mB n _ _ x hx
     rw[List.length_drop]at this
     omega
theorem Ab {fr to:Int} {b:Bs}:∀x∈aU fr to b,x.1≤x.2.1∧x.2.1≤x.2.2∧x.2.2≤b.length:=by
 intro x hx
 unfold aU at hx
 split at hx
 ·rename_i h
  have:=mB _ _ _ x hx
  simp at this
  omega
 ·cases hx
theorem vS:∀{l:List Ln} {k:Nat},iJ l=some k→k<l.length
 |[],k,h=>by cases h
 |x::r,k,h=>by
  unfold iJ at h
  split at h
  ·cases h;simp
  ·obtain⟨j,h1,rfl⟩:=Option.map_eq_some_iff.1 h
   have:=vS h1
   simp;omega
theorem Hi {s:Bs} {p:Bs×Nat} (h:fM s=some p):p.2≤s.length:=by
 unfold fM at h
 split at h
 ·cases h
 ·rename_i hk
  obtain⟨k,hk'⟩:∃k:Nat,Lib.indexByte s 58=k:=⟨(Lib.indexByte s 58).toNat,by omega⟩
  have hks:k<s.length:=(List.getElem?_eq_some_iff.1 (Lib.indexByte_some hk').1).1
  rw[hk']at h
  simp only[Int.toNat_natCast]at h
  split at h
  ·cases h;simp only;omega
  ·cases h
theorem Ac (b:Bs) (l:Ln):(bU b l).length≤b.length:=by
 unfold bU Hh
 split
 ·simp;omega
 ·simp
theorem nV (l:List Fd) (to:Nat):(wV l to).length=l.length:=by
 unfold wV;split<;>simp
theorem CN {l:List Fd} {i:Nat} (h:i<l.length):(l.map fdV).getD i .bot=fdV l[i]:=by simp[List.getD,h]
theorem vT (b:Bs) (hb:b.length≤1000000) (at_:Int) (l:List Ln) (hl:l.length≤1000000) (hx:∀x∈l,x.1≤1000000):∀(n i:Nat) (out:List Fd) (on:Bool),l.length - i=n→i≤l.length→out.length≤i→(on=true→out≠[])→
  Evt (fun k n=>L32 (aA cfg k) n (ofBytes b) at_ (out.map fdV) on (l.map lnV) (l.length:Nat) (i:Nat)) (.tup [.lst 91 false (((l.drop i).foldl (jQ b) (out,on)).1.map fdV), .int .i64 at_],[])
 |0,i,out,on,h,hi,ho,hon=>by
  refine LL (ofBytes b) at_ (out.map fdV) on (l.map lnV) (l.length:Nat) (i:Nat) ?_
  have h1:¬((i:Int)<(l.length:Int)):=by omega
  rw[List.drop_eq_nil_of_le (by omega)]
  simp only[Ef,h1,decide_false,Bool.false_eq_true,if_false,List.foldl_nil]
  exact aD _
 |n+1,i,out,on,h,hi,ho,hon=>by
  have hlt:i<l.length:=by omega
  refine LL (ofBytes b) at_ (out.map fdV) on (l.map lnV) (l.length:Nat) (i:Nat) ?_
  have h1:((i:Int)<(l.length:Int)):=by omega
  have h2:(0:Int)≤(i:Int):=by omega
  have hw:IntKind.wrap .i64 ((i:Int)+1)=((i+1:Nat):Int):=by rw[wrap64 (by omega) (by omega)];omega
  have hd:l.drop i=l[i]::l.drop (i+1):=List.drop_eq_getElem_cons hlt
  have hxi:=hx l[i] (List.getElem_mem hlt)
  have htl:=Ac b l[i]
  have h57:Ret 64 [.lst 5 false (ofBytes b), .agg [.int .i64 (l[i].1:Nat), .int .i64 (l[i].2.1:Nat), .int .i64 (l[i].2.2:Nat)]] [] (.str (bU b l[i]),[]):=I2 b l[i]
  rw[hd,List.foldl_cons]
  simp only[Ef,h1,decide_true,if_true,aJ h2,List.length_map,Int.toNat_natCast,qR hlt,lnV,V.cells,List.headD_cons,List.tail_cons,V.getI,hw]
  refine aB h57 ?_
  simp only[V.getS]
  refine aB (O0 (bU b l[i])) ?_
  simp only[V.getB]
  by_cases hg:BM (bU b l[i])=true
  ·simp only[hg,if_true]
   cases on with
   |true=>
    have hne:=hon rfl
    have hpos:0<out.length:=List.length_pos_iff.2 hne
    have hw2:IntKind.wrap .i64 ((out.length:Int) - 1)=((out.length - 1:Nat):Int):=by rw[wrap64 (by omega) (by omega)];omega
    have h3:(0:Int)≤((out.length - 1:Nat):Int):=by omega
    have h4:((out.length - 1:Nat):Int)<(out.length:Int):=by omega
    have hol:out.length - 1<out.length:=by omega
    have hst:jQ b (out,true) l[i]=(wV out l[i].2.2,true):=by unfold jQ;rw[hg];rfl
    have hset:(out.map fdV).set (out.length - 1) (.agg [.str out[out.length - 1].1, .int .i64 (out[out.length - 1].2.1:Nat), .int .i64 (out[out.length - 1].2.2.1:Nat), .int .i64 (l[i].2.2:Nat)])=(wV out l[i].2.2).map fdV:=by
     unfold wV
     rw[List.getElem?_eq_getElem hol]
     simp only[List.map_set]
     rfl
    rw[hst]
    simp only[if_true,hw2,aJ h3,aJ h4,Int.toNat_natCast,CN hol,fdV,V.cells,List.headD_cons,List.tail_cons,V.getS,V.getI]
    rw[hset]
    exact vT b hb at_ l hl hx n (i+1) (wV out l[i].2.2) true (by omega) (by omega) (by rw[nV];omega) (fun _=>by
     rw[←List.length_pos_iff,nV];exact hpos)
   |false=>
    have hst:jQ b (out,false) l[i]=(out,false):=by unfold jQ;rw[hg];rfl
    rw[hst]
    simp only[Bool.false_eq_true,if_false]
    exact vT b hb at_ l hl hx n (i+1) out false (by omega) (by omega) (by omega) (fun h=>by cases h)
  ·have hg' :BM (bU b l[i])=false:=by simpa using hg
   simp only[hg',Bool.false_eq_true,if_false]
   obtain⟨r,⟨u,m,rfl,hum⟩,hr⟩:=O2 (bU b l[i]) (by omega)
   refine aB hr ?_
   simp only[V.getT,List.headD_cons,List.tail_cons,V.getB,V.getS,V.getI]
   cases hn:fM (bU b l[i])with
   |none=>
    have hst:jQ b (out,on) l[i]=(out,false):=by unfold jQ;rw[hg',hn];rfl
    rw[hst]
    simp only[Option.isSome_none,Bool.false_eq_true,if_false]
    exact vT b hb at_ l hl hx n (i+1) out false (by omega) (by omega) (by omega) (fun h=>by cases h)
   |some p=>
    obtain⟨rfl,rfl⟩:=hum p hn
    have hpl:=Hi hn
    have hst:jQ b (out,on) l[i]=(out++[(p.1,l[i].1,l[i].1+p.2,l[i].2.2)],true):=by unfold jQ;rw[hg',hn];rfl
    have hw3:IntKind.wrap .i64 ((l[i].1:Int)+(p.2:Int))=((l[i].1+p.2:Nat):Int):=by rw[wrap64 (by omega) (by omega)];omega
    have hap:aW (out.map fdV) [V.agg [.str p.1, .int .i64 (l[i].1:Nat), .int .i64 ((l[i].1+p.2:Nat):Int), .int .i64 (l[i].2.2:Nat)]] 41=true:=dQ (by simp;omega)
    rw[hst]
    simp only[Option.isSome_some,if_true,hw3,bM hap]
    have:=vT b hb at_ l hl hx n (i+1) (out++[(p.1,l[i].1,l[i].1+p.2,l[i].2.2)]) true (by omega) (by omega) (by simp;omega) (fun _=>by simp)
    simp only[List.map_append,List.map_cons,List.map_nil,fdV]at this
    exact this
theorem BN (b:Bs) (hb:b.length≤1000000) (fr to:Int):
  Ret 32 [.lst 5 false (ofBytes b), .agg [.int .i64 fr, .int .i64 to]] [] (.tup [.lst 91 false ((dW b fr to).1.map fdV), .int .i64 (dW b fr to).2],[]):=by
 refine M32 (ofBytes b) fr to ?_
 simp only[T32]
 refine aB (I1 b hb fr to) ?_
 have hll:=cR fr to b
 have hbd:=Ab (fr:=fr) (to:=to) (b:=b)
 simp only[V.getL,List.length_map]
 unfold dW
 generalize aU fr to b=l at hll hbd
 by_cases hl0:l=[]
 ·subst hl0;exact aD _
 ·have hpos:0<l.length:=List.length_pos_iff.2 hl0
  have h0:((((l.length:Nat):Int))==(0:Int))=false:=beq_eq_false_iff_ne.2 (by omega)
  have hw:IntKind.wrap .i64 ((l.length:Int) - 1)=((l.length - 1:Nat):Int):=by rw[wrap64 (by omega) (by omega)];omega
  have h1:(0:Int)≤((l.length - 1:Nat):Int):=by omega
  have h2:((l.length - 1:Nat):Int)<(l.length:Int):=by omega
  rw[if_neg hl0]
  simp only[h0,Bool.false_eq_true,if_false,hw,aJ h1,aJ h2]
  refine aB (O1 l (by omega)) ?_
  have hxs:∀y∈l,y.1≤1000000:=fun y hy=>by have:=hbd y hy;omega
  have hgi:∀z:Int,(V.int .i64 z).getI=z:=fun _=>rfl
  simp only[hgi]
  cases he:iJ l with
  |none=>
   have hoi:sJ none= -1:=rfl
   have h3:¬((-1:Int)≥(0:Int)):=by omega
   have hlt:l.length - 1<l.length:=by omega
   simp only[hoi,h3,decide_false,Bool.false_eq_true,if_false,Int.toNat_natCast,qR hlt,lnV,V.cells,List.headD_cons,List.tail_cons,hgi]
   have:=vT b hb (l[l.length - 1].2.2:Nat) l (by omega) hxs l.length 0 [] false (by omega) (by omega) (by simp) (fun h=>by cases h)
   have e:l.getD (l.length - 1) (0,0,0)=l[l.length - 1]:=by simp[List.getD,hlt]
   rw[e]
   simpa using this
  |some k=>
   have hk:=vS he
   have hoi:sJ (some k)=(k:Int):=rfl
   have h3:((k:Int)≥(0:Int)):=by omega
   have h5:(k:Int)<(l.length:Int):=by omega
   have h6:(k:Int)≤(l.length:Int):=by omega
   simp only[hoi]
   simp only[h3,decide_true,if_true,cK,aJ h5,aJ h6,aJ (show(0:Int)≤0 by omega),Int.toNat_natCast,qR hk,lnV,V.cells,List.headD_cons,List.tail_cons,hgi,Int.toNat_zero,List.drop_zero]
   have e:l.getD k (0,0,0)=l[k]:=by simp[List.getD,hk]
   have htl:(l.take k).length=k:=by simp;omega
   have:=vT b hb (l[k].2.2:Nat) (l.take k) (by omega) (fun y hy=>hxs y (List.mem_of_mem_take hy)) k 0 [] false (by omega) (by omega) (by simp) (fun h=>by cases h)
   rw[e]
   rw[List.map_take]at this
   have hmin:min k l.length=k:=by omega
   simpa[htl,hmin]using this
end Go.Proofs.YtdoaoaicdimbeaaGreatDoor
end
section
namespace Go.Proofs.YtdoaoaicdimbeaaGreatDoor
open Go.Ev Go
def low (s:Bs):Bs:=s.map dL
def mV:List Fd→Bs→Option Nat
 |[],_=>none
 |f::r,name=>if low f.1=low name then some 0 else(mV r name).map (· +1)
def eQ:List Fd→Bs→Option Fd
 |[],_=>none
 |f::r,name=>if low f.1=low name then some f else eQ r name
theorem Ae:∀{l:List Fd} {name:Bs} {k:Nat},mV l name=some k→∃h:k<l.length,eQ l name=some l[k]
 |[],_,k,h=>by cases h
 |f::r,name,k,h=>by
  unfold mV at h
  unfold eQ
  split at h
  ·rename_i hc
   cases h
   exact⟨by simp,by rw[if_pos hc];rfl⟩
  ·rename_i hc
   obtain⟨j,h1,rfl⟩:=Option.map_eq_some_iff.1 h
   obtain⟨h2,h3⟩:=Ae h1
   exact⟨by simp;omega,by rw[if_neg hc,h3];rfl⟩
theorem Af:∀{l:List Fd} {name:Bs},mV l name=none→eQ l name=none
 |[],_,_=>rfl
 |f::r,name,h=>by
  unfold mV at h
  unfold eQ
  split at h
  ·cases h
  ·rename_i hc
   rw[if_neg hc]
   exact Af (by simpa using h)
theorem O3 (f:Fd) (name:Bs) (hf:f.1.length≤1000000) (hn:name.length≤1000000):
  Ret 68 [fdV f, .ref 0 0] [.cells [.str name]] (.bool (low f.1==low name),[.cells [.str name]]):=by
 obtain⟨a,p,q,r⟩:=f
 refine M68 a p q r name ?_
 simp only[T68]
 refine aB (LH a name (by simp only at hf;omega) (by omega)) ?_
 exact aD _
theorem M8 (name:Bs) (hn:name.length≤1000000) (l:List Fd) (hl:l.length≤1000000) (hv:∀f∈l,f.1.length≤1000000):∀(n i:Nat),l.length - i≤n→i≤l.length→
  Evt (fun k n=>L67 (aA cfg k) n (l.map fdV) (l.length:Nat) (i:Nat) name) (.int .i64 (sJ ((mV (l.drop i) name).map (· +i))),[.cells [.str name]]):=by
 have fin:∀i:Nat,i=l.length→Evt (fun k n=>L67 (aA cfg k) n (l.map fdV) (l.length:Nat) (i:Nat) name) (.int .i64 (sJ ((mV (l.drop i) name).map (· +i))),[.cells [.str name]]):=by
  intro i h
  refine LJ (l.map fdV) (l.length:Nat) (i:Nat) name ?_
  have h1:¬((i:Int)<(l.length:Int)):=by omega
  rw[List.drop_eq_nil_of_le (by omega)]
  simp only[Ed,h1,decide_false,Bool.false_eq_true,if_false,mV,Option.map_none,sJ]
  exact aD _
 intro n
 induction n with
 |zero=>intro i h hi;exact fin i (by omega)
 |succ n ih=>
  intro i h hi
  by_cases hlt:i<l.length
  ·refine LJ (l.map fdV) (l.length:Nat) (i:Nat) name ?_
   have h1:((i:Int)<(l.length:Int)):=by omega
   have h2:(0:Int)≤(i:Int):=by omega
   have hw:IntKind.wrap .i64 ((i:Int)+1)=((i+1:Nat):Int):=by rw[wrap64 (by omega) (by omega)];omega
   have hd:l.drop i=l[i]::l.drop (i+1):=List.drop_eq_getElem_cons hlt
   simp only[Ed,h1,decide_true,if_true,aJ h2,List.length_map,cK,Int.toNat_natCast,CN hlt,fdV,V.cells,List.headD_cons,List.tail_cons,V.getI,V.getS,hw]
   refine aB (O3 l[i] name (hv _ (List.getElem_mem hlt)) hn) ?_
   simp only[V.getB,List.headD_cons,Ob.getC,V.getS]
   rw[hd,mV]
   by_cases hc:low l[i].1=low name
   ·simp only[hc,beq_self_eq_true,if_true,Option.map_some,Nat.zero_add,sJ]
    exact aD _
   ·have hb:(low l[i].1==low name)=false:=by simpa using hc
    simp only[hb,hc,Bool.false_eq_true,if_false]
    have:=ih (i+1) (by omega) (by omega)
    have e:((mV (l.drop (i+1)) name).map (· +1)).map (· +i)=(mV (l.drop (i+1)) name).map (· +(i+1)):=by
     rw[Option.map_map];congr 1;funext x;simp only[Function.comp];omega
    rw[e]
    exact this
  ·exact fin i (by omega)
def pR:Option Fd→V
 |some f=> .tup [fdV f, .bool true]
 |none=> .tup [.agg [.str [], .int .i64 0, .int .i64 0, .int .i64 0], .bool false]
theorem Ag (l:List Fd) (hl:l.length≤1000000) (hv:∀f∈l,f.1.length≤1000000) (name:Bs) (hn:name.length≤1000000):
  Ret 33 [.lst 91 false (l.map fdV), .str name] [] (pR (eQ l name),[]):=by
 refine M33 (l.map fdV) name ?_
 simp only[T33,List.length_map]
 have h88:Ret 67 [.lst 91 false (l.map fdV), .clo (Fn.func 68) [] [.ref 0 0]] [.cells [.str name]] (.int .i64 (sJ (mV l name)),[.cells [.str name]]):=by
  refine M67 (l.map fdV) name ?_
  simp only[T67,List.length_map]
  have:=M8 name hn l hl hv l.length 0 (by omega) (by omega)
  simpa using this
 refine aB h88 ?_
 have hgi:∀z:Int,(V.int .i64 z).getI=z:=fun _=>rfl
 simp only[hgi]
 cases he:mV l name with
 |none=>
  have hoi:sJ none= -1:=rfl
  have h3:((-1:Int)<(0:Int)):=by omega
  rw[Af he]
  simp only[hoi,h3,decide_true,if_true]
  exact aD _
 |some k=>
  obtain⟨hk,hfd⟩:=Ae he
  have hoi:sJ (some k)=(k:Int):=rfl
  have h3:¬((k:Int)<(0:Int)):=by omega
  have h4:(0:Int)≤(k:Int):=by omega
  have h5:(k:Int)<(l.length:Int):=by omega
  rw[hfd]
  simp only[hoi]
  simp only[h3,decide_false,Bool.false_eq_true,if_false,aJ h4,aJ h5,Int.toNat_natCast,CN hk,fdV,V.cells,List.headD_cons,List.tail_cons,hgi,V.getS,pR]
  exact aD _
end Go.Proofs.YtdoaoaicdimbeaaGreatDoor
end
section
namespace Go.Proofs.YtdoaoaicdimbeaaGreatDoor
open Go.Ev Go
def pS:Bs→Bs
 |[]=>[]
 |c::r=>if jA c then pS r else c::r
def nW (s:Bs):Nat→Bs
 |0=>[]
 |n+1=>if jA (s.getD n 0)then nW s n else s.take (n+1)
def trimF (s:Bs):Bs:=nW (pS s) (pS s).length
theorem Eh:∀s:Bs,(pS s).length≤s.length
 |[]=>Nat.le_refl _
 |c::r=>by
  unfold pS
  split
  ·have:=Eh r;simp;omega
  ·exact Nat.le_refl _
theorem BO (s:Bs):∀n,(nW s n).length≤s.length
 |0=>by simp[nW]
 |n+1=>by
  unfold nW
  split
  ·exact BO s n
  ·simp;omega
theorem I3 (s:Bs):(trimF s).length≤s.length:=Nat.le_trans (BO _ _) (Eh s)
theorem vU (s:Bs) (hs:s.length≤9000000000000000000):∀n,n≤s.length→Evt (fun k j=>(jO (aA cfg k) j).2 (s.take n)) (.str (nW s n),[])
 |0,hn=>by
  refine IN (s.take 0) ?_
  simp only[List.take_zero,zO,List.length_nil,nW]
  exact aD _
 |n+1,hn=>by
  refine IN (s.take (n+1)) ?_
  have hl:(s.take (n+1)).length=n+1:=by simp;omega
  have h1:(((n+1:Nat):Int)>0):=by omega
  have hw:IntKind.wrap .i64 (((n+1:Nat):Int) - 1)=(n:Int):=by rw[wrap64 (by omega) (by omega)];omega
  have h2:(0:Int)≤(n:Int):=by omega
  have h3:(n:Int)<((n+1:Nat):Int):=by omega
  have h4:(n:Int)≤((n+1:Nat):Int):=by omega
  have hlt:n<s.length:=by omega
  have hg:(s.take (n+1)).getD n 0=s[n]:=by simp[List.getD,List.getElem?_take,hlt]
  have htt:List.drop 0 (List.take n (s.take (n+1)))=s.take n:=by rw[List.drop_zero,List.take_take];congr 1;omega
  have hgs:s.getD n 0=s[n]:=getD_at hlt
  simp only[zO,hl,h1,decide_true,if_true,hw,aJ h2,aJ h3,aJ h4,aJ (show(0:Int)≤0 by omega),Int.toNat_natCast,hg,Int.toNat_zero,htt]
  refine aB (sH s[n]) ?_
  unfold nW
  rw[hgs]
  cases hb:jA s[n]
  ·simp only[V.getB,Bool.false_eq_true,if_false];exact aD _
  ·simp only[V.getB,if_true];exact vU s hs n (by omega)
theorem BP:∀s:Bs,s.length≤9000000000000000000→Evt (fun k j=>(jO (aA cfg k) j).1 s) (.str (trimF s),[])
 |[],hs=>by
  refine IM [] ?_
  have:=vU [] (by simp) 0 (by simp)
  simp only[zN,List.length_nil]
  simpa[trimF,pS,nW]using this
 |c::r,hs=>by
  refine IM (c::r) ?_
  have h1:((((c::r).length:Nat):Int)>0):=by simp
  have h2:((0:Int)<(((c::r).length:Nat):Int)):=h1
  have h3:((1:Int)≤(((c::r).length:Nat):Int)):=by omega
  simp only[zN,h1,decide_true,if_true,aJ h2,aJ h3,aJ (show(0:Int)≤0 by omega),aJ (show(0:Int)≤1 by omega),Int.toNat_zero,List.getD_cons_zero,Int.toNat_one,List.drop_one,List.tail_cons,cK]
  refine aB (sH c) ?_
  cases hb:jA c
  ·simp only[V.getB,Bool.false_eq_true,if_false]
   have:=vU (c::r) hs (c::r).length (Nat.le_refl _)
   rw[List.take_length]at this
   have e:pS (c::r)=c::r:=by unfold pS;rw[hb];rfl
   unfold trimF
   rw[e]
   exact this
  ·simp only[V.getB,if_true]
   have e:trimF (c::r)=trimF r:=by
    unfold trimF
    have:pS (c::r)=pS r:=by
     conv=>lhs;unfold pS
     rw[hb];rfl
    rw[this]
   rw[e]
   exact BP r (by simp at hs;omega)
theorem I4 (s:Bs) (hs:s.length≤9000000000000000000):Ret 105 [.str s] [] (.str (trimF s),[]):=by
 refine QX s ?_
 exact BP s hs
theorem Ei (o s:Bs) (h:o.length+s.length≤35000000000000):
  Ret 27 [.ref 0 0, .str s] [.cells [.opt 0 0, .lst 5 true (ofBytes o)]] (.tup [.int .i64 (s.length:Nat), .raw .nilIface],[.cells [.opt 0 0, .lst 5 true (ofBytes (o++s))]]):=by
 refine M27 (ofBytes o) s ?_
 have h108:Ret 54 [.ref 0 0] [.cells [.opt 0 0, .lst 5 true (ofBytes o)]] (.tup [],[.cells [.opt 0 0, .lst 5 true (ofBytes o)]]):=dV (h:=checkF) (by kernel_rfl) rfl
 have hap:mZ (ofBytes o) s 2=true:=by simp[mZ,bC];omega
 have hof:ofBytes o++ofBytes s=ofBytes (o++s):=by simp[ofBytes]
 simp only[T27]
 refine aB h108 ?_
 simp only[List.headD_cons,Ob.getC,List.tail_cons,V.getL,bM hap,hof]
 exact aD _
def lB (b:Bs) (f:Fd):Bs:=trimF ((aU f.2.2.1 f.2.2.2 b).flatMap (bU b))
theorem Ah:∀(n a:Nat) (s:Bs),((eP n a s).map fun x=>x.2.1 - x.1).sum≤s.length
 |0,a,s=>by simp[eP]
 |n+1,a,s=>by
  unfold eP
  split
  ·simp
  ·split
   ·simp
   ·rename_i hk
    obtain⟨k,hk'⟩:∃k:Nat,Lib.indexByte s 10=k:=⟨(Lib.indexByte s 10).toNat,by omega⟩
    have hks:k<s.length:=(List.getElem?_eq_some_iff.1 (Lib.indexByte_some hk').1).1
    have:=Ah n (a+k+1) (s.drop (k+1))
    rw[List.length_drop]at this
    rw[hk']
    simp only[Int.toNat_natCast,List.map_cons,List.sum_cons]
    split<;>omega
theorem rM (b:Bs):∀l:List Ln,(l.flatMap (bU b)).length≤(l.map fun x=>x.2.1 - x.1).sum
 |[]=>by simp
 |x::r=>by
  have:=rM b r
  have h:(bU b x).length≤x.2.1 - x.1:=by
   unfold bU Hh
   split
   ·simp;omega
   ·simp
  simp only[List.flatMap_cons,List.length_append,List.map_cons,List.sum_cons]
  omega
theorem oI (fr to:Int) (b:Bs):((aU fr to b).flatMap (bU b)).length≤b.length:=by
 refine Nat.le_trans (rM b _) ?_
 unfold aU
 split
 ·exact Nat.le_trans (Ah _ _ _) (by simp;omega)
 ·simp
theorem Ej (b:Bs) (f:Fd):(lB b f).length≤b.length:=Nat.le_trans (I3 _) (oI _ _ _)
theorem I5 (b:Bs) (l:List Ln) (hl:l.length≤1000000) (hb:b.length≤1000000) (hsum:(l.flatMap (bU b)).length≤1000000) (a:Bs) (p q r:Int):∀(n i:Nat),l.length - i=n→i≤l.length→
  Evt (fun k j=>L70 (aA cfg k) j (ofBytes b) (l.map lnV) (l.length:Nat) (i:Nat) a p q r (ofBytes ((l.take i).flatMap (bU b)))) (.str (trimF (l.flatMap (bU b))),[])
 |0,i,h,hi=>by
  have hil:i=l.length:=by omega
  subst hil
  rw[List.take_length]
  refine LK (ofBytes b) (l.map lnV) (l.length:Nat) (l.length:Nat) a p q r (ofBytes (l.flatMap (bU b))) ?_
  have h1:¬((l.length:Int)<(l.length:Int)):=by omega
  have h92:Ret 29 [.ref 0 0] [.cells [.opt 0 0, .lst 5 true (ofBytes (l.flatMap (bU b)))]] (.str (l.flatMap (bU b)),[.cells [.opt 0 0, .lst 5 false (ofBytes (l.flatMap (bU b)))]]):=by
   refine dV (h:=Go.Ev.textF) (by kernel_rfl) ?_
   have h2:=jG (l.flatMap (bU b))
   have h3:(ofBytes (l.flatMap (bU b))).length<1152921504606846976:=by rw[bC];omega
   simp only[Go.Ev.textF,h2,h3,decide_true,Bool.and_self,if_true,cC]
  simp only[Ee,h1,decide_false,Bool.false_eq_true,if_false]
  refine aB h92 ?_
  simp only[V.getS]
  refine aB (I4 (l.flatMap (bU b)) (by omega)) ?_
  exact aD _
 |n+1,i,h,hi=>by
  have hlt:i<l.length:=by omega
  refine LK (ofBytes b) (l.map lnV) (l.length:Nat) (i:Nat) a p q r (ofBytes ((l.take i).flatMap (bU b))) ?_
  have h1:((i:Int)<(l.length:Int)):=by omega
  have h2:(0:Int)≤(i:Int):=by omega
  have hw:IntKind.wrap .i64 ((i:Int)+1)=((i+1:Nat):Int):=by rw[wrap64 (by omega) (by omega)];omega
  have h57:Ret 64 [.lst 5 false (ofBytes b), .agg [.int .i64 (l[i].1:Nat), .int .i64 (l[i].2.1:Nat), .int .i64 (l[i].2.2:Nat)]] [] (.str (bU b l[i]),[]):=I2 b l[i]
  have htake:(l.take (i+1)).flatMap (bU b)=(l.take i).flatMap (bU b)++bU b l[i]:=by
   rw[List.take_add_one,List.getElem?_eq_getElem hlt,Option.toList_some,List.flatMap_append]
   simp only[List.flatMap_cons,List.flatMap_nil,List.append_nil]
  have hle:((l.take (i+1)).flatMap (bU b)).length≤1000000:=by
   have e:l.flatMap (bU b)=(l.take (i+1)).flatMap (bU b)++(l.drop (i+1)).flatMap (bU b):=by rw[←List.flatMap_append,List.take_append_drop]
   rw[e,List.length_append]at hsum;omega
  simp only[Ee,h1,decide_true,if_true,aJ h2,List.length_map,cK,Int.toNat_natCast,qR hlt,lnV,V.cells,List.headD_cons,List.tail_cons,V.getI,hw]
  refine aB h57 ?_
  simp only[V.getS]
  refine aB (Ei ((l.take i).flatMap (bU b)) (bU b l[i]) (by rw[htake,List.length_append]at hle;omega)) ?_
  simp only[List.headD_cons,Ob.getC,List.tail_cons,V.getL]
  rw[←htake]
  exact I5 b l hl hb hsum a p q r n (i+1) (by omega) (by omega)
theorem LM (b:Bs) (hb:b.length≤1000000) (f:Fd):Ret 70 [.lst 5 false (ofBytes b),fdV f] [] (.str (lB b f),[]):=by
 obtain⟨a,p,q,r⟩:=f
 refine M70 (ofBytes b) a p q r ?_
 simp only[T70]
 refine aB (I1 b hb q r) ?_
 have h1:=cR q r b
 have h2:=oI q r b
 simp only[V.getL,List.length_map]
 have:=I5 b (aU q r b) (by omega) hb (by omega) a p q r (aU q r b).length 0 (by omega) (by omega)
 simp only[List.take_zero,List.flatMap_nil]at this
 exact this
def aT (b:Bs) (l:List Fd) (name:Bs):Bs:=match eQ l name with|some f=>lB b f|none=>[]
theorem bQ (b:Bs) (l:List Fd) (name:Bs):(aT b l name).length≤b.length:=by
 unfold aT
 split
 ·exact Ej b _
 ·simp
theorem lQ (b:Bs) (hb:b.length≤1000000) (l:List Fd) (hl:l.length≤1000000) (hv:∀f∈l,f.1.length≤1000000) (name:Bs) (hn:name.length≤1000000):
  Ret 34 [.lst 5 false (ofBytes b), .lst 91 false (l.map fdV), .str name] [] (.str (aT b l name),[]):=by
 refine M34 (ofBytes b) (l.map fdV) name ?_
 simp only[T34]
 refine aB (Ag l hl hv name hn) ?_
 unfold aT
 cases eQ l name with
 |none=>
  simp only[pR,V.getT,List.tail_cons,List.headD_cons,V.getB,Bool.not_false,if_true]
  exact aD _
 |some f=>
  have h66:Ret 70 [.lst 5 false (ofBytes b), .agg [.str f.1, .int .i64 f.2.1, .int .i64 f.2.2.1, .int .i64 f.2.2.2]] [] (.str (lB b f),[]):=LM b hb f
  simp only[pR,V.getT,List.tail_cons,List.headD_cons,V.getB,Bool.not_true,Bool.false_eq_true,if_false,fdV,V.cells,V.getS,V.getI]
  refine aB h66 ?_
  exact aD _
end Go.Proofs.YtdoaoaicdimbeaaGreatDoor
end
section
namespace Go.Proofs.YtdoaoaicdimbeaaGreatDoor
open Go.Ev Go
open List (headD tail getD length drop take)
open V (getI getL getT getS getB)
set_option maxRecDepth 100000
variable (call : FuncId → Fun) (icall : aO (V × List Ob)) (again : List It → St → Option (V × List Ob))
def T57 (call:FuncId→Fun) (a0:List V) (a1:Int) (a2:List V) (a3:Bool):Option (V×List Ob):=
 Option.bind (call 34 [(V.lst 5 false a0),(V.lst 91 false a2),(V.str [99,111,110,116,101,110,116,45,116,121,112,101])] []) fun z0=>
 Option.bind (call 99 [(V.str (getS z0.1)),(V.bool true)] []) fun z1=>
 if(getB (headD (tail (getT z1.1)) V.bot))=true then
 some ((V.agg [(V.str (getS (headD (V.cells (headD (getT z1.1) V.bot)) V.bot))),(V.str (getS (headD (tail (V.cells (headD (getT z1.1) V.bot))) V.bot))),(V.lst 176 false (getL (headD (tail (tail (V.cells (headD (getT z1.1) V.bot)))) V.bot)))]),[(Ob.cells [(V.lst 5 false a0),(V.int .i64 a1)])])
 else
 if a3=true then
 some ((V.agg [(V.str [109,101,115,115,97,103,101]),(V.str [114,102,99,56,50,50]),(V.lst 176 false [])]),[(Ob.cells [(V.lst 5 false a0),(V.int .i64 a1)])])
 else
 some ((V.agg [(V.str [116,101,120,116]),(V.str [112,108,97,105,110]),(V.lst 176 false [])]),[(Ob.cells [(V.lst 5 false a0),(V.int .i64 a1)])])
def O57 (a0:List V) (a1:Int):List Ob:=[Ob.cells [V.lst 5 false a0,V.int IntKind.i64 a1]]
def A57 (a2:List V) (a3:Bool):List V:=[V.ref 0 0,V.lst 91 false a2,V.bool a3]
theorem E57 (a0:List V) (a1:Int) (a2:List V) (a3:Bool):GO 57 Tryz.f57 (A57 a2 a3) (O57 a0 a1) call icall again=T57 call a0 a1 a2 a3:=by kernel_rfl
theorem C57 (k:Nat) (a0:List V) (a1:Int) (a2:List V) (a3:Bool):aA cfg (k+1) 57 (A57 a2 a3) (O57 a0 a1)=T57 (aA cfg k) a0 a1 a2 a3:=
 (show aA cfg (k+1) 57 (A57 a2 a3) (O57 a0 a1)=GO 57 Tryz.f57 (A57 a2 a3) (O57 a0 a1) (aA cfg k) (aE cfg (aA cfg k) 20) (RN 57 Tryz.f57 (O57 a0 a1) (aA cfg k) (aE cfg (aA cfg k) 20) k)by kernel_rfl).trans (E57 _ _ _ a0 a1 a2 a3)
theorem M57 (a0:List V) (a1:Int) (a2:List V) (a3:Bool) {r:V×List Ob} (h:Evt (fun k n=>T57 (aA cfg k) a0 a1 a2 a3) r):Ret 57 [V.ref 0 0,V.lst 91 false a2,V.bool a3] [Ob.cells [V.lst 5 false a0,V.int IntKind.i64 a1]] r:=aR (g:=fun k n=>T57 (aA cfg k) a0 a1 a2 a3) (fun k=>C57 k a0 a1 a2 a3) h
def Ek (call:FuncId→Fun) (ag0:List UInt8→List V→Int→List V→Int→Int→List V→Int→Int→Int→Int→Int→Int→Int→Option (V×List Ob)) (s0:List UInt8) (l1:List V) (i2:Int) (l3:List V) (i4:Int) (i5:Int) (l6:List V) (i7:Int) (i8:Int) (i9:Int) (i10:Int) (i11:Int) (i12:Int) (i13:Int):Option (V×List Ob):=
 if(decide (i5<i4))=true then
 chk (decide (0≤i5)) (chk (decide (i5<((length l3:Nat):Int))) (Option.bind (call 64 [(V.lst 5 false l6),(V.agg [(V.int .i64 (getI (headD (V.cells (getD l3 (Int.toNat i5) V.bot)) V.bot))),(V.int .i64 (getI (headD (tail (V.cells (getD l3 (Int.toNat i5) V.bot))) V.bot))),(V.int .i64 (getI (headD (tail (tail (V.cells (getD l3 (Int.toNat i5) V.bot)))) V.bot)))])] []) fun z0=>
 Option.bind (call 100 [(V.str (getS z0.1)),(V.str s0)] []) fun z1=>
 if(!(getB (headD (getT z1.1) V.bot)))=true then
 (ag0 (s0) (l1) ((getI (headD (tail (V.cells (getD l3 (Int.toNat i5) V.bot))) V.bot))) (l3) (i4) ((IntKind.wrap .i64 (i5+(1:Int)))) (l6) (i7) (i8) (i9) (i10) (i11) (i12) (i13))
 else
 if(getB (headD (tail (getT z1.1)) V.bot))=true then
 some ((V.tup [(V.lst 32 false l1),(V.agg [(V.int .i64 i2),(V.int .i64 (getI (headD (tail (tail (V.cells (getD l3 (Int.toNat i5) V.bot)))) V.bot)))]),(V.bool (decide (((length l1:Nat):Int)>(0:Int))))]),[(Ob.cells [(V.lst 5 false l6),(V.int .i64 i7)])])
 else
 chk (aW l1 [(V.agg [(V.int .i64 i2),(V.int .i64 (getI (headD (tail (tail (V.cells (getD l3 (Int.toNat i5) V.bot)))) V.bot)))])] 17) ((ag0 (s0) ((l1++[(V.agg [(V.int .i64 i2),(V.int .i64 (getI (headD (tail (tail (V.cells (getD l3 (Int.toNat i5) V.bot)))) V.bot)))])])) ((getI (headD (tail (tail (V.cells (getD l3 (Int.toNat i5) V.bot)))) V.bot))) (l3) (i4) ((IntKind.wrap .i64 (i5+(1:Int)))) (l6) (i7) (i8) (i9) (i10) (i11) (i12) (i13)))))
 else
 some ((V.tup [(V.lst 32 false l1),(V.agg [(V.int .i64 i12),(V.int .i64 i13)]),(V.bool (decide (((length l1:Nat):Int)>(0:Int))))]),[(Ob.cells [(V.lst 5 false l6),(V.int .i64 i7)])])
def T59 (call:FuncId→Fun) (ag0:List UInt8→List V→Int→List V→Int→Int→List V→Int→Int→Int→Int→Int→Int→Int→Option (V×List Ob)) (a0:List V) (a1:Int) (a2:Int) (a3:Int) (a4:List UInt8):Option (V×List Ob):=
 Option.bind (call 62 [(V.lst 5 false a0),(V.agg [(V.int .i64 a2),(V.int .i64 a3)])] []) fun z0=>
 (ag0 (a4) ([]) (a2) ((getL z0.1)) (((length (getL z0.1):Nat):Int)) ((0:Int)) (a0) (a1) (a2) (a3) ((0:Int)) ((0:Int)) (a3) (a3))
def O59 (a0:List V) (a1:Int):List Ob:=[Ob.cells [V.lst 5 false a0,V.int IntKind.i64 a1]]
def A59 (a2:Int) (a3:Int) (a4:List UInt8):List V:=[V.ref 0 0,V.agg [V.int IntKind.i64 a2,V.int IntKind.i64 a3],V.str a4]
def BQ (s0:List UInt8) (l1:List V) (i2:Int) (l3:List V) (i4:Int) (i5:Int) (l6:List V) (i7:Int) (i8:Int) (i9:Int) (i10:Int) (i11:Int) (i12:Int) (i13:Int):St:=⟨[(V.ref 0 0),V.bot,(V.str s0),V.bot,V.bot,V.bot,V.bot,(V.ref 2 0),V.bot,(V.lst 32 true l1),(V.ref 3 0),(V.int IntKind.i64 i2),V.bot,V.bot,V.bot,V.bot,V.bot,V.bot,V.bot,V.bot,V.bot,V.bot,V.bot,V.bot,V.bot,V.bot,V.bot,V.bot,V.bot,(V.lst 134 false l3),(V.int IntKind.i64 i4),(V.int IntKind.i64 i5)]++List.replicate 42 V.bot,[(Ob.cells [(V.lst 5 false l6),(V.int IntKind.i64 i7)]),(Ob.cells [(V.int IntKind.i64 i8),(V.int IntKind.i64 i9)]),(Ob.cells [(V.int IntKind.i64 i10),(V.int IntKind.i64 i11)]),(Ob.cells [(V.int IntKind.i64 i12),(V.int IntKind.i64 i13)])]⟩
theorem O4 (a0:List V) (a1:Int) (s0:List UInt8) (l1:List V) (i2:Int) (l3:List V) (i4:Int) (i5:Int) (l6:List V) (i7:Int) (i8:Int) (i9:Int) (i10:Int) (i11:Int) (i12:Int) (i13:Int):
 RM 59 Tryz.f59 (O59 a0 a1) call icall again (aI Tryz.f59 0) (BQ s0 l1 i2 l3 i4 i5 l6 i7 i8 i9 i10 i11 i12 i13)=Ek call (fun s0 l1 i2 l3 i4 i5 l6 i7 i8 i9 i10 i11 i12 i13=>again (aI Tryz.f59 0) (BQ s0 l1 i2 l3 i4 i5 l6 i7 i8 i9 i10 i11 i12 i13)) s0 l1 i2 l3 i4 i5 l6 i7 i8 i9 i10 i11 i12 i13:=by kernel_rfl
theorem E59 (a0:List V) (a1:Int) (a2:Int) (a3:Int) (a4:List UInt8):GO 59 Tryz.f59 (A59 a2 a3 a4) (O59 a0 a1) call icall again=T59 call (fun s0 l1 i2 l3 i4 i5 l6 i7 i8 i9 i10 i11 i12 i13=>again (aI Tryz.f59 0) (BQ s0 l1 i2 l3 i4 i5 l6 i7 i8 i9 i10 i11 i12 i13)) a0 a1 a2 a3 a4:=by kernel_rfl
def L59 (call:FuncId→Fun):Nat→(List UInt8→List V→Int→List V→Int→Int→List V→Int→Int→Int→Int→Int→Int→Int→Option (V×List Ob))
 |0=>fun _ _ _ _ _ _ _ _ _ _ _ _ _ _=>none
 |n+1=>Ek call (L59 call n)
theorem R59 (call:FuncId→Fun) (icall:aO (V×List Ob)) (a0:List V) (a1:Int):∀n,(∀(s0:List UInt8) (l1:List V) (i2:Int) (l3:List V) (i4:Int) (i5:Int) (l6:List V) (i7:Int) (i8:Int) (i9:Int) (i10:Int) (i11:Int) (i12:Int) (i13:Int),RN 59 Tryz.f59 (O59 a0 a1) call icall n (aI Tryz.f59 0) (BQ s0 l1 i2 l3 i4 i5 l6 i7 i8 i9 i10 i11 i12 i13)=(L59 call n) s0 l1 i2 l3 i4 i5 l6 i7 i8 i9 i10 i11 i12 i13)
 |0=>fun s0 l1 i2 l3 i4 i5 l6 i7 i8 i9 i10 i11 i12 i13=>rfl
 |n+1=>by
  have ih:=R59 call icall a0 a1 n
  exact fun s0 l1 i2 l3 i4 i5 l6 i7 i8 i9 i10 i11 i12 i13=>(O4 call icall (RN 59 Tryz.f59 (O59 a0 a1) call icall n) a0 a1 s0 l1 i2 l3 i4 i5 l6 i7 i8 i9 i10 i11 i12 i13).trans (by rw[show(fun s0 l1 i2 l3 i4 i5 l6 i7 i8 i9 i10 i11 i12 i13=>RN 59 Tryz.f59 (O59 a0 a1) call icall n (aI Tryz.f59 0) (BQ s0 l1 i2 l3 i4 i5 l6 i7 i8 i9 i10 i11 i12 i13))=(L59 call n)from(funext fun s0=>funext fun l1=>funext fun i2=>funext fun l3=>funext fun i4=>funext fun i5=>funext fun l6=>funext fun i7=>funext fun i8=>funext fun i9=>funext fun i10=>funext fun i11=>funext fun i12=>funext fun i13=>ih s0 l1 i2 l3 i4 i5 l6 i7 i8 i9 i10 i11 i12 i13)];rfl)
theorem C59 (k:Nat) (a0:List V) (a1:Int) (a2:Int) (a3:Int) (a4:List UInt8):aA cfg (k+1) 59 (A59 a2 a3 a4) (O59 a0 a1)=T59 (aA cfg k) (L59 (aA cfg k) k) a0 a1 a2 a3 a4:=by
 have ih:=R59 (aA cfg k) (aE cfg (aA cfg k) 20) a0 a1 k
 refine(show aA cfg (k+1) 59 (A59 a2 a3 a4) (O59 a0 a1)=GO 59 Tryz.f59 (A59 a2 a3 a4) (O59 a0 a1) (aA cfg k) (aE cfg (aA cfg k) 20) (RN 59 Tryz.f59 (O59 a0 a1) (aA cfg k) (aE cfg (aA cfg k) 20) k)by kernel_rfl).trans ((E59 _ _ _ a0 a1 a2 a3 a4).trans ?_)
 rw[show(fun s0 l1 i2 l3 i4 i5 l6 i7 i8 i9 i10 i11 i12 i13=>RN 59 Tryz.f59 (O59 a0 a1) (aA cfg k) (aE cfg (aA cfg k) 20) k (aI Tryz.f59 0) (BQ s0 l1 i2 l3 i4 i5 l6 i7 i8 i9 i10 i11 i12 i13))=(L59 (aA cfg k) k)from(funext fun s0=>funext fun l1=>funext fun i2=>funext fun l3=>funext fun i4=>funext fun i5=>funext fun l6=>funext fun i7=>funext fun i8=>funext fun i9=>funext fun i10=>funext fun i11=>funext fun i12=>funext fun i13=>ih s0 l1 i2 l3 i4 i5 l6 i7 i8 i9 i10 i11 i12 i13)]
theorem M59 (a0:List V) (a1:Int) (a2:Int) (a3:Int) (a4:List UInt8) {r:V×List Ob} (h:Evt (fun k n=>T59 (aA cfg k) (L59 (aA cfg k) n) a0 a1 a2 a3 a4) r):Ret 59 [V.ref 0 0,V.agg [V.int IntKind.i64 a2,V.int IntKind.i64 a3],V.str a4] [Ob.cells [V.lst 5 false a0,V.int IntKind.i64 a1]] r:=aR (g:=fun k n=>T59 (aA cfg k) (L59 (aA cfg k) n) a0 a1 a2 a3 a4) (fun k=>C59 k a0 a1 a2 a3 a4) h
theorem LN (s0:List UInt8) (l1:List V) (i2:Int) (l3:List V) (i4:Int) (i5:Int) (l6:List V) (i7:Int) (i8:Int) (i9:Int) (i10:Int) (i11:Int) (i12:Int) (i13:Int) {r:V×List Ob} (h:Evt (fun k n=>Ek (aA cfg k) (L59 (aA cfg k) n) s0 l1 i2 l3 i4 i5 l6 i7 i8 i9 i10 i11 i12 i13) r):Evt (fun k n=>(L59 (aA cfg k) n) s0 l1 i2 l3 i4 i5 l6 i7 i8 i9 i10 i11 i12 i13) r:=aZ (fun k n=>rfl) h
def BR (call:FuncId→Fun) (ag0:Int→Bool→List V→Int→Int→List V→Int→Int→Int→Int→Int→Int→List V→List V→Int→Int→Option (V×List Ob)) (i0:Int) (b1:Bool) (l2:List V) (i3:Int) (i4:Int) (l5:List V) (i6:Int) (i7:Int) (i8:Int) (i9:Int) (i10:Int) (i11:Int) (l12:List V) (l13:List V) (i14:Int) (i15:Int):Option (V×List Ob):=
 if(decide (i4<i3))=true then
 chk (decide (0≤i4)) (chk (decide (i4<((length l2:Nat):Int))) (if(decide ((IntKind.wrap .i64 (i4+(1:Int)))<((length l13:Nat):Int)))=true then
 chk (decide (0≤(IntKind.wrap .i64 (i4+(1:Int))))) (chk (decide ((IntKind.wrap .i64 (i4+(1:Int)))<((length l13:Nat):Int))) (Option.bind (call 31 [(V.ref 0 0),(V.agg [(V.int .i64 (getI (headD (tail (V.cells (getD l2 (Int.toNat i4) V.bot))) V.bot))),(V.int .i64 (if(getI (headD (tail (V.cells (getD l2 (Int.toNat i4) V.bot))) V.bot))>(getI (headD (V.cells (getD l13 (Int.toNat (IntKind.wrap .i64 (i4+(1:Int)))) V.bot)) V.bot))then(getI (headD (tail (V.cells (getD l2 (Int.toNat i4) V.bot))) V.bot))else(getI (headD (V.cells (getD l13 (Int.toNat (IntKind.wrap .i64 (i4+(1:Int)))) V.bot)) V.bot))))]),(V.int .i64 i0),(V.bool b1)] [(Ob.cells [(V.lst 5 false l5),(V.int .i64 i6)])]) fun z0=>
 chk (((length l12:Nat):Int)==((length l12:Nat):Int)) (chk (aW l12 [(V.agg [(V.int .i64 (getI (headD (V.cells z0.1) V.bot))),(V.int .i64 (getI (headD (tail (V.cells z0.1)) V.bot))),(V.int .i64 (getI (headD (tail (tail (V.cells z0.1))) V.bot))),(V.int .i64 (getI (headD (tail (tail (tail (V.cells z0.1)))) V.bot))),(V.int .i64 (getI (headD (tail (tail (tail (tail (V.cells z0.1))))) V.bot))),(V.lst 36 false (getL (headD (tail (tail (tail (tail (tail (V.cells z0.1)))))) V.bot))),(V.lst 32 false (getL (headD (tail (tail (tail (tail (tail (tail (V.cells z0.1))))))) V.bot))),(V.int .i64 (getI (headD (tail (tail (tail (tail (tail (tail (tail (V.cells z0.1)))))))) V.bot))),(V.int .i64 (getI (headD (tail (tail (tail (tail (tail (tail (tail (tail (V.cells z0.1))))))))) V.bot)))])] 105) ((ag0 (i0) (b1) (l2) (i3) ((IntKind.wrap .i64 (i4+(1:Int)))) ((getL (headD (Ob.getC (headD z0.2 Ob.dead)) V.bot))) ((getI (headD (tail (Ob.getC (headD z0.2 Ob.dead))) V.bot))) (i7) (i8) (i9) (i10) (i11) ((l12++[(V.agg [(V.int .i64 (getI (headD (V.cells z0.1) V.bot))),(V.int .i64 (getI (headD (tail (V.cells z0.1)) V.bot))),(V.int .i64 (getI (headD (tail (tail (V.cells z0.1))) V.bot))),(V.int .i64 (getI (headD (tail (tail (tail (V.cells z0.1)))) V.bot))),(V.int .i64 (getI (headD (tail (tail (tail (tail (V.cells z0.1))))) V.bot))),(V.lst 36 false (getL (headD (tail (tail (tail (tail (tail (V.cells z0.1)))))) V.bot))),(V.lst 32 false (getL (headD (tail (tail (tail (tail (tail (tail (V.cells z0.1))))))) V.bot))),(V.int .i64 (getI (headD (tail (tail (tail (tail (tail (tail (tail (V.cells z0.1)))))))) V.bot))),(V.int .i64 (getI (headD (tail (tail (tail (tail (tail (tail (tail (tail (V.cells z0.1))))))))) V.bot)))])])) (l13) (i14) (i15))))))
 else
 Option.bind (call 31 [(V.ref 0 0),(V.agg [(V.int .i64 (getI (headD (tail (V.cells (getD l2 (Int.toNat i4) V.bot))) V.bot))),(V.int .i64 (if(getI (headD (tail (V.cells (getD l2 (Int.toNat i4) V.bot))) V.bot))>i14 then(getI (headD (tail (V.cells (getD l2 (Int.toNat i4) V.bot))) V.bot))else i14))]),(V.int .i64 i0),(V.bool b1)] [(Ob.cells [(V.lst 5 false l5),(V.int .i64 i6)])]) fun z0=>
 chk (((length l12:Nat):Int)==((length l12:Nat):Int)) (chk (aW l12 [(V.agg [(V.int .i64 (getI (headD (V.cells z0.1) V.bot))),(V.int .i64 (getI (headD (tail (V.cells z0.1)) V.bot))),(V.int .i64 (getI (headD (tail (tail (V.cells z0.1))) V.bot))),(V.int .i64 (getI (headD (tail (tail (tail (V.cells z0.1)))) V.bot))),(V.int .i64 (getI (headD (tail (tail (tail (tail (V.cells z0.1))))) V.bot))),(V.lst 36 false (getL (headD (tail (tail (tail (tail (tail (V.cells z0.1)))))) V.bot))),(V.lst 32 false (getL (headD (tail (tail (tail (tail (tail (tail (V.cells z0.1))))))) V.bot))),(V.int .i64 (getI (headD (tail (tail (tail (tail (tail (tail (tail (V.cells z0.1)))))))) V.bot))),(V.int .i64 (getI (headD (tail (tail (tail (tail (tail (tail (tail (tail (V.cells z0.1))))))))) V.bot)))])] 105) ((ag0 (i0) (b1) (l2) (i3) ((IntKind.wrap .i64 (i4+(1:Int)))) ((getL (headD (Ob.getC (headD z0.2 Ob.dead)) V.bot))) ((getI (headD (tail (Ob.getC (headD z0.2 Ob.dead))) V.bot))) (i7) (i8) (i9) (i10) (i11) ((l12++[(V.agg [(V.int .i64 (getI (headD (V.cells z0.1) V.bot))),(V.int .i64 (getI (headD (tail (V.cells z0.1)) V.bot))),(V.int .i64 (getI (headD (tail (tail (V.cells z0.1))) V.bot))),(V.int .i64 (getI (headD (tail (tail (tail (V.cells z0.1)))) V.bot))),(V.int .i64 (getI (headD (tail (tail (tail (tail (V.cells z0.1))))) V.bot))),(V.lst 36 false (getL (headD (tail (tail (tail (tail (tail (V.cells z0.1)))))) V.bot))),(V.lst 32 false (getL (headD (tail (tail (tail (tail (tail (tail (V.cells z0.1))))))) V.bot))),(V.int .i64 (getI (headD (tail (tail (tail (tail (tail (tail (tail (V.cells z0.1)))))))) V.bot))),(V.int .i64 (getI (headD (tail (tail (tail (tail (tail (tail (tail (tail (V.cells z0.1))))))))) V.bot)))])])) (l13) (i14) (i15))))))
 else
 some ((V.tup []),[(Ob.cells [(V.lst 5 false l5),(V.int .i64 i6)]),(Ob.cells [(V.int .i64 i7),(V.int .i64 i8),(V.int .i64 i9),(V.int .i64 i10),(V.int .i64 i11),(V.lst 36 true l12),(V.lst 32 false l13),(V.int .i64 i14),(V.int .i64 i15)])])
def T60 (call:FuncId→Fun) (ag0:Int→Bool→List V→Int→Int→List V→Int→Int→Int→Int→Int→Int→List V→List V→Int→Int→Option (V×List Ob)) (a0:List V) (a1:Int) (a2:Int) (a3:Int) (a4:Int) (a5:Int) (a6:Int) (a7:List V) (a8:List V) (a9:Int) (a10:Int) (a11:Int) (a12:Bool):Option (V×List Ob):=
 (ag0 (a11) (a12) (a8) (((length a8:Nat):Int)) ((0:Int)) (a0) (a1) (a2) (a3) (a4) (a5) (a6) (a7) (a8) (a9) (a10))
def O60 (a0:List V) (a1:Int) (a2:Int) (a3:Int) (a4:Int) (a5:Int) (a6:Int) (a7:List V) (a8:List V) (a9:Int) (a10:Int):List Ob:=[Ob.cells [V.lst 5 false a0,V.int IntKind.i64 a1],Ob.cells [V.int IntKind.i64 a2,V.int IntKind.i64 a3,V.int IntKind.i64 a4,V.int IntKind.i64 a5,V.int IntKind.i64 a6,V.lst 36 true a7,V.lst 32 false a8,V.int IntKind.i64 a9,V.int IntKind.i64 a10]]
def A60 (a11:Int) (a12:Bool):List V:=[V.ref 0 0,V.ref 1 0,V.int IntKind.i64 a11,V.bool a12]
def BS (i0:Int) (b1:Bool) (l2:List V) (i3:Int) (i4:Int) (l5:List V) (i6:Int) (i7:Int) (i8:Int) (i9:Int) (i10:Int) (i11:Int) (l12:List V) (l13:List V) (i14:Int) (i15:Int):St:=⟨[(V.ref 0 0),(V.ref 1 0),(V.int IntKind.i64 i0),(V.bool b1),V.bot,V.bot,V.bot,V.bot,V.bot,V.bot,V.bot,V.bot,V.bot,V.bot,(V.lst 32 false l2),(V.int IntKind.i64 i3),(V.int IntKind.i64 i4)]++List.replicate 48 V.bot,[(Ob.cells [(V.lst 5 false l5),(V.int IntKind.i64 i6)]),(Ob.cells [(V.int IntKind.i64 i7),(V.int IntKind.i64 i8),(V.int IntKind.i64 i9),(V.int IntKind.i64 i10),(V.int IntKind.i64 i11),(V.lst 36 true l12),(V.lst 32 false l13),(V.int IntKind.i64 i14),(V.int IntKind.i64 i15)])]⟩
theorem O5 (a0:List V) (a1:Int) (a2:Int) (a3:Int) (a4:Int) (a5:Int) (a6:Int) (a7:List V) (a8:List V) (a9:Int) (a10:Int) (i0:Int) (b1:Bool) (l2:List V) (i3:Int) (i4:Int) (l5:List V) (i6:Int) (i7:Int) (i8:Int) (i9:Int) (i10:Int) (i11:Int) (l12:List V) (l13:List V) (i14:Int) (i15:Int):
 RM 60 Tryz.f60 (O60 a0 a1 a2 a3 a4 a5 a6 a7 a8 a9 a10) call icall again (aI Tryz.f60 0) (BS i0 b1 l2 i3 i4 l5 i6 i7 i8 i9 i10 i11 l12 l13 i14 i15)=BR call (fun i0 b1 l2 i3 i4 l5 i6 i7 i8 i9 i10 i11 l12 l13 i14 i15=>again (aI Tryz.f60 0) (BS i0 b1 l2 i3 i4 l5 i6 i7 i8 i9 i10 i11 l12 l13 i14 i15)) i0 b1 l2 i3 i4 l5 i6 i7 i8 i9 i10 i11 l12 l13 i14 i15:=by kernel_rfl
theorem E60 (a0:List V) (a1:Int) (a2:Int) (a3:Int) (a4:Int) (a5:Int) (a6:Int) (a7:List V) (a8:List V) (a9:Int) (a10:Int) (a11:Int) (a12:Bool):GO 60 Tryz.f60 (A60 a11 a12) (O60 a0 a1 a2 a3 a4 a5 a6 a7 a8 a9 a10) call icall again=T60 call (fun i0 b1 l2 i3 i4 l5 i6 i7 i8 i9 i10 i11 l12 l13 i14 i15=>again (aI Tryz.f60 0) (BS i0 b1 l2 i3 i4 l5 i6 i7 i8 i9 i10 i11 l12 l13 i14 i15)) a0 a1 a2 a3 a4 a5 a6 a7 a8 a9 a10 a11 a12:=by kernel_rfl
def L60 (call:FuncId→Fun):Nat→(Int→Bool→List V→Int→Int→List V→Int→Int→Int→Int→Int→Int→List V→List V→Int→Int→Option (V×List Ob))
 |0=>fun _ _ _ _ _ _ _ _ _ _ _ _ _ _ _ _=>none
 |n+1=>BR call (L60 call n)
theorem R60 (call:FuncId→Fun) (icall:aO (V×List Ob)) (a0:List V) (a1:Int) (a2:Int) (a3:Int) (a4:Int) (a5:Int) (a6:Int) (a7:List V) (a8:List V) (a9:Int) (a10:Int):∀n,(∀(i0:Int) (b1:Bool) (l2:List V) (i3:Int) (i4:Int) (l5:List V) (i6:Int) (i7:Int) (i8:Int) (i9:Int) (i10:Int) (i11:Int) (l12:List V) (l13:List V) (i14:Int) (i15:Int),RN 60 Tryz.f60 (O60 a0 a1 a2 a3 a4 a5 a6 a7 a8 a9 a10) call icall n (aI Tryz.f60 0) (BS i0 b1 l2 i3 i4 l5 i6 i7 i8 i9 i10 i11 l12 l13 i14 i15)=(L60 call n) i0 b1 l2 i3 i4 l5 i6 i7 i8 i9 i10 i11 l12 l13 i14 i15)
 |0=>fun i0 b1 l2 i3 i4 l5 i6 i7 i8 i9 i10 i11 l12 l13 i14 i15=>rfl
 |n+1=>by
  have ih:=R60 call icall a0 a1 a2 a3 a4 a5 a6 a7 a8 a9 a10 n
  exact fun i0 b1 l2 i3 i4 l5 i6 i7 i8 i9 i10 i11 l12 l13 i14 i15=>(O5 call icall (RN 60 Tryz.f60 (O60 a0 a1 a2 a3 a4 a5 a6 a7 a8 a9 a10) call icall n) a0 a1 a2 a3 a4 a5 a6 a7 a8 a9 a10 i0 b1 l2 i3 i4 l5 i6 i7 i8 i9 i10 i11 l12 l13 i14 i15).trans (by rw[show(fun i0 b1 l2 i3 i4 l5 i6 i7 i8 i9 i10 i11 l12 l13 i14 i15=>RN 60 Tryz.f60 (O60 a0 a1 a2 a3 a4 a5 a6 a7 a8 a9 a10) call icall n (aI Tryz.f60 0) (BS i0 b1 l2 i3 i4 l5 i6 i7 i8 i9 i10 i11 l12 l13 i14 i15))=(L60 call n)from(funext fun i0=>funext fun b1=>funext fun l2=>funext fun i3=>funext fun i4=>funext fun l5=>funext fun i6=>funext fun i7=>funext fun i8=>funext fun i9=>funext fun i10=>funext fun i11=>funext fun l12=>funext fun l13=>funext fun i14=>funext fun i15=>ih i0 b1 l2 i3 i4 l5 i6 i7 i8 i9 i10 i11 l12 l13 i14 i15)];rfl)
theorem C60 (k:Nat) (a0:List V) (a1:Int) (a2:Int) (a3:Int) (a4:Int) (a5:Int) (a6:Int) (a7:List V) (a8:List V) (a9:Int) (a10:Int) (a11:Int) (a12:Bool):aA cfg (k+1) 60 (A60 a11 a12) (O60 a0 a1 a2 a3 a4 a5 a6 a7 a8 a9 a10)=T60 (aA cfg k) (L60 (aA cfg k) k) a0 a1 a2 a3 a4 a5 a6 a7 a8 a9 a10 a11 a12:=by
 have ih:=R60 (aA cfg k) (aE cfg (aA cfg k) 20) a0 a1 a2 a3 a4 a5 a6 a7 a8 a9 a10 k
 refine(show aA cfg (k+1) 60 (A60 a11 a12) (O60 a0 a1 a2 a3 a4 a5 a6 a7 a8 a9 a10)=GO 60 Tryz.f60 (A60 a11 a12) (O60 a0 a1 a2 a3 a4 a5 a6 a7 a8 a9 a10) (aA cfg k) (aE cfg (aA cfg k) 20) (RN 60 Tryz.f60 (O60 a0 a1 a2 a3 a4 a5 a6 a7 a8 a9 a10) (aA cfg k) (aE cfg (aA cfg k) 20) k)by kernel_rfl).trans ((E60 _ _ _ a0 a1 a2 a3 a4 a5 a6 a7 a8 a9 a10 a11 a12).trans ?_)
 rw[show(fun i0 b1 l2 i3 i4 l5 i6 i7 i8 i9 i10 i11 l12 l13 i14 i15=>RN 60 Tryz.f60 (O60 a0 a1 a2 a3 a4 a5 a6 a7 a8 a9 a10) (aA cfg k) (aE cfg (aA cfg k) 20) k (aI Tryz.f60 0) (BS i0 b1 l2 i3 i4 l5 i6 i7 i8 i9 i10 i11 l12 l13 i14 i15))=(L60 (aA cfg k) k)from(funext fun i0=>funext fun b1=>funext fun l2=>funext fun i3=>funext fun i4=>funext fun l5=>funext fun i6=>funext fun i7=>funext fun i8=>funext fun i9=>funext fun i10=>funext fun i11=>funext fun l12=>funext fun l13=>funext fun i14=>funext fun i15=>ih i0 b1 l2 i3 i4 l5 i6 i7 i8 i9 i10 i11 l12 l13 i14 i15)]
theorem M60 (a0:List V) (a1:Int) (a2:Int) (a3:Int) (a4:Int) (a5:Int) (a6:Int) (a7:List V) (a8:List V) (a9:Int) (a10:Int) (a11:Int) (a12:Bool) {r:V×List Ob} (h:Evt (fun k n=>T60 (aA cfg k) (L60 (aA cfg k) n) a0 a1 a2 a3 a4 a5 a6 a7 a8 a9 a10 a11 a12) r):Ret 60 [V.ref 0 0,V.ref 1 0,V.int IntKind.i64 a11,V.bool a12] [Ob.cells [V.lst 5 false a0,V.int IntKind.i64 a1],Ob.cells [V.int IntKind.i64 a2,V.int IntKind.i64 a3,V.int IntKind.i64 a4,V.int IntKind.i64 a5,V.int IntKind.i64 a6,V.lst 36 true a7,V.lst 32 false a8,V.int IntKind.i64 a9,V.int IntKind.i64 a10]] r:=aR (g:=fun k n=>T60 (aA cfg k) (L60 (aA cfg k) n) a0 a1 a2 a3 a4 a5 a6 a7 a8 a9 a10 a11 a12) (fun k=>C60 k a0 a1 a2 a3 a4 a5 a6 a7 a8 a9 a10 a11 a12) h
theorem LO (i0:Int) (b1:Bool) (l2:List V) (i3:Int) (i4:Int) (l5:List V) (i6:Int) (i7:Int) (i8:Int) (i9:Int) (i10:Int) (i11:Int) (l12:List V) (l13:List V) (i14:Int) (i15:Int) {r:V×List Ob} (h:Evt (fun k n=>BR (aA cfg k) (L60 (aA cfg k) n) i0 b1 l2 i3 i4 l5 i6 i7 i8 i9 i10 i11 l12 l13 i14 i15) r):Evt (fun k n=>(L60 (aA cfg k) n) i0 b1 l2 i3 i4 l5 i6 i7 i8 i9 i10 i11 l12 l13 i14 i15) r:=aZ (fun k n=>rfl) h
def T61 (call:FuncId→Fun) (a0:List V) (a1:Int) (a2:List V):Option (V×List Ob):=
 Option.bind (call 33 [(V.lst 91 false a2),(V.str [99,111,110,116,101,110,116,45,116,114,97,110,115,102,101,114,45,101,110,99,111,100,105,110,103])] []) fun z0=>
 if(!(getB (headD (tail (getT z0.1)) V.bot)))=true then
 some ((V.bool true),[(Ob.cells [(V.lst 5 false a0),(V.int .i64 a1)])])
 else
 Option.bind (call 70 [(V.lst 5 false a0),(V.agg [(V.str (getS (headD (V.cells (headD (getT z0.1) V.bot)) V.bot))),(V.int .i64 (getI (headD (tail (V.cells (headD (getT z0.1) V.bot))) V.bot))),(V.int .i64 (getI (headD (tail (tail (V.cells (headD (getT z0.1) V.bot)))) V.bot))),(V.int .i64 (getI (headD (tail (tail (tail (V.cells (headD (getT z0.1) V.bot))))) V.bot)))])] []) fun z1=>
 Option.bind (call 73 [(V.str (getS z1.1))] []) fun z2=>
 if(sEq (getS z2.1) [55,98,105,116])=true then
 some ((V.bool true),[(Ob.cells [(V.lst 5 false a0),(V.int .i64 a1)])])
 else
 if(sEq (getS z2.1) [56,98,105,116])=true then
 some ((V.bool true),[(Ob.cells [(V.lst 5 false a0),(V.int .i64 a1)])])
 else
 if(sEq (getS z2.1) [98,105,110,97,114,121])=true then
 some ((V.bool true),[(Ob.cells [(V.lst 5 false a0),(V.int .i64 a1)])])
 else
 some ((V.bool false),[(Ob.cells [(V.lst 5 false a0),(V.int .i64 a1)])])
def O61 (a0:List V) (a1:Int):List Ob:=[Ob.cells [V.lst 5 false a0,V.int IntKind.i64 a1]]
def A61 (a2:List V):List V:=[V.ref 0 0,V.lst 91 false a2]
theorem E61 (a0:List V) (a1:Int) (a2:List V):GO 61 Tryz.f61 (A61 a2) (O61 a0 a1) call icall again=T61 call a0 a1 a2:=by kernel_rfl
theorem C61 (k:Nat) (a0:List V) (a1:Int) (a2:List V):aA cfg (k+1) 61 (A61 a2) (O61 a0 a1)=T61 (aA cfg k) a0 a1 a2:=
 (show aA cfg (k+1) 61 (A61 a2) (O61 a0 a1)=GO 61 Tryz.f61 (A61 a2) (O61 a0 a1) (aA cfg k) (aE cfg (aA cfg k) 20) (RN 61 Tryz.f61 (O61 a0 a1) (aA cfg k) (aE cfg (aA cfg k) 20) k)by kernel_rfl).trans (E61 _ _ _ a0 a1 a2)
theorem M61 (a0:List V) (a1:Int) (a2:List V) {r:V×List Ob} (h:Evt (fun k n=>T61 (aA cfg k) a0 a1 a2) r):Ret 61 [V.ref 0 0,V.lst 91 false a2] [Ob.cells [V.lst 5 false a0,V.int IntKind.i64 a1]] r:=aR (g:=fun k n=>T61 (aA cfg k) a0 a1 a2) (fun k=>C61 k a0 a1 a2) h
def T31 (call:FuncId→Fun) (a0:List V) (a1:Int) (a2:Int) (a3:Int) (a4:Int) (a5:Bool):Option (V×List Ob):=
 Option.bind (call 32 [(V.lst 5 false a0),(V.agg [(V.int .i64 a2),(V.int .i64 a3)])] []) fun z0=>
 if(a4==(32:Int))=true then
 some ((V.agg [(V.int .i64 0),(V.int .i64 a2),(V.int .i64 (getI (headD (tail (getT z0.1)) V.bot))),(V.int .i64 (getI (headD (tail (getT z0.1)) V.bot))),(V.int .i64 a3),(V.lst 36 false []),(V.lst 32 false []),(V.int .i64 0),(V.int .i64 0)]),[(Ob.cells [(V.lst 5 false a0),(V.int .i64 a1)])])
 else
 Option.bind (call 57 [(V.ref 0 0),(V.lst 91 false (getL (headD (getT z0.1) V.bot))),(V.bool a5)] [(Ob.cells [(V.lst 5 false a0),(V.int .i64 a1)])]) fun z1=>
 Option.bind (call 58 [(V.agg [(V.str (getS (headD (V.cells z1.1) V.bot))),(V.str (getS (headD (tail (V.cells z1.1)) V.bot))),(V.lst 176 false (getL (headD (tail (tail (V.cells z1.1))) V.bot)))]),(V.str [98,111,117,110,100,97,114,121])] []) fun z2=>
 Option.bind (if(sEq (getS (headD (V.cells z1.1) V.bot)) [109,117,108,116,105,112,97,114,116])=true then
 if(!(sEq (getS (headD (getT z2.1) V.bot)) []))=true then
 some (decide (((length (getS (headD (getT z2.1) V.bot)):Nat):Int)≤(70:Int)))
 else
 some false
 else
 some false) fun y3=>
 if y3=true then
 Option.bind (call 59 [(V.ref 0 0),(V.agg [(V.int .i64 (getI (headD (tail (getT z0.1)) V.bot))),(V.int .i64 a3)]),(V.str (getS (headD (getT z2.1) V.bot)))] [(Ob.cells [(V.lst 5 false (getL (headD (Ob.getC (headD z1.2 Ob.dead)) V.bot))),(V.int .i64 (getI (headD (tail (Ob.getC (headD z1.2 Ob.dead))) V.bot)))])]) fun z4=>
 Option.bind (if(getB (headD (tail (tail (getT z4.1))) V.bot))=true then
 some (decide ((IntKind.wrap .i64 ((getI (headD (tail (Ob.getC (headD z4.2 Ob.dead))) V.bot))+((length (getL (headD (getT z4.1) V.bot)):Nat):Int)))≤(1000:Int)))
 else
 some false) fun y5=>
 if y5=true then
 Option.bind (call 60 [(V.ref 0 0),(V.ref 1 0),(V.int .i64 (IntKind.wrap .i64 (a4+(1:Int)))),(V.bool (sEq (getS (headD (tail (V.cells z1.1)) V.bot)) [100,105,103,101,115,116]))] [(Ob.cells [(V.lst 5 false (getL (headD (Ob.getC (headD z4.2 Ob.dead)) V.bot))),(V.int .i64 (IntKind.wrap .i64 ((getI (headD (tail (Ob.getC (headD z4.2 Ob.dead))) V.bot))+((length (getL (headD (getT z4.1) V.bot)):Nat):Int))))]),(Ob.cells [(V.int .i64 1),(V.int .i64 a2),(V.int .i64 (getI (headD (tail (getT z0.1)) V.bot))),(V.int .i64 (getI (headD (tail (getT z0.1)) V.bot))),(V.int .i64 a3),(V.lst 36 true []),(V.lst 32 false (getL (headD (getT z4.1) V.bot))),(V.int .i64 (getI (headD (V.cells (headD (tail (getT z4.1)) V.bot)) V.bot))),(V.int .i64 (getI (headD (tail (V.cells (headD (tail (getT z4.1)) V.bot))) V.bot)))])]) fun z6=>
 some ((V.agg [(V.int .i64 (getI (headD (Ob.getC (headD (tail z6.2) Ob.dead)) V.bot))),(V.int .i64 (getI (headD (tail (Ob.getC (headD (tail z6.2) Ob.dead))) V.bot))),(V.int .i64 (getI (headD (tail (tail (Ob.getC (headD (tail z6.2) Ob.dead)))) V.bot))),(V.int .i64 (getI (headD (tail (tail (tail (Ob.getC (headD (tail z6.2) Ob.dead))))) V.bot))),(V.int .i64 (getI (headD (tail (tail (tail (tail (Ob.getC (headD (tail z6.2) Ob.dead)))))) V.bot))),(V.lst 36 false (getL (headD (tail (tail (tail (tail (tail (Ob.getC (headD (tail z6.2) Ob.dead))))))) V.bot))),(V.lst 32 false (getL (headD (tail (tail (tail (tail (tail (tail (Ob.getC (headD (tail z6.2) Ob.dead)))))))) V.bot))),(V.int .i64 (getI (headD (tail (tail (tail (tail (tail (tail (tail (Ob.getC (headD (tail z6.2) Ob.dead))))))))) V.bot))),(V.int .i64 (getI (headD (tail (tail (tail (tail (tail (tail (tail (tail (Ob.getC (headD (tail z6.2) Ob.dead)))))))))) V.bot)))]),[(Ob.cells [(V.lst 5 false (getL (headD (Ob.getC (headD z6.2 Ob.dead)) V.bot))),(V.int .i64 (getI (headD (tail (Ob.getC (headD z6.2 Ob.dead))) V.bot)))])])
 else
 some ((V.agg [(V.int .i64 0),(V.int .i64 a2),(V.int .i64 (getI (headD (tail (getT z0.1)) V.bot))),(V.int .i64 (getI (headD (tail (getT z0.1)) V.bot))),(V.int .i64 a3),(V.lst 36 false []),(V.lst 32 false []),(V.int .i64 0),(V.int .i64 0)]),[(Ob.cells [(V.lst 5 false (getL (headD (Ob.getC (headD z4.2 Ob.dead)) V.bot))),(V.int .i64 (getI (headD (tail (Ob.getC (headD z4.2 Ob.dead))) V.bot)))])])
 else
 if(sEq (getS (headD (V.cells z1.1) V.bot)) [109,101,115,115,97,103,101])=true then
 if(sEq (getS (headD (tail (V.cells z1.1)) V.bot)) [114,102,99,56,50,50])=true then
 Option.bind (call 61 [(V.ref 0 0),(V.lst 91 false (getL (headD (getT z0.1) V.bot)))] [(Ob.cells [(V.lst 5 false (getL (headD (Ob.getC (headD z1.2 Ob.dead)) V.bot))),(V.int .i64 (getI (headD (tail (Ob.getC (headD z1.2 Ob.dead))) V.bot)))])]) fun z4=>
 if(getB z4.1)=true then
 if(decide ((getI (headD (tail (Ob.getC (headD z4.2 Ob.dead))) V.bot))<(1000:Int)))=true then
 Option.bind (call 31 [(V.ref 0 0),(V.agg [(V.int .i64 (getI (headD (tail (getT z0.1)) V.bot))),(V.int .i64 a3)]),(V.int .i64 (IntKind.wrap .i64 (a4+(1:Int)))),(V.bool false)] [(Ob.cells [(V.lst 5 false (getL (headD (Ob.getC (headD z4.2 Ob.dead)) V.bot))),(V.int .i64 (IntKind.wrap .i64 ((getI (headD (tail (Ob.getC (headD z4.2 Ob.dead))) V.bot))+(1:Int))))])]) fun z5=>
 some ((V.agg [(V.int .i64 2),(V.int .i64 a2),(V.int .i64 (getI (headD (tail (getT z0.1)) V.bot))),(V.int .i64 (getI (headD (tail (getT z0.1)) V.bot))),(V.int .i64 a3),(V.lst 36 false [(V.agg [(V.int .i64 (getI (headD (V.cells z5.1) V.bot))),(V.int .i64 (getI (headD (tail (V.cells z5.1)) V.bot))),(V.int .i64 (getI (headD (tail (tail (V.cells z5.1))) V.bot))),(V.int .i64 (getI (headD (tail (tail (tail (V.cells z5.1)))) V.bot))),(V.int .i64 (getI (headD (tail (tail (tail (tail (V.cells z5.1))))) V.bot))),(V.lst 36 false (getL (headD (tail (tail (tail (tail (tail (V.cells z5.1)))))) V.bot))),(V.lst 32 false (getL (headD (tail (tail (tail (tail (tail (tail (V.cells z5.1))))))) V.bot))),(V.int .i64 (getI (headD (tail (tail (tail (tail (tail (tail (tail (V.cells z5.1)))))))) V.bot))),(V.int .i64 (getI (headD (tail (tail (tail (tail (tail (tail (tail (tail (V.cells z5.1))))))))) V.bot)))])]),(V.lst 32 false []),(V.int .i64 0),(V.int .i64 0)]),[(Ob.cells [(V.lst 5 false (getL (headD (Ob.getC (headD z5.2 Ob.dead)) V.bot))),(V.int .i64 (getI (headD (tail (Ob.getC (headD z5.2 Ob.dead))) V.bot)))])])
 else
 some ((V.agg [(V.int .i64 0),(V.int .i64 a2),(V.int .i64 (getI (headD (tail (getT z0.1)) V.bot))),(V.int .i64 (getI (headD (tail (getT z0.1)) V.bot))),(V.int .i64 a3),(V.lst 36 false []),(V.lst 32 false []),(V.int .i64 0),(V.int .i64 0)]),[(Ob.cells [(V.lst 5 false (getL (headD (Ob.getC (headD z4.2 Ob.dead)) V.bot))),(V.int .i64 (getI (headD (tail (Ob.getC (headD z4.2 Ob.dead))) V.bot)))])])
 else
 some ((V.agg [(V.int .i64 0),(V.int .i64 a2),(V.int .i64 (getI (headD (tail (getT z0.1)) V.bot))),(V.int .i64 (getI (headD (tail (getT z0.1)) V.bot))),(V.int .i64 a3),(V.lst 36 false []),(V.lst 32 false []),(V.int .i64 0),(V.int .i64 0)]),[(Ob.cells [(V.lst 5 false (getL (headD (Ob.getC (headD z4.2 Ob.dead)) V.bot))),(V.int .i64 (getI (headD (tail (Ob.getC (headD z4.2 Ob.dead))) V.bot)))])])
 else
 some ((V.agg [(V.int .i64 0),(V.int .i64 a2),(V.int .i64 (getI (headD (tail (getT z0.1)) V.bot))),(V.int .i64 (getI (headD (tail (getT z0.1)) V.bot))),(V.int .i64 a3),(V.lst 36 false []),(V.lst 32 false []),(V.int .i64 0),(V.int .i64 0)]),[(Ob.cells [(V.lst 5 false (getL (headD (Ob.getC (headD z1.2 Ob.dead)) V.bot))),(V.int .i64 (getI (headD (tail (Ob.getC (headD z1.2 Ob.dead))) V.bot)))])])
 else
 some ((V.agg [(V.int .i64 0),(V.int .i64 a2),(V.int .i64 (getI (headD (tail (getT z0.1)) V.bot))),(V.int .i64 (getI (headD (tail (getT z0.1)) V.bot))),(V.int .i64 a3),(V.lst 36 false []),(V.lst 32 false []),(V.int .i64 0),(V.int .i64 0)]),[(Ob.cells [(V.lst 5 false (getL (headD (Ob.getC (headD z1.2 Ob.dead)) V.bot))),(V.int .i64 (getI (headD (tail (Ob.getC (headD z1.2 Ob.dead))) V.bot)))])])
def O31 (a0:List V) (a1:Int):List Ob:=[Ob.cells [V.lst 5 false a0,V.int IntKind.i64 a1]]
def A31 (a2:Int) (a3:Int) (a4:Int) (a5:Bool):List V:=[V.ref 0 0,V.agg [V.int IntKind.i64 a2,V.int IntKind.i64 a3],V.int IntKind.i64 a4,V.bool a5]
theorem E31 (a0:List V) (a1:Int) (a2:Int) (a3:Int) (a4:Int) (a5:Bool):GO 31 Tryz.f31 (A31 a2 a3 a4 a5) (O31 a0 a1) call icall again=T31 call a0 a1 a2 a3 a4 a5:=by kernel_rfl
theorem C31 (k:Nat) (a0:List V) (a1:Int) (a2:Int) (a3:Int) (a4:Int) (a5:Bool):aA cfg (k+1) 31 (A31 a2 a3 a4 a5) (O31 a0 a1)=T31 (aA cfg k) a0 a1 a2 a3 a4 a5:=
 (show aA cfg (k+1) 31 (A31 a2 a3 a4 a5) (O31 a0 a1)=GO 31 Tryz.f31 (A31 a2 a3 a4 a5) (O31 a0 a1) (aA cfg k) (aE cfg (aA cfg k) 20) (RN 31 Tryz.f31 (O31 a0 a1) (aA cfg k) (aE cfg (aA cfg k) 20) k)by kernel_rfl).trans (E31 _ _ _ a0 a1 a2 a3 a4 a5)
theorem M31 (a0:List V) (a1:Int) (a2:Int) (a3:Int) (a4:Int) (a5:Bool) {r:V×List Ob} (h:Evt (fun k n=>T31 (aA cfg k) a0 a1 a2 a3 a4 a5) r):Ret 31 [V.ref 0 0,V.agg [V.int IntKind.i64 a2,V.int IntKind.i64 a3],V.int IntKind.i64 a4,V.bool a5] [Ob.cells [V.lst 5 false a0,V.int IntKind.i64 a1]] r:=aR (g:=fun k n=>T31 (aA cfg k) a0 a1 a2 a3 a4 a5) (fun k=>C31 k a0 a1 a2 a3 a4 a5) h
def T14 (call:FuncId→Fun) (a0:List V):Option (V×List Ob):=
 if(decide (((length a0:Nat):Int)>(67108864:Int)))=true then
 some ((V.tup [(V.agg [(V.int .i64 0),(V.int .i64 0),(V.int .i64 0),(V.int .i64 0),(V.int .i64 0),(V.lst 36 false []),(V.lst 32 false []),(V.int .i64 0),(V.int .i64 0)]),(V.int .i64 13)]),[])
 else
 Option.bind (call 31 [(V.ref 0 0),(V.agg [(V.int .i64 0),(V.int .i64 ((length a0:Nat):Int))]),(V.int .i64 0),(V.bool false)] [(Ob.cells [(V.lst 5 false a0),(V.int .i64 1)])]) fun z0=>
 some ((V.tup [(V.agg [(V.int .i64 (getI (headD (V.cells z0.1) V.bot))),(V.int .i64 (getI (headD (tail (V.cells z0.1)) V.bot))),(V.int .i64 (getI (headD (tail (tail (V.cells z0.1))) V.bot))),(V.int .i64 (getI (headD (tail (tail (tail (V.cells z0.1)))) V.bot))),(V.int .i64 (getI (headD (tail (tail (tail (tail (V.cells z0.1))))) V.bot))),(V.lst 36 false (getL (headD (tail (tail (tail (tail (tail (V.cells z0.1)))))) V.bot))),(V.lst 32 false (getL (headD (tail (tail (tail (tail (tail (tail (V.cells z0.1))))))) V.bot))),(V.int .i64 (getI (headD (tail (tail (tail (tail (tail (tail (tail (V.cells z0.1)))))))) V.bot))),(V.int .i64 (getI (headD (tail (tail (tail (tail (tail (tail (tail (tail (V.cells z0.1))))))))) V.bot)))]),(V.int .i64 0)]),[])
def A14 (a0:List V):List V:=[V.lst 5 false a0]
theorem E14 (a0:List V):GO 14 Tryz.f14 (A14 a0) [] call icall again=T14 call a0:=by kernel_rfl
theorem C14 (k:Nat) (a0:List V):aA cfg (k+1) 14 (A14 a0) []=T14 (aA cfg k) a0:=
 (show aA cfg (k+1) 14 (A14 a0) []=GO 14 Tryz.f14 (A14 a0) [] (aA cfg k) (aE cfg (aA cfg k) 20) (RN 14 Tryz.f14 [] (aA cfg k) (aE cfg (aA cfg k) 20) k)by kernel_rfl).trans (E14 _ _ _ a0)
theorem M14 (a0:List V) {r:V×List Ob} (h:Evt (fun k n=>T14 (aA cfg k) a0) r):Ret 14 [V.lst 5 false a0] [] r:=aR (g:=fun k n=>T14 (aA cfg k) a0) (fun k=>C14 k a0) h
end Go.Proofs.YtdoaoaicdimbeaaGreatDoor
end
section
namespace Go.Proofs.YtdoaoaicdimbeaaGreatDoor
open Go.Ev Go
def sK (s:Bs):Bool:=trimF s==[]
def sL (text bd:Bs):Bool×Bool:=
 if text.length<2+bd.length∨text.take (2+bd.length)≠[45,45]++bd then(false,false)else
 if sK (text.drop (2+bd.length))then(true,false)else
 if 2≤(text.drop (2+bd.length)).length∧(text.drop (2+bd.length)).take 2=[45,45]∧sK ((text.drop (2+bd.length)).drop 2)=true then(true,true)else(false,false)
theorem I6 (s:Bs) (hs:s.length≤1000000):Ret 135 [.str s] [] (.bool (sK s),[]):=by
 refine Ra s ?_
 simp only[I0]
 refine aB (I4 s (by omega)) ?_
 exact aD _
theorem M9 (text bd:Bs) (ht:text.length≤1000000) (hb:bd.length≤1000000):Ret 100 [.str text, .str bd] [] (.tup [.bool (sL text bd).1, .bool (sL text bd).2],[]):=by
 refine Q7 text bd ?_
 have hw:IntKind.wrap .i64 ((2:Int)+(bd.length:Int))=((2+bd.length:Nat):Int):=by rw[wrap64 (by omega) (by omega)];omega
 have h0:(0:Int)≤((2+bd.length:Nat):Int):=by omega
 have hc:bJ [45,45] bd=true:=eJ (by simp;omega)
 simp only[IZ,hw]
 unfold sL
 by_cases h1:text.length<2+bd.length
 ·have h1' :(text.length:Int)<((2+bd.length:Nat):Int):=by omega
  simp only[h1',decide_true,Bool.true_eq_false,if_false,cS,if_true,h1,true_or]
  exact aD _
 ·have h1' :¬((text.length:Int)<((2+bd.length:Nat):Int)):=by omega
  have h2:((2+bd.length:Nat):Int)≤(text.length:Int):=by omega
  simp only[h1',decide_false,if_true,aJ h0,aJ h2,aJ (show(0:Int)≤0 by omega),bM hc,Int.toNat_zero,Int.toNat_natCast,List.drop_zero,cS,h1,false_or]
  by_cases h3:text.take (2+bd.length)=[45,45]++bd
  ·have h3' :sEq (text.take (2+bd.length)) ([45,45]++bd)=true:=by simp[sEq,h3]
   simp only[h3',Bool.not_true,Bool.false_eq_true,if_false]
   simp only[h3,ne_eq,not_true_eq_false,if_false]
   have hr:(text.drop (2+bd.length)).length≤1000000:=by simp;omega
   obtain⟨rest,hrest⟩:∃rest,text.drop (2+bd.length)=rest:=⟨_,rfl⟩
   simp only[hrest]at hr ⊢
   refine aB (I6 rest hr) ?_
   simp only[V.getB]
   by_cases h4:sK rest=true
   ·simp only[h4,if_true];exact aD _
   ·have h4' :sK rest=false:=by simpa using h4
    simp only[h4',Bool.false_eq_true,if_false]
    by_cases h5:2≤rest.length
    ·have h5' :((rest.length:Int)≥(2:Int)):=by omega
     have h5'' :((2:Int)≤(rest.length:Int)):=by omega
     simp only[h5',decide_true,if_true,aJ (show(0:Int)≤2 by omega),aJ h5'',aJ (show(0:Int)≤0 by omega),Int.toNat_zero,List.drop_zero,h5,true_and,show Int.toNat 2=2 from rfl,cK]
     by_cases h6:rest.take 2=[45,45]
     ·have h6' :sEq (rest.take 2) [45,45]=true:=by simp[sEq,h6]
      simp only[h6',if_true,h6,true_and]
      refine aB (I6 (rest.drop 2) (by simp;omega)) ?_
      simp only[V.getB]
      by_cases h7:sK (rest.drop 2)=true
      ·simp only[h7,if_true];exact aD _
      ·have h7' :sK (rest.drop 2)=false:=by simpa using h7
       simp only[h7',Bool.false_eq_true,if_false];exact aD _
     ·have h6' :sEq (rest.take 2) [45,45]=false:=by simp[sEq,h6]
      simp only[h6',Bool.false_eq_true,if_false,h6,false_and];exact aD _
    ·have h5' :¬((rest.length:Int)≥(2:Int)):=by omega
     simp only[h5',decide_false,Bool.false_eq_true,if_false,h5,false_and];exact aD _
  ·have h3' :sEq (text.take (2+bd.length)) ([45,45]++bd)=false:=beq_eq_false_iff_ne.2 h3
   simp only[h3',Bool.not_false,if_true]
   simp only[h3,ne_eq,not_false_eq_true,if_true]
   exact aD _
end Go.Proofs.YtdoaoaicdimbeaaGreatDoor
end
section
namespace Go.Proofs.YtdoaoaicdimbeaaGreatDoor
open Go.Ev Go
def iK (b bd:Bs):List Ln→List (Nat×Nat)→Nat→List (Nat×Nat)×Option (Nat×Nat)
 |[],out,_=>(out,none)
 |l::r,out,from_=>
  if(sL (bU b l) bd).1=false then iK b bd r out l.2.1
  else if(sL (bU b l) bd).2 then(out,some (from_,l.2.2))else iK b bd r (out++[(from_,l.2.2)]) l.2.2
def eM (b:Bs) (fr to:Nat) (bd:Bs):List (Nat×Nat)×(Nat×Nat):=((iK b bd (aU fr to b) [] fr).1,(iK b bd (aU fr to b) [] fr).2.getD (to,to))
def tM (b:Bs) (n:Int):List Ob:=[.cells [.lst 5 false (ofBytes b), .int .i64 n]]
theorem Fz (b bd:Bs) (hb:b.length≤1000000) (hbd:bd.length≤1000000) (nn:Int) (l:List Ln) (hl:l.length≤1000000) (c d e f:Int) (fr to:Nat):∀(n i:Nat) (out:List (Nat×Nat)) (from_:Nat),l.length - i=n→i≤l.length→out.length≤i→
  Evt (fun k j=>L59 (aA cfg k) j bd (out.map cutV) (from_:Nat) (l.map lnV) (l.length:Nat) (i:Nat) (ofBytes b) nn c d e f (to:Nat) (to:Nat))
   (.tup [.lst 32 false ((iK b bd (l.drop i) out from_).1.map cutV),cutV ((iK b bd (l.drop i) out from_).2.getD (to,to)), .bool (decide (0<(iK b bd (l.drop i) out from_).1.length))],tM b nn)
 |0,i,out,from_,h,hi,ho=>by
  refine LN bd (out.map cutV) (from_:Nat) (l.map lnV) (l.length:Nat) (i:Nat) (ofBytes b) nn c d e f (to:Nat) (to:Nat) ?_
  have h1:¬((i:Int)<(l.length:Int)):=by omega
  have h2:decide ((((out.map cutV).length:Nat):Int)>(0:Int))=decide (0<out.length):=by simp
  rw[List.drop_eq_nil_of_le (by omega)]
  simp only[Ek,h1,decide_false,Bool.false_eq_true,if_false,iK,h2]
  exact aD _
 |n+1,i,out,from_,h,hi,ho=>by
  have hlt:i<l.length:=by omega
  refine LN bd (out.map cutV) (from_:Nat) (l.map lnV) (l.length:Nat) (i:Nat) (ofBytes b) nn c d e f (to:Nat) (to:Nat) ?_
  have h1:((i:Int)<(l.length:Int)):=by omega
  have h2:(0:Int)≤(i:Int):=by omega
  have hw:IntKind.wrap .i64 ((i:Int)+1)=((i+1:Nat):Int):=by rw[wrap64 (by omega) (by omega)];omega
  have hd:l.drop i=l[i]::l.drop (i+1):=List.drop_eq_getElem_cons hlt
  have htl:=Ac b l[i]
  have h57:Ret 64 [.lst 5 false (ofBytes b), .agg [.int .i64 (l[i].1:Nat), .int .i64 (l[i].2.1:Nat), .int .i64 (l[i].2.2:Nat)]] [] (.str (bU b l[i]),[]):=I2 b l[i]
  rw[hd,iK]
  simp only[Ek,h1,decide_true,if_true,aJ h2,List.length_map,cK,Int.toNat_natCast,qR hlt,lnV,V.cells,List.headD_cons,List.tail_cons,V.getI,hw]
  refine aB h57 ?_
  simp only[V.getS]
  refine aB (M9 (bU b l[i]) bd (by omega) hbd) ?_
  simp only[V.getT,List.headD_cons,List.tail_cons,V.getB]
  cases hd1:(sL (bU b l[i]) bd).1 with
  |false=>
   simp only[Bool.not_false,if_true]
   exact Fz b bd hb hbd nn l hl c d e f fr to n (i+1) out l[i].2.1 (by omega) (by omega) (by omega)
  |true=>
   simp only[Bool.not_true,Bool.false_eq_true,if_false,Bool.true_eq_false]
   cases hd2:(sL (bU b l[i]) bd).2 with
   |true=>
    have h3:decide (((out.length:Nat):Int)>(0:Int))=decide (0<out.length):=by simp
    simp only[if_true,h3]
    exact aD _
   |false=>
    have hap:aW (out.map cutV) [V.agg [.int .i64 (from_:Nat), .int .i64 (l[i].2.2:Nat)]] 17=true:=dQ (by simp;omega)
    simp only[Bool.false_eq_true,if_false,bM hap]
    have:=Fz b bd hb hbd nn l hl c d e f fr to n (i+1) (out++[(from_,l[i].2.2)]) l[i].2.2 (by omega) (by omega) (by simp;omega)
    simp only[List.map_append,List.map_cons,List.map_nil,cutV]at this
    exact this
theorem O6 (b bd:Bs) (hb:b.length≤1000000) (hbd:bd.length≤1000000) (nn:Int) (fr to:Nat):
  Ret 59 [.ref 0 0, .agg [.int .i64 (fr:Nat), .int .i64 (to:Nat)], .str bd] (tM b nn)
   (.tup [.lst 32 false ((eM b fr to bd).1.map cutV),cutV (eM b fr to bd).2, .bool (decide (0<(eM b fr to bd).1.length))],tM b nn):=by
 refine M59 (ofBytes b) nn (fr:Nat) (to:Nat) bd ?_
 simp only[T59]
 refine aB (I1 b hb (fr:Nat) (to:Nat)) ?_
 have h1:=cR fr to b
 simp only[V.getL,List.length_map]
 exact Fz b bd hb hbd nn (aU fr to b) (by omega) (fr:Nat) (to:Nat) 0 0 fr to (aU fr to b).length 0 [] fr (by omega) (by omega) (by simp)
def ctB:Bs:=[99,111,110,116,101,110,116,45,116,121,112,101]
def KF:Bs:=[99,111,110,116,101,110,116,45,116,114,97,110,115,102,101,114,45,101,110,99,111,100,105,110,103]
def mW (b:Bs) (l:List Fd) (digest:Bool):Bs×Bs×Ps:=
 match eY (aT b l ctB) true with
 |some p=>p
 |none=>if digest then([109,101,115,115,97,103,101],[114,102,99,56,50,50],[])else([116,101,120,116],[112,108,97,105,110],[])
theorem O7 (b:Bs) (hb:b.length≤1000000) (l:List Fd) (hl:l.length≤1000000) (hv:∀f∈l,f.1.length≤1000000) (digest:Bool) (nn:Int):
  Ret 57 [.ref 0 0, .lst 91 false (l.map fdV), .bool digest] (tM b nn)
   (.agg [.str (mW b l digest).1, .str (mW b l digest).2.1, .lst 176 false ((mW b l digest).2.2.map pV)],tM b nn):=by
 refine M57 (ofBytes b) nn (l.map fdV) digest ?_
 simp only[T57]
 refine aB (lQ b hb l hl hv ctB (by simp[ctB])) ?_
 have hle:=bQ b l ctB
 simp only[V.getS]
 refine aB (LI (aT b l ctB) (by omega) true) ?_
 unfold mW
 cases eY (aT b l ctB) true with
 |some p=>
  obtain⟨t,u,ps⟩:=p
  simp only[mA,V.getT,List.tail_cons,List.headD_cons,V.getB,if_true,V.cells,V.getS,V.getL]
  exact aD _
 |none=>
  simp only[mA,V.getT,List.tail_cons,List.headD_cons,V.getB,Bool.false_eq_true,if_false]
  cases digest with
  |true=>simp only[if_true];exact aD _
  |false=>simp only[Bool.false_eq_true,if_false];exact aD _
def BU (b:Bs) (l:List Fd):Bool:=
 match eQ l KF with
 |none=>true
 |some f=>low (lB b f)==[55,98,105,116]||(low (lB b f)==[56,98,105,116]||low (lB b f)==[98,105,110,97,114,121])
theorem O8 (b:Bs) (hb:b.length≤1000000) (l:List Fd) (hl:l.length≤1000000) (hv:∀f∈l,f.1.length≤1000000) (nn:Int):
  Ret 61 [.ref 0 0, .lst 91 false (l.map fdV)] (tM b nn) (.bool (BU b l),tM b nn):=by
 refine M61 (ofBytes b) nn (l.map fdV) ?_
 simp only[T61]
 refine aB (Ag l hl hv KF (by simp[KF])) ?_
 unfold BU
 cases eQ l KF with
 |none=>
  simp only[pR,V.getT,List.tail_cons,List.headD_cons,V.getB,Bool.not_false,if_true]
  exact aD _
 |some f=>
  have h66:Ret 70 [.lst 5 false (ofBytes b), .agg [.str f.1, .int .i64 f.2.1, .int .i64 f.2.2.1, .int .i64 f.2.2.2]] [] (.str (lB b f),[]):=LM b hb f
  have hle:=Ej b f
  simp only[pR,V.getT,List.tail_cons,List.headD_cons,V.getB,Bool.not_true,Bool.false_eq_true,if_false,fdV,V.cells,V.getS,V.getI]
  refine aB h66 ?_
  simp only[V.getS]
  refine aB (zQ (lB b f) (by omega)) ?_
  simp only[V.getS,sEq]
  unfold low
  by_cases h1:((lB b f).map dL==[55,98,105,116])=true
  ·simp only[h1,if_true,Bool.true_or];exact aD _
  ·have h1' :((lB b f).map dL==[55,98,105,116])=false:=Bool.eq_false_iff.2 h1
   simp only[h1',Bool.false_eq_true,if_false,Bool.false_or]
   by_cases h2:((lB b f).map dL==[56,98,105,116])=true
   ·simp only[h2,if_true,Bool.true_or];exact aD _
   ·have h2' :((lB b f).map dL==[56,98,105,116])=false:=Bool.eq_false_iff.2 h2
    simp only[h2',Bool.false_eq_true,if_false,Bool.false_or]
    by_cases h3:((lB b f).map dL==[98,105,110,97,114,121])=true
    ·simp only[h3,if_true];exact aD _
    ·have h3' :((lB b f).map dL==[98,105,110,97,114,121])=false:=Bool.eq_false_iff.2 h3
     simp only[h3',Bool.false_eq_true,if_false];exact aD _
end Go.Proofs.YtdoaoaicdimbeaaGreatDoor
end
section
namespace Go.Proofs.YtdoaoaicdimbeaaGreatDoor
open Go.Ev Go
def dX (fr at_ to:Nat):Pt:= .mk 0 (fr,at_) (at_,to) [] [] (0,0)
def bdB:Bs:=[98,111,117,110,100,97,114,121]
def mpB:Bs:=[109,117,108,116,105,112,97,114,116]
def KG:Bs:=[109,101,115,115,97,103,101]
def KH:Bs:=[114,102,99,56,50,50]
def dgB:Bs:=[100,105,103,101,115,116]
def rN (fin:Nat):List (Nat×Nat)→Nat
 |[]=>fin
 |d::_=>d.1
def fC (ent:Nat→Nat→Nat→Pt×Nat) (fin:Nat):List (Nat×Nat)→Nat→List Pt×Nat
 |[],n=>([],n)
 |c::r,n=>
  ((ent c.2 (max (rN fin r) c.2) n).1::(fC ent fin r (ent c.2 (max (rN fin r) c.2) n).2).1,(fC ent fin r (ent c.2 (max (rN fin r) c.2) n).2).2)
def dZ (b:Bs):Nat→Nat→Nat→Bool→Nat→Pt×Nat
 |0,fr,to,_,n=>(dX fr (dW b fr to).2.toNat to,n)
 |d+1,fr,to,dg,n=>
  let at_:=(dW b fr to).2.toNat
  let v:=mW b (dW b fr to).1 dg
  let bd:=(getF v.2.2 bdB).getD []
  if v.1=mpB∧bd≠[]∧bd.length≤70 then
   let c:=eM b at_ to bd
   if 0<c.1.length∧n+c.1.length≤1000 then
    let q:=fC (fun fr to n=>dZ b d fr to (v.2.1==dgB) n) c.2.1 c.1 (n+c.1.length)
    (.mk 1 (fr,at_) (at_,to) q.1 c.1 c.2,q.2)
   else(dX fr at_ to,n)
  else if v.1=KG∧v.2.1=KH∧BU b (dW b fr to).1=true∧n<1000 then
   let k:=dZ b d at_ to false (n+1)
   (.mk 2 (fr,at_) (at_,to) [k.1] [] (0,0),k.2)
  else(dX fr at_ to,n)
def KI (m:Nat) (f:Fd):Prop:=f.1.length≤m
theorem El {s:Bs} {p:Bs×Nat} (h:fM s=some p):p.1.length≤s.length:=by
 unfold fM at h
 split at h
 ·cases h
 ·split at h
  ·cases h;simp only[List.length_take];omega
  ·cases h
theorem I7 (b:Bs) (st:List Fd×Bool) (x:Ln) (h:∀f∈st.1,KI b.length f):(∀f∈(jQ b st x).1,KI b.length f)∧(jQ b st x).1.length≤st.1.length+1:=by
 unfold jQ
 split
 ·split
  ·refine⟨fun f hf=>?_,by simp only[nV];omega⟩
   unfold wV at hf
   split at hf
   ·rename_i g hg
    rcases List.mem_or_eq_of_mem_set hf with hf|rfl
    ·exact h f hf
    ·exact h g (List.mem_of_getElem? hg)
   ·exact h f hf
  ·exact⟨h,by omega⟩
 ·split
  ·exact⟨h,by simp⟩
  ·rename_i p hp
   refine⟨fun f hf=>?_,by simp⟩
   rw[List.mem_append]at hf
   rcases hf with hf|hf
   ·exact h f hf
   ·simp at hf;subst hf
    exact Nat.le_trans (El hp) (Ac b x)
theorem Ai (b:Bs):∀(l:List Ln) (st:List Fd×Bool),(∀f∈st.1,KI b.length f)→(∀f∈(l.foldl (jQ b) st).1,KI b.length f)∧(l.foldl (jQ b) st).1.length≤st.1.length+l.length
 |[],st,h=>⟨h,by simp⟩
 |x::r,st,h=>by
  obtain⟨h1,h2⟩:=I7 b st x h
  obtain⟨h3,h4⟩:=Ai b r (jQ b st x) h1
  exact⟨h3,by simp only[List.foldl_cons,List.length_cons]at h4 ⊢;omega⟩
theorem pT (b:Bs) (fr to:Int):(∀f∈(dW b fr to).1,f.1.length≤b.length)∧(dW b fr to).1.length≤b.length:=by
 have hl:=cR fr to b
 unfold dW
 split
 ·simp
 ·split
  ·rename_i k hk
   obtain⟨h1,h2⟩:=Ai b ((aU fr to b).take k) ([],false) (by simp)
   exact⟨h1,by simp at h2 ⊢;omega⟩
  ·obtain⟨h1,h2⟩:=Ai b (aU fr to b) ([],false) (by simp)
   exact⟨h1,by simp at h2 ⊢;omega⟩
theorem Em (b:Bs) (fr to:Nat):(((dW b fr to).2.toNat:Nat):Int)=(dW b fr to).2:=by
 unfold dW
 split
 ·simp
 ·split<;>simp
end Go.Proofs.YtdoaoaicdimbeaaGreatDoor
end
section
namespace Go.Proofs.YtdoaoaicdimbeaaGreatDoor
open Go.Ev Go
theorem Aj (l:Ps) (m:Nat):∀(q:Ps) (seen:List Bs),(∀p∈q,p.1.length≤m)→(mU l seen q).length≤q.length∧∀p∈mU l seen q,p.1.length≤m
 |[],seen,_=>by simp[mU]
 |p::r,seen,h=>by
  have hp:=h p (by simp)
  have hb:=D9 p.1
  have ih:=fun seen=>Aj l m r seen fun p hp=>h p (by simp[hp])
  unfold mU
  split
  ·obtain⟨h1,h2⟩:=ih seen
   exact⟨by simp;omega,h2⟩
  ·split
   ·obtain⟨h1,h2⟩:=ih (dM p.1::seen)
    refine⟨by simp;omega,fun x hx=>?_⟩
    rcases List.mem_cons.1 hx with rfl|hx
    ·simp only;omega
    ·exact h2 x hx
   ·obtain⟨h1,h2⟩:=ih (dM p.1::seen)
    exact⟨by simp;omega,h2⟩
theorem iL {s:Bs} {two:Bool} {t u:Bs} {ps:Ps} (h:eY s two=some (t,u,ps)):ps.length≤s.length∧∀p∈ps,p.1.length≤s.length:=by
 have key:∀q:Bs,q.length≤s.length→(mU (cL q) [] (cL q)).length≤s.length∧∀p∈mU (cL q) [] (cL q),p.1.length≤s.length:=by
  intro q hq
  obtain⟨g1,g2⟩:=nU q.length q (Nat.le_refl _)
  obtain⟨h1,h2⟩:=Aj (cL q) s.length (cL q) [] fun p hp=>by have:=g2 p hp;omega
  exact⟨by omega,h2⟩
 have h0:=mT s
 have h1:=jF (cU s)
 unfold eY at h
 split at h
 ·cases h
 ·split at h
  ·split at h
   ·cases h
   ·rename_i s2 hs2
    split at h
    ·cases h
    ·cases h
     have h2:=iI hs2
     have h3:=jF s2
     exact key _ (by omega)
  ·cases h
   exact key _ (by omega)
theorem Eo (b:Bs) (l:List Fd) (dg:Bool):(mW b l dg).2.2.length≤b.length∧∀p∈(mW b l dg).2.2,p.1.length≤b.length:=by
 have hv:=bQ b l ctB
 unfold mW
 split
 ·rename_i p hp
  obtain⟨t,u,ps⟩:=p
  obtain⟨h1,h2⟩:=iL hp
  exact⟨by simp only;omega,fun p hp=>by have:=h2 p hp;omega⟩
 ·split<;>simp
end Go.Proofs.YtdoaoaicdimbeaaGreatDoor
end
section
namespace Go.Proofs.YtdoaoaicdimbeaaGreatDoor
open Go.Ev Go
theorem Gb {ent:Nat→Nat→Nat→Pt×Nat} (h:∀fr to n,n≤1000→(ent fr to n).2≤1000) (fin:Nat):∀(cs:List (Nat×Nat)) (n:Nat),n≤1000→(fC ent fin cs n).2≤1000
 |[],n,hn=>hn
 |c::r,n,hn=>by
  unfold fC
  exact Gb h fin r _ (h _ _ _ hn)
theorem CO (b:Bs):∀(d fr to:Nat) (dg:Bool) (n:Nat),n≤1000→(dZ b d fr to dg n).2≤1000
 |0,fr,to,dg,n,hn=>by simpa[dZ]using hn
 |d+1,fr,to,dg,n,hn=>by
  unfold dZ
  simp only
  split
  ·split
   ·rename_i h
    exact Gb (fun fr to n hn=>CO b d fr to _ n hn) _ _ _ h.2
   ·exact hn
  ·split
   ·rename_i h
    exact CO b d _ _ _ _ (by have:=h.2.2.2;omega)
   ·exact hn
def vV (b:Bs) (d:Nat):Prop:=∀(fr to n:Nat) (dg:Bool),n≤1000→
 Ret 31 [.ref 0 0, .agg [.int .i64 (fr:Nat), .int .i64 (to:Nat)], .int .i64 ((32 - d:Nat):Int), .bool dg] (tM b (n:Nat)) (partV (dZ b d fr to dg n).1,tM b ((dZ b d fr to dg n).2:Nat))
def I8 (k h1 h2 b1 b2:Int) (kids:List V) (cs:List (Nat×Nat)) (e1 e2:Int):Ob:=
 .cells [.int .i64 k, .int .i64 h1, .int .i64 h2, .int .i64 b1, .int .i64 b2, .lst 36 true kids, .lst 32 false (cs.map cutV), .int .i64 e1, .int .i64 e2]
theorem Ak {l:List (Nat×Nat)} {i:Nat} (h:i<l.length):(l.map cutV).getD i .bot=cutV l[i]:=by simp[List.getD,h]
theorem jR (p:Pt):V.agg [V.int .i64 (V.getI (List.headD (V.cells (partV p)) V.bot)),V.int .i64 (V.getI (List.headD (List.tail (V.cells (partV p))) V.bot)),V.int .i64 (V.getI (List.headD (List.tail (List.tail (V.cells (partV p)))) V.bot)),
  V.int .i64 (V.getI (List.headD (List.tail (List.tail (List.tail (V.cells (partV p))))) V.bot)),V.int .i64 (V.getI (List.headD (List.tail (List.tail (List.tail (List.tail (V.cells (partV p)))))) V.bot)),
  V.lst 36 false (V.getL (List.headD (List.tail (List.tail (List.tail (List.tail (List.tail (V.cells (partV p))))))) V.bot)),V.lst 32 false (V.getL (List.headD (List.tail (List.tail (List.tail (List.tail (List.tail (List.tail (V.cells (partV p)))))))) V.bot)),
  V.int .i64 (V.getI (List.headD (List.tail (List.tail (List.tail (List.tail (List.tail (List.tail (List.tail (V.cells (partV p))))))))) V.bot)),V.int .i64 (V.getI (List.headD (List.tail (List.tail (List.tail (List.tail (List.tail (List.tail (List.tail (List.tail (V.cells (partV p)))))))))) V.bot))]=partV p:=by
 cases p;rw[partV];rfl
theorem Gc (x y:Nat):(if((y:Nat):Int)>((x:Nat):Int)then((y:Nat):Int)else((x:Nat):Int))=((max x y:Nat):Int):=by
 split<;>omega
theorem I9 (b:Bs) (d:Nat) (he:vV b d) (dg:Bool) (cs:List (Nat×Nat)) (hcs:cs.length≤1000) (h1 h2 b1 b2:Int) (e1 e2:Nat):∀(m i:Nat) (kids:List Pt) (n:Nat),cs.length - i=m→i≤cs.length→kids.length=i→n≤1000→
  Evt (fun k j=>L60 (aA cfg k) j ((32 - d:Nat):Int) dg (cs.map cutV) (cs.length:Nat) (i:Nat) (ofBytes b) (n:Nat) 1 h1 h2 b1 b2 (kids.map partV) (cs.map cutV) (e1:Nat) (e2:Nat))
   (.tup [],[.cells [.lst 5 false (ofBytes b), .int .i64 ((fC (fun fr to n=>dZ b d fr to dg n) e1 (cs.drop i) n).2:Nat)],I8 1 h1 h2 b1 b2 ((kids++(fC (fun fr to n=>dZ b d fr to dg n) e1 (cs.drop i) n).1).map partV) cs (e1:Nat) (e2:Nat)])
 |0,i,kids,n,h,hi,hk,hn=>by
  refine LO ((32 - d:Nat):Int) dg (cs.map cutV) (cs.length:Nat) (i:Nat) (ofBytes b) (n:Nat) 1 h1 h2 b1 b2 (kids.map partV) (cs.map cutV) (e1:Nat) (e2:Nat) ?_
  have g1:¬((i:Int)<(cs.length:Int)):=by omega
  rw[List.drop_eq_nil_of_le (by omega)]
  simp only[BR,g1,decide_false,Bool.false_eq_true,if_false,fC,List.append_nil,I8]
  exact aD _
 |m+1,i,kids,n,h,hi,hk,hn=>by
  have hlt:i<cs.length:=by omega
  refine LO ((32 - d:Nat):Int) dg (cs.map cutV) (cs.length:Nat) (i:Nat) (ofBytes b) (n:Nat) 1 h1 h2 b1 b2 (kids.map partV) (cs.map cutV) (e1:Nat) (e2:Nat) ?_
  have g1:((i:Int)<(cs.length:Int)):=by omega
  have g2:(0:Int)≤(i:Int):=by omega
  have hw:IntKind.wrap .i64 ((i:Int)+1)=((i+1:Nat):Int):=by rw[wrap64 (by omega) (by omega)];omega
  have hd:cs.drop i=cs[i]::cs.drop (i+1):=List.drop_eq_getElem_cons hlt
  have hap:∀v:V,aW (kids.map partV) [v] 105=true:=fun v=>dQ (by simp;omega)
  have hkl:((((kids.map partV).length:Nat):Int)==(((kids.map partV).length:Nat):Int))=true:=by simp
  rw[hd]
  have fin:∀x:Nat,rN e1 (cs.drop (i+1))=x→
    Evt (fun k j=>Option.bind (aA cfg k 31 [.ref 0 0, .agg [.int .i64 (cs[i].2:Nat), .int .i64 ((max x cs[i].2:Nat):Int)], .int .i64 ((32 - d:Nat):Int), .bool dg] (tM b (n:Nat))) fun z0=>
     L60 (aA cfg k) j ((32 - d:Nat):Int) dg (cs.map cutV) (cs.length:Nat) ((i+1:Nat):Int) ((V.getL (List.headD (Ob.getC (List.headD z0.2 Ob.dead)) V.bot))) ((V.getI (List.headD (List.tail (Ob.getC (List.headD z0.2 Ob.dead))) V.bot))) 1 h1 h2 b1 b2 (kids.map partV++[V.agg [V.int .i64 (V.getI (List.headD (V.cells z0.1) V.bot)),V.int .i64 (V.getI (List.headD (List.tail (V.cells z0.1)) V.bot)),V.int .i64 (V.getI (List.headD (List.tail (List.tail (V.cells z0.1))) V.bot)),V.int .i64 (V.getI (List.headD (List.tail (List.tail (List.tail (V.cells z0.1)))) V.bot)),V.int .i64 (V.getI (List.headD (List.tail (List.tail (List.tail (List.tail (V.cells z0.1))))) V.bot)),V.lst 36 false (V.getL (List.headD (List.tail (List.tail (List.tail (List.tail (List.tail (V.cells z0.1)))))) V.bot)),V.lst 32 false (V.getL (List.headD (List.tail (List.tail (List.tail (List.tail (List.tail (List.tail (V.cells z0.1))))))) V.bot)),V.int .i64 (V.getI (List.headD (List.tail (List.tail (List.tail (List.tail (List.tail (List.tail (List.tail (V.cells z0.1)))))))) V.bot)),V.int .i64 (V.getI (List.headD (List.tail (List.tail (List.tail (List.tail (List.tail (List.tail (List.tail (List.tail (V.cells z0.1))))))))) V.bot))]]) (cs.map cutV) (e1:Nat) (e2:Nat))
    (.tup [],[.cells [.lst 5 false (ofBytes b), .int .i64 ((fC (fun fr to n=>dZ b d fr to dg n) e1 (cs[i]::cs.drop (i+1)) n).2:Nat)],I8 1 h1 h2 b1 b2 ((kids++(fC (fun fr to n=>dZ b d fr to dg n) e1 (cs[i]::cs.drop (i+1)) n).1).map partV) cs (e1:Nat) (e2:Nat)]):=by
   intro x hx
   refine aB (he cs[i].2 (max x cs[i].2) n dg hn) ?_
   have:=I9 b d he dg cs hcs h1 h2 b1 b2 e1 e2 m (i+1) (kids++[(dZ b d cs[i].2 (max x cs[i].2) dg n).1]) (dZ b d cs[i].2 (max x cs[i].2) dg n).2 (by omega) (by omega) (by simp[hk]) (CO b d _ _ _ _ hn)
   unfold fC
   rw[hx]
   simp only[jR]
   simp only[List.map_append,List.map_cons,List.map_nil,List.append_assoc,List.singleton_append]at this ⊢
   exact this
  by_cases hn1:i+1<cs.length
  ·have q1:(((i+1:Nat):Int)<(cs.length:Int)):=by omega
   have q2:(0:Int)≤((i+1:Nat):Int):=by omega
   simp only[BR,g1,decide_true,if_true,aJ g2,List.length_map,cK,hw,q1,aJ q2,Int.toNat_natCast,Ak hlt,Ak hn1,cutV,V.cells,List.headD_cons,List.tail_cons,V.getI,Gc,beq_self_eq_true,bM (hap _)]
   exact fin cs[i+1].1 (by rw[List.drop_eq_getElem_cons hn1];rfl)
  ·have q1:¬(((i+1:Nat):Int)<(cs.length:Int)):=by omega
   simp only[BR,g1,decide_true,decide_false,Bool.false_eq_true,if_false,if_true,aJ g2,List.length_map,cK,hw,q1,Int.toNat_natCast,Ak hlt,cutV,V.cells,List.headD_cons,List.tail_cons,V.getI,Gc,beq_self_eq_true,bM (hap _)]
   exact fin e1 (by rw[List.drop_eq_nil_of_le (by omega)];rfl)
end Go.Proofs.YtdoaoaicdimbeaaGreatDoor
end
section
namespace Go.Proofs.YtdoaoaicdimbeaaGreatDoor
open Go.Ev Go
theorem O9 (b:Bs) (d:Nat) (he:vV b d) (dg:Bool) (cs:List (Nat×Nat)) (hcs:cs.length≤1000) (h1 h2 b1 b2:Int) (e1 e2:Nat) (n:Nat) (hn:n≤1000):
  Ret 60 [.ref 0 0, .ref 1 0, .int .i64 ((32 - d:Nat):Int), .bool dg] [.cells [.lst 5 false (ofBytes b), .int .i64 (n:Nat)],I8 1 h1 h2 b1 b2 [] cs (e1:Nat) (e2:Nat)]
   (.tup [],[.cells [.lst 5 false (ofBytes b), .int .i64 ((fC (fun fr to n=>dZ b d fr to dg n) e1 cs n).2:Nat)],I8 1 h1 h2 b1 b2 ((fC (fun fr to n=>dZ b d fr to dg n) e1 cs n).1.map partV) cs (e1:Nat) (e2:Nat)]):=by
 refine M60 (ofBytes b) (n:Nat) 1 h1 h2 b1 b2 [] (cs.map cutV) (e1:Nat) (e2:Nat) ((32 - d:Nat):Int) dg ?_
 simp only[T60,List.length_map]
 have:=I9 b d he dg cs hcs h1 h2 b1 b2 e1 e2 cs.length 0 [] n (by omega) (by omega) rfl hn
 simpa using this
theorem Pa (b:Bs) (hb:b.length≤100000):vV b 0:=by
 intro fr to n dg hn
 refine M31 (ofBytes b) (n:Nat) (fr:Nat) (to:Nat) ((32 - 0:Nat):Int) dg ?_
 simp only[T31]
 refine aB (BN b (by omega) (fr:Nat) (to:Nat)) ?_
 have h1:((((32 - 0:Nat):Int))==(32:Int))=true:=rfl
 simp only[h1,if_true,V.getT,List.headD_cons,List.tail_cons,V.getI]
 rw[←Em]
 exact aD _
theorem nX (b bd:Bs):∀(l:List Ln) (out:List (Nat×Nat)) (fr:Nat),(iK b bd l out fr).1.length≤out.length+l.length
 |[],out,fr=>by simp[iK]
 |x::r,out,fr=>by
  unfold iK
  split
  ·have:=nX b bd r out x.2.1;simp only[List.length_cons];omega
  ·split
   ·simp
   ·have:=nX b bd r (out++[(fr,x.2.2)]) x.2.2;simp only[List.length_append,List.length_cons,List.length_nil]at this ⊢;omega
theorem CP (b:Bs) (fr to:Nat) (bd:Bs):(eM b fr to bd).1.length≤b.length:=by
 have h1:=cR fr to b
 have h2:=nX b bd (aU fr to b) [] fr
 unfold eM;simp at h2;simp only;omega
theorem dC (k:IntKind) (z:Int):(V.int k z).getI=z:=rfl
theorem bF (t:TypeId) (o:Bool) (l:List V):(V.lst t o l).getL=l:=rfl
theorem bA (x:Bool):(V.bool x).getB=x:=rfl
theorem aS (x:Bs):(V.str x).getS=x:=rfl
theorem bV (l:List V):(V.tup l).getT=l:=rfl
theorem Hj (l:List V):(V.agg l).cells=l:=rfl
theorem Na (fr at_ to:Nat):partV (dX fr at_ to)= .agg [.int .i64 0, .int .i64 (fr:Nat), .int .i64 (at_:Nat), .int .i64 (at_:Nat), .int .i64 (to:Nat), .lst 36 false [], .lst 32 false [], .int .i64 0, .int .i64 0]:=by
 unfold dX;rw[partV];rfl
theorem eR {α β:Type} {o:Option β} {v:β} {F:Nat→Nat→β→Option α} {r:α} (h:o=some v) (h2:Evt (fun k n=>F k n v) r):Evt (fun k n=>Option.bind o (F k n)) r:=by subst h;exact h2
theorem Pb (b:Bs) (hb:b.length≤100000) (d:Nat) (hd:d+1≤32) (he:vV b d):vV b (d+1):=by
 intro fr to n dg hn
 refine M31 (ofBytes b) (n:Nat) (fr:Nat) (to:Nat) ((32 - (d+1):Nat):Int) dg ?_
 simp only[T31]
 refine aB (BN b (by omega) (fr:Nat) (to:Nat)) ?_
 obtain⟨k1,k2⟩:=pT b (fr:Nat) (to:Nat)
 have h1:((((32 - (d+1):Nat):Int))==(32:Int))=false:=beq_eq_false_iff_ne.2 (by omega)
 have hw:IntKind.wrap .i64 (((32 - (d+1):Nat):Int)+1)=((32 - d:Nat):Int):=by rw[wrap64 (by omega) (by omega)];omega
 simp only[h1,Bool.false_eq_true,if_false,bV,List.headD_cons,List.tail_cons,dC,bF,hw]
 rw[←Em]
 generalize hat:(dW b (fr:Nat) (to:Nat)).2.toNat=at_
 generalize hfl:(dW b (fr:Nat) (to:Nat)).1=l at k1 k2
 refine aB (O7 b (by omega) l (by omega) (fun f hf=>by have:=k1 f hf;omega) dg (n:Nat)) ?_
 obtain⟨m1,m2⟩:=Eo b l dg
 generalize hv:mW b l dg=v at m1 m2
 obtain⟨t,u,ps⟩:=v
 simp only at m1 m2
 simp only[Hj,aS,bF,List.headD_cons,List.tail_cons]
 refine aB (OS t u ps (by omega) (fun p hp=>by have:=m2 p hp;omega) bdB (by simp[bdB])) ?_
 simp only[bV,aS,List.headD_cons]
 have hent:dZ b (d+1) fr to dg n=(if t=mpB∧(getF ps bdB).getD []≠[]∧((getF ps bdB).getD []).length≤70 then
   if 0<(eM b at_ to ((getF ps bdB).getD [])).1.length∧n+(eM b at_ to ((getF ps bdB).getD [])).1.length≤1000 then
    (Pt.mk 1 (fr,at_) (at_,to) (fC (fun fr to n=>dZ b d fr to (u==dgB) n) (eM b at_ to ((getF ps bdB).getD [])).2.1 (eM b at_ to ((getF ps bdB).getD [])).1 (n+(eM b at_ to ((getF ps bdB).getD [])).1.length)).1 (eM b at_ to ((getF ps bdB).getD [])).1 (eM b at_ to ((getF ps bdB).getD [])).2,
     (fC (fun fr to n=>dZ b d fr to (u==dgB) n) (eM b at_ to ((getF ps bdB).getD [])).2.1 (eM b at_ to ((getF ps bdB).getD [])).1 (n+(eM b at_ to ((getF ps bdB).getD [])).1.length)).2)
   else(dX fr at_ to,n)
  else if t=KG∧u=KH∧BU b l=true∧n<1000 then(Pt.mk 2 (fr,at_) (at_,to) [(dZ b d at_ to false (n+1)).1] [] (0,0),(dZ b d at_ to false (n+1)).2)
  else(dX fr at_ to,n)):=by
  rw[dZ]
  simp only[hat,hfl,hv]
 rw[hent]
 generalize hbd:(getF ps bdB).getD []=bd
 have hsq:∀x y:Bs,sEq x y=decide (x=y):=fun x y=>by
  by_cases h:x=y
  ·subst h;simp[sEq]
  ·simp[sEq,h]
 have leaf:∀x:Int,x=(n:Int)→Evt (fun _ _=>some (V.agg [.int .i64 0, .int .i64 (fr:Nat), .int .i64 (at_:Nat), .int .i64 (at_:Nat), .int .i64 (to:Nat), .lst 36 false [], .lst 32 false [], .int .i64 0, .int .i64 0],
   [Ob.cells [.lst 5 false (ofBytes b), .int .i64 x]])) (partV (dX fr at_ to),tM b (n:Nat)):=by
  intro x hx
  subst hx
  rw[Na]
  exact aD _
 have hy3:(if sEq t [109,117,108,116,105,112,97,114,116]=true then(if(!(sEq bd []))=true then some (decide (((bd.length:Nat):Int)≤(70:Int)))else some false)else some false)=some (decide (t=mpB∧bd≠[]∧bd.length≤70)):=by
  have e1:sEq t [109,117,108,116,105,112,97,114,116]=decide (t=mpB):=hsq t mpB
  rw[e1,hsq bd []]
  by_cases c1:t=mpB
  ·by_cases c2:bd=[]
   ·simp[c1,c2]
   ·by_cases c3:bd.length≤70
    ·have:((bd.length:Nat):Int)≤70:=by omega
     simp[c1,c2,c3,this]
    ·have:¬(((bd.length:Nat):Int)≤70):=by omega
     simp[c1,c2,c3,this]
  ·simp[c1]
 refine eR hy3 ?_
 by_cases hc:t=mpB∧bd≠[]∧bd.length≤70
 ·rw[if_pos hc]
  simp only[decide_eq_true hc,if_true]
  refine aB (O6 b bd (by omega) (by have:=hc.2.2;omega) (n:Nat) at_ to) ?_
  have hcl:=CP b at_ to bd
  generalize hcu:eM b at_ to bd=cu at hcl
  obtain⟨cs,e1,e2⟩:=cu
  simp only at hcl
  have hwn:IntKind.wrap .i64 ((n:Int)+((cs.length:Nat):Int))=((n+cs.length:Nat):Int):=by rw[wrap64 (by omega) (by omega)];omega
  simp only[V.getT,List.headD_cons,List.tail_cons,V.getB,V.getL,tM,Ob.getC,V.getI,cutV,V.cells,List.length_map,hwn]
  have hy5:(if decide (0<cs.length)=true then some (decide (((n+cs.length:Nat):Int)≤(1000:Int)))else some false)=some (decide (0<cs.length∧n+cs.length≤1000)):=by
   by_cases c1:0<cs.length
   ·by_cases c2:n+cs.length≤1000
    ·have:((n+cs.length:Nat):Int)≤1000:=by omega
     simp only[c1,c2,this,decide_true,if_true,and_self]
    ·have:¬(((n+cs.length:Nat):Int)≤1000):=by omega
     simp only[c1,c2,this,decide_true,decide_false,if_true,and_false]
   ·simp only[c1,decide_false,Bool.false_eq_true,if_false,false_and]
  refine eR hy5 ?_
  by_cases hc2:0<cs.length∧n+cs.length≤1000
  ·rw[if_pos hc2]
   simp only[decide_eq_true hc2,if_true]
   refine aB (O9 b d he (u==dgB) cs (by omega) (fr:Nat) (at_:Nat) (at_:Nat) (to:Nat) e1 e2 (n+cs.length) hc2.2) ?_
   rw[partV,vC]
   exact aD _
  ·rw[if_neg hc2]
   simp only[decide_eq_false hc2,Bool.false_eq_true,if_false]
   exact leaf _ rfl
 ·rw[if_neg hc]
  simp only[decide_eq_false hc,Bool.false_eq_true,if_false]
  by_cases t1:t=KG
  ·by_cases t2:u=KH
   ·have s1:sEq t [109,101,115,115,97,103,101]=true:=by rw[hsq];exact decide_eq_true t1
    have s2:sEq u [114,102,99,56,50,50]=true:=by rw[hsq];exact decide_eq_true t2
    simp only[s1,s2,if_true]
    refine aB (O8 b (by omega) l (by omega) (fun f hf=>by have:=k1 f hf;omega) (n:Nat)) ?_
    simp only[bA,tM,Ob.getC,List.headD_cons,List.tail_cons,dC,bF]
    by_cases t3:BU b l=true
    ·by_cases t4:n<1000
     ·have t4' :((n:Nat):Int)<1000:=by omega
      have hwn:IntKind.wrap .i64 ((n:Int)+1)=((n+1:Nat):Int):=by rw[wrap64 (by omega) (by omega)];omega
      rw[if_pos ⟨t1,t2,t3,t4⟩]
      simp only[t3,if_true,t4',decide_true,hwn]
      refine aB (he at_ to (n+1) false (by omega)) ?_
      simp only[jR]
      rw[partV,vB,vB]
      exact aD _
     ·have t4' :¬(((n:Nat):Int)<1000):=by omega
      rw[if_neg (fun h=>t4 h.2.2.2)]
      simp only[t3,if_true,t4',decide_false,Bool.false_eq_true,if_false]
      exact leaf _ rfl
    ·rw[if_neg (fun h=>t3 h.2.2.1)]
     simp only[t3,Bool.false_eq_true,if_false]
     exact leaf _ rfl
   ·rw[if_neg (fun h=>t2 h.2.1)]
    have s1:sEq t [109,101,115,115,97,103,101]=true:=by rw[hsq];exact decide_eq_true t1
    have s2:sEq u [114,102,99,56,50,50]=false:=by rw[hsq];exact decide_eq_false t2
    simp only[s1,s2,if_true,Bool.false_eq_true,if_false]
    exact leaf _ rfl
  ·rw[if_neg (fun h=>t1 h.1)]
   have s1:sEq t [109,101,115,115,97,103,101]=false:=by rw[hsq];exact decide_eq_false t1
   simp only[s1,Bool.false_eq_true,if_false]
   exact leaf _ rfl
theorem Gd (b:Bs) (hb:b.length≤100000):∀d,d≤32→vV b d
 |0,_=>Pa b hb
 |d+1,h=>Pb b hb d h (Gd b hb d (by omega))
end Go.Proofs.YtdoaoaicdimbeaaGreatDoor
end
section
namespace Go.Proofs.YtdoaoaicdimbeaaGreatDoor
open Go.Ev Go
theorem LP (b:Bs) (hb:b.length≤100000):
  Ret 14 [.lst 5 false (ofBytes b)] [] (.tup [partV (dZ b 32 0 b.length false 1).1, .int .i64 0],[]):=by
 refine M14 (ofBytes b) ?_
 have h1:¬(((b.length:Nat):Int)>67108864):=by omega
 simp only[T14,bC,h1,decide_false,Bool.false_eq_true,if_false]
 have he:Ret 31 [.ref 0 0, .agg [.int .i64 (0:Int), .int .i64 (b.length:Nat)], .int .i64 (0:Int), .bool false] [.cells [.lst 5 false (ofBytes b), .int .i64 (1:Int)]] (partV (dZ b 32 0 b.length false 1).1,tM b ((dZ b 32 0 b.length false 1).2:Nat)):=
  Gd b hb 32 (by omega) 0 b.length 1 false (by omega)
 refine aB he ?_
 simp only[jR]
 exact aD _
mutual
def cntF:Pt→Nat
 | .mk _ _ _ kids _ _=>1+lG kids
def lG:List Pt→Nat
 |[]=>0
 |p::r=>cntF p+lG r
end
theorem Ja (p:Pt):1≤cntF p:=by cases p;rw[cntF];omega
theorem Al:∀l:List Pt,l.length≤lG l
 |[]=>by simp[lG]
 |p::r=>by have:=Al r;have:=Ja p;rw[lG,List.length_cons];omega
end Go.Proofs.YtdoaoaicdimbeaaGreatDoor
end
section
namespace Go.Proofs.YtdoaoaicdimbeaaGreatDoor
open Go.Ev Go
open List (headD tail getD length drop take)
open V (getI getL getT getS getB)
set_option maxRecDepth 100000
variable (call : FuncId → Fun) (icall : aO (V × List Ob)) (again : List It → St → Option (V × List Ob))
def T36 (call:FuncId→Fun) (a0:List V) (a1:Int) (a2:Int) (a3:Int) (a4:Int) (a5:Int) (a6:List V) (a7:List V) (a8:Int) (a9:Int):Option (V×List Ob):=
 Option.bind (call 32 [(V.lst 5 false a0),(V.agg [(V.int .i64 a2),(V.int .i64 a3)])] []) fun z0=>
 Option.bind (call 34 [(V.lst 5 false a0),(V.lst 91 false (getL (headD (getT z0.1) V.bot))),(V.str [99,111,110,116,101,110,116,45,116,114,97,110,115,102,101,114,45,101,110,99,111,100,105,110,103])] []) fun z1=>
 Option.bind (call 73 [(V.str (getS z1.1))] []) fun z2=>
 if(!(sEq (getS z2.1) []))=true then
 some ((V.str (getS z2.1)),[])
 else
 some ((V.str [55,98,105,116]),[])
def A36 (a0:List V) (a1:Int) (a2:Int) (a3:Int) (a4:Int) (a5:Int) (a6:List V) (a7:List V) (a8:Int) (a9:Int):List V:=[V.lst 5 false a0,V.agg [V.int IntKind.i64 a1,V.int IntKind.i64 a2,V.int IntKind.i64 a3,V.int IntKind.i64 a4,V.int IntKind.i64 a5,V.lst 36 false a6,V.lst 32 false a7,V.int IntKind.i64 a8,V.int IntKind.i64 a9]]
theorem E36 (a0:List V) (a1:Int) (a2:Int) (a3:Int) (a4:Int) (a5:Int) (a6:List V) (a7:List V) (a8:Int) (a9:Int):GO 36 Tryz.f36 (A36 a0 a1 a2 a3 a4 a5 a6 a7 a8 a9) [] call icall again=T36 call a0 a1 a2 a3 a4 a5 a6 a7 a8 a9:=by kernel_rfl
theorem C36 (k:Nat) (a0:List V) (a1:Int) (a2:Int) (a3:Int) (a4:Int) (a5:Int) (a6:List V) (a7:List V) (a8:Int) (a9:Int):aA cfg (k+1) 36 (A36 a0 a1 a2 a3 a4 a5 a6 a7 a8 a9) []=T36 (aA cfg k) a0 a1 a2 a3 a4 a5 a6 a7 a8 a9:=
 (show aA cfg (k+1) 36 (A36 a0 a1 a2 a3 a4 a5 a6 a7 a8 a9) []=GO 36 Tryz.f36 (A36 a0 a1 a2 a3 a4 a5 a6 a7 a8 a9) [] (aA cfg k) (aE cfg (aA cfg k) 20) (RN 36 Tryz.f36 [] (aA cfg k) (aE cfg (aA cfg k) 20) k)by kernel_rfl).trans (E36 _ _ _ a0 a1 a2 a3 a4 a5 a6 a7 a8 a9)
theorem M36 (a0:List V) (a1:Int) (a2:Int) (a3:Int) (a4:Int) (a5:Int) (a6:List V) (a7:List V) (a8:Int) (a9:Int) {r:V×List Ob} (h:Evt (fun k n=>T36 (aA cfg k) a0 a1 a2 a3 a4 a5 a6 a7 a8 a9) r):Ret 36 [V.lst 5 false a0,V.agg [V.int IntKind.i64 a1,V.int IntKind.i64 a2,V.int IntKind.i64 a3,V.int IntKind.i64 a4,V.int IntKind.i64 a5,V.lst 36 false a6,V.lst 32 false a7,V.int IntKind.i64 a8,V.int IntKind.i64 a9]] [] r:=aR (g:=fun k n=>T36 (aA cfg k) a0 a1 a2 a3 a4 a5 a6 a7 a8 a9) (fun k=>C36 k a0 a1 a2 a3 a4 a5 a6 a7 a8 a9) h
def T43 (call:FuncId→Fun) (a0:List V) (a1:Int) (a2:Int) (a3:Int) (a4:Int) (a5:Int) (a6:List V) (a7:List V) (a8:Int) (a9:Int):Option (V×List Ob):=
 Option.bind (call 83 [(V.lst 5 false a0),(V.agg [(V.int .i64 a1),(V.int .i64 a2),(V.int .i64 a3),(V.int .i64 a4),(V.int .i64 a5),(V.lst 36 false a6),(V.lst 32 false a7),(V.int .i64 a8),(V.int .i64 a9)]),(V.str [99,111,110,116,101,110,116,45,116,121,112,101]),(V.bool true)] []) fun z0=>
 Option.bind (if(sEq (getS (headD (V.cells (headD (getT z0.1) V.bot)) V.bot)) [109,101,115,115,97,103,101])=true then
 some (sEq (getS (headD (tail (V.cells (headD (getT z0.1) V.bot))) V.bot)) [114,102,99,56,50,50])
 else
 some false) fun y1=>
 if(a1==(1:Int))=true then
 Option.bind (if(getB (headD (tail (getT z0.1)) V.bot))=true then
 some (sEq (getS (headD (V.cells (headD (getT z0.1) V.bot)) V.bot)) [109,117,108,116,105,112,97,114,116])
 else
 some false) fun y2=>
 if y2=true then
 Option.bind (call 84 [(V.lst 176 false (getL (headD (tail (tail (V.cells (headD (getT z0.1) V.bot)))) V.bot)))] []) fun z3=>
 some ((V.tup [(V.str (getS (headD (V.cells (headD (getT z0.1) V.bot)) V.bot))),(V.str (getS (headD (tail (V.cells (headD (getT z0.1) V.bot))) V.bot))),(V.str (getS z3.1))]),[])
 else
 some ((V.tup [(V.str [109,117,108,116,105,112,97,114,116]),(V.str [109,105,120,101,100]),(V.str [78,73,76])]),[])
 else
 if(a1==(2:Int))=true then
 Option.bind (if(getB (headD (tail (getT z0.1)) V.bot))=true then
 some y1
 else
 some false) fun y2=>
 if y2=true then
 Option.bind (call 84 [(V.lst 176 false (getL (headD (tail (tail (V.cells (headD (getT z0.1) V.bot)))) V.bot)))] []) fun z3=>
 some ((V.tup [(V.str (getS (headD (V.cells (headD (getT z0.1) V.bot)) V.bot))),(V.str (getS (headD (tail (V.cells (headD (getT z0.1) V.bot))) V.bot))),(V.str (getS z3.1))]),[])
 else
 some ((V.tup [(V.str [109,101,115,115,97,103,101]),(V.str [114,102,99,56,50,50]),(V.str [78,73,76])]),[])
 else
 if(!(getB (headD (tail (getT z0.1)) V.bot)))=true then
 Option.bind (call 45 [(V.str [99,104,97,114,115,101,116])] []) fun z2=>
 Option.bind (call 45 [(V.str [117,115,45,97,115,99,105,105])] []) fun z3=>
 Option.bind (call 50 [(V.lst 9 false [(V.str (getS z2.1)),(V.str (getS z3.1))])] []) fun z4=>
 some ((V.tup [(V.str [116,101,120,116]),(V.str [112,108,97,105,110]),(V.str (getS z4.1))]),[])
 else
 Option.bind (if(sEq (getS (headD (V.cells (headD (getT z0.1) V.bot)) V.bot)) [109,117,108,116,105,112,97,114,116])=false then
 some y1
 else
 some true) fun y2=>
 if y2=true then
 some ((V.tup [(V.str [97,112,112,108,105,99,97,116,105,111,110]),(V.str [111,99,116,101,116,45,115,116,114,101,97,109]),(V.str [78,73,76])]),[])
 else
 Option.bind (call 84 [(V.lst 176 false (getL (headD (tail (tail (V.cells (headD (getT z0.1) V.bot)))) V.bot)))] []) fun z3=>
 some ((V.tup [(V.str (getS (headD (V.cells (headD (getT z0.1) V.bot)) V.bot))),(V.str (getS (headD (tail (V.cells (headD (getT z0.1) V.bot))) V.bot))),(V.str (getS z3.1))]),[])
def A43 (a0:List V) (a1:Int) (a2:Int) (a3:Int) (a4:Int) (a5:Int) (a6:List V) (a7:List V) (a8:Int) (a9:Int):List V:=[V.lst 5 false a0,V.agg [V.int IntKind.i64 a1,V.int IntKind.i64 a2,V.int IntKind.i64 a3,V.int IntKind.i64 a4,V.int IntKind.i64 a5,V.lst 36 false a6,V.lst 32 false a7,V.int IntKind.i64 a8,V.int IntKind.i64 a9]]
theorem E43 (a0:List V) (a1:Int) (a2:Int) (a3:Int) (a4:Int) (a5:Int) (a6:List V) (a7:List V) (a8:Int) (a9:Int):GO 43 Tryz.f43 (A43 a0 a1 a2 a3 a4 a5 a6 a7 a8 a9) [] call icall again=T43 call a0 a1 a2 a3 a4 a5 a6 a7 a8 a9:=by kernel_rfl
theorem C43 (k:Nat) (a0:List V) (a1:Int) (a2:Int) (a3:Int) (a4:Int) (a5:Int) (a6:List V) (a7:List V) (a8:Int) (a9:Int):aA cfg (k+1) 43 (A43 a0 a1 a2 a3 a4 a5 a6 a7 a8 a9) []=T43 (aA cfg k) a0 a1 a2 a3 a4 a5 a6 a7 a8 a9:=
 (show aA cfg (k+1) 43 (A43 a0 a1 a2 a3 a4 a5 a6 a7 a8 a9) []=GO 43 Tryz.f43 (A43 a0 a1 a2 a3 a4 a5 a6 a7 a8 a9) [] (aA cfg k) (aE cfg (aA cfg k) 20) (RN 43 Tryz.f43 [] (aA cfg k) (aE cfg (aA cfg k) 20) k)by kernel_rfl).trans (E43 _ _ _ a0 a1 a2 a3 a4 a5 a6 a7 a8 a9)
theorem M43 (a0:List V) (a1:Int) (a2:Int) (a3:Int) (a4:Int) (a5:Int) (a6:List V) (a7:List V) (a8:Int) (a9:Int) {r:V×List Ob} (h:Evt (fun k n=>T43 (aA cfg k) a0 a1 a2 a3 a4 a5 a6 a7 a8 a9) r):Ret 43 [V.lst 5 false a0,V.agg [V.int IntKind.i64 a1,V.int IntKind.i64 a2,V.int IntKind.i64 a3,V.int IntKind.i64 a4,V.int IntKind.i64 a5,V.lst 36 false a6,V.lst 32 false a7,V.int IntKind.i64 a8,V.int IntKind.i64 a9]] [] r:=aR (g:=fun k n=>T43 (aA cfg k) a0 a1 a2 a3 a4 a5 a6 a7 a8 a9) (fun k=>C43 k a0 a1 a2 a3 a4 a5 a6 a7 a8 a9) h
def T45 (call:FuncId→Fun) (a0:List UInt8):Option (V×List Ob):=
 if(decide (((length a0:Nat):Int)≤(1000:Int)))=true then
 Option.bind (call 86 [(V.str a0),(V.clo (Fn.func 87) [] [])] []) fun z0=>
 if(getB z0.1)=true then
 Option.bind (call 88 [(V.str a0)] []) fun z1=>
 some ((V.str (getS z1.1)),[])
 else
 Option.bind (call 47 [(V.int .i64 ((length a0:Nat):Int))] []) fun z1=>
 chk (bJ [123] (getS z1.1)) (chk (bJ ([123]++(getS z1.1)) [125,13,10]) (chk (bJ (([123]++(getS z1.1))++[125,13,10]) a0) (Option.bind (call 89 [(V.str a0),(V.int .u8 0)] []) fun z2=>
 if(decide ((getI z2.1)≥(0:Int)))=true then
 chk (bJ [126] ((([123]++(getS z1.1))++[125,13,10])++a0)) (some ((V.str ([126]++((([123]++(getS z1.1))++[125,13,10])++a0))),[]))
 else
 some ((V.str ((([123]++(getS z1.1))++[125,13,10])++a0)),[]))))
 else
 Option.bind (call 47 [(V.int .i64 ((length a0:Nat):Int))] []) fun z0=>
 chk (bJ [123] (getS z0.1)) (chk (bJ ([123]++(getS z0.1)) [125,13,10]) (chk (bJ (([123]++(getS z0.1))++[125,13,10]) a0) (Option.bind (call 89 [(V.str a0),(V.int .u8 0)] []) fun z1=>
 if(decide ((getI z1.1)≥(0:Int)))=true then
 chk (bJ [126] ((([123]++(getS z0.1))++[125,13,10])++a0)) (some ((V.str ([126]++((([123]++(getS z0.1))++[125,13,10])++a0))),[]))
 else
 some ((V.str ((([123]++(getS z0.1))++[125,13,10])++a0)),[]))))
def A45 (a0:List UInt8):List V:=[V.str a0]
theorem E45 (a0:List UInt8):GO 45 Tryz.f45 (A45 a0) [] call icall again=T45 call a0:=by kernel_rfl
theorem C45 (k:Nat) (a0:List UInt8):aA cfg (k+1) 45 (A45 a0) []=T45 (aA cfg k) a0:=
 (show aA cfg (k+1) 45 (A45 a0) []=GO 45 Tryz.f45 (A45 a0) [] (aA cfg k) (aE cfg (aA cfg k) 20) (RN 45 Tryz.f45 [] (aA cfg k) (aE cfg (aA cfg k) 20) k)by kernel_rfl).trans (E45 _ _ _ a0)
theorem M45 (a0:List UInt8) {r:V×List Ob} (h:Evt (fun k n=>T45 (aA cfg k) a0) r):Ret 45 [V.str a0] [] r:=aR (g:=fun k n=>T45 (aA cfg k) a0) (fun k=>C45 k a0) h
def T46 (call:FuncId→Fun) (a0:List V) (a1:Int) (a2:Int) (a3:Int) (a4:Int) (a5:Int) (a6:List V) (a7:List V) (a8:Int) (a9:Int) (a10:List UInt8):Option (V×List Ob):=
 Option.bind (call 32 [(V.lst 5 false a0),(V.agg [(V.int .i64 a2),(V.int .i64 a3)])] []) fun z0=>
 Option.bind (call 33 [(V.lst 91 false (getL (headD (getT z0.1) V.bot))),(V.str a10)] []) fun z1=>
 Option.bind (call 34 [(V.lst 5 false a0),(V.lst 91 false (getL (headD (getT z0.1) V.bot))),(V.str a10)] []) fun z2=>
 Option.bind (call 52 [(V.str (getS z2.1)),(V.bool (getB (headD (tail (getT z1.1)) V.bot)))] []) fun z3=>
 some ((V.str (getS z3.1)),[])
def A46 (a0:List V) (a1:Int) (a2:Int) (a3:Int) (a4:Int) (a5:Int) (a6:List V) (a7:List V) (a8:Int) (a9:Int) (a10:List UInt8):List V:=[V.lst 5 false a0,V.agg [V.int IntKind.i64 a1,V.int IntKind.i64 a2,V.int IntKind.i64 a3,V.int IntKind.i64 a4,V.int IntKind.i64 a5,V.lst 36 false a6,V.lst 32 false a7,V.int IntKind.i64 a8,V.int IntKind.i64 a9],V.str a10]
theorem E46 (a0:List V) (a1:Int) (a2:Int) (a3:Int) (a4:Int) (a5:Int) (a6:List V) (a7:List V) (a8:Int) (a9:Int) (a10:List UInt8):GO 46 Tryz.f46 (A46 a0 a1 a2 a3 a4 a5 a6 a7 a8 a9 a10) [] call icall again=T46 call a0 a1 a2 a3 a4 a5 a6 a7 a8 a9 a10:=by kernel_rfl
theorem C46 (k:Nat) (a0:List V) (a1:Int) (a2:Int) (a3:Int) (a4:Int) (a5:Int) (a6:List V) (a7:List V) (a8:Int) (a9:Int) (a10:List UInt8):aA cfg (k+1) 46 (A46 a0 a1 a2 a3 a4 a5 a6 a7 a8 a9 a10) []=T46 (aA cfg k) a0 a1 a2 a3 a4 a5 a6 a7 a8 a9 a10:=
 (show aA cfg (k+1) 46 (A46 a0 a1 a2 a3 a4 a5 a6 a7 a8 a9 a10) []=GO 46 Tryz.f46 (A46 a0 a1 a2 a3 a4 a5 a6 a7 a8 a9 a10) [] (aA cfg k) (aE cfg (aA cfg k) 20) (RN 46 Tryz.f46 [] (aA cfg k) (aE cfg (aA cfg k) 20) k)by kernel_rfl).trans (E46 _ _ _ a0 a1 a2 a3 a4 a5 a6 a7 a8 a9 a10)
theorem M46 (a0:List V) (a1:Int) (a2:Int) (a3:Int) (a4:Int) (a5:Int) (a6:List V) (a7:List V) (a8:Int) (a9:Int) (a10:List UInt8) {r:V×List Ob} (h:Evt (fun k n=>T46 (aA cfg k) a0 a1 a2 a3 a4 a5 a6 a7 a8 a9 a10) r):Ret 46 [V.lst 5 false a0,V.agg [V.int IntKind.i64 a1,V.int IntKind.i64 a2,V.int IntKind.i64 a3,V.int IntKind.i64 a4,V.int IntKind.i64 a5,V.lst 36 false a6,V.lst 32 false a7,V.int IntKind.i64 a8,V.int IntKind.i64 a9],V.str a10] [] r:=aR (g:=fun k n=>T46 (aA cfg k) a0 a1 a2 a3 a4 a5 a6 a7 a8 a9 a10) (fun k=>C46 k a0 a1 a2 a3 a4 a5 a6 a7 a8 a9 a10) h
def T50 (call:FuncId→Fun) (a0:List V):Option (V×List Ob):=
 Option.bind (call 85 [(V.lst 9 false a0),(V.str [32])] []) fun z0=>
 chk (bJ [40] (getS z0.1)) (chk (bJ ([40]++(getS z0.1)) [41]) (some ((V.str (([40]++(getS z0.1))++[41])),[])))
def A50 (a0:List V):List V:=[V.lst 9 false a0]
theorem E50 (a0:List V):GO 50 Tryz.f50 (A50 a0) [] call icall again=T50 call a0:=by kernel_rfl
theorem C50 (k:Nat) (a0:List V):aA cfg (k+1) 50 (A50 a0) []=T50 (aA cfg k) a0:=
 (show aA cfg (k+1) 50 (A50 a0) []=GO 50 Tryz.f50 (A50 a0) [] (aA cfg k) (aE cfg (aA cfg k) 20) (RN 50 Tryz.f50 [] (aA cfg k) (aE cfg (aA cfg k) 20) k)by kernel_rfl).trans (E50 _ _ _ a0)
theorem M50 (a0:List V) {r:V×List Ob} (h:Evt (fun k n=>T50 (aA cfg k) a0) r):Ret 50 [V.lst 9 false a0] [] r:=aR (g:=fun k n=>T50 (aA cfg k) a0) (fun k=>C50 k a0) h
def T52 (call:FuncId→Fun) (a0:List UInt8) (a1:Bool):Option (V×List Ob):=
 if(!a1)=true then
 some ((V.str [78,73,76]),[])
 else
 Option.bind (call 45 [(V.str a0)] []) fun z0=>
 some ((V.str (getS z0.1)),[])
def A52 (a0:List UInt8) (a1:Bool):List V:=[V.str a0,V.bool a1]
theorem E52 (a0:List UInt8) (a1:Bool):GO 52 Tryz.f52 (A52 a0 a1) [] call icall again=T52 call a0 a1:=by kernel_rfl
theorem C52 (k:Nat) (a0:List UInt8) (a1:Bool):aA cfg (k+1) 52 (A52 a0 a1) []=T52 (aA cfg k) a0 a1:=
 (show aA cfg (k+1) 52 (A52 a0 a1) []=GO 52 Tryz.f52 (A52 a0 a1) [] (aA cfg k) (aE cfg (aA cfg k) 20) (RN 52 Tryz.f52 [] (aA cfg k) (aE cfg (aA cfg k) 20) k)by kernel_rfl).trans (E52 _ _ _ a0 a1)
theorem M52 (a0:List UInt8) (a1:Bool) {r:V×List Ob} (h:Evt (fun k n=>T52 (aA cfg k) a0 a1) r):Ret 52 [V.str a0,V.bool a1] [] r:=aR (g:=fun k n=>T52 (aA cfg k) a0 a1) (fun k=>C52 k a0 a1) h
def T83 (call:FuncId→Fun) (a0:List V) (a1:Int) (a2:Int) (a3:Int) (a4:Int) (a5:Int) (a6:List V) (a7:List V) (a8:Int) (a9:Int) (a10:List UInt8) (a11:Bool):Option (V×List Ob):=
 Option.bind (call 32 [(V.lst 5 false a0),(V.agg [(V.int .i64 a2),(V.int .i64 a3)])] []) fun z0=>
 Option.bind (call 34 [(V.lst 5 false a0),(V.lst 91 false (getL (headD (getT z0.1) V.bot))),(V.str a10)] []) fun z1=>
 Option.bind (call 99 [(V.str (getS z1.1)),(V.bool a11)] []) fun z2=>
 some ((V.tup [(V.agg [(V.str (getS (headD (V.cells (headD (getT z2.1) V.bot)) V.bot))),(V.str (getS (headD (tail (V.cells (headD (getT z2.1) V.bot))) V.bot))),(V.lst 176 false (getL (headD (tail (tail (V.cells (headD (getT z2.1) V.bot)))) V.bot)))]),(V.bool (getB (headD (tail (getT z2.1)) V.bot)))]),[])
def A83 (a0:List V) (a1:Int) (a2:Int) (a3:Int) (a4:Int) (a5:Int) (a6:List V) (a7:List V) (a8:Int) (a9:Int) (a10:List UInt8) (a11:Bool):List V:=[V.lst 5 false a0,V.agg [V.int IntKind.i64 a1,V.int IntKind.i64 a2,V.int IntKind.i64 a3,V.int IntKind.i64 a4,V.int IntKind.i64 a5,V.lst 36 false a6,V.lst 32 false a7,V.int IntKind.i64 a8,V.int IntKind.i64 a9],V.str a10,V.bool a11]
theorem E83 (a0:List V) (a1:Int) (a2:Int) (a3:Int) (a4:Int) (a5:Int) (a6:List V) (a7:List V) (a8:Int) (a9:Int) (a10:List UInt8) (a11:Bool):GO 83 Tryz.f83 (A83 a0 a1 a2 a3 a4 a5 a6 a7 a8 a9 a10 a11) [] call icall again=T83 call a0 a1 a2 a3 a4 a5 a6 a7 a8 a9 a10 a11:=by kernel_rfl
theorem C83 (k:Nat) (a0:List V) (a1:Int) (a2:Int) (a3:Int) (a4:Int) (a5:Int) (a6:List V) (a7:List V) (a8:Int) (a9:Int) (a10:List UInt8) (a11:Bool):aA cfg (k+1) 83 (A83 a0 a1 a2 a3 a4 a5 a6 a7 a8 a9 a10 a11) []=T83 (aA cfg k) a0 a1 a2 a3 a4 a5 a6 a7 a8 a9 a10 a11:=
 (show aA cfg (k+1) 83 (A83 a0 a1 a2 a3 a4 a5 a6 a7 a8 a9 a10 a11) []=GO 83 Tryz.f83 (A83 a0 a1 a2 a3 a4 a5 a6 a7 a8 a9 a10 a11) [] (aA cfg k) (aE cfg (aA cfg k) 20) (RN 83 Tryz.f83 [] (aA cfg k) (aE cfg (aA cfg k) 20) k)by kernel_rfl).trans (E83 _ _ _ a0 a1 a2 a3 a4 a5 a6 a7 a8 a9 a10 a11)
theorem M83 (a0:List V) (a1:Int) (a2:Int) (a3:Int) (a4:Int) (a5:Int) (a6:List V) (a7:List V) (a8:Int) (a9:Int) (a10:List UInt8) (a11:Bool) {r:V×List Ob} (h:Evt (fun k n=>T83 (aA cfg k) a0 a1 a2 a3 a4 a5 a6 a7 a8 a9 a10 a11) r):Ret 83 [V.lst 5 false a0,V.agg [V.int IntKind.i64 a1,V.int IntKind.i64 a2,V.int IntKind.i64 a3,V.int IntKind.i64 a4,V.int IntKind.i64 a5,V.lst 36 false a6,V.lst 32 false a7,V.int IntKind.i64 a8,V.int IntKind.i64 a9],V.str a10,V.bool a11] [] r:=aR (g:=fun k n=>T83 (aA cfg k) a0 a1 a2 a3 a4 a5 a6 a7 a8 a9 a10 a11) (fun k=>C83 k a0 a1 a2 a3 a4 a5 a6 a7 a8 a9 a10 a11) h
def Ep (call:FuncId→Fun) (ag0:List V→List V→Int→Int→Option (V×List Ob)) (l0:List V) (l1:List V) (i2:Int) (i3:Int):Option (V×List Ob):=
 if(decide (i3<i2))=true then
 chk (decide (0≤i3)) (chk (decide (i3<((length l1:Nat):Int))) (Option.bind (call 45 [(V.str (getS (headD (V.cells (getD l1 (Int.toNat i3) V.bot)) V.bot)))] []) fun z0=>
 Option.bind (call 45 [(V.str (getS (headD (tail (V.cells (getD l1 (Int.toNat i3) V.bot))) V.bot)))] []) fun z1=>
 chk (aW l0 [(V.str (getS z0.1)),(V.str (getS z1.1))] 17) ((ag0 ((l0++[(V.str (getS z0.1)),(V.str (getS z1.1))])) (l1) (i2) ((IntKind.wrap .i64 (i3+(1:Int))))))))
 else
 Option.bind (call 50 [(V.lst 9 false l0)] []) fun z0=>
 some ((V.str (getS z0.1)),[])
def T84 (call:FuncId→Fun) (ag0:List V→List V→Int→Int→Option (V×List Ob)) (a0:List V):Option (V×List Ob):=
 if(((length a0:Nat):Int)==(0:Int))=true then
 some ((V.str [78,73,76]),[])
 else
 (ag0 ([]) (a0) (((length a0:Nat):Int)) ((0:Int)))
def A84 (a0:List V):List V:=[V.lst 176 false a0]
def BV (l0:List V) (l1:List V) (i2:Int) (i3:Int):St:=⟨[V.bot,V.bot,V.bot,(V.lst 9 true l0),V.bot,V.bot,V.bot,V.bot,V.bot,(V.lst 176 false l1),(V.int IntKind.i64 i2),(V.int IntKind.i64 i3)]++List.replicate 15 V.bot,[]⟩
theorem Pd (l0:List V) (l1:List V) (i2:Int) (i3:Int):
 RM 84 Tryz.f84 [] call icall again (aI Tryz.f84 0) (BV l0 l1 i2 i3)=Ep call (fun l0 l1 i2 i3=>again (aI Tryz.f84 0) (BV l0 l1 i2 i3)) l0 l1 i2 i3:=by kernel_rfl
theorem E84 (a0:List V):GO 84 Tryz.f84 (A84 a0) [] call icall again=T84 call (fun l0 l1 i2 i3=>again (aI Tryz.f84 0) (BV l0 l1 i2 i3)) a0:=by kernel_rfl
def L84 (call:FuncId→Fun):Nat→(List V→List V→Int→Int→Option (V×List Ob))
 |0=>fun _ _ _ _=>none
 |n+1=>Ep call (L84 call n)
theorem R84 (call:FuncId→Fun) (icall:aO (V×List Ob)):∀n,(∀(l0:List V) (l1:List V) (i2:Int) (i3:Int),RN 84 Tryz.f84 [] call icall n (aI Tryz.f84 0) (BV l0 l1 i2 i3)=(L84 call n) l0 l1 i2 i3)
 |0=>fun l0 l1 i2 i3=>rfl
 |n+1=>by
  have ih:=R84 call icall n
  exact fun l0 l1 i2 i3=>(Pd call icall (RN 84 Tryz.f84 [] call icall n) l0 l1 i2 i3).trans (by rw[show(fun l0 l1 i2 i3=>RN 84 Tryz.f84 [] call icall n (aI Tryz.f84 0) (BV l0 l1 i2 i3))=(L84 call n)from(funext fun l0=>funext fun l1=>funext fun i2=>funext fun i3=>ih l0 l1 i2 i3)];rfl)
theorem C84 (k:Nat) (a0:List V):aA cfg (k+1) 84 (A84 a0) []=T84 (aA cfg k) (L84 (aA cfg k) k) a0:=by
 have ih:=R84 (aA cfg k) (aE cfg (aA cfg k) 20) k
 refine(show aA cfg (k+1) 84 (A84 a0) []=GO 84 Tryz.f84 (A84 a0) [] (aA cfg k) (aE cfg (aA cfg k) 20) (RN 84 Tryz.f84 [] (aA cfg k) (aE cfg (aA cfg k) 20) k)by kernel_rfl).trans ((E84 _ _ _ a0).trans ?_)
 rw[show(fun l0 l1 i2 i3=>RN 84 Tryz.f84 [] (aA cfg k) (aE cfg (aA cfg k) 20) k (aI Tryz.f84 0) (BV l0 l1 i2 i3))=(L84 (aA cfg k) k)from(funext fun l0=>funext fun l1=>funext fun i2=>funext fun i3=>ih l0 l1 i2 i3)]
theorem M84 (a0:List V) {r:V×List Ob} (h:Evt (fun k n=>T84 (aA cfg k) (L84 (aA cfg k) n) a0) r):Ret 84 [V.lst 176 false a0] [] r:=aR (g:=fun k n=>T84 (aA cfg k) (L84 (aA cfg k) n) a0) (fun k=>C84 k a0) h
theorem LQ (l0:List V) (l1:List V) (i2:Int) (i3:Int) {r:V×List Ob} (h:Evt (fun k n=>Ep (aA cfg k) (L84 (aA cfg k) n) l0 l1 i2 i3) r):Evt (fun k n=>(L84 (aA cfg k) n) l0 l1 i2 i3) r:=aZ (fun k n=>rfl) h
def T87 (call:FuncId→Fun) (a0:Int):Option (V×List Ob):=
 Option.bind (if(decide (a0≥(32:Int)))=true then
 some (decide (a0<(127:Int)))
 else
 some false) fun y0=>
 some ((V.bool y0),[])
def A87 (a0:Int):List V:=[V.int IntKind.u8 a0]
theorem E87 (a0:Int):GO 87 Tryz.f87 (A87 a0) [] call icall again=T87 call a0:=by kernel_rfl
theorem C87 (k:Nat) (a0:Int):aA cfg (k+1) 87 (A87 a0) []=T87 (aA cfg k) a0:=
 (show aA cfg (k+1) 87 (A87 a0) []=GO 87 Tryz.f87 (A87 a0) [] (aA cfg k) (aE cfg (aA cfg k) 20) (RN 87 Tryz.f87 [] (aA cfg k) (aE cfg (aA cfg k) 20) k)by kernel_rfl).trans (E87 _ _ _ a0)
theorem M87 (a0:Int) {r:V×List Ob} (h:Evt (fun k n=>T87 (aA cfg k) a0) r):Ret 87 [V.int IntKind.u8 a0] [] r:=aR (g:=fun k n=>T87 (aA cfg k) a0) (fun k=>C87 k a0) h
def Eq (call:FuncId→Fun) (ag0:List UInt8→List V→Int→Int→Option (V×List Ob)) (s0:List UInt8) (l1:List V) (i2:Int) (i3:Int):Option (V×List Ob):=
 if(decide (i3<i2))=true then
 Option.bind (chk (decide (0≤i3)) (chk (decide (i3<((length s0:Nat):Int))) (if(((UInt8.toNat (getD s0 (Int.toNat i3) 0):Nat):Int)==(34:Int))=false then
 chk (decide (0≤i3)) (chk (decide (i3<((length s0:Nat):Int))) (some (((UInt8.toNat (getD s0 (Int.toNat i3) 0):Nat):Int)==(92:Int))))
 else
 some true))) fun y0=>
 if y0=true then
 chk (aW l1 [(V.int .u8 92)] 2) (chk (decide (0≤i3)) (chk (decide (i3<((length s0:Nat):Int))) (chk (aW (l1++[(V.int .u8 92)]) [(V.int .u8 ((UInt8.toNat (getD s0 (Int.toNat i3) 0):Nat):Int))] 2) ((ag0 (s0) (((l1++[(V.int .u8 92)])++[(V.int .u8 ((UInt8.toNat (getD s0 (Int.toNat i3) 0):Nat):Int))])) (i2) ((IntKind.wrap .i64 (i3+(1:Int)))))))))
 else
 chk (decide (0≤i3)) (chk (decide (i3<((length s0:Nat):Int))) (chk (aW l1 [(V.int .u8 ((UInt8.toNat (getD s0 (Int.toNat i3) 0):Nat):Int))] 2) ((ag0 (s0) ((l1++[(V.int .u8 ((UInt8.toNat (getD s0 (Int.toNat i3) 0):Nat):Int))])) (i2) ((IntKind.wrap .i64 (i3+(1:Int))))))))
 else
 chk (aW l1 [(V.int .u8 34)] 2) (some ((V.str (bytesOf (l1++[(V.int .u8 34)]))),[]))
def T88 (call:FuncId→Fun) (ag0:List UInt8→List V→Int→Int→Option (V×List Ob)) (a0:List UInt8):Option (V×List Ob):=
 (ag0 (a0) ([(V.int .u8 34)]) (((length a0:Nat):Int)) ((0:Int)))
def A88 (a0:List UInt8):List V:=[V.str a0]
def BW (s0:List UInt8) (l1:List V) (i2:Int) (i3:Int):St:=⟨[(V.str s0),V.bot,V.bot,(V.lst 5 true l1),V.bot,V.bot,V.bot,(V.int IntKind.i64 i2),(V.int IntKind.i64 i3)]++List.replicate 26 V.bot,[]⟩
theorem Pe (s0:List UInt8) (l1:List V) (i2:Int) (i3:Int):
 RM 88 Tryz.f88 [] call icall again (aI Tryz.f88 0) (BW s0 l1 i2 i3)=Eq call (fun s0 l1 i2 i3=>again (aI Tryz.f88 0) (BW s0 l1 i2 i3)) s0 l1 i2 i3:=by kernel_rfl
theorem E88 (a0:List UInt8):GO 88 Tryz.f88 (A88 a0) [] call icall again=T88 call (fun s0 l1 i2 i3=>again (aI Tryz.f88 0) (BW s0 l1 i2 i3)) a0:=by kernel_rfl
def L88 (call:FuncId→Fun):Nat→(List UInt8→List V→Int→Int→Option (V×List Ob))
 |0=>fun _ _ _ _=>none
 |n+1=>Eq call (L88 call n)
theorem R88 (call:FuncId→Fun) (icall:aO (V×List Ob)):∀n,(∀(s0:List UInt8) (l1:List V) (i2:Int) (i3:Int),RN 88 Tryz.f88 [] call icall n (aI Tryz.f88 0) (BW s0 l1 i2 i3)=(L88 call n) s0 l1 i2 i3)
 |0=>fun s0 l1 i2 i3=>rfl
 |n+1=>by
  have ih:=R88 call icall n
  exact fun s0 l1 i2 i3=>(Pe call icall (RN 88 Tryz.f88 [] call icall n) s0 l1 i2 i3).trans (by rw[show(fun s0 l1 i2 i3=>RN 88 Tryz.f88 [] call icall n (aI Tryz.f88 0) (BW s0 l1 i2 i3))=(L88 call n)from(funext fun s0=>funext fun l1=>funext fun i2=>funext fun i3=>ih s0 l1 i2 i3)];rfl)
theorem C88 (k:Nat) (a0:List UInt8):aA cfg (k+1) 88 (A88 a0) []=T88 (aA cfg k) (L88 (aA cfg k) k) a0:=by
 have ih:=R88 (aA cfg k) (aE cfg (aA cfg k) 20) k
 refine(show aA cfg (k+1) 88 (A88 a0) []=GO 88 Tryz.f88 (A88 a0) [] (aA cfg k) (aE cfg (aA cfg k) 20) (RN 88 Tryz.f88 [] (aA cfg k) (aE cfg (aA cfg k) 20) k)by kernel_rfl).trans ((E88 _ _ _ a0).trans ?_)
 rw[show(fun s0 l1 i2 i3=>RN 88 Tryz.f88 [] (aA cfg k) (aE cfg (aA cfg k) 20) k (aI Tryz.f88 0) (BW s0 l1 i2 i3))=(L88 (aA cfg k) k)from(funext fun s0=>funext fun l1=>funext fun i2=>funext fun i3=>ih s0 l1 i2 i3)]
theorem M88 (a0:List UInt8) {r:V×List Ob} (h:Evt (fun k n=>T88 (aA cfg k) (L88 (aA cfg k) n) a0) r):Ret 88 [V.str a0] [] r:=aR (g:=fun k n=>T88 (aA cfg k) (L88 (aA cfg k) n) a0) (fun k=>C88 k a0) h
theorem LR (s0:List UInt8) (l1:List V) (i2:Int) (i3:Int) {r:V×List Ob} (h:Evt (fun k n=>Eq (aA cfg k) (L88 (aA cfg k) n) s0 l1 i2 i3) r):Evt (fun k n=>(L88 (aA cfg k) n) s0 l1 i2 i3) r:=aZ (fun k n=>rfl) h
def Er (call:FuncId→Fun) (ag0:List UInt8→Int→Int→Option (V×List Ob)) (s0:List UInt8) (i1:Int) (i2:Int):Option (V×List Ob):=
 if(decide (i2<i1))=true then
 chk (decide (0≤i2)) (chk (decide (i2<((length s0:Nat):Int))) (Option.bind (call 87 [(V.int .u8 ((UInt8.toNat (getD s0 (Int.toNat i2) 0):Nat):Int))] []) fun z0=>
 if(!(getB z0.1))=true then
 some ((V.bool false),[])
 else
 (ag0 (s0) (i1) ((IntKind.wrap .i64 (i2+(1:Int)))))))
 else
 some ((V.bool true),[])
def T86 (call:FuncId→Fun) (ag0:List UInt8→Int→Int→Option (V×List Ob)) (a0:List UInt8):Option (V×List Ob):=
 (ag0 (a0) (((length a0:Nat):Int)) ((0:Int)))
def A86 (a0:List UInt8):List V:=[V.str a0,V.clo (Fn.func 87) [] []]
def BX (s0:List UInt8) (i1:Int) (i2:Int):St:=⟨[(V.str s0),(V.clo (Fn.func 87) [] []),V.bot,V.bot,V.bot,V.bot,V.bot,(V.int IntKind.i64 i1),(V.int IntKind.i64 i2)]++List.replicate 9 V.bot,[]⟩
theorem Pf (s0:List UInt8) (i1:Int) (i2:Int):
 RM 86 Tryz.f86 [] call icall again (aI Tryz.f86 0) (BX s0 i1 i2)=Er call (fun s0 i1 i2=>again (aI Tryz.f86 0) (BX s0 i1 i2)) s0 i1 i2:=by kernel_rfl
theorem E86 (a0:List UInt8):GO 86 Tryz.f86 (A86 a0) [] call icall again=T86 call (fun s0 i1 i2=>again (aI Tryz.f86 0) (BX s0 i1 i2)) a0:=by kernel_rfl
def L86 (call:FuncId→Fun):Nat→(List UInt8→Int→Int→Option (V×List Ob))
 |0=>fun _ _ _=>none
 |n+1=>Er call (L86 call n)
theorem R86 (call:FuncId→Fun) (icall:aO (V×List Ob)):∀n,(∀(s0:List UInt8) (i1:Int) (i2:Int),RN 86 Tryz.f86 [] call icall n (aI Tryz.f86 0) (BX s0 i1 i2)=(L86 call n) s0 i1 i2)
 |0=>fun s0 i1 i2=>rfl
 |n+1=>by
  have ih:=R86 call icall n
  exact fun s0 i1 i2=>(Pf call icall (RN 86 Tryz.f86 [] call icall n) s0 i1 i2).trans (by rw[show(fun s0 i1 i2=>RN 86 Tryz.f86 [] call icall n (aI Tryz.f86 0) (BX s0 i1 i2))=(L86 call n)from(funext fun s0=>funext fun i1=>funext fun i2=>ih s0 i1 i2)];rfl)
theorem C86 (k:Nat) (a0:List UInt8):aA cfg (k+1) 86 (A86 a0) []=T86 (aA cfg k) (L86 (aA cfg k) k) a0:=by
 have ih:=R86 (aA cfg k) (aE cfg (aA cfg k) 20) k
 refine(show aA cfg (k+1) 86 (A86 a0) []=GO 86 Tryz.f86 (A86 a0) [] (aA cfg k) (aE cfg (aA cfg k) 20) (RN 86 Tryz.f86 [] (aA cfg k) (aE cfg (aA cfg k) 20) k)by kernel_rfl).trans ((E86 _ _ _ a0).trans ?_)
 rw[show(fun s0 i1 i2=>RN 86 Tryz.f86 [] (aA cfg k) (aE cfg (aA cfg k) 20) k (aI Tryz.f86 0) (BX s0 i1 i2))=(L86 (aA cfg k) k)from(funext fun s0=>funext fun i1=>funext fun i2=>ih s0 i1 i2)]
theorem M86 (a0:List UInt8) {r:V×List Ob} (h:Evt (fun k n=>T86 (aA cfg k) (L86 (aA cfg k) n) a0) r):Ret 86 [V.str a0,V.clo (Fn.func 87) [] []] [] r:=aR (g:=fun k n=>T86 (aA cfg k) (L86 (aA cfg k) n) a0) (fun k=>C86 k a0) h
theorem LU (s0:List UInt8) (i1:Int) (i2:Int) {r:V×List Ob} (h:Evt (fun k n=>Er (aA cfg k) (L86 (aA cfg k) n) s0 i1 i2) r):Evt (fun k n=>(L86 (aA cfg k) n) s0 i1 i2) r:=aZ (fun k n=>rfl) h
def T22 (call:FuncId→Fun):Option (V×List Ob):=
 Option.bind (call 14 [(V.lst 5 false [(V.int .u8 13),(V.int .u8 10),(V.int .u8 120)])] []) fun z0=>
 Option.bind (call 43 [(V.lst 5 false [(V.int .u8 13),(V.int .u8 10),(V.int .u8 120)]),(V.agg [(V.int .i64 (getI (headD (V.cells (headD (getT z0.1) V.bot)) V.bot))),(V.int .i64 (getI (headD (tail (V.cells (headD (getT z0.1) V.bot))) V.bot))),(V.int .i64 (getI (headD (tail (tail (V.cells (headD (getT z0.1) V.bot)))) V.bot))),(V.int .i64 (getI (headD (tail (tail (tail (V.cells (headD (getT z0.1) V.bot))))) V.bot))),(V.int .i64 (getI (headD (tail (tail (tail (tail (V.cells (headD (getT z0.1) V.bot)))))) V.bot))),(V.lst 36 false (getL (headD (tail (tail (tail (tail (tail (V.cells (headD (getT z0.1) V.bot))))))) V.bot))),(V.lst 32 false (getL (headD (tail (tail (tail (tail (tail (tail (V.cells (headD (getT z0.1) V.bot)))))))) V.bot))),(V.int .i64 (getI (headD (tail (tail (tail (tail (tail (tail (tail (V.cells (headD (getT z0.1) V.bot))))))))) V.bot))),(V.int .i64 (getI (headD (tail (tail (tail (tail (tail (tail (tail (tail (V.cells (headD (getT z0.1) V.bot)))))))))) V.bot)))])] []) fun z1=>
 if((getI (headD (tail (getT z0.1)) V.bot))==(0:Int))=true then
 Option.bind (call 23 [(V.lst 5 false [(V.int .u8 13),(V.int .u8 10),(V.int .u8 120)]),(V.agg [(V.int .i64 (getI (headD (V.cells (headD (getT z0.1) V.bot)) V.bot))),(V.int .i64 (getI (headD (tail (V.cells (headD (getT z0.1) V.bot))) V.bot))),(V.int .i64 (getI (headD (tail (tail (V.cells (headD (getT z0.1) V.bot)))) V.bot))),(V.int .i64 (getI (headD (tail (tail (tail (V.cells (headD (getT z0.1) V.bot))))) V.bot))),(V.int .i64 (getI (headD (tail (tail (tail (tail (V.cells (headD (getT z0.1) V.bot)))))) V.bot))),(V.lst 36 false (getL (headD (tail (tail (tail (tail (tail (V.cells (headD (getT z0.1) V.bot))))))) V.bot))),(V.lst 32 false (getL (headD (tail (tail (tail (tail (tail (tail (V.cells (headD (getT z0.1) V.bot)))))))) V.bot))),(V.int .i64 (getI (headD (tail (tail (tail (tail (tail (tail (tail (V.cells (headD (getT z0.1) V.bot))))))))) V.bot))),(V.int .i64 (getI (headD (tail (tail (tail (tail (tail (tail (tail (tail (V.cells (headD (getT z0.1) V.bot)))))))))) V.bot)))]),(V.bool false)] []) fun z2=>
 if(sEq (getS z2.1) [40,34,116,101,120,116,34,32,34,112,108,97,105,110,34,32,40,34,99,104,97,114,115,101,116,34,32,34,117,115,45,97,115,99,105,105,34,41,32,78,73,76,32,78,73,76,32,34,55,98,105,116,34,32,49,32,49,41])=true then
 if(sEq (getS (headD (getT z1.1) V.bot)) [116,101,120,116])=true then
 some ((V.bool (sEq (getS (headD (tail (getT z1.1)) V.bot)) [112,108,97,105,110])),[])
 else
 some ((V.bool false),[])
 else
 some ((V.bool false),[])
 else
 some ((V.bool false),[])
def A22:List V:=[]
theorem E22:GO 22 Tryz.f22 A22 [] call icall again=T22 call:=by kernel_rfl
theorem C22 (k:Nat):aA cfg (k+1) 22 A22 []=T22 (aA cfg k):=
 (show aA cfg (k+1) 22 A22 []=GO 22 Tryz.f22 A22 [] (aA cfg k) (aE cfg (aA cfg k) 20) (RN 22 Tryz.f22 [] (aA cfg k) (aE cfg (aA cfg k) 20) k)by kernel_rfl).trans (E22 _ _ _)
theorem M22 {r:V×List Ob} (h:Evt (fun k n=>T22 (aA cfg k)) r):Ret 22 [] [] r:=aR (g:=fun k n=>T22 (aA cfg k)) (fun k=>C22 k) h
def T23 (call:FuncId→Fun) (a0:List V) (a1:Int) (a2:Int) (a3:Int) (a4:Int) (a5:Int) (a6:List V) (a7:List V) (a8:Int) (a9:Int) (a10:Bool):Option (V×List Ob):=
 if(a1==(1:Int))=true then
 Option.bind (call 44 [(V.lst 5 false a0),(V.agg [(V.int .i64 a1),(V.int .i64 a2),(V.int .i64 a3),(V.int .i64 a4),(V.int .i64 a5),(V.lst 36 false a6),(V.lst 32 false a7),(V.int .i64 a8),(V.int .i64 a9)]),(V.bool a10)] []) fun z0=>
 some ((V.str (getS z0.1)),[])
 else
 Option.bind (call 43 [(V.lst 5 false a0),(V.agg [(V.int .i64 a1),(V.int .i64 a2),(V.int .i64 a3),(V.int .i64 a4),(V.int .i64 a5),(V.lst 36 false a6),(V.lst 32 false a7),(V.int .i64 a8),(V.int .i64 a9)])] []) fun z0=>
 Option.bind (call 45 [(V.str (getS (headD (getT z0.1) V.bot)))] []) fun z1=>
 Option.bind (call 45 [(V.str (getS (headD (tail (getT z0.1)) V.bot)))] []) fun z2=>
 Option.bind (call 46 [(V.lst 5 false a0),(V.agg [(V.int .i64 a1),(V.int .i64 a2),(V.int .i64 a3),(V.int .i64 a4),(V.int .i64 a5),(V.lst 36 false a6),(V.lst 32 false a7),(V.int .i64 a8),(V.int .i64 a9)]),(V.str [99,111,110,116,101,110,116,45,105,100])] []) fun z3=>
 Option.bind (call 46 [(V.lst 5 false a0),(V.agg [(V.int .i64 a1),(V.int .i64 a2),(V.int .i64 a3),(V.int .i64 a4),(V.int .i64 a5),(V.lst 36 false a6),(V.lst 32 false a7),(V.int .i64 a8),(V.int .i64 a9)]),(V.str [99,111,110,116,101,110,116,45,100,101,115,99,114,105,112,116,105,111,110])] []) fun z4=>
 Option.bind (call 36 [(V.lst 5 false a0),(V.agg [(V.int .i64 a1),(V.int .i64 a2),(V.int .i64 a3),(V.int .i64 a4),(V.int .i64 a5),(V.lst 36 false a6),(V.lst 32 false a7),(V.int .i64 a8),(V.int .i64 a9)])] []) fun z5=>
 Option.bind (call 45 [(V.str (getS z5.1))] []) fun z6=>
 Option.bind (call 47 [(V.int .i64 (IntKind.wrap .i64 (a5 - a4)))] []) fun z7=>
 Option.bind (if(a1==(2:Int))=true then
 some (decide (((length a6:Nat):Int)>(0:Int)))
 else
 some false) fun y8=>
 if y8=true then
 chk (decide (0≤(0:Int))) (chk (decide ((0:Int)<((length a6:Nat):Int))) (Option.bind (call 15 [(V.lst 5 false a0),(V.agg [(V.int .i64 (getI (headD (V.cells (getD a6 (Int.toNat (0:Int)) V.bot)) V.bot))),(V.int .i64 (getI (headD (tail (V.cells (getD a6 (Int.toNat (0:Int)) V.bot))) V.bot))),(V.int .i64 (getI (headD (tail (tail (V.cells (getD a6 (Int.toNat (0:Int)) V.bot)))) V.bot))),(V.int .i64 (getI (headD (tail (tail (tail (V.cells (getD a6 (Int.toNat (0:Int)) V.bot))))) V.bot))),(V.int .i64 (getI (headD (tail (tail (tail (tail (V.cells (getD a6 (Int.toNat (0:Int)) V.bot)))))) V.bot))),(V.lst 36 false (getL (headD (tail (tail (tail (tail (tail (V.cells (getD a6 (Int.toNat (0:Int)) V.bot))))))) V.bot))),(V.lst 32 false (getL (headD (tail (tail (tail (tail (tail (tail (V.cells (getD a6 (Int.toNat (0:Int)) V.bot)))))))) V.bot))),(V.int .i64 (getI (headD (tail (tail (tail (tail (tail (tail (tail (V.cells (getD a6 (Int.toNat (0:Int)) V.bot))))))))) V.bot))),(V.int .i64 (getI (headD (tail (tail (tail (tail (tail (tail (tail (tail (V.cells (getD a6 (Int.toNat (0:Int)) V.bot)))))))))) V.bot)))])] []) fun z9=>
 Option.bind (call 26 [(V.agg [(V.str (getS (headD (V.cells z9.1) V.bot))),(V.str (getS (headD (tail (V.cells z9.1)) V.bot))),(V.lst 26 false (getL (headD (tail (tail (V.cells z9.1))) V.bot))),(V.lst 26 false (getL (headD (tail (tail (tail (V.cells z9.1)))) V.bot))),(V.lst 26 false (getL (headD (tail (tail (tail (tail (V.cells z9.1))))) V.bot))),(V.lst 26 false (getL (headD (tail (tail (tail (tail (tail (V.cells z9.1)))))) V.bot))),(V.lst 26 false (getL (headD (tail (tail (tail (tail (tail (tail (V.cells z9.1))))))) V.bot))),(V.lst 26 false (getL (headD (tail (tail (tail (tail (tail (tail (tail (V.cells z9.1)))))))) V.bot))),(V.str (getS (headD (tail (tail (tail (tail (tail (tail (tail (tail (V.cells z9.1))))))))) V.bot))),(V.str (getS (headD (tail (tail (tail (tail (tail (tail (tail (tail (tail (V.cells z9.1)))))))))) V.bot))),(V.bool (getB (headD (tail (tail (tail (tail (tail (tail (tail (tail (tail (tail (V.cells z9.1))))))))))) V.bot))),(V.bool (getB (headD (tail (tail (tail (tail (tail (tail (tail (tail (tail (tail (tail (V.cells z9.1)))))))))))) V.bot))),(V.bool (getB (headD (tail (tail (tail (tail (tail (tail (tail (tail (tail (tail (tail (tail (V.cells z9.1))))))))))))) V.bot))),(V.bool (getB (headD (tail (tail (tail (tail (tail (tail (tail (tail (tail (tail (tail (tail (tail (V.cells z9.1)))))))))))))) V.bot)))])] []) fun z10=>
 Option.bind (call 23 [(V.lst 5 false a0),(V.agg [(V.int .i64 (getI (headD (V.cells (getD a6 (Int.toNat (0:Int)) V.bot)) V.bot))),(V.int .i64 (getI (headD (tail (V.cells (getD a6 (Int.toNat (0:Int)) V.bot))) V.bot))),(V.int .i64 (getI (headD (tail (tail (V.cells (getD a6 (Int.toNat (0:Int)) V.bot)))) V.bot))),(V.int .i64 (getI (headD (tail (tail (tail (V.cells (getD a6 (Int.toNat (0:Int)) V.bot))))) V.bot))),(V.int .i64 (getI (headD (tail (tail (tail (tail (V.cells (getD a6 (Int.toNat (0:Int)) V.bot)))))) V.bot))),(V.lst 36 false (getL (headD (tail (tail (tail (tail (tail (V.cells (getD a6 (Int.toNat (0:Int)) V.bot))))))) V.bot))),(V.lst 32 false (getL (headD (tail (tail (tail (tail (tail (tail (V.cells (getD a6 (Int.toNat (0:Int)) V.bot)))))))) V.bot))),(V.int .i64 (getI (headD (tail (tail (tail (tail (tail (tail (tail (V.cells (getD a6 (Int.toNat (0:Int)) V.bot))))))))) V.bot))),(V.int .i64 (getI (headD (tail (tail (tail (tail (tail (tail (tail (tail (V.cells (getD a6 (Int.toNat (0:Int)) V.bot)))))))))) V.bot)))]),(V.bool a10)] []) fun z11=>
 chk (aW [(V.str (getS z1.1)),(V.str (getS z2.1)),(V.str (getS (headD (tail (tail (getT z0.1))) V.bot))),(V.str (getS z3.1)),(V.str (getS z4.1)),(V.str (getS z6.1)),(V.str (getS z7.1))] [(V.str (getS z10.1)),(V.str (getS z11.1))] 17) (Option.bind (call 48 [(V.lst 5 false a0),(V.agg [(V.int .i64 a4),(V.int .i64 a5)])] []) fun z12=>
 Option.bind (call 47 [(V.int .i64 (getI z12.1))] []) fun z13=>
 chk (aW ([(V.str (getS z1.1)),(V.str (getS z2.1)),(V.str (getS (headD (tail (tail (getT z0.1))) V.bot))),(V.str (getS z3.1)),(V.str (getS z4.1)),(V.str (getS z6.1)),(V.str (getS z7.1))]++[(V.str (getS z10.1)),(V.str (getS z11.1))]) [(V.str (getS z13.1))] 17) (if a10=true then
 Option.bind (call 46 [(V.lst 5 false a0),(V.agg [(V.int .i64 a1),(V.int .i64 a2),(V.int .i64 a3),(V.int .i64 a4),(V.int .i64 a5),(V.lst 36 false a6),(V.lst 32 false a7),(V.int .i64 a8),(V.int .i64 a9)]),(V.str [99,111,110,116,101,110,116,45,109,100,53])] []) fun z14=>
 chk (aW (([(V.str (getS z1.1)),(V.str (getS z2.1)),(V.str (getS (headD (tail (tail (getT z0.1))) V.bot))),(V.str (getS z3.1)),(V.str (getS z4.1)),(V.str (getS z6.1)),(V.str (getS z7.1))]++[(V.str (getS z10.1)),(V.str (getS z11.1))])++[(V.str (getS z13.1))]) [(V.str (getS z14.1))] 17) (Option.bind (call 49 [(V.lst 5 false a0),(V.agg [(V.int .i64 a1),(V.int .i64 a2),(V.int .i64 a3),(V.int .i64 a4),(V.int .i64 a5),(V.lst 36 false a6),(V.lst 32 false a7),(V.int .i64 a8),(V.int .i64 a9)])] []) fun z15=>
 chk (aW ((([(V.str (getS z1.1)),(V.str (getS z2.1)),(V.str (getS (headD (tail (tail (getT z0.1))) V.bot))),(V.str (getS z3.1)),(V.str (getS z4.1)),(V.str (getS z6.1)),(V.str (getS z7.1))]++[(V.str (getS z10.1)),(V.str (getS z11.1))])++[(V.str (getS z13.1))])++[(V.str (getS z14.1))]) (getL z15.1) 17) (Option.bind (call 50 [(V.lst 9 false (((([(V.str (getS z1.1)),(V.str (getS z2.1)),(V.str (getS (headD (tail (tail (getT z0.1))) V.bot))),(V.str (getS z3.1)),(V.str (getS z4.1)),(V.str (getS z6.1)),(V.str (getS z7.1))]++[(V.str (getS z10.1)),(V.str (getS z11.1))])++[(V.str (getS z13.1))])++[(V.str (getS z14.1))])++(getL z15.1)))] []) fun z16=>
 some ((V.str (getS z16.1)),[])))
 else
 Option.bind (call 50 [(V.lst 9 false (([(V.str (getS z1.1)),(V.str (getS z2.1)),(V.str (getS (headD (tail (tail (getT z0.1))) V.bot))),(V.str (getS z3.1)),(V.str (getS z4.1)),(V.str (getS z6.1)),(V.str (getS z7.1))]++[(V.str (getS z10.1)),(V.str (getS z11.1))])++[(V.str (getS z13.1))]))] []) fun z14=>
 some ((V.str (getS z14.1)),[])))))
 else
 if(sEq (getS (headD (getT z0.1) V.bot)) [116,101,120,116])=true then
 Option.bind (call 48 [(V.lst 5 false a0),(V.agg [(V.int .i64 a4),(V.int .i64 a5)])] []) fun z9=>
 Option.bind (call 47 [(V.int .i64 (getI z9.1))] []) fun z10=>
 chk (aW [(V.str (getS z1.1)),(V.str (getS z2.1)),(V.str (getS (headD (tail (tail (getT z0.1))) V.bot))),(V.str (getS z3.1)),(V.str (getS z4.1)),(V.str (getS z6.1)),(V.str (getS z7.1))] [(V.str (getS z10.1))] 17) (if a10=true then
 Option.bind (call 46 [(V.lst 5 false a0),(V.agg [(V.int .i64 a1),(V.int .i64 a2),(V.int .i64 a3),(V.int .i64 a4),(V.int .i64 a5),(V.lst 36 false a6),(V.lst 32 false a7),(V.int .i64 a8),(V.int .i64 a9)]),(V.str [99,111,110,116,101,110,116,45,109,100,53])] []) fun z11=>
 chk (aW ([(V.str (getS z1.1)),(V.str (getS z2.1)),(V.str (getS (headD (tail (tail (getT z0.1))) V.bot))),(V.str (getS z3.1)),(V.str (getS z4.1)),(V.str (getS z6.1)),(V.str (getS z7.1))]++[(V.str (getS z10.1))]) [(V.str (getS z11.1))] 17) (Option.bind (call 49 [(V.lst 5 false a0),(V.agg [(V.int .i64 a1),(V.int .i64 a2),(V.int .i64 a3),(V.int .i64 a4),(V.int .i64 a5),(V.lst 36 false a6),(V.lst 32 false a7),(V.int .i64 a8),(V.int .i64 a9)])] []) fun z12=>
 chk (aW (([(V.str (getS z1.1)),(V.str (getS z2.1)),(V.str (getS (headD (tail (tail (getT z0.1))) V.bot))),(V.str (getS z3.1)),(V.str (getS z4.1)),(V.str (getS z6.1)),(V.str (getS z7.1))]++[(V.str (getS z10.1))])++[(V.str (getS z11.1))]) (getL z12.1) 17) (Option.bind (call 50 [(V.lst 9 false ((([(V.str (getS z1.1)),(V.str (getS z2.1)),(V.str (getS (headD (tail (tail (getT z0.1))) V.bot))),(V.str (getS z3.1)),(V.str (getS z4.1)),(V.str (getS z6.1)),(V.str (getS z7.1))]++[(V.str (getS z10.1))])++[(V.str (getS z11.1))])++(getL z12.1)))] []) fun z13=>
 some ((V.str (getS z13.1)),[])))
 else
 Option.bind (call 50 [(V.lst 9 false ([(V.str (getS z1.1)),(V.str (getS z2.1)),(V.str (getS (headD (tail (tail (getT z0.1))) V.bot))),(V.str (getS z3.1)),(V.str (getS z4.1)),(V.str (getS z6.1)),(V.str (getS z7.1))]++[(V.str (getS z10.1))]))] []) fun z11=>
 some ((V.str (getS z11.1)),[]))
 else
 if a10=true then
 Option.bind (call 46 [(V.lst 5 false a0),(V.agg [(V.int .i64 a1),(V.int .i64 a2),(V.int .i64 a3),(V.int .i64 a4),(V.int .i64 a5),(V.lst 36 false a6),(V.lst 32 false a7),(V.int .i64 a8),(V.int .i64 a9)]),(V.str [99,111,110,116,101,110,116,45,109,100,53])] []) fun z9=>
 chk (aW [(V.str (getS z1.1)),(V.str (getS z2.1)),(V.str (getS (headD (tail (tail (getT z0.1))) V.bot))),(V.str (getS z3.1)),(V.str (getS z4.1)),(V.str (getS z6.1)),(V.str (getS z7.1))] [(V.str (getS z9.1))] 17) (Option.bind (call 49 [(V.lst 5 false a0),(V.agg [(V.int .i64 a1),(V.int .i64 a2),(V.int .i64 a3),(V.int .i64 a4),(V.int .i64 a5),(V.lst 36 false a6),(V.lst 32 false a7),(V.int .i64 a8),(V.int .i64 a9)])] []) fun z10=>
 chk (aW ([(V.str (getS z1.1)),(V.str (getS z2.1)),(V.str (getS (headD (tail (tail (getT z0.1))) V.bot))),(V.str (getS z3.1)),(V.str (getS z4.1)),(V.str (getS z6.1)),(V.str (getS z7.1))]++[(V.str (getS z9.1))]) (getL z10.1) 17) (Option.bind (call 50 [(V.lst 9 false (([(V.str (getS z1.1)),(V.str (getS z2.1)),(V.str (getS (headD (tail (tail (getT z0.1))) V.bot))),(V.str (getS z3.1)),(V.str (getS z4.1)),(V.str (getS z6.1)),(V.str (getS z7.1))]++[(V.str (getS z9.1))])++(getL z10.1)))] []) fun z11=>
 some ((V.str (getS z11.1)),[])))
 else
 Option.bind (call 50 [(V.lst 9 false [(V.str (getS z1.1)),(V.str (getS z2.1)),(V.str (getS (headD (tail (tail (getT z0.1))) V.bot))),(V.str (getS z3.1)),(V.str (getS z4.1)),(V.str (getS z6.1)),(V.str (getS z7.1))])] []) fun z9=>
 some ((V.str (getS z9.1)),[])
def A23 (a0:List V) (a1:Int) (a2:Int) (a3:Int) (a4:Int) (a5:Int) (a6:List V) (a7:List V) (a8:Int) (a9:Int) (a10:Bool):List V:=[V.lst 5 false a0,V.agg [V.int IntKind.i64 a1,V.int IntKind.i64 a2,V.int IntKind.i64 a3,V.int IntKind.i64 a4,V.int IntKind.i64 a5,V.lst 36 false a6,V.lst 32 false a7,V.int IntKind.i64 a8,V.int IntKind.i64 a9],V.bool a10]
theorem E23 (a0:List V) (a1:Int) (a2:Int) (a3:Int) (a4:Int) (a5:Int) (a6:List V) (a7:List V) (a8:Int) (a9:Int) (a10:Bool):GO 23 Tryz.f23 (A23 a0 a1 a2 a3 a4 a5 a6 a7 a8 a9 a10) [] call icall again=T23 call a0 a1 a2 a3 a4 a5 a6 a7 a8 a9 a10:=by kernel_rfl
theorem C23 (k:Nat) (a0:List V) (a1:Int) (a2:Int) (a3:Int) (a4:Int) (a5:Int) (a6:List V) (a7:List V) (a8:Int) (a9:Int) (a10:Bool):aA cfg (k+1) 23 (A23 a0 a1 a2 a3 a4 a5 a6 a7 a8 a9 a10) []=T23 (aA cfg k) a0 a1 a2 a3 a4 a5 a6 a7 a8 a9 a10:=
 (show aA cfg (k+1) 23 (A23 a0 a1 a2 a3 a4 a5 a6 a7 a8 a9 a10) []=GO 23 Tryz.f23 (A23 a0 a1 a2 a3 a4 a5 a6 a7 a8 a9 a10) [] (aA cfg k) (aE cfg (aA cfg k) 20) (RN 23 Tryz.f23 [] (aA cfg k) (aE cfg (aA cfg k) 20) k)by kernel_rfl).trans (E23 _ _ _ a0 a1 a2 a3 a4 a5 a6 a7 a8 a9 a10)
theorem M23 (a0:List V) (a1:Int) (a2:Int) (a3:Int) (a4:Int) (a5:Int) (a6:List V) (a7:List V) (a8:Int) (a9:Int) (a10:Bool) {r:V×List Ob} (h:Evt (fun k n=>T23 (aA cfg k) a0 a1 a2 a3 a4 a5 a6 a7 a8 a9 a10) r):Ret 23 [V.lst 5 false a0,V.agg [V.int IntKind.i64 a1,V.int IntKind.i64 a2,V.int IntKind.i64 a3,V.int IntKind.i64 a4,V.int IntKind.i64 a5,V.lst 36 false a6,V.lst 32 false a7,V.int IntKind.i64 a8,V.int IntKind.i64 a9],V.bool a10] [] r:=aR (g:=fun k n=>T23 (aA cfg k) a0 a1 a2 a3 a4 a5 a6 a7 a8 a9 a10) (fun k=>C23 k a0 a1 a2 a3 a4 a5 a6 a7 a8 a9 a10) h
end Go.Proofs.YtdoaoaicdimbeaaGreatDoor
end
section
namespace Go.Proofs.YtdoaoaicdimbeaaGreatDoor
open Go.Ev Go
def Es (c:UInt8):Bs:=if c=34∨c=92 then[92,c]else[c]
def xJ (s:Bs):Bs:=[34]++s.flatMap Es++[34]
theorem Nb (s:Bs) (hs:s.length≤1000000):∀(n i:Nat) (out:Bs),s.length - i≤n→out.length≤2*i+1→i≤s.length→
  Evt (fun k n=>L88 (aA cfg k) n s (ofBytes out) (s.length:Nat) (i:Nat)) (.str (out++(s.drop i).flatMap Es++[34]),[]):=by
 have fin:∀(i:Nat) (out:Bs),s.length≤i→out.length≤2*i+1→i≤s.length→Evt (fun k n=>L88 (aA cfg k) n s (ofBytes out) (s.length:Nat) (i:Nat)) (.str (out++(s.drop i).flatMap Es++[34]),[]):=by
  intro i out h ho hi
  refine LR s (ofBytes out) (s.length:Nat) (i:Nat) ?_
  have h1:¬((i:Int)<(s.length:Int)):=by omega
  have hap:aW (ofBytes out) [V.int IntKind.u8 34] 2=true:=dQ (by simp[bC];omega)
  have h34:ofBytes out++[V.int IntKind.u8 34]=ofBytes (out++[34]):=dH out 34
  rw[List.drop_eq_nil_of_le h]
  simp only[Eq,h1,decide_false,Bool.false_eq_true,if_false,bM hap,h34,cC,List.flatMap_nil,List.append_nil]
  exact aD _
 intro n
 induction n with
 |zero=>intro i out h ho hi;exact fin i out (by omega) ho hi
 |succ n ih=>
  intro i out h ho hi
  by_cases hlt:i<s.length
  ·refine LR s (ofBytes out) (s.length:Nat) (i:Nat) ?_
   have h1:((i:Int)<(s.length:Int)):=by omega
   have h2:(0:Int)≤(i:Int):=by omega
   have hw:IntKind.wrap .i64 ((i:Int)+1)=((i+1:Nat):Int):=by rw[wrap64 (by omega) (by omega)];omega
   have e34:(((s[i].toNat:Nat):Int)==(34:Int))=(s[i]==34):=eV s[i] 34 (by omega)
   have e92:(((s[i].toNat:Nat):Int)==(92:Int))=(s[i]==92):=eV s[i] 92 (by omega)
   have hap:∀c:Int,aW (ofBytes out) [V.int IntKind.u8 c] 2=true:=fun c=>dQ (by simp[bC];omega)
   have hap2:∀c:Int,aW (ofBytes (out++[92])) [V.int IntKind.u8 c] 2=true:=fun c=>dQ (by simp[bC];omega)
   have h92:ofBytes out++[V.int IntKind.u8 92]=ofBytes (out++[92]):=dH out 92
   have hor:(chk (decide ((0:Int)≤(i:Int))) (chk (decide ((i:Int)<(s.length:Int))) (if(s[i]==34)=false then
     chk (decide ((0:Int)≤(i:Int))) (chk (decide ((i:Int)<(s.length:Int))) (some (s[i]==92)))else some true)))=some (decide (s[i]=34∨s[i]=92)):=by
    simp only[aJ h2,aJ h1]
    by_cases a:s[i]=34
    ·simp[a]
    ·have b:(s[i]==34)=false:=by simpa using a
     simp only[b,if_true,a,false_or]
     by_cases c:s[i]=92<;>simp[c]
   simp only[Eq,h1,decide_true,if_true,Int.toNat_natCast,getD_at hlt,e34,e92,hw]
   have hor' :=hor
   simp only[h1,decide_true]at hor'
   rw[hor']
   simp only[cS,drop_at hlt,List.flatMap_cons]
   by_cases hc:s[i]=34∨s[i]=92
   ·simp only[hc,decide_true,if_true,bM (hap _),aJ h2,cK,h92,bM (hap2 _),dH]
    have:=ih (i+1) ((out++[92])++[s[i]]) (by omega) (by simp;omega) (by omega)
    simpa[Es,hc]using this
   ·simp only[hc,decide_false,Bool.false_eq_true,if_false,bM (hap _),aJ h2,cK,dH]
    have:=ih (i+1) (out++[s[i]]) (by omega) (by simp;omega) (by omega)
    simpa[Es,hc]using this
  ·exact fin i out (by omega) ho hi
theorem Pg (s:Bs) (hs:s.length≤1000000):Ret 88 [.str s] [] (.str (xJ s),[]):=by
 refine M88 s ?_
 simp only[T88]
 have h34:[V.int IntKind.u8 (34:Int)]=ofBytes [34]:=rfl
 rw[h34]
 exact Nb s hs s.length 0 [34] (by omega) (by simp) (by omega)
end Go.Proofs.YtdoaoaicdimbeaaGreatDoor
end
section
namespace Go.Proofs.YtdoaoaicdimbeaaGreatDoor
open Go.Ev Go
open List (headD tail getD length drop take)
open V (getI getL getT getS getB)
set_option maxRecDepth 100000
variable (call : FuncId → Fun) (icall : aO (V × List Ob)) (again : List It → St → Option (V × List Ob))
end Go.Proofs.YtdoaoaicdimbeaaGreatDoor
end
section
namespace Go.Proofs.YtdoaoaicdimbeaaGreatDoor
open Go.Ev Go
theorem Et (l:Ps) (base:Bs) (m:Nat) (h:∀p∈l,p.2.length≤m):∀f n:Nat,(joinL l base f n).length≤f*m
 |0,n=>by simp[joinL]
 |f+1,n=>by
  rw[joinL]
  split
  ·simp
  ·rename_i v hv
   obtain⟨p,hp,_,hle⟩:=pQ hv
   have:=h p hp
   have:=Et l base m h f (n+1)
   rw[List.length_append,Nat.add_mul]
   omega
theorem Jb {l:Ps} {base v:Bs} {m:Nat} (h:∀p∈l,p.2.length≤m) (hv:zV l base=some v):v.length≤(l.length+1)*m:=by
 have hm:m≤(l.length+1)*m:=Nat.le_mul_of_pos_left m (by omega)
 unfold zV at hv
 split at hv
 ·rename_i u hu
  cases hv
  obtain⟨p,hp,_,h2⟩:=gK hu
  have:=h p hp
  have:=congrArg List.length h2
  omega
 ·split at hv
  ·rename_i u hu
   cases hv
   obtain⟨p,hp,_,h2⟩:=gK hu
   have:=h p hp
   have:=Nat.le_trans (zT (pO u)) (tI u)
   have:=congrArg List.length h2
   omega
  ·unfold Eb at hv
   split at hv
   ·cases hv;exact Et l base m h _ _
   ·cases hv
theorem qS (l:Ps) (m:Nat) (h:∀p∈l,p.2.length≤m):∀(q:Ps) (seen:List Bs),∀p∈mU l seen q,p.2.length≤(l.length+1)*m
 |[],seen=>by simp[mU]
 |p::r,seen=>by
  unfold mU
  split
  ·exact qS l m h r seen
  ·split
   ·rename_i x hx
    intro y hy
    rcases List.mem_cons.1 hy with rfl|hy
    ·exact Jb h hx
    ·exact qS l m h r _ y hy
   ·exact qS l m h r _
theorem jS {s:Bs} {two:Bool} {t u:Bs} {ps:Ps} (h:eY s two=some (t,u,ps)):t.length≤s.length∧u.length≤s.length∧∀p∈ps,p.2.length≤(s.length+1)*s.length:=by
 have key:∀q:Bs,q.length≤s.length→∀p∈mU (cL q) [] (cL q),p.2.length≤(s.length+1)*s.length:=by
  intro q hq p hp
  obtain⟨g1,g2⟩:=nU q.length q (Nat.le_refl _)
  have:=qS (cL q) s.length (fun p hp=>by have:=g2 p hp;omega) (cL q) [] p hp
  exact Nat.le_trans this (Nat.mul_le_mul_right _ (by omega))
 have h0:=mT s
 have h1:=jF (cU s)
 unfold eY at h
 split at h
 ·cases h
 ·split at h
  ·split at h
   ·cases h
   ·rename_i s2 hs2
    split at h
    ·cases h
    ·cases h
     have h2:=iI hs2
     have h3:=jF s2
     exact⟨by rw[List.length_map];omega,by rw[List.length_map];omega,key _ (by omega)⟩
  ·cases h
   exact⟨by rw[List.length_map];omega,by simp,key _ (by omega)⟩
def FA (c:UInt8):Bool:=decide (32≤(c.toNat:Int))&&decide ((c.toNat:Int)<127)
theorem Ph (c:UInt8):Ret 87 [.int .u8 (c.toNat:Nat)] [] (.bool (FA c),[]):=by
 refine M87 (c.toNat:Nat) ?_
 simp only[T87]
 unfold FA
 by_cases h:(32:Int)≤(c.toNat:Int)
 ·have h' :((c.toNat:Nat):Int)≥32:=h
  simp only[h',h,decide_true,if_true,Bool.true_and,cS]
  exact aD _
 ·have h' :¬(((c.toNat:Nat):Int)≥32):=h
  simp only[h',h,decide_false,Bool.false_eq_true,if_false,Bool.false_and,cS]
  exact aD _
theorem Jc (s:Bs) (hs:s.length≤1000000):∀(n i:Nat),s.length - i=n→i≤s.length→
  Evt (fun k j=>L86 (aA cfg k) j s (s.length:Nat) (i:Nat)) (.bool ((s.drop i).all FA),[])
 |0,i,h,hi=>by
  refine LU s (s.length:Nat) (i:Nat) ?_
  have h1:¬((i:Int)<(s.length:Int)):=by omega
  rw[List.drop_eq_nil_of_le (by omega)]
  simp only[Er,h1,decide_false,Bool.false_eq_true,if_false,List.all_nil]
  exact aD _
 |n+1,i,h,hi=>by
  have hlt:i<s.length:=by omega
  refine LU s (s.length:Nat) (i:Nat) ?_
  have h1:((i:Int)<(s.length:Int)):=by omega
  have h2:(0:Int)≤(i:Nat):=by omega
  have hw:IntKind.wrap .i64 (((i:Nat):Int)+1)=((i+1:Nat):Int):=by rw[wrap64 (by omega) (by omega)];omega
  simp only[Er,h1,decide_true,if_true,aJ h2,cK,Int.toNat_natCast,getD_at hlt,hw]
  refine aB (Ph s[i]) ?_
  rw[drop_at hlt,List.all_cons]
  cases hp:FA s[i]with
  |false=>
   simp only[bA,Bool.not_false,if_true,Bool.false_and]
   exact aD _
  |true=>
   simp only[bA,Bool.not_true,Bool.false_eq_true,if_false,Bool.true_and]
   exact Jc s hs n (i+1) (by omega) (by omega)
theorem Pi (s:Bs) (hs:s.length≤1000000):Ret 86 [.str s, .clo (.func 87) [] []] [] (.bool (s.all FA),[]):=by
 refine M86 s ?_
 simp only[T86]
 exact Jc s hs s.length 0 (by omega) (by omega)
def AW (s:Bs):Bs:=(([123]++fU s.length)++[125,13,10])++s
def eK (s:Bs):Bs:=if s.length≤1000∧s.all FA=true then xJ s else if Lib.indexByte s 0= -1 then AW s else[126]++AW s
theorem Ge (s:Bs):(AW s).length≤2*s.length+5:=by
 have:=lO s.length
 simp only[AW,List.length_append,List.length_cons,List.length_nil];omega
theorem FB (s:Bs):(xJ s).length≤2*s.length+2:=by
 have:∀s:Bs,(s.flatMap Es).length≤2*s.length:=by
  intro s
  induction s with
  |nil=>simp
  |cons c r ih=>
   rw[List.flatMap_cons,List.length_append,List.length_cons]
   have:(Es c).length≤2:=by unfold Es;split<;>simp
   omega
 have:=this s
 simp only[xJ,List.length_append,List.length_cons,List.length_nil];omega
theorem eS (s:Bs):(eK s).length≤2*s.length+6:=by
 have h1:=Ge s
 have h2:=FB s
 unfold eK
 split
 ·omega
 ·split
  ·omega
  ·simp only[List.length_append,List.length_cons,List.length_nil];omega
theorem lC (s:Bs) (hs:s.length≤1000000000):Ret 45 [.str s] [] (.str (eK s),[]):=by
 have lit:Evt (fun(k _:Nat)=>Option.bind (aA cfg k 47 [.int .i64 ((s.length:Nat):Int)] []) fun z0=>
   chk (bJ [123] (V.getS z0.1)) (chk (bJ ([123]++(V.getS z0.1)) [125,13,10]) (chk (bJ (([123]++(V.getS z0.1))++[125,13,10]) s) (Option.bind (aA cfg k 89 [.str s, .int .u8 (0:Int)] []) fun z1=>
   if(decide ((V.getI z1.1)≥(0:Int)))=true then
    chk (bJ [126] ((([123]++(V.getS z0.1))++[125,13,10])++s)) (some ((V.str ([126]++((([123]++(V.getS z0.1))++[125,13,10])++s))),([]:List Ob)))
   else
    some ((V.str ((([123]++(V.getS z0.1))++[125,13,10])++s)),[])))))
   (.str (if Lib.indexByte s 0= -1 then AW s else[126]++AW s),[]):=by
  have hd:=lO s.length
  have hl:=Ge s
  refine aB (Ea s.length (by omega)) ?_
  have c1:bJ [123] (fU s.length)=true:=eJ (by simp;omega)
  have c2:bJ ([123]++fU s.length) [125,13,10]=true:=eJ (by simp;omega)
  have c3:bJ (([123]++fU s.length)++[125,13,10]) s=true:=eJ (by simp;omega)
  have hix:Ret 89 [.str s, .int .u8 (0:Int)] [] (.int .i64 (Lib.indexByte s 0),[]):=dV (h:=D3) (by kernel_rfl) (by simp[D3])
  simp only[aS,bM c1,bM c2,bM c3]
  refine aB hix ?_
  have hge:=Lib.indexByte_ge s 0
  show Evt (fun(k _:Nat)=>if(decide ((V.getI (.int .i64 (Lib.indexByte s 0)))≥(0:Int)))=true then chk (bJ [126] (AW s)) (some ((V.str ([126]++AW s)),([]:List Ob)))else some ((V.str (AW s)),[])) _
  by_cases h:Lib.indexByte s 0= -1
  ·have h' :¬(Lib.indexByte s 0≥0):=by omega
   rw[if_pos h]
   simp only[dC,h',decide_false,Bool.false_eq_true,if_false]
   exact aD _
  ·have h' :Lib.indexByte s 0≥0:=by omega
   have c4:bJ [126] (AW s)=true:=eJ (by simp;omega)
   rw[if_neg h]
   simp only[dC,h',decide_true,if_true,bM c4]
   exact aD _
 refine M45 s ?_
 simp only[T45]
 unfold eK
 by_cases h:s.length≤1000
 ·have h1:((s.length:Nat):Int)≤1000:=by omega
  simp only[h1,decide_true,if_true]
  refine aB (Pi s (by omega)) ?_
  cases ha:s.all FA with
  |true=>
   rw[if_pos ⟨h,rfl⟩]
   simp only[bA,if_true]
   refine aB (Pg s (by omega)) ?_
   exact aD _
  |false=>
   rw[if_neg (fun e=>by cases e.2)]
   simp only[bA,Bool.false_eq_true,if_false]
   exact lit
 ·have h1:¬(((s.length:Nat):Int)≤1000):=by omega
  rw[if_neg (fun e=>h e.1)]
  simp only[h1,decide_false,Bool.false_eq_true,if_false]
  exact lit
def jY:Bs:=[78,73,76]
def tN (s:Bs) (is:Bool):Bs:=if is then eK s else jY
theorem BY (s:Bs) (hs:s.length≤1000000000) (is:Bool):Ret 52 [.str s, .bool is] [] (.str (tN s is),[]):=by
 refine M52 s is ?_
 simp only[T52]
 cases is with
 |false=>simp only[Bool.not_false,if_true];exact aD _
 |true=>
  simp only[Bool.not_true,Bool.false_eq_true,if_false]
  refine aB (lC s hs) ?_
  exact aD _
theorem fZ (s:Bs) (is:Bool):(tN s is).length≤2*s.length+6:=by
 have:=eS s
 unfold tN
 split
 ·exact this
 ·simp[jY]
def mC (l:List Bs):Bs:=([40]++Lib.join l [32])++[41]
theorem Gf (m:Nat):∀l:List Bs,(∀x∈l,x.length≤m)→Lib.lens l≤l.length*m
 |[],_=>by simp[Lib.lens]
 |x::r,h=>by
  have h1:=h x (by simp)
  have h2:=Gf m r fun y hy=>h y (by simp[hy])
  simp only[Lib.lens,List.map_cons,List.sum_cons,List.length_cons,Nat.add_mul,Nat.one_mul]at h2 ⊢
  omega
theorem tO (m:Nat) (l:List Bs) (h:∀x∈l,x.length≤m):(Lib.join l [32]).length≤l.length* (m+1):=by
 cases l with
 |nil=>simp[Lib.join]
 |cons x r=>
  have:=Gf m (x::r) h
  rw[Lib.join_length]
  simp only[List.length_cons,List.length_nil,Nat.mul_add,Nat.mul_one,Nat.zero_add,Nat.one_mul]at this ⊢
  omega
theorem Gg (l:List Bs) (hl:l.length≤10000000) (hj:(Lib.join l [32]).length≤100000000000000):Ret 50 [.lst 9 false (l.map V.str)] [] (.str (mC l),[]):=by
 refine M50 (l.map V.str) ?_
 simp only[T50]
 have hm:(l.map V.str).map V.getS=l:=by rw[List.map_map];exact(List.map_congr_left fun x _=>rfl).trans (List.map_id l)
 have hjn:Ret 85 [.lst 9 false (l.map V.str), .str [32]] [] (.str (Lib.join l [32]),[]):=by
  refine dV (h:=sF) (by kernel_rfl) ?_
  simp only[sF,hm,List.length_map]
  rw[if_pos ⟨by omega,by omega⟩]
 refine aB hjn ?_
 have c1:bJ [40] (Lib.join l [32])=true:=eJ (by simp;omega)
 have c2:bJ ([40]++Lib.join l [32]) [41]=true:=eJ (by simp;omega)
 simp only[aS,bM c1,bM c2]
 exact aD _
def mX (ps:Ps):List Bs:=ps.flatMap fun p=>[eK p.1,eK p.2]
def tP (ps:Ps):Bs:=if ps=[]then jY else mC (mX ps)
theorem Am:∀ps:Ps,(mX ps).length=2*ps.length
 |[]=>rfl
 |p::r=>by have:=Am r;simp only[mX,List.flatMap_cons,List.length_append,List.length_cons,List.length_nil]at this ⊢;omega
theorem Jd (ps:Ps) (hn:ps.length≤1000000) (hv:∀p∈ps,p.1.length≤10000000∧p.2.length≤10000000):∀(n i:Nat),ps.length - i=n→i≤ps.length→
  Evt (fun k j=>L84 (aA cfg k) j ((mX (ps.take i)).map V.str) (ps.map pV) (ps.length:Nat) (i:Nat)) (.str (mC (mX ps)),[])
 |0,i,h,hi=>by
  refine LQ ((mX (ps.take i)).map V.str) (ps.map pV) (ps.length:Nat) (i:Nat) ?_
  have h1:¬((i:Int)<(ps.length:Int)):=by omega
  simp only[Ep,h1,decide_false,Bool.false_eq_true,if_false]
  rw[List.take_of_length_le (by omega)]
  have hm:∀x∈mX ps,x.length≤20000006:=by
   intro x hx
   obtain⟨p,hp,hx⟩:=List.mem_flatMap.1 hx
   obtain⟨h1,h2⟩:=hv p hp
   have e1:=eS p.1
   have e2:=eS p.2
   simp only[List.mem_cons,List.not_mem_nil,or_false]at hx
   rcases hx with rfl|rfl<;>omega
  have hj:=tO 20000006 (mX ps) hm
  have hl:=Am ps
  refine aB (Gg (mX ps) (by omega) (by rw[hl]at hj;omega)) ?_
  exact aD _
 |n+1,i,h,hi=>by
  have hlt:i<ps.length:=by omega
  obtain⟨b1,b2⟩:=hv ps[i] (List.getElem_mem hlt)
  refine LQ ((mX (ps.take i)).map V.str) (ps.map pV) (ps.length:Nat) (i:Nat) ?_
  have h1:((i:Int)<(ps.length:Int)):=by omega
  have h2:(0:Int)≤(i:Nat):=by omega
  have hw:IntKind.wrap .i64 (((i:Nat):Int)+1)=((i+1:Nat):Int):=by rw[wrap64 (by omega) (by omega)];omega
  have hc:V.cells (pV ps[i])=[.str ps[i].1, .str ps[i].2]:=rfl
  simp only[Ep,h1,decide_true,if_true,aJ h2,List.length_map,cK,Int.toNat_natCast,xI hlt,hc,List.headD_cons,List.tail_cons,aS,hw]
  refine aB (lC ps[i].1 (by omega)) ?_
  refine aB (lC ps[i].2 (by omega)) ?_
  have hl:=Am (ps.take i)
  have htl:(ps.take i).length≤i:=by rw[List.length_take];omega
  have hap:aW ((mX (ps.take i)).map V.str) [.str (eK ps[i].1), .str (eK ps[i].2)] 17=true:=dQ (by simp;omega)
  have:=Jd ps hn hv n (i+1) (by omega) (by omega)
  have ht:mX (ps.take (i+1))=mX (ps.take i)++[eK ps[i].1,eK ps[i].2]:=by
   rw[List.take_add_one,List.getElem?_eq_getElem hlt]
   simp only[mX,Option.toList_some,List.flatMap_append,List.flatMap_cons,List.flatMap_nil,List.append_nil]
  rw[ht,List.map_append]at this
  simp only[aS,bM hap]
  exact this
theorem LV (ps:Ps) (hn:ps.length≤1000000) (hv:∀p∈ps,p.1.length≤10000000∧p.2.length≤10000000):Ret 84 [.lst 176 false (ps.map pV)] [] (.str (tP ps),[]):=by
 refine M84 (ps.map pV) ?_
 simp only[T84,List.length_map]
 unfold tP
 by_cases h:ps=[]
 ·subst h
  rw[if_pos rfl]
  exact aD _
 ·have h1:(((ps.length:Nat):Int)==0)=false:=by
   have:=List.length_pos_iff.2 h
   have:¬(((ps.length:Nat):Int)=0):=by omega
   simpa using this
  rw[if_neg h]
  simp only[h1,Bool.false_eq_true,if_false]
  exact Jd ps hn hv ps.length 0 (by omega) (by omega)
end Go.Proofs.YtdoaoaicdimbeaaGreatDoor
end
section
namespace Go.Proofs.YtdoaoaicdimbeaaGreatDoor
open Go.Ev Go
def Pt.kd:Pt→Nat| .mk k _ _ _ _ _=>k
def Pt.hd:Pt→Nat×Nat| .mk _ h _ _ _ _=>h
def Pt.bd:Pt→Nat×Nat| .mk _ _ b _ _ _=>b
def Pt.ks:Pt→List Pt| .mk _ _ _ l _ _=>l
def Pt.cs:Pt→List (Nat×Nat)| .mk _ _ _ _ c _=>c
def Pt.en:Pt→Nat×Nat| .mk _ _ _ _ _ e=>e
def LW:Pt:=dX 0 0 0
theorem eL (p:Pt):V.agg [.int .i64 (p.kd:Nat), .int .i64 (p.hd.1:Nat), .int .i64 (p.hd.2:Nat), .int .i64 (p.bd.1:Nat), .int .i64 (p.bd.2:Nat), .lst 36 false (p.ks.map partV), .lst 32 false (p.cs.map cutV), .int .i64 (p.en.1:Nat), .int .i64 (p.en.2:Nat)]=partV p:=by
 cases p;rw[partV,vC];rfl
theorem FC (p:Pt):V.cells (partV p)=[.int .i64 (p.kd:Nat), .int .i64 (p.hd.1:Nat), .int .i64 (p.hd.2:Nat), .int .i64 (p.bd.1:Nat), .int .i64 (p.bd.2:Nat), .lst 36 false (p.ks.map partV), .lst 32 false (p.cs.map cutV), .int .i64 (p.en.1:Nat), .int .i64 (p.en.2:Nat)]:=by
 rw[←eL];rfl
theorem Nc {α:Type} {g g' :Nat→Nat→Option α} {r:α} (hg:∀k n,g k n=g' k n) (h:Evt g' r):Evt g r:=by
 obtain⟨K,h⟩:=h
 exact⟨K,fun k n hk hn=>(hg k n).trans (h k n hk hn)⟩
theorem FD (b:Bs) (d fr to:Nat) (dg:Bool) (n:Nat) {at_:Nat} {l:List Fd} {t u:Bs} {ps:Ps} {bd:Bs} {cs:List (Nat×Nat)} {e:Nat×Nat}
  (h1:(dW b (fr:Nat) (to:Nat)).1=l) (h2:(dW b (fr:Nat) (to:Nat)).2.toNat=at_) (h3:mW b l dg=(t,u,ps)) (h4:(getF ps bdB).getD []=bd) (h5:eM b at_ to bd=(cs,e)):
  dZ b (d+1) fr to dg n=if t=mpB∧bd≠[]∧bd.length≤70 then
   if 0<cs.length∧n+cs.length≤1000 then
    (Pt.mk 1 (fr,at_) (at_,to) (fC (fun fr to n=>dZ b d fr to (u==dgB) n) e.1 cs (n+cs.length)).1 cs e,(fC (fun fr to n=>dZ b d fr to (u==dgB) n) e.1 cs (n+cs.length)).2)
   else(dX fr at_ to,n)
  else if t=KG∧u=KH∧BU b l=true∧n<1000 then(Pt.mk 2 (fr,at_) (at_,to) [(dZ b d at_ to false (n+1)).1] [] (0,0),(dZ b d at_ to false (n+1)).2)
  else(dX fr at_ to,n):=by
 rw[dZ]
 simp only[h1,h2,h3,h4,h5]
theorem BZ (ent:Nat→Nat→Nat→Pt×Nat) (h:∀fr to n,(ent fr to n).2+1=n+cntF (ent fr to n).1) (fin:Nat):∀(cs:List (Nat×Nat)) (n:Nat),(fC ent fin cs n).2+cs.length=n+lG (fC ent fin cs n).1
 |[],n=>by simp[fC,lG]
 |c::r,n=>by
  have h1:=h c.2 (max (rN fin r) c.2) n
  have h2:=BZ ent h fin r (ent c.2 (max (rN fin r) c.2) n).2
  rw[fC,lG,List.length_cons]
  simp only
  omega
theorem An (b:Bs):∀(d fr to:Nat) (dg:Bool) (n:Nat),(dZ b d fr to dg n).2+1=n+cntF (dZ b d fr to dg n).1
 |0,fr,to,dg,n=>by rw[dZ];simp only[dX,cntF,lG]
 |d+1,fr,to,dg,n=>by
  generalize h1:(dW b (fr:Nat) (to:Nat)).1=l
  generalize h2:(dW b (fr:Nat) (to:Nat)).2.toNat=at_
  obtain⟨t,u,ps,h3⟩:∃t u ps,mW b l dg=(t,u,ps):=⟨_,_,_,rfl⟩
  generalize h4:(getF ps bdB).getD []=bd
  obtain⟨cs,e,h5⟩:∃cs e,eM b at_ to bd=(cs,e):=⟨_,_,rfl⟩
  rw[FD b d fr to dg n h1 h2 h3 h4 h5]
  split
  ·split
   ·have:=BZ (fun fr to n=>dZ b d fr to (u==dgB) n) (fun fr to n=>An b d fr to _ n) e.1 cs (n+cs.length)
    rw[cntF]
    simp only
    omega
   ·simp only[dX,cntF,lG]
  ·split
   ·have:=An b d at_ to false (n+1)
    simp only[cntF,lG]
    omega
   ·simp only[dX,cntF,lG]
end Go.Proofs.YtdoaoaicdimbeaaGreatDoor
end
section
namespace Go.Proofs.YtdoaoaicdimbeaaGreatDoor
open Go.Ev Go
theorem lR {x y:Bs} (h:x=y):sEq x y=true:=by subst h;simp[sEq]
theorem wW {x y:Bs} (h:¬x=y):sEq x y=false:=by simp[sEq,h]
theorem KJ (t u x y:Bs):(if sEq t x=true then some (sEq u y)else some false)=some (decide (t=x∧u=y)):=by
 by_cases h1:t=x
 ·by_cases h2:u=y
  ·rw[lR h1,lR h2,if_pos rfl,decide_eq_true ⟨h1,h2⟩]
  ·rw[lR h1,wW h2,if_pos rfl,decide_eq_false (fun e=>h2 e.2)]
 ·rw[wW h1,if_neg (by decide),decide_eq_false (fun e=>h1 e.1)]
def hdL (b:Bs) (p:Pt):List Fd:=(dW b (p.hd.1:Nat) (p.hd.2:Nat)).1
theorem LX (b:Bs) (hb:b.length≤3000) (p:Pt) (name:Bs) (hn:name.length≤1000) (two:Bool):
  Ret 83 [.lst 5 false (ofBytes b),partV p, .str name, .bool two] [] (mA (eY (aT b (hdL b p) name) two),[]):=by
 obtain⟨h1,h2⟩:=pT b (p.hd.1:Nat) (p.hd.2:Nat)
 have hv:=bQ b (hdL b p) name
 rw[←eL p]
 refine M83 (ofBytes b) (p.kd:Nat) (p.hd.1:Nat) (p.hd.2:Nat) (p.bd.1:Nat) (p.bd.2:Nat) (p.ks.map partV) (p.cs.map cutV) (p.en.1:Nat) (p.en.2:Nat) name two ?_
 simp only[T83]
 refine aB (BN b (by omega) (p.hd.1:Nat) (p.hd.2:Nat)) ?_
 simp only[bV,List.headD_cons,bF]
 refine aB (lQ b (by omega) (hdL b p) (by unfold hdL;omega) (fun f hf=>by have:=h1 f hf;omega) name (by omega)) ?_
 simp only[aS]
 refine aB (LI _ (by omega) two) ?_
 cases eY (aT b (hdL b p) name) two with
 |none=>exact aD _
 |some o=>obtain⟨t,u,ps⟩:=o;exact aD _
def vW (b:Bs) (p:Pt) (name:Bs):Bs:=tN (aT b (hdL b p) name) (eQ (hdL b p) name).isSome
theorem Ao (b:Bs) (hb:b.length≤3000) (p:Pt) (name:Bs) (hn:name.length≤1000):
  Ret 46 [.lst 5 false (ofBytes b),partV p, .str name] [] (.str (vW b p name),[]):=by
 obtain⟨h1,h2⟩:=pT b (p.hd.1:Nat) (p.hd.2:Nat)
 have hv:=bQ b (hdL b p) name
 have hl:(hdL b p).length≤1000000:=by unfold hdL;omega
 have hl2:∀f∈hdL b p,f.1.length≤1000000:=fun f hf=>by have:=h1 f hf;omega
 rw[←eL p]
 refine M46 (ofBytes b) (p.kd:Nat) (p.hd.1:Nat) (p.hd.2:Nat) (p.bd.1:Nat) (p.bd.2:Nat) (p.ks.map partV) (p.cs.map cutV) (p.en.1:Nat) (p.en.2:Nat) name ?_
 simp only[T46]
 refine aB (BN b (by omega) (p.hd.1:Nat) (p.hd.2:Nat)) ?_
 simp only[bV,List.headD_cons,bF]
 refine aB (Ag (hdL b p) hl hl2 name (by omega)) ?_
 refine aB (lQ b (by omega) (hdL b p) hl hl2 name (by omega)) ?_
 have hf:V.getB (List.headD (List.tail (V.getT (pR (eQ (hdL b p) name)))) V.bot)=(eQ (hdL b p) name).isSome:=by cases eQ (hdL b p) name<;>rfl
 simp only[aS,hf]
 refine aB (BY _ (by omega) _) ?_
 exact aD _
def FG:Bs:=[99,111,110,116,101,110,116,45,116,114,97,110,115,102,101,114,45,101,110,99,111,100,105,110,103]
def Eu (b:Bs) (p:Pt):Bs:=if(aT b (hdL b p) FG).map dL=[]then[55,98,105,116]else(aT b (hdL b p) FG).map dL
theorem Gi (b:Bs) (p:Pt):(Eu b p).length≤b.length+4:=by
 have:=bQ b (hdL b p) FG
 unfold Eu
 split
 ·simp
 ·rw[List.length_map];omega
theorem LY (b:Bs) (hb:b.length≤3000) (p:Pt):Ret 36 [.lst 5 false (ofBytes b),partV p] [] (.str (Eu b p),[]):=by
 obtain⟨h1,h2⟩:=pT b (p.hd.1:Nat) (p.hd.2:Nat)
 have hv:=bQ b (hdL b p) FG
 have hl:(hdL b p).length≤1000000:=by unfold hdL;omega
 have hl2:∀f∈hdL b p,f.1.length≤1000000:=fun f hf=>by have:=h1 f hf;omega
 rw[←eL p]
 refine M36 (ofBytes b) (p.kd:Nat) (p.hd.1:Nat) (p.hd.2:Nat) (p.bd.1:Nat) (p.bd.2:Nat) (p.ks.map partV) (p.cs.map cutV) (p.en.1:Nat) (p.en.2:Nat) ?_
 simp only[T36]
 refine aB (BN b (by omega) (p.hd.1:Nat) (p.hd.2:Nat)) ?_
 simp only[bV,List.headD_cons,bF]
 refine aB (lQ b (by omega) (hdL b p) hl hl2 FG (by simp[FG])) ?_
 simp only[aS]
 refine aB (zQ _ (by omega)) ?_
 simp only[aS]
 unfold Eu
 by_cases h:(aT b (hdL b p) FG).map dL=[]
 ·rw[if_pos h]
  simp only[lR h,Bool.not_true,Bool.false_eq_true,if_false]
  exact aD _
 ·rw[if_neg h]
  simp only[wW h,Bool.not_false,if_true]
  exact aD _
def ctN:Bs:=[99,111,110,116,101,110,116,45,116,121,112,101]
def nY:Bs:=[109,117,108,116,105,112,97,114,116]
def Je:Bs:=[109,105,120,101,100]
def pU:Bs:=[109,101,115,115,97,103,101]
def AX:Bs:=[114,102,99,56,50,50]
def textW:Bs:=[116,101,120,116]
def plainW:Bs:=[112,108,97,105,110]
def Pj:Bs:=[97,112,112,108,105,99,97,116,105,111,110]
def Rc:Bs:=[111,99,116,101,116,45,115,116,114,101,97,109]
def csW:Bs:=[99,104,97,114,115,101,116]
def usW:Bs:=[117,115,45,97,115,99,105,105]
def Ew (kd:Nat):Option (Bs×Bs×Ps)→Bs×Bs×Bs
 |none=>if kd=1 then(nY,Je,jY)else if kd=2 then(pU,AX,jY)else(textW,plainW,mC [eK csW,eK usW])
 |some (t,u,ps)=>
  if kd=1 then(if t=nY then(t,u,tP ps)else(nY,Je,jY))
  else if kd=2 then(if t=pU∧u=AX then(t,u,tP ps)else(pU,AX,jY))
  else if t=nY∨(t=pU∧u=AX)then(Pj,Rc,jY)else(t,u,tP ps)
def fN (b:Bs) (p:Pt):Bs×Bs×Bs:=Ew p.kd (eY (aT b (hdL b p) ctN) true)
def Ex (q:Bs×Bs×Bs):V:= .tup [.str q.1, .str q.2.1, .str q.2.2]
theorem Gj (b:Bs) (hb:b.length≤3000) (p:Pt):Ret 43 [.lst 5 false (ofBytes b),partV p] [] (Ex (fN b p),[]):=by
 have hval:=LX b hb p ctN (by simp[ctN]) true
 have hvl:=bQ b (hdL b p) ctN
 have hrow:Ret 50 [.lst 9 false [.str (eK csW), .str (eK usW)]] [] (.str (mC [eK csW,eK usW]),[]):=by
  refine Gg [eK csW,eK usW] (by simp) ?_
  have h1:=eS csW
  have h2:=eS usW
  have:=tO 30 [eK csW,eK usW] (fun x hx=>by
   simp only[List.mem_cons,List.not_mem_nil,or_false]at hx
   rcases hx with rfl|rfl
   ·simp only[csW,List.length_cons,List.length_nil]at h1 ⊢;omega
   ·simp only[usW,List.length_cons,List.length_nil]at h2 ⊢;omega)
  simp only[List.length_cons,List.length_nil]at this
  omega
 unfold fN
 rw[←eL p]at hval ⊢
 refine M43 (ofBytes b) (p.kd:Nat) (p.hd.1:Nat) (p.hd.2:Nat) (p.bd.1:Nat) (p.bd.2:Nat) (p.ks.map partV) (p.cs.map cutV) (p.en.1:Nat) (p.en.2:Nat) ?_
 simp only[T43]
 refine aB hval ?_
 have k1t:p.kd=1→(((p.kd:Nat):Int)==1)=true:=fun h=>by rw[h];rfl
 have k1f:¬p.kd=1→(((p.kd:Nat):Int)==1)=false:=fun h=>by
  have:¬(((p.kd:Nat):Int)=1):=by omega
  simpa using this
 have k2t:p.kd=2→(((p.kd:Nat):Int)==2)=true:=fun h=>by rw[h];rfl
 have k2f:¬p.kd=2→(((p.kd:Nat):Int)==2)=false:=fun h=>by
  have:¬(((p.kd:Nat):Int)=2):=by omega
  simpa using this
 cases ho:eY (aT b (hdL b p) ctN) true with
 |none=>
  have e1:sEq ([]:Bs) pU=false:=by decide
  have e2:sEq ([]:Bs) nY=false:=by decide
  have c0:V.cells (.agg [.str [], .str [], .lst 176 false []])=[.str [], .str [], .lst 176 false []]:=rfl
  simp only[mA,bV,List.headD_cons,List.tail_cons,c0,aS,bA,bF]
  refine eR (v:=false) (if_neg (by rw[show sEq ([]:Bs) [109,101,115,115,97,103,101]=false from e1];decide)) ?_
  unfold Ew
  by_cases h1:p.kd=1
  ·rw[if_pos h1]
   simp only[k1t h1,if_true]
   refine eR (v:=false) (by simp only[Bool.false_eq_true,if_false]) ?_
   simp only[Bool.false_eq_true,if_false]
   exact aD _
  ·rw[if_neg h1]
   simp only[k1f h1,Bool.false_eq_true,if_false]
   by_cases h2:p.kd=2
   ·rw[if_pos h2]
    simp only[k2t h2,if_true]
    refine eR (v:=false) rfl ?_
    simp only[Bool.false_eq_true,if_false]
    exact aD _
   ·rw[if_neg h2]
    simp only[k2f h2,Bool.false_eq_true,if_false,Bool.not_false,if_true]
    refine aB (lC csW (by simp[csW])) ?_
    refine aB (lC usW (by simp[usW])) ?_
    simp only[aS]
    refine aB hrow ?_
    exact aD _
 |some o=>
  obtain⟨t,u,ps⟩:=o
  obtain⟨g1,g2⟩:=iL ho
  obtain⟨g3,g4,g5⟩:=jS ho
  have gp:∀q∈ps,q.1.length≤10000000∧q.2.length≤10000000:=fun q hq=>by
   have a1:=g2 q hq
   have a2:=g5 q hq
   have a3:((aT b (hdL b p) ctN).length+1)* (aT b (hdL b p) ctN).length≤3001*3000:=Nat.mul_le_mul (by omega) (by omega)
   omega
  have rp:=LV ps (by omega) gp
  have c0:V.cells (.agg [.str t, .str u, .lst 176 false (ps.map pV)])=[.str t, .str u, .lst 176 false (ps.map pV)]:=rfl
  have tell:∀(a1 a2:Bs),Evt (fun(k _:Nat)=>Option.bind (aA cfg k 84 [.lst 176 false (ps.map pV)] []) fun z3=>some ((V.tup [.str a1, .str a2, .str (V.getS z3.1)]),([]:List Ob))) (.tup [.str a1, .str a2, .str (tP ps)],[]):=fun a1 a2=>by
   refine aB rp ?_
   exact aD _
  simp only[mA,bV,List.headD_cons,List.tail_cons,c0,aS,bA,bF]
  refine eR (v:=decide (t=pU∧u=AX)) ?_ ?_
  ·exact KJ t u pU AX
  unfold Ew
  have mt:t=nY→sEq t [109,117,108,116,105,112,97,114,116]=true:=fun h=>lR h
  have mf:¬t=nY→sEq t [109,117,108,116,105,112,97,114,116]=false:=fun h=>wW h
  by_cases h1:p.kd=1
  ·simp only[if_pos h1,k1t h1,if_true]
   by_cases ht:t=nY
   ·rw[if_pos ht]
    refine eR (v:=true) (by rw[mt ht]) ?_
    simp only[if_true]
    exact tell t u
   ·rw[if_neg ht]
    refine eR (v:=false) (by rw[mf ht]) ?_
    simp only[Bool.false_eq_true,if_false]
    exact aD _
  ·simp only[if_neg h1,k1f h1,Bool.false_eq_true,if_false]
   by_cases h2:p.kd=2
   ·simp only[if_pos h2,k2t h2,if_true]
    refine eR (v:=decide (t=pU∧u=AX)) rfl ?_
    by_cases ht:t=pU∧u=AX
    ·simp only[if_pos ht,decide_eq_true ht,if_true]
     exact tell t u
    ·simp only[if_neg ht,decide_eq_false ht,Bool.false_eq_true,if_false]
     exact aD _
   ·simp only[if_neg h2,k2f h2,Bool.false_eq_true,if_false,Bool.not_true]
    by_cases ht:t=nY
    ·refine eR (v:=true) (by rw[mt ht];rfl) ?_
     rw[if_pos (.inl ht)]
     simp only[if_true]
     exact aD _
    ·refine eR (v:=decide (t=pU∧u=AX)) (by rw[mf ht];rfl) ?_
     by_cases hr:t=pU∧u=AX
     ·rw[if_pos (.inr hr)]
      simp only[decide_eq_true hr,if_true]
      exact aD _
     ·rw[if_neg (by rintro(h|h);exact ht h;exact hr h)]
      simp only[decide_eq_false hr,Bool.false_eq_true,if_false]
      exact tell t u
end Go.Proofs.YtdoaoaicdimbeaaGreatDoor
end
