/- Lemmas for the claim, merged: the plain reading of the program's functions, its soundness, and what they compute. -/
import Derived.Test.YtdoaoaicdimbeaaGreatDoorPkD
import Derived.KernelRfl
set_option linter.all false
set_option linter.unusedVariables false
set_option linter.unusedSimpArgs false
section
namespace Go.Proofs.YtdoaoaicdimbeaaGreatDoor
open Go.Ev Go
def bY (b:UInt8):Bs→Option (Bs×Bs)
 |[]=>none
 |c::r=>if c=b then some ([],r)else(bY b r).map fun p=>(c::p.1,p.2)
theorem eS {b:UInt8}:∀{s t r:Bs},bY b s=some (t,r)→s=t++b::r
 |[],_,_,h=>by simp[bY]at h
 |c::s,t,r,h=>by
  unfold bY at h
  split at h
  ·rename_i e;cases h;simp[e]
  ·simp at h
   obtain⟨a,ha,rfl⟩:=h
   rw[eS ha];rfl
theorem jC (b:UInt8):∀s:Bs,Lib.indexByte s b=match bY b s with|some p=>(p.1.length:Int)|none=> -1
 |[]=>rfl
 |c::s=>by
  unfold Lib.indexByte bY
  rw[jC b s]
  by_cases h:c=b
  ·simp[h]
  ·have h' :(c==b)=false:=by simpa using h
   simp only[h',Bool.false_eq_true,if_false,h]
   cases bY b s with
   |none=>rfl
   |some p=>
    have:((p.1.length:Int)== -1)=false:=by simp
    simp[this]
def dD (s:Bs):Bs:=match bY 42 s with|some p=>p.1|none=>s
theorem Cm (s:Bs):(dD s).length≤s.length:=by
 unfold dD
 cases h:bY 42 s with
 |none=>simp
 |some p=>have:=congrArg List.length (eS h);simp at this ⊢;omega
theorem GB (s:Bs) (b:UInt8):Ret 168 [.str s, .str [b]] [] (.int .i64 (Lib.indexByte s b),[]):=iJ (h:=HU) rfl rfl
theorem J8 (s:Bs) (hs:s.length≤1000000):∃r b,Ret 155 [.str s, .str [42]] [] (.tup [.str (dD s), .str r, .bool b],[]):=by
 unfold dD
 cases h:bY 42 s with
 |none=>
  refine⟨[],false,Ls s [42] ?_⟩
  simp only[ES]
  refine aD (GB s 42) ?_
  rw[jC,h]
  simp only[V.getI,show¬((-1:Int)≥0)by omega,decide_false,Bool.false_eq_true,if_false]
  exact aC _
 |some p=>
  have hl:=congrArg List.length (eS h)
  simp at hl
  have hw:IntKind.wrap .i64 ((p.1.length:Int)+((([42]:Bs).length:Nat):Int))=((p.1.length+1:Nat):Int):=by
   rw[show((([42]:Bs).length:Nat):Int)=1 from rfl,wrap64 (by omega) (by omega)];omega
  have g0:(p.1.length:Int)≥0:=by omega
  have g1:(p.1.length:Int)≤(s.length:Int):=by omega
  have g2:((p.1.length+1:Nat):Int)≤(s.length:Int):=by omega
  have g3:(0:Int)≤((p.1.length+1:Nat):Int):=by omega
  refine⟨s.drop (p.1.length+1),true,Ls s [42] ?_⟩
  simp only[ES]
  obtain⟨x,hx⟩:∃x:Int,x=(p.1.length:Int):=⟨_,rfl⟩
  have h51:Ret 168 [.str s, .str [42]] [] (.int .i64 x,[]):=by
   have:=GB s 42
   rw[jC,h]at this
   rw[hx];exact this
  refine aD h51 ?_
  have e1:(s.take p.1.length)=p.1:=by
   have:=eS h
   conv=>lhs;rw[this]
   simp
  rw[←hx]at hw g0 g1
  show Evt (fun _ _=>if decide (x≥0)=true then
    chk (decide (0≤x)) (chk (decide (x≤((List.length s:Nat):Int))) (chk (decide ((0:Int)≤0)) (chk (decide (0≤x)) (chk (decide (0≤(IntKind.wrap IntKind.i64 (x+((List.length ([42]:Bs):Nat):Int))))) (chk (decide ((IntKind.wrap IntKind.i64 (x+((List.length ([42]:Bs):Nat):Int)))≤((List.length s:Nat):Int))) (some ((V.tup [(V.str (List.drop (Int.toNat (0:Int)) (List.take (Int.toNat x) s))),(V.str (List.drop (Int.toNat (IntKind.wrap IntKind.i64 (x+((List.length ([42]:Bs):Nat):Int)))) s)),(V.bool true)]),[])))))))
   else some ((V.tup [(V.str s),(V.str []),(V.bool false)]),[])) _
  rw[hw]
  have hxn:x.toNat=p.1.length:=by omega
  simp only[g0,decide_true,if_true,ge_iff_le.1 g0,cD,aI g1,aI g2,aI g3,aI (Int.le_refl 0),hxn,Int.toNat_natCast,Int.toNat_zero,List.drop_zero,e1]
  exact aC _
theorem J9 (s:Bs) (hs:s.length≤1000000):∃r b,Ret 133 [.str s, .str [42]] [] (.tup [.str (dD s), .str r, .bool b],[]):=by
 obtain⟨r,b,h⟩:=J8 s hs
 refine⟨r,b,MK s [42] ?_⟩
 simp only[F9]
 exact aD h (aC _)
def pO (s:Bs):Bs:=match bY 39 s with
 |none=>s
 |some p=>match bY 39 p.2 with|none=>s|some q=>q.2
theorem xJ (s:Bs):(pO s).length≤s.length:=by
 unfold pO
 cases h:bY 39 s with
 |none=>simp
 |some p=>
  have h1:=congrArg List.length (eS h)
  dsimp only
  cases h' :bY 39 p.2 with
  |none=>simp
  |some q=>have h2:=congrArg List.length (eS h');simp at h1 h2 ⊢;omega
theorem nT (b:UInt8) (k:Nat) (s:Bs):qH b (k+1) s=match bY b s with|none=>[s]|some p=>p.1::qH b k p.2:=by
 rw[qH,jC]
 cases h:bY b s with
 |none=>simp
 |some p=>
  have e:=eS h
  have h1:¬((p.1.length:Int)= -1):=by omega
  simp only[h1,if_false,Int.toNat_natCast]
  have e1:s.take p.1.length=p.1:=by
   conv=>lhs;rw[e]
   simp
  have e2:s.drop (p.1.length+1)=p.2:=by
   conv=>lhs;rw[e]
   simp
  rw[e1,e2]
theorem GE (s:Bs) (hs:s.length≤1000000):Ret 158 [.str s] [] (.str (pO s),[]):=by
 have h53:Ret 170 [.str s, .str [39], .int .i64 (3:Int)] [] (.lst 9 false ((qH 39 (min (Int.toNat 3) (s.length+1) - 1) s).map V.str),[]):=by
  refine iJ (h:=wR) rfl ?_
  have:s.length<4294967281:=by omega
  simp[wR,this]
 refine Nl s ?_
 simp only[Gp]
 refine aD h53 ?_
 simp only[V.getL,List.length_map]
 generalize hk:qH 39 (min (Int.toNat 3) (s.length+1) - 1) s=ps
 have hmain:(ps.length<3∧pO s=s)∨(∃a b,ps=[a,b,pO s]):=by
  unfold pO
  by_cases h2:2≤s.length
  ·have:min (Int.toNat 3) (s.length+1) - 1=2:=by simp;omega
   rw[this,nT]at hk
   cases h:bY 39 s with
   |none=>rw[h]at hk;left;subst hk;simp
   |some p=>
    rw[h]at hk
    simp only[nT]at hk
    cases h' :bY 39 p.2 with
    |none=>rw[h']at hk;left;subst hk;exact⟨by simp,by simp only[h']⟩
    |some q=>rw[h']at hk;right;subst hk;exact⟨p.1,q.1,by simp[h',qH]⟩
  ·left
   have hsm:(match bY 39 s with|none=>s|some p=>match bY 39 p.2 with|none=>s|some q=>q.2)=s:=by
    cases h:bY 39 s with
    |none=>rfl
    |some p=>
     have h1:=congrArg List.length (eS h)
     dsimp only
     cases h' :bY 39 p.2 with
     |none=>rfl
     |some q=>have h3:=congrArg List.length (eS h');simp at h1 h3;omega
   refine⟨?_,hsm⟩
   have:min (Int.toNat 3) (s.length+1) - 1≤1:=by simp;omega
   have hk2:∀k,k≤1→(qH 39 k s).length<3:=by
    intro k hk
    match k,hk with
    |0,_=>simp[qH]
    |1,_=>rw[nT];cases bY 39 s<;>simp[qH]
   rw[←hk];exact hk2 _ this
 rcases hmain with⟨h1,h2⟩|⟨a,b,h⟩
 ·have g:(ps.length:Int)<3:=by omega
  simp only[g,decide_true,if_true,h2]
  exact aC _
 ·subst h
  simp only[List.length_cons,List.length_nil,show¬(((0+1+1+1:Nat):Int)<3)by omega,decide_false,Bool.false_eq_true,if_false]
  generalize pO s=x
  exact aC _
def jD (n:Nat):Bs:=if n<10 then[UInt8.ofNat (48+n)]else jD (n / 10)++[UInt8.ofNat (48+n % 10)]
termination_by n
theorem jT {n:Nat} (h:n<10):jD n=[UInt8.ofNat (48+n)]:=by rw[jD,if_pos h]
theorem rF {n:Nat} (h:¬n<10):jD n=jD (n / 10)++[UInt8.ofNat (48+n % 10)]:=by rw[jD,if_neg h]
theorem Cn:∀n:Nat,(jD n).length≤n+1:=by
 intro n
 induction n using Nat.strongRecOn with
 |_ n ih=>
  by_cases h:n<10
  ·rw[jT h];simp
  ·rw[rF h]
   have:=ih (n / 10) (by omega)
   simp;omega
theorem LE:∀d:Fin 10,(Utf8.encode (IntKind.wrap .i32 (IntKind.wrap .i64 (48+(d.val:Int))))).data.toList=[UInt8.ofNat (48+d.val)]:=by decide+kernel
theorem Ka:∀(n:Nat) (out:Bs),0<n→n+out.length≤2000000000→Evt (fun k m=>L47 (aA cfg k) m (n:Int) out false) (.str (jD n++out),[]):=by
 intro n
 induction n using Nat.strongRecOn with
 |_ n ih=>
  intro out hn hb
  refine I8 (n:Int) out false ?_
  have h1:((n:Int) != 0)=true:=by simp;omega
  have h2:((10:Int) != 0)=true:=by decide
  have ht:Int.tmod (n:Int) 10=((n % 10:Nat):Int):=by rw[Int.tmod_eq_emod_of_nonneg (by omega)];omega
  have hq:IntKind.wrap .i64 (Int.tdiv (n:Int) 10)=((n / 10:Nat):Int):=by
   rw[Int.tdiv_eq_ediv_of_nonneg (by omega),wrap64 (by omega) (by omega)];omega
  have hm:IntKind.wrap .i64 (0 - ((n % 10:Nat):Int))= -((n % 10:Nat):Int):=by rw[wrap64 (by omega) (by omega)];omega
  have hng:¬(-((n % 10:Nat):Int)>((n % 10:Nat):Int)):=by omega
  have he:=LE ⟨n % 10,by omega⟩
  simp only at he
  have hc:eV [UInt8.ofNat (48+n % 10)] out=true:=qI (by simp;omega)
  simp only[Cj,h1,if_true,h2,cD,ht,hq,hm,hng,if_false,he,eL hc]
  by_cases hs:n<10
  ·have e:n / 10=0:=by omega
   have e' :n % 10=n:=by omega
   rw[e,e',jT hs]
   refine I8 ((0:Nat):Int) _ false ?_
   have h0:((((0:Nat):Int)) != 0)=false:=by decide
   simp only[Cj,h0,Bool.false_eq_true,if_false]
   exact aC _
  ·rw[rF hs]
   have:=ih (n / 10) (by omega) ([UInt8.ofNat (48+n % 10)]++out) (by omega) (by simp;omega)
   simpa using this
theorem LF (n:Nat) (hn:n≤1000000001):Ret 47 [.int .i64 (n:Int)] [] (.str (jD n),[]):=by
 refine M47 (n:Int) ?_
 simp only[T47]
 by_cases h:n=0
 ·subst h
  have h0:((((0:Nat):Int))==0)=true:=by decide
  simp only[h0,if_true,jT (show 0<10 by omega)]
  exact aC _
 ·have h0:((n:Int)==0)=false:=by simp;omega
  have h1:¬((n:Int)<0):=by omega
  simp only[h0,Bool.false_eq_true,if_false,h1,decide_false]
  have:=Ka n [] (by omega) (by simp;omega)
  simpa using this
end Go.Proofs.YtdoaoaicdimbeaaGreatDoor
end
section
namespace Go.Proofs.YtdoaoaicdimbeaaGreatDoor
open Go.Ev Go
theorem jU:∀{l:Ps} {name v:Bs},fO l name=some v→∃p∈l,p.1=name∧p.2=v
 |[],_,_,h=>by simp[fO]at h
 |p::l,name,v,h=>by
  unfold fO at h
  split at h
  ·rename_i e;cases h;exact⟨p,by simp,e,rfl⟩
  ·obtain⟨q,hq,h1⟩:=jU h
   exact⟨q,by simp[hq],h1⟩
def iM (l:Ps) (base:Bs) (n:Nat):Option Bs:=
 match fO l ((base++[42])++jD n)with
 |some v=>some v
 |none=>match fO l (((base++[42])++jD n)++[42])with
  |some v=>some (cQ (if n=0 then pO v else v))
  |none=>none
def joinL (l:Ps) (base:Bs):Nat→Nat→Bs
 |0,_=>[]
 |f+1,n=>match iM l base n with|none=>[]|some v=>v++joinL l base f (n+1)
def LG (ds:Bs):Nat:=ds.foldl (fun a d=>10*a+(d.toNat - 48)) 0
theorem tG {d:Nat} (h:d<10):(UInt8.ofNat (48+d)).toNat=48+d:=by simp;omega
theorem Ah:∀n:Nat,LG (jD n)=n:=by
 intro n
 induction n using Nat.strongRecOn with
 |_ n ih=>
  by_cases h:n<10
  ·rw[jT h]
   show 10*0+((UInt8.ofNat (48+n)).toNat - 48)=n
   rw[tG h];omega
  ·rw[rF h]
   have:=ih (n / 10) (by omega)
   unfold LG at this ⊢
   rw[List.foldl_append,this]
   show 10* (n / 10)+((UInt8.ofNat (48+n % 10)).toNat - 48)=n
   rw[tG (by omega)];omega
theorem ET:∀n:Nat,∀d∈jD n,d≠42:=by
 intro n
 have key:∀m,m<10→UInt8.ofNat (48+m)≠42:=fun m hm e=>by
  have:=congrArg UInt8.toNat e
  rw[tG hm]at this
  simp at this;omega
 induction n using Nat.strongRecOn with
 |_ n ih=>
  by_cases h:n<10
  ·rw[jT h]
   intro d hd
   rw[List.mem_singleton]at hd;subst hd;exact key n h
  ·rw[rF h]
   intro d hd
   rw[List.mem_append]at hd
   rcases hd with hd|hd
   ·exact ih (n / 10) (by omega) d hd
   ·rw[List.mem_singleton]at hd;subst hd;exact key _ (by omega)
theorem xK (n:Nat) (e:Bs) (he:e=[]∨e=[42]):(jD n++e).filter (· != 42)=jD n:=by
 rw[List.filter_append]
 have h1:(jD n).filter (· != 42)=jD n:=List.filter_eq_self.2 fun d hd=>by simpa using ET n d hd
 rw[h1]
 rcases he with rfl|rfl<;>simp
def iS (base:Bs) (p:Bs×Bs) (n:Nat):Bool:=p.1==(base++[42])++jD n||p.1==((base++[42])++jD n)++[42]
theorem DJ {base:Bs} {p:Bs×Bs} {n m:Nat} (h:iS base p n=true) (h' :iS base p m=true):n=m:=by
 have key:∀k,iS base p k=true→∃e,(e=[]∨e=[42])∧p.1=(base++[42])++(jD k++e):=by
  intro k hk
  simp only[iS,Bool.or_eq_true,beq_iff_eq]at hk
  rcases hk with hk|hk
  ·exact⟨[], .inl rfl,by rw[hk];simp⟩
  ·exact⟨[42], .inr rfl,by rw[hk];simp⟩
 obtain⟨e1,he1,h1⟩:=key n h
 obtain⟨e2,he2,h2⟩:=key m h'
 have:=List.append_cancel_left (h1.symm.trans h2)
 have h3:=congrArg (List.filter (· != 42)) this
 rw[xK n e1 he1,xK m e2 he2]at h3
 rw[←Ah n,←Ah m,h3]
theorem uI {l:Ps} {base:Bs} {n:Nat} {v:Bs} (h:iM l base n=some v):∃p∈l,iS base p n=true∧v.length≤p.2.length:=by
 unfold iM at h
 split at h
 ·rename_i u hu
  cases h
  obtain⟨p,hp,h1,h2⟩:=jU hu
  exact⟨p,hp,by simp[iS,h1],by rw[h2];exact Nat.le_refl _⟩
 ·split at h
  ·rename_i u hu
   cases h
   obtain⟨p,hp,h1,h2⟩:=jU hu
   refine⟨p,hp,by simp[iS,h1],?_⟩
   rw[h2]
   split
   ·exact Nat.le_trans (Cl _) (xJ _)
   ·exact Cl _
  ·cases h
theorem rG {α:Type} (q:α→Bool):∀S:List α,S.length=(S.filter q).length+(S.filter fun x=> !q x).length
 |[]=>rfl
 |x::S=>by
  have:=rG q S
  cases h:q x<;>simp[h]<;>omega
theorem EU {α:Type}:∀{S:List α},S.Nodup→(∀x∈S,∀y∈S,x=y)→S.length≤1
 |[],_,_=>by simp
 |[x],_,_=>by simp
 |x::y::S,h,h' =>by
  have:=h' x (by simp) y (by simp)
  subst this
  simp at h
theorem GF (base:Bs):∀(l:Ps) (S:List Nat),S.Nodup→(∀n∈S,∃p∈l,iS base p n=true)→S.length≤l.length
 |[],S,_,h=>by
  cases S with
  |nil=>simp
  |cons n S=>obtain⟨p,hp,_⟩:=h n (by simp);simp at hp
 |p::l,S,hn,h=>by
  have h1:=rG (fun n=>iS base p n) S
  have h2:(S.filter fun n=>iS base p n).length≤1:=EU (hn.filter _) fun x hx y hy=>by
   rw[List.mem_filter]at hx hy
   exact DJ hx.2 hy.2
  have h3:=GF base l (S.filter fun n=> !iS base p n) (hn.filter _) fun n hnm=>by
   rw[List.mem_filter]at hnm
   obtain⟨q,hq,hm⟩:=h n hnm.1
   rw[List.mem_cons]at hq
   rcases hq with rfl|hq
   ·rw[hm]at hnm;simp at hnm
   ·exact⟨q,hq,hm⟩
  rw[List.length_cons];omega
theorem DK (l:Ps) (base:Bs):∃m,m≤l.length∧iM l base m=none:=by
 apply Classical.byContradiction
 intro hno
 have:∀n∈List.range (l.length+1),∃p∈l,iS base p n=true:=by
  intro n hn
  rw[List.mem_range]at hn
  cases h:iM l base n with
  |none=>exact absurd ⟨n,by omega,h⟩ hno
  |some v=>obtain⟨p,hp,hm,_⟩:=uI h;exact⟨p,hp,hm⟩
 have:=GF base l _ List.nodup_range this
 simp at this;omega
theorem Ed (l:Ps) (base:Bs) (hl:l.length≤1000000) (hv:∀p∈l,p.2.length≤1000000) (hb:base.length≤1000000):∀(f n:Nat) (out:Bs),n+f≤1000001→out.length≤n*1000000→
  (∃m,n≤m∧m<n+f∧iM l base m=none)→
  Evt (fun k j=>wY (aA cfg k) j (l.map pV) base out (n:Int)) (.tup [.str (out++joinL l base f n), .bool (decide (0<n)||(iM l base n).isSome)],[])
 |0,n,out,_,_,⟨m,h1,h2,_⟩=>by omega
 |f+1,n,out,hf,ho,⟨m,h1,h2,h3⟩=>by
  refine JX (l.map pV) base out (n:Int) ?_
  have hd:=Cn n
  have c1:eV base [42]=true:=qI (by simp;omega)
  have c2:eV (base++[42]) (jD n)=true:=qI (by simp;omega)
  have c3:eV ((base++[42])++jD n) [42]=true:=qI (by simp;omega)
  have hw:IntKind.wrap .i64 ((n:Int)+1)=((n+1:Nat):Int):=by rw[wrap64 (by omega) (by omega)];omega
  have next:∀v,iM l base n=some v→eV out v=true∧Evt (fun k j=>wY (aA cfg k) j (l.map pV) base (out++v) ((n+1:Nat):Int)) (.tup [.str (out++joinL l base (f+1) n), .bool (decide (0<n)||(iM l base n).isSome)],[]):=by
   intro v hj
   obtain⟨p,hp,_,hle⟩:=uI hj
   have:=hv p hp
   refine⟨qI (by omega),?_⟩
   have hne:n≠m:=fun e=>by rw[e,h3]at hj;cases hj
   have:=Ed l base hl hv hb f (n+1) (out++v) (by omega) (by simp;omega) ⟨m,by omega,by omega,h3⟩
   rw[joinL,hj]
   simpa using this
  simp only[A7,eL c1]
  refine aD (LF n (by omega)) ?_
  simp only[V.getS,eL c2]
  refine aD (Bg l hl _) ?_
  simp only[V.getT,List.tail_cons,List.headD_cons,V.getB,V.getS]
  cases hj1:fO l ((base++[42])++jD n)with
  |some v=>
   have hj:iM l base n=some v:=by unfold iM;rw[hj1]
   obtain⟨hc,hn⟩:=next v hj
   simp only[Option.isSome_some,Bool.not_true,Bool.false_eq_true,if_false,Option.getD_some,eL hc,hw]
   exact hn
  |none=>
   simp only[Option.isSome_none,Bool.not_false,if_true,eL c3]
   refine aD (Bg l hl _) ?_
   simp only[V.getT,List.tail_cons,List.headD_cons,V.getB,V.getS]
   cases hj2:fO l (((base++[42])++jD n)++[42])with
   |none=>
    have hj:iM l base n=none:=by unfold iM;rw[hj1];dsimp only;rw[hj2]
    simp only[Option.isSome_none,Bool.not_false,if_true]
    rw[joinL,hj]
    have:(decide ((n:Int)>0))=(decide (0<n)||(none:Option Bs).isSome):=by simp
    rw[this]
    simp only[List.append_nil]
    exact aC _
   |some v=>
    have hj:iM l base n=some (cQ (if n=0 then pO v else v)):=by unfold iM;rw[hj1];dsimp only;rw[hj2]
    obtain⟨hc,hn⟩:=next _ hj
    obtain⟨p,hp,_,rfl⟩:=jU hj2
    have hvl:=hv p hp
    simp only[Option.isSome_some,Bool.not_true,Bool.false_eq_true,if_false,Option.getD_some]
    by_cases h0:n=0
    ·have hb0:((n:Int)==0)=true:=by simp[h0]
     simp only[hb0,if_true]
     refine aD (GE p.2 hvl) ?_
     simp only[V.getS]
     refine aD (DI _ (Nat.le_trans (xJ _) hvl)) ?_
     rw[if_pos h0]at hc hn
     simp only[V.getS,eL hc,hw]
     exact hn
    ·have hb0:((n:Int)==0)=false:=by simp[h0]
     simp only[hb0,Bool.false_eq_true,if_false]
     refine aD (DI _ hvl) ?_
     rw[if_neg h0]at hc hn
     simp only[V.getS,eL hc,hw]
     exact hn
def Ee (l:Ps) (base:Bs):Option Bs:=if(iM l base 0).isSome then some (joinL l base (l.length+1) 0)else none
theorem Kb (l:Ps) (base:Bs) (hl:l.length≤1000000) (hv:∀p∈l,p.2.length≤1000000) (hb:base.length≤1000000):
  Ret 159 [.lst 176 false (l.map pV), .str base] [] (.tup [.str ((Ee l base).getD []), .bool (Ee l base).isSome],[]):=by
 refine No (l.map pV) base ?_
 simp only[Gq]
 obtain⟨m,h1,h2⟩:=DK l base
 have:=Ed l base hl hv hb (l.length+1) 0 [] (by omega) (by simp) ⟨m,by omega,by omega,h2⟩
 unfold Ee
 cases hj:iM l base 0 with
 |none=>rw[hj]at this;simpa[joinL,hj]using this
 |some v=>rw[hj]at this;simpa[hj]using this
def Co (l:Ps) (base:Bs):Option Bs:=
 match fO l base with
 |some v=>some v
 |none=>match fO l (base++[42])with
  |some v=>some (cQ (pO v))
  |none=>Ee l base
theorem Kc (l:Ps) (base:Bs) (hl:l.length≤1000000) (hv:∀p∈l,p.2.length≤1000000) (hb:base.length≤1000000):
  Ret 134 [.lst 176 false (l.map pV), .str base] [] (.tup [.str ((Co l base).getD []), .bool (Co l base).isSome],[]):=by
 refine MN (l.map pV) base ?_
 have c1:eV base [42]=true:=qI (by simp;omega)
 simp only[Ga]
 refine aD (Bg l hl base) ?_
 simp only[V.getT,List.tail_cons,List.headD_cons,V.getB,V.getS]
 unfold Co
 cases h1:fO l base with
 |some v=>
  simp only[Option.isSome_some,if_true,Option.getD_some]
  exact aC _
 |none=>
  simp only[Option.isSome_none,Bool.false_eq_true,if_false,eL c1]
  refine aD (Bg l hl _) ?_
  simp only[V.getT,List.tail_cons,List.headD_cons,V.getB,V.getS]
  cases h2:fO l (base++[42])with
  |some v=>
   obtain⟨p,hp,_,rfl⟩:=jU h2
   simp only[Option.isSome_some,if_true,Option.getD_some]
   refine aD (GE _ (hv p hp)) ?_
   simp only[V.getS]
   refine aD (DI _ (Nat.le_trans (xJ _) (hv p hp))) ?_
   exact aC _
  |none=>
   simp only[Option.isSome_none,Bool.false_eq_true,if_false]
   refine aD (Kb l base hl hv hb) ?_
   exact aC _
end Go.Proofs.YtdoaoaicdimbeaaGreatDoor
end
section
namespace Go.Proofs.YtdoaoaicdimbeaaGreatDoor
open Go.Ev Go
theorem rH:∀(n:Nat) (s:Bs),s.length≤n→(cN s).length≤s.length∧∀p∈cN s,p.1.length≤s.length∧p.2.length≤s.length:=by
 intro n
 induction n with
 |zero=>
  intro s h
  have:s=[]:=List.eq_nil_of_length_eq_zero (by omega)
  subst this
  have hb:gC 59 []=none:=by simp[gC,oU]
  rw[oV];simp[hb]
 |succ n ih=>
  intro s h
  rw[oV]
  cases h1:gC 59 s with
  |none=>simp
  |some s1=>
   have g1:=iL h1
   have g2:=kD s1
   dsimp only
   split
   ·simp
   ·cases h2:gC 61 (tokF s1).2 with
    |none=>simp
    |some s3=>
     have g3:=iL h2
     dsimp only
     cases h3:Bd s3 with
     |none=>simp
     |some p=>
      obtain⟨v,s4⟩:=p
      have g4:=Be h3
      obtain⟨e1,e2⟩:=ih s4 (by omega)
      dsimp only
      refine⟨by rw[List.length_cons];omega,fun p hp=>?_⟩
      rw[List.mem_cons]at hp
      rcases hp with rfl|hp
      ·simp only[List.length_map];omega
      ·have:=e2 p hp;omega
theorem rI (a b:Bs):(Sc.str a).same (.str b)=(a==b):=rfl
theorem Cp (x y:Bs):∀m:List (Sc×Sc),Sc.getB (iO (.str x) (oY (.str y) (.bool true) m))=(x==y||Sc.getB (iO (.str x) m))
 |[]=>by
  simp only[oY,iO,rI]
  by_cases h:x=y
  ·simp[h,Sc.getB]
  ·simp[h,Sc.getB]
 |(k,u)::m=>by
  have ih:=Cp x y m
  simp only[oY]
  cases hk:(Sc.str y).same k
  ·simp only[Bool.false_eq_true,if_false,iO]
   cases hx:(Sc.str x).same k
   ·simp only[Bool.false_eq_true,if_false];exact ih
   ·simp only[if_true]
    have:(x==y)=false:=by
     cases k with
     |str b=>
      rw[rI]at hk hx
      have e:=eq_of_beq hx
      subst e
      cases hxy:(x==y)with
      |false=>rfl
      |true=>have e:=eq_of_beq hxy;subst e;simp at hk
     |_=>cases hx
    rw[this,Bool.false_or]
  ·simp only[if_true,iO]
   cases k with
   |str b=>
    rw[rI]at hk
    have e:=eq_of_beq hk
    subst e
    simp only[rI]
    by_cases h:x=y
    ·simp[h,Sc.getB]
    ·simp[h]
   |_=>cases hk
def pB (l:Ps):List Bs→Ps→Ps
 |_,[]=>[]
 |seen,p::r=>
  if dD p.1=[]∨dD p.1∈seen then pB l seen r
  else match Co l (dD p.1)with
   |some x=>(dD p.1,x)::pB l (dD p.1::seen) r
   |none=>pB l (dD p.1::seen) r
theorem Kd (l:Ps) (hl:l.length≤1000000) (hv:∀p∈l,p.1.length≤1000000∧p.2.length≤1000000) (s4 s5 s7 t u:Bs) (l6:List V):∀(n i:Nat) (out:Ps) (seen:List Bs) (m:List (Sc×Sc)),
  l.length - i≤n→out.length≤i→(∀x,Sc.getB (iO (.str x) m)=decide (x∈seen))→
  Evt (fun k j=>L99 (aA cfg k) j (l.map pV) (l.map pV) (l.length:Nat) (i:Nat) s4 s5 l6 s7 t u (out.map pV) m) (.tup [.agg [.str t, .str u, .lst 176 false ((out++pB l seen (l.drop i)).map pV)], .bool true],[]):=by
 have fin:∀(i:Nat) (out:Ps) (seen:List Bs) (m:List (Sc×Sc)),l.length≤i→
   Evt (fun k j=>L99 (aA cfg k) j (l.map pV) (l.map pV) (l.length:Nat) (i:Nat) s4 s5 l6 s7 t u (out.map pV) m) (.tup [.agg [.str t, .str u, .lst 176 false ((out++pB l seen (l.drop i)).map pV)], .bool true],[]):=by
  intro i out seen m h
  refine I7 (l.map pV) (l.map pV) (l.length:Nat) (i:Nat) s4 s5 l6 s7 t u (out.map pV) m ?_
  have h1:¬((i:Int)<(l.length:Int)):=by omega
  rw[List.drop_eq_nil_of_le h]
  simp only[Ci,h1,decide_false,Bool.false_eq_true,if_false,pB,List.append_nil]
  exact aC _
 intro n
 induction n with
 |zero=>intro i out seen m h _ _;exact fin i out seen m (by omega)
 |succ n ih=>
  intro i out seen m h ho hm
  by_cases hlt:i<l.length
  ·refine I7 (l.map pV) (l.map pV) (l.length:Nat) (i:Nat) s4 s5 l6 s7 t u (out.map pV) m ?_
   have h1:((i:Int)<(l.length:Int)):=by omega
   have h2:(0:Int)≤(i:Int):=by omega
   have hw:IntKind.wrap .i64 ((i:Int)+1)=((i+1:Nat):Int):=by rw[wrap64 (by omega) (by omega)];omega
   have hd:l.drop i=l[i]::l.drop (i+1):=List.drop_eq_getElem_cons hlt
   have hpv:=hv l[i] (List.getElem_mem hlt)
   have hvv:∀p∈l,p.2.length≤1000000:=fun p hp=>(hv p hp).2
   obtain⟨r,b,h21⟩:=J9 l[i].1 hpv.1
   rw[hd,pB]
   simp only[Ci,h1,decide_true,if_true,aI h2,List.length_map,cD,Int.toNat_natCast,Bf hlt,pV,V.cells,List.headD_cons,List.tail_cons,V.getS]
   refine aD h21 ?_
   simp only[V.getT,V.getS,List.headD_cons,hm,sEq,hw]
   have hskip:(if(dD l[i].1==[])=false then some (decide (dD l[i].1∈seen))else some true)=some (decide (dD l[i].1=[]∨dD l[i].1∈seen)):=by
    by_cases e:dD l[i].1=[]
    ·simp[e]
    ·have:(dD l[i].1==[])=false:=by simpa using e
     simp[e]
   rw[hskip]
   simp only[cG]
   by_cases hs:dD l[i].1=[]∨dD l[i].1∈seen
   ·simp only[hs,decide_true,if_true]
    exact ih (i+1) out seen m (by omega) (by omega) hm
   ·simp only[hs,decide_false,Bool.false_eq_true,if_false]
    refine aD (Kc l (dD l[i].1) hl hvv (Nat.le_trans (Cm _) hpv.1)) ?_
    have hm' :∀x,Sc.getB (iO (.str x) (oY (.str (dD l[i].1)) (.bool true) m))=decide (x∈dD l[i].1::seen):=by
     intro x
     rw[Cp,hm]
     by_cases e:x=dD l[i].1
     ·simp[e]
     ·have:(x==dD l[i].1)=false:=by simpa using e
      rw[this];simp[e]
    simp only[V.getT,V.getB,V.getS,List.headD_cons,List.tail_cons]
    cases ht:Co l (dD l[i].1)with
    |none=>
     simp only[Option.isSome_none,Bool.false_eq_true,if_false]
     exact ih (i+1) out (dD l[i].1::seen) _ (by omega) (by omega) hm'
    |some x=>
     have hap:cZ (out.map pV) [V.agg [V.str (dD l[i].1),V.str x]] 33=true:=mC (by simp;omega)
     simp only[Option.isSome_some,if_true,Option.getD_some]
     simp only[eL hap]
     have:=ih (i+1) (out++[(dD l[i].1,x)]) (dD l[i].1::seen) _ (by omega) (by simp;omega) hm'
     simpa[pV]using this
  ·exact fin i out seen m (by omega)
def tH (s:Bs) (two:Bool):Option (Bs×Bs×Ps):=
 if(tokF (cJ s)).1=[]then none
 else if two then match gC 47 (tokF (cJ s)).2 with
  |none=>none
  |some s2=>if(tokF s2).1=[]then none else some ((tokF (cJ s)).1.map dC,(tokF s2).1.map dC,pB (cN (tokF s2).2) [] (cN (tokF s2).2))
 else some ((tokF (cJ s)).1.map dC,[],pB (cN (tokF (cJ s)).2) [] (cN (tokF (cJ s)).2))
def xM:Option (Bs×Bs×Ps)→V
 |none=> .tup [.agg [.str [], .str [], .lst 176 false []], .bool false]
 |some (t,u,ps)=> .tup [.agg [.str t, .str u, .lst 176 false (ps.map pV)], .bool true]
theorem Ai (s:Bs) (hs:s.length≤1000000) (rest t u s4 s5:Bs) (l6:List V):
  Evt (fun k j=>L99 (aA cfg k) j ((cN s).map pV) ((cN s).map pV) ((((cN s).map pV).length:Nat):Int) (0:Int) s4 s5 l6 rest t u [] []) (xM (some (t,u,pB (cN s) [] (cN s))),[]):=by
 obtain⟨g1,g2⟩:=rH s.length s (Nat.le_refl _)
 have:=Kd (cN s) (by omega) (fun p hp=>by have:=g2 p hp;omega) s4 s5 rest t u l6 (cN s).length 0 [] [] [] (by omega) (by simp) (fun x=>by simp[iO,Sc.getB])
 rw[List.length_map]
 simpa[xM]using this
theorem LH (s:Bs) (hs:s.length≤1000000) (two:Bool):Ret 99 [.str s, .bool two] [] (xM (tH s two),[]):=by
 refine M99 s two ?_
 have h0:=nS s
 have h1:=kD (cJ s)
 simp only[T99]
 refine aD (DF s hs) ?_
 simp only[List.headD_cons,Ob.getC,V.getS]
 refine aD (Ba (cJ s) (by omega)) ?_
 simp only[V.getS]
 refine aD (xG _ (by omega)) ?_
 simp only[V.getS,List.headD_cons,Ob.getC,sEq]
 unfold tH
 by_cases ht:(tokF (cJ s)).1=[]
 ·simp only[ht,List.map_nil,beq_self_eq_true,if_true]
  exact aC _
 ·have hb:(((tokF (cJ s)).1.map dC)==[])=false:=by simp[ht]
  simp only[hb,Bool.false_eq_true,if_false,ht]
  cases two with
  |false=>
   simp only[Bool.false_eq_true,if_false]
   obtain⟨rest,h20⟩:=Gy (tokF (cJ s)).2 (by omega)
   refine aD h20 ?_
   simp only[V.getL,List.headD_cons,Ob.getC,V.getS]
   exact Ai _ (by omega) _ _ _ _ _ _
  |true=>
   simp only[if_true]
   refine aD (xI (tokF (cJ s)).2 (by omega) 47 (by decide)) ?_
   simp only[V.getB,List.headD_cons,Ob.getC,V.getS]
   cases h2:gC 47 (tokF (cJ s)).2 with
   |none=>
    simp only[Option.isSome_none,Bool.not_false,if_true]
    exact aC _
   |some s2=>
    have g2:=iL h2
    have g3:=kD s2
    simp only[Option.isSome_some,Bool.not_true,Bool.false_eq_true,if_false,rE,h2]
    refine aD (Ba s2 (by omega)) ?_
    simp only[V.getS,List.headD_cons,Ob.getC]
    refine aD (xG _ (by omega)) ?_
    simp only[V.getS]
    by_cases hu:(tokF s2).1=[]
    ·simp only[hu,List.map_nil,beq_self_eq_true,if_true]
     exact aC _
    ·have hb2:(((tokF s2).1.map dC)==[])=false:=by simp[hu]
     simp only[hb2,Bool.false_eq_true,if_false,hu]
     obtain⟨rest,h20⟩:=Gy (tokF s2).2 (by omega)
     refine aD h20 ?_
     simp only[V.getL,List.headD_cons,Ob.getC,V.getS]
     exact Ai _ (by omega) _ _ _ _ _ _
def getF:Ps→Bs→Option Bs
 |[],_=>none
 |p::r,name=>if p.1.map dC=name.map dC then some p.2 else getF r name
theorem Ke (name:Bs) (hn:name.length≤1000000) (l:Ps) (hl:l.length≤1000000) (hv:∀p∈l,p.1.length≤1000000):∀(n i:Nat),l.length - i≤n→
  Evt (fun k n=>L58 (aA cfg k) n name (l.map pV) (l.length:Nat) (i:Nat)) (.tup [.str ((getF (l.drop i) name).getD []), .bool (getF (l.drop i) name).isSome],[]):=by
 have fin:∀i:Nat,l.length≤i→Evt (fun k n=>L58 (aA cfg k) n name (l.map pV) (l.length:Nat) (i:Nat)) (.tup [.str ((getF (l.drop i) name).getD []), .bool (getF (l.drop i) name).isSome],[]):=by
  intro i h
  refine I6 name (l.map pV) (l.length:Nat) (i:Nat) ?_
  have h1:¬((i:Int)<(l.length:Int)):=by omega
  rw[List.drop_eq_nil_of_le h]
  simp only[Ch,h1,decide_false,Bool.false_eq_true,if_false,getF]
  exact aC _
 intro n
 induction n with
 |zero=>intro i h;exact fin i (by omega)
 |succ n ih=>
  intro i h
  by_cases hlt:i<l.length
  ·refine I6 name (l.map pV) (l.length:Nat) (i:Nat) ?_
   have h1:((i:Int)<(l.length:Int)):=by omega
   have h2:(0:Int)≤(i:Int):=by omega
   have hw:IntKind.wrap .i64 ((i:Int)+1)=((i+1:Nat):Int):=by rw[wrap64 (by omega) (by omega)];omega
   have hd:l.drop i=l[i]::l.drop (i+1):=List.drop_eq_getElem_cons hlt
   have hpv:=hv l[i] (List.getElem_mem hlt)
   rw[hd,getF]
   simp only[Ch,h1,decide_true,if_true,aI h2,List.length_map,cD,Int.toNat_natCast,Bf hlt,pV,V.cells,List.headD_cons,List.tail_cons,V.getS,hw]
   refine aD (Gx l[i].1 name (by omega) (by omega)) ?_
   simp only[V.getB]
   by_cases he:l[i].1.map dC=name.map dC
   ·simp only[he,beq_self_eq_true,if_true]
    exact aC _
   ·have:(l[i].1.map dC==name.map dC)=false:=by simpa using he
    simp only[this,Bool.false_eq_true,if_false,he]
    exact ih (i+1) (by omega)
  ·exact fin i (by omega)
theorem LI (t u:Bs) (l:Ps) (hl:l.length≤1000000) (hv:∀p∈l,p.1.length≤1000000) (name:Bs) (hn:name.length≤1000000):
  Ret 58 [.agg [.str t, .str u, .lst 176 false (l.map pV)], .str name] [] (.tup [.str ((getF l name).getD []), .bool (getF l name).isSome],[]):=by
 refine M58 t u (l.map pV) name ?_
 simp only[T58,List.length_map]
 exact Ke name hn l hl hv l.length 0 (by omega)
end Go.Proofs.YtdoaoaicdimbeaaGreatDoor
end
section
namespace Go.Proofs.YtdoaoaicdimbeaaGreatDoor
open Go.Ev Go
open List (headD tail getD length drop take)
open V (getI getL getT getS getB)
set_option maxRecDepth 100000
variable (call : FuncId → Fun) (icall : aQ (V × List Ob)) (again : List It → St → Option (V × List Ob))
def T63 (call:FuncId→Fun) (a0:List V):Option (V×List Ob):=
 Option.bind (call 102 [(V.lst 134 false a0),(V.clo (Fn.func 103) [] [])] []) fun z0=>
 some ((V.int .i64 (getI z0.1)),[])
def A63 (a0:List V):List V:=[V.lst 134 false a0]
theorem E63 (a0:List V):GO 63 Tryz.f63 (A63 a0) [] call icall again=T63 call a0:=by kernel_rfl
theorem C63 (k:Nat) (a0:List V):aA cfg (k+1) 63 (A63 a0) []=T63 (aA cfg k) a0:=
 (show aA cfg (k+1) 63 (A63 a0) []=GO 63 Tryz.f63 (A63 a0) [] (aA cfg k) (aF cfg (aA cfg k) 20) (RN 63 Tryz.f63 [] (aA cfg k) (aF cfg (aA cfg k) 20) k)by kernel_rfl).trans (E63 _ _ _ a0)
theorem M63 (a0:List V) {r:V×List Ob} (h:Evt (fun k n=>T63 (aA cfg k) a0) r):Ret 63 [V.lst 134 false a0] [] r:=aR (g:=fun k n=>T63 (aA cfg k) a0) (fun k=>C63 k a0) h
def T64 (call:FuncId→Fun) (a0:List V) (a1:Int) (a2:Int) (a3:Int):Option (V×List Ob):=
 Option.bind (call 74 [(V.agg [(V.int .i64 a1),(V.int .i64 a2)]),(V.int .i64 ((length a0:Nat):Int))] []) fun z0=>
 if(!(getB z0.1))=true then
 some ((V.str []),[])
 else
 chk (decide (0≤a2)) (chk (decide (a2≤((length a0:Nat):Int))) (chk (decide (0≤a1)) (chk (decide (a1≤a2)) (some ((V.str (bytesOf (drop (Int.toNat a1) (take (Int.toNat a2) a0)))),[])))))
def A64 (a0:List V) (a1:Int) (a2:Int) (a3:Int):List V:=[V.lst 5 false a0,V.agg [V.int IntKind.i64 a1,V.int IntKind.i64 a2,V.int IntKind.i64 a3]]
theorem E64 (a0:List V) (a1:Int) (a2:Int) (a3:Int):GO 64 Tryz.f64 (A64 a0 a1 a2 a3) [] call icall again=T64 call a0 a1 a2 a3:=by kernel_rfl
theorem C64 (k:Nat) (a0:List V) (a1:Int) (a2:Int) (a3:Int):aA cfg (k+1) 64 (A64 a0 a1 a2 a3) []=T64 (aA cfg k) a0 a1 a2 a3:=
 (show aA cfg (k+1) 64 (A64 a0 a1 a2 a3) []=GO 64 Tryz.f64 (A64 a0 a1 a2 a3) [] (aA cfg k) (aF cfg (aA cfg k) 20) (RN 64 Tryz.f64 [] (aA cfg k) (aF cfg (aA cfg k) 20) k)by kernel_rfl).trans (E64 _ _ _ a0 a1 a2 a3)
theorem M64 (a0:List V) (a1:Int) (a2:Int) (a3:Int) {r:V×List Ob} (h:Evt (fun k n=>T64 (aA cfg k) a0 a1 a2 a3) r):Ret 64 [V.lst 5 false a0,V.agg [V.int IntKind.i64 a1,V.int IntKind.i64 a2,V.int IntKind.i64 a3]] [] r:=aR (g:=fun k n=>T64 (aA cfg k) a0 a1 a2 a3) (fun k=>C64 k a0 a1 a2 a3) h
def T65 (call:FuncId→Fun) (a0:List UInt8):Option (V×List Ob):=
 if(!(sEq a0 []))=true then
 chk (decide (0≤(0:Int))) (chk (decide ((0:Int)<((length a0:Nat):Int))) (Option.bind (call 104 [(V.int .u8 ((UInt8.toNat (getD a0 (Int.toNat (0:Int)) 0):Nat):Int))] []) fun z0=>
 some ((V.bool (getB z0.1)),[])))
 else
 some ((V.bool false),[])
def A65 (a0:List UInt8):List V:=[V.str a0]
theorem E65 (a0:List UInt8):GO 65 Tryz.f65 (A65 a0) [] call icall again=T65 call a0:=by kernel_rfl
theorem C65 (k:Nat) (a0:List UInt8):aA cfg (k+1) 65 (A65 a0) []=T65 (aA cfg k) a0:=
 (show aA cfg (k+1) 65 (A65 a0) []=GO 65 Tryz.f65 (A65 a0) [] (aA cfg k) (aF cfg (aA cfg k) 20) (RN 65 Tryz.f65 [] (aA cfg k) (aF cfg (aA cfg k) 20) k)by kernel_rfl).trans (E65 _ _ _ a0)
theorem M65 (a0:List UInt8) {r:V×List Ob} (h:Evt (fun k n=>T65 (aA cfg k) a0) r):Ret 65 [V.str a0] [] r:=aR (g:=fun k n=>T65 (aA cfg k) a0) (fun k=>C65 k a0) h
def Aj (call:FuncId→Fun) (ag0:List UInt8→Int→Int→Option (V×List Ob)) (ag1:List UInt8→Int→Int→Int→Int→Option (V×List Ob)) (s0:List UInt8) (i1:Int) (i2:Int):Option (V×List Ob):=
 if(decide (i2>(0:Int)))=true then
 chk (decide (0≤(IntKind.wrap .i64 (i2 - (1:Int))))) (chk (decide ((IntKind.wrap .i64 (i2 - (1:Int)))<((length s0:Nat):Int))) (Option.bind (call 104 [(V.int .u8 ((UInt8.toNat (getD s0 (Int.toNat (IntKind.wrap .i64 (i2 - (1:Int)))) 0):Nat):Int))] []) fun z0=>
 if(getB z0.1)=true then
 (ag0 (s0) (i1) ((IntKind.wrap .i64 (i2 - (1:Int)))))
 else
 (ag1 (s0) (i1) (i2) (i2) ((0:Int)))))
 else
 (ag1 (s0) (i1) (i2) (i2) ((0:Int)))
def Ak (call:FuncId→Fun) (ag0:List UInt8→Int→Int→Option (V×List Ob)) (ag1:List UInt8→Int→Int→Int→Int→Option (V×List Ob)) (s0:List UInt8) (i1:Int) (i2:Int) (i3:Int) (i4:Int):Option (V×List Ob):=
 if(decide (i4<i3))=true then
 Option.bind (chk (decide (0≤i4)) (chk (decide (i4<((length s0:Nat):Int))) (if(decide (((UInt8.toNat (getD s0 (Int.toNat i4) 0):Nat):Int)<(33:Int)))=false then
 chk (decide (0≤i4)) (chk (decide (i4<((length s0:Nat):Int))) (some (decide (((UInt8.toNat (getD s0 (Int.toNat i4) 0):Nat):Int)>(126:Int)))))
 else
 some true))) fun y0=>
 if y0=true then
 some ((V.tup [(V.str []),(V.int .i64 0),(V.bool false)]),[])
 else
 (ag1 (s0) (i1) (i2) (i3) ((IntKind.wrap .i64 (i4+(1:Int)))))
 else
 chk (decide (0≤i2)) (chk (decide (i2≤((length s0:Nat):Int))) (chk (decide (0≤(0:Int))) (chk (decide ((0:Int)≤i2)) (some ((V.tup [(V.str (drop (Int.toNat (0:Int)) (take (Int.toNat i2) s0))),(V.int .i64 (IntKind.wrap .i64 (i1+(1:Int)))),(V.bool (decide (i2>(0:Int))))]),[])))))
def T66 (call:FuncId→Fun) (ag0:List UInt8→Int→Int→Option (V×List Ob)) (ag1:List UInt8→Int→Int→Int→Int→Option (V×List Ob)) (a0:List UInt8):Option (V×List Ob):=
 Option.bind (call 89 [(V.str a0),(V.int .u8 58)] []) fun z0=>
 if(decide ((getI z0.1)<(0:Int)))=true then
 some ((V.tup [(V.str []),(V.int .i64 0),(V.bool false)]),[])
 else
 (ag0 (a0) ((getI z0.1)) ((getI z0.1)))
def A66 (a0:List UInt8):List V:=[V.str a0]
def uJ (s0:List UInt8) (i1:Int) (i2:Int):St:=⟨[(V.str s0),V.bot,V.bot,V.bot,V.bot,(V.int IntKind.i64 i1),(V.int IntKind.i64 i2)]++List.replicate 39 V.bot,[]⟩
def uK (s0:List UInt8) (i1:Int) (i2:Int) (i3:Int) (i4:Int):St:=⟨[(V.str s0),V.bot,V.bot,V.bot,V.bot,(V.int IntKind.i64 i1),(V.int IntKind.i64 i2),V.bot,V.bot,V.bot,V.bot,V.bot,V.bot,V.bot,V.bot,V.bot,V.bot,V.bot,V.bot,V.bot,V.bot,V.bot,V.bot,V.bot,(V.int IntKind.i64 i3),(V.int IntKind.i64 i4)]++List.replicate 20 V.bot,[]⟩
theorem LJ (s0:List UInt8) (i1:Int) (i2:Int):
 RM 66 Tryz.f66 [] call icall again (aJ Tryz.f66 0) (uJ s0 i1 i2)=Aj call (fun s0 i1 i2=>again (aJ Tryz.f66 0) (uJ s0 i1 i2)) (fun s0 i1 i2 i3 i4=>again (aJ Tryz.f66 1) (uK s0 i1 i2 i3 i4)) s0 i1 i2:=by kernel_rfl
theorem LK (s0:List UInt8) (i1:Int) (i2:Int) (i3:Int) (i4:Int):
 RM 66 Tryz.f66 [] call icall again (aJ Tryz.f66 1) (uK s0 i1 i2 i3 i4)=Ak call (fun s0 i1 i2=>again (aJ Tryz.f66 0) (uJ s0 i1 i2)) (fun s0 i1 i2 i3 i4=>again (aJ Tryz.f66 1) (uK s0 i1 i2 i3 i4)) s0 i1 i2 i3 i4:=by kernel_rfl
theorem E66 (a0:List UInt8):GO 66 Tryz.f66 (A66 a0) [] call icall again=T66 call (fun s0 i1 i2=>again (aJ Tryz.f66 0) (uJ s0 i1 i2)) (fun s0 i1 i2 i3 i4=>again (aJ Tryz.f66 1) (uK s0 i1 i2 i3 i4)) a0:=by kernel_rfl
def L66 (call:FuncId→Fun):Nat→(List UInt8→Int→Int→Option (V×List Ob))×(List UInt8→Int→Int→Int→Int→Option (V×List Ob))
 |0=>⟨fun _ _ _=>none,fun _ _ _ _ _=>none⟩
 |n+1=>⟨Aj call (L66 call n).1 (L66 call n).2,Ak call (L66 call n).1 (L66 call n).2⟩
theorem R66 (call:FuncId→Fun) (icall:aQ (V×List Ob)):∀n,(∀(s0:List UInt8) (i1:Int) (i2:Int),RN 66 Tryz.f66 [] call icall n (aJ Tryz.f66 0) (uJ s0 i1 i2)=(L66 call n).1 s0 i1 i2)∧(∀(s0:List UInt8) (i1:Int) (i2:Int) (i3:Int) (i4:Int),RN 66 Tryz.f66 [] call icall n (aJ Tryz.f66 1) (uK s0 i1 i2 i3 i4)=(L66 call n).2 s0 i1 i2 i3 i4)
 |0=>⟨fun s0 i1 i2=>rfl,fun s0 i1 i2 i3 i4=>rfl⟩
 |n+1=>by
  have ih:=R66 call icall n
  exact⟨fun s0 i1 i2=>(LJ call icall (RN 66 Tryz.f66 [] call icall n) s0 i1 i2).trans (by rw[show(fun s0 i1 i2=>RN 66 Tryz.f66 [] call icall n (aJ Tryz.f66 0) (uJ s0 i1 i2))=(L66 call n).1 from(funext fun s0=>funext fun i1=>funext fun i2=>ih.1 s0 i1 i2),show(fun s0 i1 i2 i3 i4=>RN 66 Tryz.f66 [] call icall n (aJ Tryz.f66 1) (uK s0 i1 i2 i3 i4))=(L66 call n).2 from(funext fun s0=>funext fun i1=>funext fun i2=>funext fun i3=>funext fun i4=>ih.2 s0 i1 i2 i3 i4)];rfl),
   fun s0 i1 i2 i3 i4=>(LK call icall (RN 66 Tryz.f66 [] call icall n) s0 i1 i2 i3 i4).trans (by rw[show(fun s0 i1 i2=>RN 66 Tryz.f66 [] call icall n (aJ Tryz.f66 0) (uJ s0 i1 i2))=(L66 call n).1 from(funext fun s0=>funext fun i1=>funext fun i2=>ih.1 s0 i1 i2),show(fun s0 i1 i2 i3 i4=>RN 66 Tryz.f66 [] call icall n (aJ Tryz.f66 1) (uK s0 i1 i2 i3 i4))=(L66 call n).2 from(funext fun s0=>funext fun i1=>funext fun i2=>funext fun i3=>funext fun i4=>ih.2 s0 i1 i2 i3 i4)];rfl)⟩
theorem C66 (k:Nat) (a0:List UInt8):aA cfg (k+1) 66 (A66 a0) []=T66 (aA cfg k) (L66 (aA cfg k) k).1 (L66 (aA cfg k) k).2 a0:=by
 have ih:=R66 (aA cfg k) (aF cfg (aA cfg k) 20) k
 refine(show aA cfg (k+1) 66 (A66 a0) []=GO 66 Tryz.f66 (A66 a0) [] (aA cfg k) (aF cfg (aA cfg k) 20) (RN 66 Tryz.f66 [] (aA cfg k) (aF cfg (aA cfg k) 20) k)by kernel_rfl).trans ((E66 _ _ _ a0).trans ?_)
 rw[show(fun s0 i1 i2=>RN 66 Tryz.f66 [] (aA cfg k) (aF cfg (aA cfg k) 20) k (aJ Tryz.f66 0) (uJ s0 i1 i2))=(L66 (aA cfg k) k).1 from(funext fun s0=>funext fun i1=>funext fun i2=>ih.1 s0 i1 i2),show(fun s0 i1 i2 i3 i4=>RN 66 Tryz.f66 [] (aA cfg k) (aF cfg (aA cfg k) 20) k (aJ Tryz.f66 1) (uK s0 i1 i2 i3 i4))=(L66 (aA cfg k) k).2 from(funext fun s0=>funext fun i1=>funext fun i2=>funext fun i3=>funext fun i4=>ih.2 s0 i1 i2 i3 i4)]
theorem M66 (a0:List UInt8) {r:V×List Ob} (h:Evt (fun k n=>T66 (aA cfg k) (L66 (aA cfg k) n).1 (L66 (aA cfg k) n).2 a0) r):Ret 66 [V.str a0] [] r:=aR (g:=fun k n=>T66 (aA cfg k) (L66 (aA cfg k) n).1 (L66 (aA cfg k) n).2 a0) (fun k=>C66 k a0) h
theorem GG (s0:List UInt8) (i1:Int) (i2:Int) {r:V×List Ob} (h:Evt (fun k n=>Aj (aA cfg k) (L66 (aA cfg k) n).1 (L66 (aA cfg k) n).2 s0 i1 i2) r):Evt (fun k n=>(L66 (aA cfg k) n).1 s0 i1 i2) r:=bC (fun k n=>rfl) h
theorem GH (s0:List UInt8) (i1:Int) (i2:Int) (i3:Int) (i4:Int) {r:V×List Ob} (h:Evt (fun k n=>Ak (aA cfg k) (L66 (aA cfg k) n).1 (L66 (aA cfg k) n).2 s0 i1 i2 i3 i4) r):Evt (fun k n=>(L66 (aA cfg k) n).2 s0 i1 i2 i3 i4) r:=bC (fun k n=>rfl) h
def T74 (call:FuncId→Fun) (a0:Int) (a1:Int) (a2:Int):Option (V×List Ob):=
 Option.bind (if(decide (a0≥(0:Int)))=true then
 if(decide (a0≤a1))=true then
 some (decide (a1≤a2))
 else
 some false
 else
 some false) fun y0=>
 some ((V.bool y0),[])
def A74 (a0:Int) (a1:Int) (a2:Int):List V:=[V.agg [V.int IntKind.i64 a0,V.int IntKind.i64 a1],V.int IntKind.i64 a2]
theorem E74 (a0:Int) (a1:Int) (a2:Int):GO 74 Tryz.f74 (A74 a0 a1 a2) [] call icall again=T74 call a0 a1 a2:=by kernel_rfl
theorem C74 (k:Nat) (a0:Int) (a1:Int) (a2:Int):aA cfg (k+1) 74 (A74 a0 a1 a2) []=T74 (aA cfg k) a0 a1 a2:=
 (show aA cfg (k+1) 74 (A74 a0 a1 a2) []=GO 74 Tryz.f74 (A74 a0 a1 a2) [] (aA cfg k) (aF cfg (aA cfg k) 20) (RN 74 Tryz.f74 [] (aA cfg k) (aF cfg (aA cfg k) 20) k)by kernel_rfl).trans (E74 _ _ _ a0 a1 a2)
theorem M74 (a0:Int) (a1:Int) (a2:Int) {r:V×List Ob} (h:Evt (fun k n=>T74 (aA cfg k) a0 a1 a2) r):Ret 74 [V.agg [V.int IntKind.i64 a0,V.int IntKind.i64 a1],V.int IntKind.i64 a2] [] r:=aR (g:=fun k n=>T74 (aA cfg k) a0 a1 a2) (fun k=>C74 k a0 a1 a2) h
def xN (call:FuncId→Fun) (ag0:List V→Int→Int→Option (V×List Ob)) (l0:List V) (i1:Int) (i2:Int):Option (V×List Ob):=
 if(decide (i2<i1))=true then
 chk (decide (0≤i2)) (chk (decide (i2<((length l0:Nat):Int))) (Option.bind (call 103 [(V.agg [(V.int .i64 (getI (headD (V.cells (getD l0 (Int.toNat i2) V.bot)) V.bot))),(V.int .i64 (getI (headD (tail (V.cells (getD l0 (Int.toNat i2) V.bot))) V.bot))),(V.int .i64 (getI (headD (tail (tail (V.cells (getD l0 (Int.toNat i2) V.bot)))) V.bot)))])] []) fun z0=>
 if(getB z0.1)=true then
 some ((V.int .i64 i2),[])
 else
 (ag0 (l0) (i1) ((IntKind.wrap .i64 (i2+(1:Int)))))))
 else
 some ((V.int .i64 (-1:Int)),[])
def GI (call:FuncId→Fun) (ag0:List V→Int→Int→Option (V×List Ob)) (a0:List V):Option (V×List Ob):=
 (ag0 (a0) (((length a0:Nat):Int)) ((0:Int)))
def Iw (a0:List V):List V:=[V.lst 134 false a0,V.clo (Fn.func 103) [] []]
def tI (l0:List V) (i1:Int) (i2:Int):St:=⟨[(V.lst 134 false l0),(V.clo (Fn.func 103) [] []),V.bot,V.bot,V.bot,V.bot,V.bot,(V.int IntKind.i64 i1),(V.int IntKind.i64 i2)]++List.replicate 10 V.bot,[]⟩
theorem Kf (l0:List V) (i1:Int) (i2:Int):
 RM 102 Tryz.f102 [] call icall again (aJ Tryz.f102 0) (tI l0 i1 i2)=xN call (fun l0 i1 i2=>again (aJ Tryz.f102 0) (tI l0 i1 i2)) l0 i1 i2:=by kernel_rfl
theorem NC (a0:List V):GO 102 Tryz.f102 (Iw a0) [] call icall again=GI call (fun l0 i1 i2=>again (aJ Tryz.f102 0) (tI l0 i1 i2)) a0:=by kernel_rfl
def xO (call:FuncId→Fun):Nat→(List V→Int→Int→Option (V×List Ob))
 |0=>fun _ _ _=>none
 |n+1=>xN call (xO call n)
theorem LL (call:FuncId→Fun) (icall:aQ (V×List Ob)):∀n,(∀(l0:List V) (i1:Int) (i2:Int),RN 102 Tryz.f102 [] call icall n (aJ Tryz.f102 0) (tI l0 i1 i2)=(xO call n) l0 i1 i2)
 |0=>fun l0 i1 i2=>rfl
 |n+1=>by
  have ih:=LL call icall n
  exact fun l0 i1 i2=>(Kf call icall (RN 102 Tryz.f102 [] call icall n) l0 i1 i2).trans (by rw[show(fun l0 i1 i2=>RN 102 Tryz.f102 [] call icall n (aJ Tryz.f102 0) (tI l0 i1 i2))=(xO call n)from(funext fun l0=>funext fun i1=>funext fun i2=>ih l0 i1 i2)];rfl)
theorem ND (k:Nat) (a0:List V):aA cfg (k+1) 102 (Iw a0) []=GI (aA cfg k) (xO (aA cfg k) k) a0:=by
 have ih:=LL (aA cfg k) (aF cfg (aA cfg k) 20) k
 refine(show aA cfg (k+1) 102 (Iw a0) []=GO 102 Tryz.f102 (Iw a0) [] (aA cfg k) (aF cfg (aA cfg k) 20) (RN 102 Tryz.f102 [] (aA cfg k) (aF cfg (aA cfg k) 20) k)by kernel_rfl).trans ((NC _ _ _ a0).trans ?_)
 rw[show(fun l0 i1 i2=>RN 102 Tryz.f102 [] (aA cfg k) (aF cfg (aA cfg k) 20) k (aJ Tryz.f102 0) (tI l0 i1 i2))=(xO (aA cfg k) k)from(funext fun l0=>funext fun i1=>funext fun i2=>ih l0 i1 i2)]
theorem NE (a0:List V) {r:V×List Ob} (h:Evt (fun k n=>GI (aA cfg k) (xO (aA cfg k) n) a0) r):Ret 102 [V.lst 134 false a0,V.clo (Fn.func 103) [] []] [] r:=aR (g:=fun k n=>GI (aA cfg k) (xO (aA cfg k) n) a0) (fun k=>ND k a0) h
theorem GK (l0:List V) (i1:Int) (i2:Int) {r:V×List Ob} (h:Evt (fun k n=>xN (aA cfg k) (xO (aA cfg k) n) l0 i1 i2) r):Evt (fun k n=>(xO (aA cfg k) n) l0 i1 i2) r:=bC (fun k n=>rfl) h
def GL (call:FuncId→Fun) (a0:Int) (a1:Int) (a2:Int):Option (V×List Ob):=
 some ((V.bool (a0==a1)),[])
def Ix (a0:Int) (a1:Int) (a2:Int):List V:=[V.agg [V.int IntKind.i64 a0,V.int IntKind.i64 a1,V.int IntKind.i64 a2]]
theorem NF (a0:Int) (a1:Int) (a2:Int):GO 103 Tryz.f103 (Ix a0 a1 a2) [] call icall again=GL call a0 a1 a2:=by kernel_rfl
theorem NG (k:Nat) (a0:Int) (a1:Int) (a2:Int):aA cfg (k+1) 103 (Ix a0 a1 a2) []=GL (aA cfg k) a0 a1 a2:=
 (show aA cfg (k+1) 103 (Ix a0 a1 a2) []=GO 103 Tryz.f103 (Ix a0 a1 a2) [] (aA cfg k) (aF cfg (aA cfg k) 20) (RN 103 Tryz.f103 [] (aA cfg k) (aF cfg (aA cfg k) 20) k)by kernel_rfl).trans (NF _ _ _ a0 a1 a2)
theorem NH (a0:Int) (a1:Int) (a2:Int) {r:V×List Ob} (h:Evt (fun k n=>GL (aA cfg k) a0 a1 a2) r):Ret 103 [V.agg [V.int IntKind.i64 a0,V.int IntKind.i64 a1,V.int IntKind.i64 a2]] [] r:=aR (g:=fun k n=>GL (aA cfg k) a0 a1 a2) (fun k=>NG k a0 a1 a2) h
def Cq (call:FuncId→Fun) (ag0:List V→Int→Int→List UInt8→Option (V×List Ob)) (l0:List V) (i1:Int) (i2:Int) (s3:List UInt8):Option (V×List Ob):=
 if(decide (i2<i1))=true then
 chk (decide (0≤i2)) (chk (decide (i2<((length l0:Nat):Int))) (Option.bind (call 68 [(V.agg [(V.str (getS (headD (V.cells (getD l0 (Int.toNat i2) V.bot)) V.bot))),(V.int .i64 (getI (headD (tail (V.cells (getD l0 (Int.toNat i2) V.bot))) V.bot))),(V.int .i64 (getI (headD (tail (tail (V.cells (getD l0 (Int.toNat i2) V.bot)))) V.bot))),(V.int .i64 (getI (headD (tail (tail (tail (V.cells (getD l0 (Int.toNat i2) V.bot))))) V.bot)))]),(V.ref 0 0)] [(Ob.cells [(V.str s3)])]) fun z0=>
 if(getB z0.1)=true then
 some ((V.int .i64 i2),[(Ob.cells [(V.str (getS (headD (Ob.getC (headD z0.2 Ob.dead)) V.bot)))])])
 else
 (ag0 (l0) (i1) ((IntKind.wrap .i64 (i2+(1:Int)))) ((getS (headD (Ob.getC (headD z0.2 Ob.dead)) V.bot))))))
 else
 some ((V.int .i64 (-1:Int)),[(Ob.cells [(V.str s3)])])
def T67 (call:FuncId→Fun) (ag0:List V→Int→Int→List UInt8→Option (V×List Ob)) (a0:List V) (a1:List UInt8):Option (V×List Ob):=
 (ag0 (a0) (((length a0:Nat):Int)) ((0:Int)) (a1))
def O67 (a1:List UInt8):List Ob:=[Ob.cells [V.str a1]]
def A67 (a0:List V):List V:=[V.lst 91 false a0,V.clo (Fn.func 68) [] [V.ref 0 0]]
def Al (l0:List V) (i1:Int) (i2:Int) (s3:List UInt8):St:=⟨[(V.lst 91 false l0),(V.clo (Fn.func 68) [] [(V.ref 0 0)]),V.bot,V.bot,V.bot,V.bot,V.bot,(V.int IntKind.i64 i1),(V.int IntKind.i64 i2)]++List.replicate 10 V.bot,[(Ob.cells [(V.str s3)])]⟩
theorem LM (a1:List UInt8) (l0:List V) (i1:Int) (i2:Int) (s3:List UInt8):
 RM 67 Tryz.f67 (O67 a1) call icall again (aJ Tryz.f67 0) (Al l0 i1 i2 s3)=Cq call (fun l0 i1 i2 s3=>again (aJ Tryz.f67 0) (Al l0 i1 i2 s3)) l0 i1 i2 s3:=by kernel_rfl
theorem E67 (a0:List V) (a1:List UInt8):GO 67 Tryz.f67 (A67 a0) (O67 a1) call icall again=T67 call (fun l0 i1 i2 s3=>again (aJ Tryz.f67 0) (Al l0 i1 i2 s3)) a0 a1:=by kernel_rfl
def L67 (call:FuncId→Fun):Nat→(List V→Int→Int→List UInt8→Option (V×List Ob))
 |0=>fun _ _ _ _=>none
 |n+1=>Cq call (L67 call n)
theorem R67 (call:FuncId→Fun) (icall:aQ (V×List Ob)) (a1:List UInt8):∀n,(∀(l0:List V) (i1:Int) (i2:Int) (s3:List UInt8),RN 67 Tryz.f67 (O67 a1) call icall n (aJ Tryz.f67 0) (Al l0 i1 i2 s3)=(L67 call n) l0 i1 i2 s3)
 |0=>fun l0 i1 i2 s3=>rfl
 |n+1=>by
  have ih:=R67 call icall a1 n
  exact fun l0 i1 i2 s3=>(LM call icall (RN 67 Tryz.f67 (O67 a1) call icall n) a1 l0 i1 i2 s3).trans (by rw[show(fun l0 i1 i2 s3=>RN 67 Tryz.f67 (O67 a1) call icall n (aJ Tryz.f67 0) (Al l0 i1 i2 s3))=(L67 call n)from(funext fun l0=>funext fun i1=>funext fun i2=>funext fun s3=>ih l0 i1 i2 s3)];rfl)
theorem C67 (k:Nat) (a0:List V) (a1:List UInt8):aA cfg (k+1) 67 (A67 a0) (O67 a1)=T67 (aA cfg k) (L67 (aA cfg k) k) a0 a1:=by
 have ih:=R67 (aA cfg k) (aF cfg (aA cfg k) 20) a1 k
 refine(show aA cfg (k+1) 67 (A67 a0) (O67 a1)=GO 67 Tryz.f67 (A67 a0) (O67 a1) (aA cfg k) (aF cfg (aA cfg k) 20) (RN 67 Tryz.f67 (O67 a1) (aA cfg k) (aF cfg (aA cfg k) 20) k)by kernel_rfl).trans ((E67 _ _ _ a0 a1).trans ?_)
 rw[show(fun l0 i1 i2 s3=>RN 67 Tryz.f67 (O67 a1) (aA cfg k) (aF cfg (aA cfg k) 20) k (aJ Tryz.f67 0) (Al l0 i1 i2 s3))=(L67 (aA cfg k) k)from(funext fun l0=>funext fun i1=>funext fun i2=>funext fun s3=>ih l0 i1 i2 s3)]
theorem M67 (a0:List V) (a1:List UInt8) {r:V×List Ob} (h:Evt (fun k n=>T67 (aA cfg k) (L67 (aA cfg k) n) a0 a1) r):Ret 67 [V.lst 91 false a0,V.clo (Fn.func 68) [] [V.ref 0 0]] [Ob.cells [V.str a1]] r:=aR (g:=fun k n=>T67 (aA cfg k) (L67 (aA cfg k) n) a0 a1) (fun k=>C67 k a0 a1) h
theorem I9 (l0:List V) (i1:Int) (i2:Int) (s3:List UInt8) {r:V×List Ob} (h:Evt (fun k n=>Cq (aA cfg k) (L67 (aA cfg k) n) l0 i1 i2 s3) r):Evt (fun k n=>(L67 (aA cfg k) n) l0 i1 i2 s3) r:=bC (fun k n=>rfl) h
def T68 (call:FuncId→Fun) (a0:List UInt8) (a1:Int) (a2:Int) (a3:Int) (a4:List UInt8):Option (V×List Ob):=
 Option.bind (call 69 [(V.str a0),(V.str a4)] []) fun z0=>
 some ((V.bool (getB z0.1)),[(Ob.cells [(V.str a4)])])
def O68 (a4:List UInt8):List Ob:=[Ob.cells [V.str a4]]
def A68 (a0:List UInt8) (a1:Int) (a2:Int) (a3:Int):List V:=[V.agg [V.str a0,V.int IntKind.i64 a1,V.int IntKind.i64 a2,V.int IntKind.i64 a3],V.ref 0 0]
theorem E68 (a0:List UInt8) (a1:Int) (a2:Int) (a3:Int) (a4:List UInt8):GO 68 Tryz.f68 (A68 a0 a1 a2 a3) (O68 a4) call icall again=T68 call a0 a1 a2 a3 a4:=by kernel_rfl
theorem C68 (k:Nat) (a0:List UInt8) (a1:Int) (a2:Int) (a3:Int) (a4:List UInt8):aA cfg (k+1) 68 (A68 a0 a1 a2 a3) (O68 a4)=T68 (aA cfg k) a0 a1 a2 a3 a4:=
 (show aA cfg (k+1) 68 (A68 a0 a1 a2 a3) (O68 a4)=GO 68 Tryz.f68 (A68 a0 a1 a2 a3) (O68 a4) (aA cfg k) (aF cfg (aA cfg k) 20) (RN 68 Tryz.f68 (O68 a4) (aA cfg k) (aF cfg (aA cfg k) 20) k)by kernel_rfl).trans (E68 _ _ _ a0 a1 a2 a3 a4)
theorem M68 (a0:List UInt8) (a1:Int) (a2:Int) (a3:Int) (a4:List UInt8) {r:V×List Ob} (h:Evt (fun k n=>T68 (aA cfg k) a0 a1 a2 a3 a4) r):Ret 68 [V.agg [V.str a0,V.int IntKind.i64 a1,V.int IntKind.i64 a2,V.int IntKind.i64 a3],V.ref 0 0] [Ob.cells [V.str a4]] r:=aR (g:=fun k n=>T68 (aA cfg k) a0 a1 a2 a3 a4) (fun k=>C68 k a0 a1 a2 a3 a4) h
def T27 (call:FuncId→Fun) (a0:List V) (a1:List UInt8):Option (V×List Ob):=
 Option.bind (call 54 [(V.ref 0 0)] [(Ob.cells [(V.opt 0 0),(V.lst 5 true a0)])]) fun z0=>
 chk (fE (getL (headD (tail (Ob.getC (headD z0.2 Ob.dead))) V.bot)) a1 2) (some ((V.tup [(V.int .i64 ((length a1:Nat):Int)),(V.raw (Value.nilIface))]),[(Ob.cells [(V.opt 0 0),(V.lst 5 true ((getL (headD (tail (Ob.getC (headD z0.2 Ob.dead))) V.bot))++(ofBytes a1)))])]))
def O27 (a0:List V):List Ob:=[Ob.cells [V.opt 0 0,V.lst 5 true a0]]
def A27 (a1:List UInt8):List V:=[V.ref 0 0,V.str a1]
theorem E27 (a0:List V) (a1:List UInt8):GO 27 Tryz.f27 (A27 a1) (O27 a0) call icall again=T27 call a0 a1:=by kernel_rfl
theorem C27 (k:Nat) (a0:List V) (a1:List UInt8):aA cfg (k+1) 27 (A27 a1) (O27 a0)=T27 (aA cfg k) a0 a1:=
 (show aA cfg (k+1) 27 (A27 a1) (O27 a0)=GO 27 Tryz.f27 (A27 a1) (O27 a0) (aA cfg k) (aF cfg (aA cfg k) 20) (RN 27 Tryz.f27 (O27 a0) (aA cfg k) (aF cfg (aA cfg k) 20) k)by kernel_rfl).trans (E27 _ _ _ a0 a1)
theorem M27 (a0:List V) (a1:List UInt8) {r:V×List Ob} (h:Evt (fun k n=>T27 (aA cfg k) a0 a1) r):Ret 27 [V.ref 0 0,V.str a1] [Ob.cells [V.opt 0 0,V.lst 5 true a0]] r:=aR (g:=fun k n=>T27 (aA cfg k) a0 a1) (fun k=>C27 k a0 a1) h
def Cr (call:FuncId→Fun) (ag0:List V→List V→Int→Int→List UInt8→Int→Int→Int→List V→Option (V×List Ob)) (l0:List V) (l1:List V) (i2:Int) (i3:Int) (s4:List UInt8) (i5:Int) (i6:Int) (i7:Int) (l8:List V):Option (V×List Ob):=
 if(decide (i3<i2))=true then
 chk (decide (0≤i3)) (chk (decide (i3<((length l1:Nat):Int))) (Option.bind (call 64 [(V.lst 5 false l0),(V.agg [(V.int .i64 (getI (headD (V.cells (getD l1 (Int.toNat i3) V.bot)) V.bot))),(V.int .i64 (getI (headD (tail (V.cells (getD l1 (Int.toNat i3) V.bot))) V.bot))),(V.int .i64 (getI (headD (tail (tail (V.cells (getD l1 (Int.toNat i3) V.bot)))) V.bot)))])] []) fun z0=>
 Option.bind (call 27 [(V.ref 0 0),(V.str (getS z0.1))] [(Ob.cells [(V.opt 0 0),(V.lst 5 true l8)])]) fun z1=>
 (ag0 (l0) (l1) (i2) ((IntKind.wrap .i64 (i3+(1:Int)))) (s4) (i5) (i6) (i7) ((getL (headD (tail (Ob.getC (headD z1.2 Ob.dead))) V.bot))))))
 else
 Option.bind (call 29 [(V.ref 0 0)] [(Ob.cells [(V.opt 0 0),(V.lst 5 true l8)])]) fun z0=>
 Option.bind (call 105 [(V.str (getS z0.1))] []) fun z1=>
 some ((V.str (getS z1.1)),[])
def T70 (call:FuncId→Fun) (ag0:List V→List V→Int→Int→List UInt8→Int→Int→Int→List V→Option (V×List Ob)) (a0:List V) (a1:List UInt8) (a2:Int) (a3:Int) (a4:Int):Option (V×List Ob):=
 Option.bind (call 62 [(V.lst 5 false a0),(V.agg [(V.int .i64 a3),(V.int .i64 a4)])] []) fun z0=>
 (ag0 (a0) ((getL z0.1)) (((length (getL z0.1):Nat):Int)) ((0:Int)) (a1) (a2) (a3) (a4) ([]))
def A70 (a0:List V) (a1:List UInt8) (a2:Int) (a3:Int) (a4:Int):List V:=[V.lst 5 false a0,V.agg [V.str a1,V.int IntKind.i64 a2,V.int IntKind.i64 a3,V.int IntKind.i64 a4]]
def Am (l0:List V) (l1:List V) (i2:Int) (i3:Int) (s4:List UInt8) (i5:Int) (i6:Int) (i7:Int) (l8:List V):St:=⟨[(V.lst 5 false l0),V.bot,V.bot,V.bot,V.bot,(V.ref 1 0),V.bot,V.bot,V.bot,V.bot,V.bot,V.bot,V.bot,V.bot,(V.lst 134 false l1),(V.int IntKind.i64 i2),(V.int IntKind.i64 i3)]++List.replicate 10 V.bot,[(Ob.cells [(V.str s4),(V.int IntKind.i64 i5),(V.int IntKind.i64 i6),(V.int IntKind.i64 i7)]),(Ob.cells [(V.opt 1 0),(V.lst 5 true l8)])]⟩
theorem LN (l0:List V) (l1:List V) (i2:Int) (i3:Int) (s4:List UInt8) (i5:Int) (i6:Int) (i7:Int) (l8:List V):
 RM 70 Tryz.f70 [] call icall again (aJ Tryz.f70 0) (Am l0 l1 i2 i3 s4 i5 i6 i7 l8)=Cr call (fun l0 l1 i2 i3 s4 i5 i6 i7 l8=>again (aJ Tryz.f70 0) (Am l0 l1 i2 i3 s4 i5 i6 i7 l8)) l0 l1 i2 i3 s4 i5 i6 i7 l8:=by kernel_rfl
theorem E70 (a0:List V) (a1:List UInt8) (a2:Int) (a3:Int) (a4:Int):GO 70 Tryz.f70 (A70 a0 a1 a2 a3 a4) [] call icall again=T70 call (fun l0 l1 i2 i3 s4 i5 i6 i7 l8=>again (aJ Tryz.f70 0) (Am l0 l1 i2 i3 s4 i5 i6 i7 l8)) a0 a1 a2 a3 a4:=by kernel_rfl
def L70 (call:FuncId→Fun):Nat→(List V→List V→Int→Int→List UInt8→Int→Int→Int→List V→Option (V×List Ob))
 |0=>fun _ _ _ _ _ _ _ _ _=>none
 |n+1=>Cr call (L70 call n)
theorem R70 (call:FuncId→Fun) (icall:aQ (V×List Ob)):∀n,(∀(l0:List V) (l1:List V) (i2:Int) (i3:Int) (s4:List UInt8) (i5:Int) (i6:Int) (i7:Int) (l8:List V),RN 70 Tryz.f70 [] call icall n (aJ Tryz.f70 0) (Am l0 l1 i2 i3 s4 i5 i6 i7 l8)=(L70 call n) l0 l1 i2 i3 s4 i5 i6 i7 l8)
 |0=>fun l0 l1 i2 i3 s4 i5 i6 i7 l8=>rfl
 |n+1=>by
  have ih:=R70 call icall n
  exact fun l0 l1 i2 i3 s4 i5 i6 i7 l8=>(LN call icall (RN 70 Tryz.f70 [] call icall n) l0 l1 i2 i3 s4 i5 i6 i7 l8).trans (by rw[show(fun l0 l1 i2 i3 s4 i5 i6 i7 l8=>RN 70 Tryz.f70 [] call icall n (aJ Tryz.f70 0) (Am l0 l1 i2 i3 s4 i5 i6 i7 l8))=(L70 call n)from(funext fun l0=>funext fun l1=>funext fun i2=>funext fun i3=>funext fun s4=>funext fun i5=>funext fun i6=>funext fun i7=>funext fun l8=>ih l0 l1 i2 i3 s4 i5 i6 i7 l8)];rfl)
theorem C70 (k:Nat) (a0:List V) (a1:List UInt8) (a2:Int) (a3:Int) (a4:Int):aA cfg (k+1) 70 (A70 a0 a1 a2 a3 a4) []=T70 (aA cfg k) (L70 (aA cfg k) k) a0 a1 a2 a3 a4:=by
 have ih:=R70 (aA cfg k) (aF cfg (aA cfg k) 20) k
 refine(show aA cfg (k+1) 70 (A70 a0 a1 a2 a3 a4) []=GO 70 Tryz.f70 (A70 a0 a1 a2 a3 a4) [] (aA cfg k) (aF cfg (aA cfg k) 20) (RN 70 Tryz.f70 [] (aA cfg k) (aF cfg (aA cfg k) 20) k)by kernel_rfl).trans ((E70 _ _ _ a0 a1 a2 a3 a4).trans ?_)
 rw[show(fun l0 l1 i2 i3 s4 i5 i6 i7 l8=>RN 70 Tryz.f70 [] (aA cfg k) (aF cfg (aA cfg k) 20) k (aJ Tryz.f70 0) (Am l0 l1 i2 i3 s4 i5 i6 i7 l8))=(L70 (aA cfg k) k)from(funext fun l0=>funext fun l1=>funext fun i2=>funext fun i3=>funext fun s4=>funext fun i5=>funext fun i6=>funext fun i7=>funext fun l8=>ih l0 l1 i2 i3 s4 i5 i6 i7 l8)]
theorem M70 (a0:List V) (a1:List UInt8) (a2:Int) (a3:Int) (a4:Int) {r:V×List Ob} (h:Evt (fun k n=>T70 (aA cfg k) (L70 (aA cfg k) n) a0 a1 a2 a3 a4) r):Ret 70 [V.lst 5 false a0,V.agg [V.str a1,V.int IntKind.i64 a2,V.int IntKind.i64 a3,V.int IntKind.i64 a4]] [] r:=aR (g:=fun k n=>T70 (aA cfg k) (L70 (aA cfg k) n) a0 a1 a2 a3 a4) (fun k=>C70 k a0 a1 a2 a3 a4) h
theorem Ja (l0:List V) (l1:List V) (i2:Int) (i3:Int) (s4:List UInt8) (i5:Int) (i6:Int) (i7:Int) (l8:List V) {r:V×List Ob} (h:Evt (fun k n=>Cr (aA cfg k) (L70 (aA cfg k) n) l0 l1 i2 i3 s4 i5 i6 i7 l8) r):Evt (fun k n=>(L70 (aA cfg k) n) l0 l1 i2 i3 s4 i5 i6 i7 l8) r:=bC (fun k n=>rfl) h
def T33 (call:FuncId→Fun) (a0:List V) (a1:List UInt8):Option (V×List Ob):=
 Option.bind (call 67 [(V.lst 91 false a0),(V.clo (Fn.func 68) [] [(V.ref 0 0)])] [(Ob.cells [(V.str a1)])]) fun z0=>
 if(decide ((getI z0.1)<(0:Int)))=true then
 some ((V.tup [(V.agg [(V.str []),(V.int .i64 0),(V.int .i64 0),(V.int .i64 0)]),(V.bool false)]),[])
 else
 chk (decide (0≤(getI z0.1))) (chk (decide ((getI z0.1)<((length a0:Nat):Int))) (some ((V.tup [(V.agg [(V.str (getS (headD (V.cells (getD a0 (Int.toNat (getI z0.1)) V.bot)) V.bot))),(V.int .i64 (getI (headD (tail (V.cells (getD a0 (Int.toNat (getI z0.1)) V.bot))) V.bot))),(V.int .i64 (getI (headD (tail (tail (V.cells (getD a0 (Int.toNat (getI z0.1)) V.bot)))) V.bot))),(V.int .i64 (getI (headD (tail (tail (tail (V.cells (getD a0 (Int.toNat (getI z0.1)) V.bot))))) V.bot)))]),(V.bool true)]),[])))
def A33 (a0:List V) (a1:List UInt8):List V:=[V.lst 91 false a0,V.str a1]
theorem E33 (a0:List V) (a1:List UInt8):GO 33 Tryz.f33 (A33 a0 a1) [] call icall again=T33 call a0 a1:=by kernel_rfl
theorem C33 (k:Nat) (a0:List V) (a1:List UInt8):aA cfg (k+1) 33 (A33 a0 a1) []=T33 (aA cfg k) a0 a1:=
 (show aA cfg (k+1) 33 (A33 a0 a1) []=GO 33 Tryz.f33 (A33 a0 a1) [] (aA cfg k) (aF cfg (aA cfg k) 20) (RN 33 Tryz.f33 [] (aA cfg k) (aF cfg (aA cfg k) 20) k)by kernel_rfl).trans (E33 _ _ _ a0 a1)
theorem M33 (a0:List V) (a1:List UInt8) {r:V×List Ob} (h:Evt (fun k n=>T33 (aA cfg k) a0 a1) r):Ret 33 [V.lst 91 false a0,V.str a1] [] r:=aR (g:=fun k n=>T33 (aA cfg k) a0 a1) (fun k=>C33 k a0 a1) h
def T34 (call:FuncId→Fun) (a0:List V) (a1:List V) (a2:List UInt8):Option (V×List Ob):=
 Option.bind (call 33 [(V.lst 91 false a1),(V.str a2)] []) fun z0=>
 if(!(getB (headD (tail (getT z0.1)) V.bot)))=true then
 some ((V.str []),[])
 else
 Option.bind (call 70 [(V.lst 5 false a0),(V.agg [(V.str (getS (headD (V.cells (headD (getT z0.1) V.bot)) V.bot))),(V.int .i64 (getI (headD (tail (V.cells (headD (getT z0.1) V.bot))) V.bot))),(V.int .i64 (getI (headD (tail (tail (V.cells (headD (getT z0.1) V.bot)))) V.bot))),(V.int .i64 (getI (headD (tail (tail (tail (V.cells (headD (getT z0.1) V.bot))))) V.bot)))])] []) fun z1=>
 some ((V.str (getS z1.1)),[])
def A34 (a0:List V) (a1:List V) (a2:List UInt8):List V:=[V.lst 5 false a0,V.lst 91 false a1,V.str a2]
theorem E34 (a0:List V) (a1:List V) (a2:List UInt8):GO 34 Tryz.f34 (A34 a0 a1 a2) [] call icall again=T34 call a0 a1 a2:=by kernel_rfl
theorem C34 (k:Nat) (a0:List V) (a1:List V) (a2:List UInt8):aA cfg (k+1) 34 (A34 a0 a1 a2) []=T34 (aA cfg k) a0 a1 a2:=
 (show aA cfg (k+1) 34 (A34 a0 a1 a2) []=GO 34 Tryz.f34 (A34 a0 a1 a2) [] (aA cfg k) (aF cfg (aA cfg k) 20) (RN 34 Tryz.f34 [] (aA cfg k) (aF cfg (aA cfg k) 20) k)by kernel_rfl).trans (E34 _ _ _ a0 a1 a2)
theorem M34 (a0:List V) (a1:List V) (a2:List UInt8) {r:V×List Ob} (h:Evt (fun k n=>T34 (aA cfg k) a0 a1 a2) r):Ret 34 [V.lst 5 false a0,V.lst 91 false a1,V.str a2] [] r:=aR (g:=fun k n=>T34 (aA cfg k) a0 a1 a2) (fun k=>C34 k a0 a1 a2) h
def Cs (call:FuncId→Fun) (ag0:List V→Int→List V→Bool→List V→Int→Int→Option (V×List Ob)) (l0:List V) (i1:Int) (o2:List V) (b3:Bool) (l4:List V) (i5:Int) (i6:Int):Option (V×List Ob):=
 if(decide (i6<i5))=true then
 chk (decide (0≤i6)) (chk (decide (i6<((length l4:Nat):Int))) (Option.bind (call 64 [(V.lst 5 false l0),(V.agg [(V.int .i64 (getI (headD (V.cells (getD l4 (Int.toNat i6) V.bot)) V.bot))),(V.int .i64 (getI (headD (tail (V.cells (getD l4 (Int.toNat i6) V.bot))) V.bot))),(V.int .i64 (getI (headD (tail (tail (V.cells (getD l4 (Int.toNat i6) V.bot)))) V.bot)))])] []) fun z0=>
 Option.bind (call 65 [(V.str (getS z0.1))] []) fun z1=>
 if(getB z1.1)=true then
 if b3=true then
 chk (decide (0≤(IntKind.wrap .i64 (((length o2:Nat):Int) - (1:Int))))) (chk (decide ((IntKind.wrap .i64 (((length o2:Nat):Int) - (1:Int)))<((length o2:Nat):Int))) ((ag0 (l0) (i1) ((List.set o2 (Int.toNat (IntKind.wrap .i64 (((length o2:Nat):Int) - (1:Int)))) (V.agg [(V.str (getS (headD (V.cells (getD o2 (Int.toNat (IntKind.wrap .i64 (((length o2:Nat):Int) - (1:Int)))) V.bot)) V.bot))),(V.int .i64 (getI (headD (tail (V.cells (getD o2 (Int.toNat (IntKind.wrap .i64 (((length o2:Nat):Int) - (1:Int)))) V.bot))) V.bot))),(V.int .i64 (getI (headD (tail (tail (V.cells (getD o2 (Int.toNat (IntKind.wrap .i64 (((length o2:Nat):Int) - (1:Int)))) V.bot)))) V.bot))),(V.int .i64 (getI (headD (tail (tail (V.cells (getD l4 (Int.toNat i6) V.bot)))) V.bot)))]))) (b3) (l4) (i5) ((IntKind.wrap .i64 (i6+(1:Int)))))))
 else
 (ag0 (l0) (i1) (o2) (b3) (l4) (i5) ((IntKind.wrap .i64 (i6+(1:Int)))))
 else
 Option.bind (call 66 [(V.str (getS z0.1))] []) fun z2=>
 if(getB (headD (tail (tail (getT z2.1))) V.bot))=true then
 chk (cZ o2 [(V.agg [(V.str (getS (headD (getT z2.1) V.bot))),(V.int .i64 (getI (headD (V.cells (getD l4 (Int.toNat i6) V.bot)) V.bot))),(V.int .i64 (IntKind.wrap .i64 ((getI (headD (V.cells (getD l4 (Int.toNat i6) V.bot)) V.bot))+(getI (headD (tail (getT z2.1)) V.bot))))),(V.int .i64 (getI (headD (tail (tail (V.cells (getD l4 (Int.toNat i6) V.bot)))) V.bot)))])] 41) ((ag0 (l0) (i1) ((o2++[(V.agg [(V.str (getS (headD (getT z2.1) V.bot))),(V.int .i64 (getI (headD (V.cells (getD l4 (Int.toNat i6) V.bot)) V.bot))),(V.int .i64 (IntKind.wrap .i64 ((getI (headD (V.cells (getD l4 (Int.toNat i6) V.bot)) V.bot))+(getI (headD (tail (getT z2.1)) V.bot))))),(V.int .i64 (getI (headD (tail (tail (V.cells (getD l4 (Int.toNat i6) V.bot)))) V.bot)))])])) ((getB (headD (tail (tail (getT z2.1))) V.bot))) (l4) (i5) ((IntKind.wrap .i64 (i6+(1:Int))))))
 else
 (ag0 (l0) (i1) (o2) ((getB (headD (tail (tail (getT z2.1))) V.bot))) (l4) (i5) ((IntKind.wrap .i64 (i6+(1:Int)))))))
 else
 some ((V.tup [(V.lst 91 false o2),(V.int .i64 i1)]),[])
def T32 (call:FuncId→Fun) (ag0:List V→Int→List V→Bool→List V→Int→Int→Option (V×List Ob)) (a0:List V) (a1:Int) (a2:Int):Option (V×List Ob):=
 Option.bind (call 62 [(V.lst 5 false a0),(V.agg [(V.int .i64 a1),(V.int .i64 a2)])] []) fun z0=>
 if(((length (getL z0.1):Nat):Int)==(0:Int))=true then
 some ((V.tup [(V.lst 91 false []),(V.int .i64 a1)]),[])
 else
 chk (decide (0≤(IntKind.wrap .i64 (((length (getL z0.1):Nat):Int) - (1:Int))))) (chk (decide ((IntKind.wrap .i64 (((length (getL z0.1):Nat):Int) - (1:Int)))<((length (getL z0.1):Nat):Int))) (Option.bind (call 63 [(V.lst 134 false (getL z0.1))] []) fun z1=>
 if(decide ((getI z1.1)≥(0:Int)))=true then
 chk (decide (0≤(getI z1.1))) (chk (decide ((getI z1.1)<((length (getL z0.1):Nat):Int))) (chk (decide (0≤(getI z1.1))) (chk (decide ((getI z1.1)≤((length (getL z0.1):Nat):Int))) (chk (decide (0≤(0:Int))) (chk (decide ((0:Int)≤(getI z1.1))) ((ag0 (a0) ((getI (headD (tail (tail (V.cells (getD (getL z0.1) (Int.toNat (getI z1.1)) V.bot)))) V.bot))) ([]) (false) ((drop (Int.toNat (0:Int)) (take (Int.toNat (getI z1.1)) (getL z0.1)))) (((length (drop (Int.toNat (0:Int)) (take (Int.toNat (getI z1.1)) (getL z0.1))):Nat):Int)) ((0:Int)))))))))
 else
 (ag0 (a0) ((getI (headD (tail (tail (V.cells (getD (getL z0.1) (Int.toNat (IntKind.wrap .i64 (((length (getL z0.1):Nat):Int) - (1:Int)))) V.bot)))) V.bot))) ([]) (false) ((getL z0.1)) (((length (getL z0.1):Nat):Int)) ((0:Int)))))
def A32 (a0:List V) (a1:Int) (a2:Int):List V:=[V.lst 5 false a0,V.agg [V.int IntKind.i64 a1,V.int IntKind.i64 a2]]
def An (l0:List V) (i1:Int) (o2:List V) (b3:Bool) (l4:List V) (i5:Int) (i6:Int):St:=⟨[(V.lst 5 false l0),V.bot,V.bot,V.bot,V.bot,V.bot,V.bot,(V.int IntKind.i64 i1),V.bot,(V.own 91 o2),(V.bool b3),V.bot,V.bot,V.bot,V.bot,V.bot,V.bot,V.bot,V.bot,V.bot,V.bot,V.bot,V.bot,V.bot,V.bot,V.bot,V.bot,V.bot,V.bot,V.bot,V.bot,V.bot,V.bot,V.bot,V.bot,V.bot,V.bot,V.bot,V.bot,V.bot,V.bot,V.bot,V.bot,V.bot,(V.lst 134 false l4),(V.int IntKind.i64 i5),(V.int IntKind.i64 i6)]++List.replicate 41 V.bot,[]⟩
theorem LO (l0:List V) (i1:Int) (o2:List V) (b3:Bool) (l4:List V) (i5:Int) (i6:Int):
 RM 32 Tryz.f32 [] call icall again (aJ Tryz.f32 0) (An l0 i1 o2 b3 l4 i5 i6)=Cs call (fun l0 i1 o2 b3 l4 i5 i6=>again (aJ Tryz.f32 0) (An l0 i1 o2 b3 l4 i5 i6)) l0 i1 o2 b3 l4 i5 i6:=by kernel_rfl
theorem E32 (a0:List V) (a1:Int) (a2:Int):GO 32 Tryz.f32 (A32 a0 a1 a2) [] call icall again=T32 call (fun l0 i1 o2 b3 l4 i5 i6=>again (aJ Tryz.f32 0) (An l0 i1 o2 b3 l4 i5 i6)) a0 a1 a2:=by kernel_rfl
def L32 (call:FuncId→Fun):Nat→(List V→Int→List V→Bool→List V→Int→Int→Option (V×List Ob))
 |0=>fun _ _ _ _ _ _ _=>none
 |n+1=>Cs call (L32 call n)
theorem R32 (call:FuncId→Fun) (icall:aQ (V×List Ob)):∀n,(∀(l0:List V) (i1:Int) (o2:List V) (b3:Bool) (l4:List V) (i5:Int) (i6:Int),RN 32 Tryz.f32 [] call icall n (aJ Tryz.f32 0) (An l0 i1 o2 b3 l4 i5 i6)=(L32 call n) l0 i1 o2 b3 l4 i5 i6)
 |0=>fun l0 i1 o2 b3 l4 i5 i6=>rfl
 |n+1=>by
  have ih:=R32 call icall n
  exact fun l0 i1 o2 b3 l4 i5 i6=>(LO call icall (RN 32 Tryz.f32 [] call icall n) l0 i1 o2 b3 l4 i5 i6).trans (by rw[show(fun l0 i1 o2 b3 l4 i5 i6=>RN 32 Tryz.f32 [] call icall n (aJ Tryz.f32 0) (An l0 i1 o2 b3 l4 i5 i6))=(L32 call n)from(funext fun l0=>funext fun i1=>funext fun o2=>funext fun b3=>funext fun l4=>funext fun i5=>funext fun i6=>ih l0 i1 o2 b3 l4 i5 i6)];rfl)
theorem C32 (k:Nat) (a0:List V) (a1:Int) (a2:Int):aA cfg (k+1) 32 (A32 a0 a1 a2) []=T32 (aA cfg k) (L32 (aA cfg k) k) a0 a1 a2:=by
 have ih:=R32 (aA cfg k) (aF cfg (aA cfg k) 20) k
 refine(show aA cfg (k+1) 32 (A32 a0 a1 a2) []=GO 32 Tryz.f32 (A32 a0 a1 a2) [] (aA cfg k) (aF cfg (aA cfg k) 20) (RN 32 Tryz.f32 [] (aA cfg k) (aF cfg (aA cfg k) 20) k)by kernel_rfl).trans ((E32 _ _ _ a0 a1 a2).trans ?_)
 rw[show(fun l0 i1 o2 b3 l4 i5 i6=>RN 32 Tryz.f32 [] (aA cfg k) (aF cfg (aA cfg k) 20) k (aJ Tryz.f32 0) (An l0 i1 o2 b3 l4 i5 i6))=(L32 (aA cfg k) k)from(funext fun l0=>funext fun i1=>funext fun o2=>funext fun b3=>funext fun l4=>funext fun i5=>funext fun i6=>ih l0 i1 o2 b3 l4 i5 i6)]
theorem M32 (a0:List V) (a1:Int) (a2:Int) {r:V×List Ob} (h:Evt (fun k n=>T32 (aA cfg k) (L32 (aA cfg k) n) a0 a1 a2) r):Ret 32 [V.lst 5 false a0,V.agg [V.int IntKind.i64 a1,V.int IntKind.i64 a2]] [] r:=aR (g:=fun k n=>T32 (aA cfg k) (L32 (aA cfg k) n) a0 a1 a2) (fun k=>C32 k a0 a1 a2) h
theorem Jb (l0:List V) (i1:Int) (o2:List V) (b3:Bool) (l4:List V) (i5:Int) (i6:Int) {r:V×List Ob} (h:Evt (fun k n=>Cs (aA cfg k) (L32 (aA cfg k) n) l0 i1 o2 b3 l4 i5 i6) r):Evt (fun k n=>(L32 (aA cfg k) n) l0 i1 o2 b3 l4 i5 i6) r:=bC (fun k n=>rfl) h
def GM (call:FuncId→Fun) (a0:List UInt8) (a1:List UInt8):Option (V×List Ob):=
 Option.bind (if(decide (((length a0:Nat):Int)<(IntKind.wrap .i64 ((2:Int)+((length a1:Nat):Int)))))=false then
 chk (decide (0≤(IntKind.wrap .i64 ((2:Int)+((length a1:Nat):Int))))) (chk (decide ((IntKind.wrap .i64 ((2:Int)+((length a1:Nat):Int)))≤((length a0:Nat):Int))) (chk (decide (0≤(0:Int))) (chk (decide ((0:Int)≤(IntKind.wrap .i64 ((2:Int)+((length a1:Nat):Int))))) (chk (eV [45,45] a1) (some (!(sEq (drop (Int.toNat (0:Int)) (take (Int.toNat (IntKind.wrap .i64 ((2:Int)+((length a1:Nat):Int)))) a0)) ([45,45]++a1))))))))
 else
 some true) fun y0=>
 if y0=true then
 some ((V.tup [(V.bool false),(V.bool false)]),[])
 else
 chk (decide (0≤(IntKind.wrap .i64 ((2:Int)+((length a1:Nat):Int))))) (chk (decide ((IntKind.wrap .i64 ((2:Int)+((length a1:Nat):Int)))≤((length a0:Nat):Int))) (Option.bind (call 135 [(V.str (drop (Int.toNat (IntKind.wrap .i64 ((2:Int)+((length a1:Nat):Int)))) a0))] []) fun z1=>
 if(getB z1.1)=true then
 some ((V.tup [(V.bool true),(V.bool false)]),[])
 else
 if(decide (((length (drop (Int.toNat (IntKind.wrap .i64 ((2:Int)+((length a1:Nat):Int)))) a0):Nat):Int)≥(2:Int)))=true then
 chk (decide (0≤(2:Int))) (chk (decide ((2:Int)≤((length (drop (Int.toNat (IntKind.wrap .i64 ((2:Int)+((length a1:Nat):Int)))) a0):Nat):Int))) (chk (decide (0≤(0:Int))) (chk (decide ((0:Int)≤(2:Int))) (if(sEq (drop (Int.toNat (0:Int)) (take (Int.toNat (2:Int)) (drop (Int.toNat (IntKind.wrap .i64 ((2:Int)+((length a1:Nat):Int)))) a0))) [45,45])=true then
 chk (decide (0≤(2:Int))) (chk (decide ((2:Int)≤((length (drop (Int.toNat (IntKind.wrap .i64 ((2:Int)+((length a1:Nat):Int)))) a0):Nat):Int))) (Option.bind (call 135 [(V.str (drop (Int.toNat (2:Int)) (drop (Int.toNat (IntKind.wrap .i64 ((2:Int)+((length a1:Nat):Int)))) a0)))] []) fun z2=>
 if(getB z2.1)=true then
 some ((V.tup [(V.bool true),(V.bool true)]),[])
 else
 some ((V.tup [(V.bool false),(V.bool false)]),[])))
 else
 some ((V.tup [(V.bool false),(V.bool false)]),[])))))
 else
 some ((V.tup [(V.bool false),(V.bool false)]),[])))
def Iy (a0:List UInt8) (a1:List UInt8):List V:=[V.str a0,V.str a1]
theorem NI (a0:List UInt8) (a1:List UInt8):GO 100 Tryz.f100 (Iy a0 a1) [] call icall again=GM call a0 a1:=by kernel_rfl
theorem NJ (k:Nat) (a0:List UInt8) (a1:List UInt8):aA cfg (k+1) 100 (Iy a0 a1) []=GM (aA cfg k) a0 a1:=
 (show aA cfg (k+1) 100 (Iy a0 a1) []=GO 100 Tryz.f100 (Iy a0 a1) [] (aA cfg k) (aF cfg (aA cfg k) 20) (RN 100 Tryz.f100 [] (aA cfg k) (aF cfg (aA cfg k) 20) k)by kernel_rfl).trans (NI _ _ _ a0 a1)
theorem NK (a0:List UInt8) (a1:List UInt8) {r:V×List Ob} (h:Evt (fun k n=>GM (aA cfg k) a0 a1) r):Ret 100 [V.str a0,V.str a1] [] r:=aR (g:=fun k n=>GM (aA cfg k) a0 a1) (fun k=>NJ k a0 a1) h
def GN (call:FuncId→Fun) (a0:List UInt8):Option (V×List Ob):=
 Option.bind (call 105 [(V.str a0)] []) fun z0=>
 some ((V.bool (sEq (getS z0.1) [])),[])
def Iz (a0:List UInt8):List V:=[V.str a0]
theorem NL (a0:List UInt8):GO 135 Tryz.f135 (Iz a0) [] call icall again=GN call a0:=by kernel_rfl
theorem NM (k:Nat) (a0:List UInt8):aA cfg (k+1) 135 (Iz a0) []=GN (aA cfg k) a0:=
 (show aA cfg (k+1) 135 (Iz a0) []=GO 135 Tryz.f135 (Iz a0) [] (aA cfg k) (aF cfg (aA cfg k) 20) (RN 135 Tryz.f135 [] (aA cfg k) (aF cfg (aA cfg k) 20) k)by kernel_rfl).trans (NL _ _ _ a0)
theorem NN (a0:List UInt8) {r:V×List Ob} (h:Evt (fun k n=>GN (aA cfg k) a0) r):Ret 135 [V.str a0] [] r:=aR (g:=fun k n=>GN (aA cfg k) a0) (fun k=>NM k a0) h
end Go.Proofs.YtdoaoaicdimbeaaGreatDoor
end
section
namespace Go.Proofs.YtdoaoaicdimbeaaGreatDoor
open Go.Ev Go
abbrev Ln:=Nat×Nat×Nat
def kN (b:Bs) (fr to:Nat):Bs:=(b.take to).drop fr
def bM (b:Bs) (l:Ln):Bs:=if l.1≤l.2.1∧l.2.1≤b.length then kN b l.1 l.2.1 else[]
theorem kO (b:Bs):(ofBytes b).all pN=true:=by
 simp only[List.all_eq_true,ofBytes,List.mem_map]
 rintro v ⟨c,_,rfl⟩
 have:=c.toNat_lt
 simp[pN];omega
theorem GP (b:Bs) (hb:b.length≤1000000) (fr to:Int):
  Ret 62 [.lst 5 false (ofBytes b), .agg [.int .i64 fr, .int .i64 to]] [] (.lst 134 false ((aT fr to b).map lnV),[]):=by
 refine iJ (h:=ofF) (by kernel_rfl) ?_
 have h1:=kO b
 have h2:(ofBytes b).length<1099511627776:=by rw[aU];omega
 simp only[ofF,h1,h2,decide_true,Bool.and_self,if_true,cM]
theorem Ef (a b n:Int):Ret 74 [.agg [.int .i64 a, .int .i64 b], .int .i64 n] [] (.bool (decide (0≤a∧a≤b∧b≤n)),[]):=by
 refine M74 a b n ?_
 simp only[T74]
 by_cases h1:a≥0
 ·by_cases h2:a≤b
  ·have e:decide (0≤a∧a≤b∧b≤n)=decide (b≤n):=by simp[h1,h2]
   rw[e]
   simp only[h1,h2,decide_true,if_true,cG]
   exact aC _
  ·have e:decide (0≤a∧a≤b∧b≤n)=false:=by simp[h2]
   rw[e]
   simp only[h1,h2,decide_true,decide_false,if_true,Bool.false_eq_true,if_false,cG]
   exact aC _
 ·have e:decide (0≤a∧a≤b∧b≤n)=false:=by simp;omega
  rw[e]
  simp only[h1,decide_false,Bool.false_eq_true,if_false,cG]
  exact aC _
theorem NP (b:Bs) (fr to:Nat):bytesOf (List.drop fr (List.take to (ofBytes b)))=kN b fr to:=by
 unfold ofBytes kN
 rw[←List.map_take,←List.map_drop]
 exact cM _
theorem GQ (b:Bs) (l:Ln):Ret 64 [.lst 5 false (ofBytes b),lnV l] [] (.str (bM b l),[]):=by
 obtain⟨p,q,r⟩:=l
 refine M64 (ofBytes b) p q r ?_
 simp only[T64,aU]
 refine aD (Ef p q (b.length:Nat)) ?_
 simp only[V.getB]
 by_cases h:p≤q∧q≤b.length
 ·have h1:(0:Int)≤(p:Int)∧(p:Int)≤(q:Int)∧(q:Int)≤(b.length:Int):=by omega
  have e:bM b (p,q,r)=kN b p q:=if_pos h
  simp only[h1,and_self,decide_true,Bool.not_true,Bool.false_eq_true,if_false,cD,Int.toNat_natCast,NP,e,aI (show(0:Int)≤(q:Int)by omega)]
  exact aC _
 ·have h1:¬((0:Int)≤(p:Int)∧(p:Int)≤(q:Int)∧(q:Int)≤(b.length:Int)):=by omega
  have e:bM b (p,q,r)=[]:=if_neg h
  simp only[h1,decide_false,Bool.not_false,if_true,e]
  exact aC _
def Ao:Bs→Bool
 |[]=>false
 |c::_=>gZ c
theorem LP (s:Bs):Ret 65 [.str s] [] (.bool (Ao s),[]):=by
 refine M65 s ?_
 simp only[T65]
 cases s with
 |nil=>simp only[sEq,beq_self_eq_true,Bool.not_true,Bool.false_eq_true,if_false,Ao];exact aC _
 |cons c r=>
  have e:sEq (c::r) []=false:=rfl
  have h1:(0:Int)<(((c::r).length:Nat):Int):=by simp
  simp only[e,Bool.not_false,if_true,aI h1,aI (show(0:Int)≤0 by omega),Int.toNat_zero,List.getD_cons_zero,Ao]
  refine aD (tD c) ?_
  exact aC _
def hC:List Ln→Option Nat
 |[]=>none
 |l::r=>if l.1=l.2.1 then some 0 else(hC r).map (· +1)
theorem oW {l:List Ln} {i:Nat} (h:i<l.length):(l.map lnV).getD i .bot=lnV l[i]:=by simp[List.getD,h]
theorem Kg (l:Ln):Ret 103 [lnV l] [] (.bool (decide (l.1=l.2.1)),[]):=by
 obtain⟨p,q,r⟩:=l
 refine NH p q r ?_
 simp only[GL]
 have e:(((p:Nat):Int)==((q:Nat):Int))=decide (p=q):=by
  by_cases h:p=q
  ·subst h;simp
  ·have:¬((p:Int)=(q:Int)):=by omega
   simp[h,this]
 rw[e]
 exact aC _
def kP:Option Nat→Int
 |none=> -1
 |some k=>k
theorem IA (l:List Ln) (hl:l.length≤1000000):∀(n i:Nat),l.length - i≤n→i≤l.length→
  Evt (fun k n=>xO (aA cfg k) n (l.map lnV) (l.length:Nat) (i:Nat)) (.int .i64 (kP ((hC (l.drop i)).map (· +i))),[]):=by
 have fin:∀i:Nat,i=l.length→Evt (fun k n=>xO (aA cfg k) n (l.map lnV) (l.length:Nat) (i:Nat)) (.int .i64 (kP ((hC (l.drop i)).map (· +i))),[]):=by
  intro i h
  refine GK (l.map lnV) (l.length:Nat) (i:Nat) ?_
  have h1:¬((i:Int)<(l.length:Int)):=by omega
  rw[List.drop_eq_nil_of_le (by omega)]
  simp only[xN,h1,decide_false,Bool.false_eq_true,if_false,hC,Option.map_none,kP]
  exact aC _
 intro n
 induction n with
 |zero=>intro i h hi;exact fin i (by omega)
 |succ n ih=>
  intro i h hi
  by_cases hlt:i<l.length
  ·refine GK (l.map lnV) (l.length:Nat) (i:Nat) ?_
   have h1:((i:Int)<(l.length:Int)):=by omega
   have h2:(0:Int)≤(i:Int):=by omega
   have hw:IntKind.wrap .i64 ((i:Int)+1)=((i+1:Nat):Int):=by rw[wrap64 (by omega) (by omega)];omega
   have hd:l.drop i=l[i]::l.drop (i+1):=List.drop_eq_getElem_cons hlt
   simp only[xN,h1,decide_true,if_true,aI h2,List.length_map,cD,Int.toNat_natCast,oW hlt,lnV,V.cells,List.headD_cons,List.tail_cons,V.getI,hw]
   refine aD (Kg l[i]) ?_
   simp only[V.getB,decide_eq_true_eq]
   rw[hd,hC]
   by_cases hn:l[i].1=l[i].2.1
   ·simp only[hn,if_true,Option.map_some,Nat.zero_add,kP]
    exact aC _
   ·simp only[hn,if_false]
    have:=ih (i+1) (by omega) (by omega)
    have e:((hC (l.drop (i+1))).map (· +1)).map (· +i)=(hC (l.drop (i+1))).map (· +(i+1)):=by
     rw[Option.map_map];congr 1;funext x;simp only[Function.comp];omega
    rw[e]
    exact this
  ·exact fin i (by omega)
theorem LQ (l:List Ln) (hl:l.length≤1000000):Ret 63 [.lst 134 false (l.map lnV)] [] (.int .i64 (kP (hC l)),[]):=by
 refine M63 (l.map lnV) ?_
 simp only[T63]
 have h76:Ret 102 [.lst 134 false (l.map lnV), .clo (Fn.func 103) [] []] [] (.int .i64 (kP (hC l)),[]):=by
  refine NE (l.map lnV) ?_
  simp only[GI,List.length_map]
  have:=IA l hl l.length 0 (by omega) (by omega)
  simpa using this
 refine aD h76 ?_
 exact aC _
end Go.Proofs.YtdoaoaicdimbeaaGreatDoor
end
section
namespace Go.Proofs.YtdoaoaicdimbeaaGreatDoor
open Go.Ev Go
def xP (c:UInt8):Bool:=33≤c&&c≤126
def kE (s:Bs):Nat→Nat
 |0=>0
 |n+1=>if gZ (s.getD n 0)then kE s n else n+1
theorem xQ (s:Bs):∀n,kE s n≤n
 |0=>Nat.le_refl _
 |n+1=>by
  unfold kE
  split
  ·have:=xQ s n;omega
  ·exact Nat.le_refl _
def eN (s:Bs):Option (Bs×Nat):=
 if Lib.indexByte s 58<0 then none else
 if(s.take (kE s (Lib.indexByte s 58).toNat)).all xP&&decide (0<kE s (Lib.indexByte s 58).toNat)then some (s.take (kE s (Lib.indexByte s 58).toNat),(Lib.indexByte s 58).toNat+1)else none
def DL (s:Bs) (r:V×List Ob):Prop:=∃u m,r=(.tup [.str u, .int .i64 m, .bool (eN s).isSome],[])∧∀p,eN s=some p→u=p.1∧m=p.2
theorem IB (c:UInt8):(((c.toNat:Nat):Int)<33∨((c.toNat:Nat):Int)>126)↔xP c=false:=by
 have h1:=oS 33 c
 have h2:=oS c 126
 have e33:((UInt8.toNat 33:Nat):Int)=33:=rfl
 have e126:((UInt8.toNat 126:Nat):Int)=126:=rfl
 rw[e33]at h1
 rw[e126]at h2
 simp only[xP,Bool.and_eq_false_iff,decide_eq_false_iff_not]
 rw[←h1,←h2]
 omega
theorem xR (s:Bs) (hs:s.length≤1000000) (k n:Nat) (hk:Lib.indexByte s 58=k) (hks:k<s.length) (hn:n=kE s k):∀(m i:Nat),n - i=m→i≤n→(s.take i).all xP=true→
  ∃r,DL s r∧Evt (fun q j=>(L66 (aA cfg q) j).2 s (k:Nat) (n:Nat) (n:Nat) (i:Nat)) r
 |0,i,h,hi,ha=>by
  have hin:i=n:=by omega
  subst hin
  have hnk:=xQ s k
  refine⟨_,⟨s.take i,(k:Int)+1,rfl,fun p hp=>?_⟩,GH s (k:Nat) (i:Nat) (i:Nat) (i:Nat) ?_⟩
  ·have h0:¬((k:Int)<0):=by omega
   unfold eN at hp
   rw[hk,if_neg h0,Int.toNat_natCast,←hn,ha]at hp
   split at hp
   ·cases hp;exact⟨rfl,by omega⟩
   ·cases hp
  ·have h1:¬((i:Int)<(i:Int)):=by omega
   have h2:(0:Int)≤(i:Int):=by omega
   have h3:(i:Int)≤(s.length:Int):=by omega
   have hw:IntKind.wrap .i64 ((k:Int)+1)=(k:Int)+1:=wrap64 (by omega) (by omega)
   have he:(eN s).isSome=decide ((i:Int)>0):=by
    have h0:¬((k:Int)<0):=by omega
    unfold eN
    rw[hk,if_neg h0,Int.toNat_natCast,←hn,ha]
    by_cases hi0:0<i
    ·have:(i:Int)>0:=by omega
     simp[hi0,this]
    ·have:¬((i:Int)>0):=by omega
     simp[hi0,this]
   rw[he]
   simp only[Ak,h1,decide_false,Bool.false_eq_true,if_false,aI h2,aI h3,aI (show(0:Int)≤0 by omega),Int.toNat_zero,List.drop_zero,Int.toNat_natCast,hw]
   exact aC _
 |m+1,i,h,hi,ha=>by
  have hnk:=xQ s k
  have his:i<s.length:=by omega
  have h1:((i:Int)<(n:Int)):=by omega
  have h2:(0:Int)≤(i:Int):=by omega
  have h3:(i:Int)<(s.length:Int):=by omega
  have hw:IntKind.wrap .i64 ((i:Int)+1)=((i+1:Nat):Int):=by rw[wrap64 (by omega) (by omega)];omega
  have hy:(chk (decide ((0:Int)≤(i:Int))) (chk (decide ((i:Int)<(s.length:Int))) (if(decide (((s[i].toNat:Nat):Int)<(33:Int)))=false then
    chk (decide ((0:Int)≤(i:Int))) (chk (decide ((i:Int)<(s.length:Int))) (some (decide (((s[i].toNat:Nat):Int)>(126:Int)))))
   else some true)))=some (!xP s[i]):=by
   rw[aI h2,aI h3]
   have hv:=IB s[i]
   by_cases c1:((s[i].toNat:Nat):Int)<33
   ·simp[c1,hv.1 (.inl c1)]
   ·by_cases c2:((s[i].toNat:Nat):Int)>126
    ·simp only[c1,c2,decide_false,decide_true,if_true,aI h2,aI h3,hv.1 (.inr c2),Bool.not_false]
    ·have:xP s[i]=true:=by
      cases hvv:xP s[i]with
      |true=>rfl
      |false=>rcases hv.2 hvv with h|h;exact absurd h c1;exact absurd h c2
     simp only[c1,c2,decide_false,if_true,aI h2,aI h3,this,Bool.not_true]
  by_cases hv:xP s[i]=true
  ·obtain⟨r,hr1,hr2⟩:=xR s hs k n hk hks hn m (i+1) (by omega) (by omega) (by
    rw[List.take_add_one,List.all_append,ha,List.getElem?_eq_getElem his];simp[hv])
   refine⟨r,hr1,GH s (k:Nat) (n:Nat) (n:Nat) (i:Nat) ?_⟩
   simp only[Ak,h1,decide_true,if_true,Int.toNat_natCast,getD_at his,hw]
   simp only[hy,cG,hv,Bool.not_true,Bool.false_eq_true,if_false]
   exact hr2
  ·have hv' :xP s[i]=false:=by simpa using hv
   refine⟨_,⟨[],0,rfl,fun p hp=>?_⟩,GH s (k:Nat) (n:Nat) (n:Nat) (i:Nat) ?_⟩
   ·exfalso
    have h0:¬((k:Int)<0):=by omega
    unfold eN at hp
    rw[hk,if_neg h0,Int.toNat_natCast,←hn]at hp
    have:(s.take n).all xP=false:=by
     rw[List.all_eq_false]
     exact⟨s[i],List.mem_take_iff_getElem.2 ⟨i,by omega,rfl⟩,by simp[hv']⟩
    rw[this]at hp
    simp at hp
   ·have he:(eN s).isSome=false:=by
     have h0:¬((k:Int)<0):=by omega
     have:(s.take n).all xP=false:=by
      rw[List.all_eq_false]
      exact⟨s[i],List.mem_take_iff_getElem.2 ⟨i,by omega,rfl⟩,by simp[hv']⟩
     unfold eN
     rw[hk,if_neg h0,Int.toNat_natCast,←hn,this]
     simp
    rw[he]
    simp only[Ak,h1,decide_true,if_true,Int.toNat_natCast,getD_at his]
    simp only[hy,cG,hv',Bool.not_false,if_true]
    exact aC _
theorem Ct (s:Bs) (hs:s.length≤1000000) (k:Nat) (hk:Lib.indexByte s 58=k) (hks:k<s.length):∀n:Nat,n≤k→kE s n=kE s k→
  ∃r,DL s r∧Evt (fun q j=>(L66 (aA cfg q) j).1 s (k:Nat) (n:Nat)) r
 |0,hn,hb=>by
  obtain⟨r,hr1,hr2⟩:=xR s hs k 0 hk hks hb 0 0 rfl (Nat.le_refl _) rfl
  refine⟨r,hr1,GG s (k:Nat) (0:Nat) ?_⟩
  have h1:¬(((0:Nat):Int)>0):=by omega
  simp only[Aj,h1,decide_false,Bool.false_eq_true,if_false]
  exact hr2
 |n+1,hn,hb=>by
  have hlt:n<s.length:=by omega
  have h1:(((n+1:Nat):Int)>0):=by omega
  have hw:IntKind.wrap .i64 (((n+1:Nat):Int) - 1)=(n:Int):=by rw[wrap64 (by omega) (by omega)];omega
  have h2:(0:Int)≤(n:Int):=by omega
  have h3:(n:Int)<(s.length:Int):=by omega
  by_cases hbl:gZ s[n]=true
  ·have hb' :kE s n=kE s k:=by
    rw[←hb];conv=>rhs;unfold kE
    rw[getD_at hlt,hbl];rfl
   obtain⟨r,hr1,hr2⟩:=Ct s hs k hk hks n (by omega) hb'
   refine⟨r,hr1,GG s (k:Nat) ((n+1:Nat):Int) ?_⟩
   simp only[Aj,h1,decide_true,if_true,hw,aI h2,aI h3,Int.toNat_natCast,getD_at hlt]
   refine aD (tD s[n]) ?_
   simp only[V.getB,hbl,if_true]
   exact hr2
  ·have hbl' :gZ s[n]=false:=by simpa using hbl
   have hb' :n+1=kE s k:=by
    rw[←hb];unfold kE
    rw[getD_at hlt,hbl'];rfl
   obtain⟨r,hr1,hr2⟩:=xR s hs k (n+1) hk hks hb' (n+1) 0 (by omega) (by omega) rfl
   refine⟨r,hr1,GG s (k:Nat) ((n+1:Nat):Int) ?_⟩
   simp only[Aj,h1,decide_true,if_true,hw,aI h2,aI h3,Int.toNat_natCast,getD_at hlt]
   refine aD (tD s[n]) ?_
   simp only[V.getB,hbl',Bool.false_eq_true,if_false]
   exact hr2
theorem LR (s:Bs) (hs:s.length≤1000000):∃r,DL s r∧Ret 66 [.str s] [] r:=by
 have h79:Ret 89 [.str s, .int .u8 58] [] (.int .i64 (Lib.indexByte s 58),[]):=iJ (h:=HV) (by kernel_rfl) rfl
 by_cases h:Lib.indexByte s 58<0
 ·refine⟨_,⟨[],0,rfl,fun p hp=>?_⟩,M66 s ?_⟩
  ·unfold eN at hp
   rw[if_pos h]at hp;cases hp
  ·have he:(eN s).isSome=false:=by unfold eN;rw[if_pos h];rfl
   rw[he]
   simp only[T66]
   refine aD h79 ?_
   simp only[V.getI,h,decide_true,if_true]
   exact aC _
 ·obtain⟨k,hk⟩:∃k:Nat,Lib.indexByte s 58=k:=⟨(Lib.indexByte s 58).toNat,by omega⟩
  have hks:k<s.length:=(List.getElem?_eq_some_iff.1 (Lib.indexByte_some hk).1).1
  obtain⟨r,hr1,hr2⟩:=Ct s hs k hk hks k (Nat.le_refl _) rfl
  refine⟨r,hr1,M66 s ?_⟩
  simp only[T66]
  refine aD h79 ?_
  simp only[V.getI,h,decide_false,Bool.false_eq_true,if_false]
  rw[hk]
  exact hr2
end Go.Proofs.YtdoaoaicdimbeaaGreatDoor
end
section
namespace Go.Proofs.YtdoaoaicdimbeaaGreatDoor
open Go.Ev Go
abbrev Fd:=Bs×Nat×Nat×Nat
def fdV (f:Fd):V:= .agg [.str f.1, .int .i64 f.2.1, .int .i64 f.2.2.1, .int .i64 f.2.2.2]
def pP (l:List Fd) (to:Nat):List Fd:=match l[l.length - 1]? with|some f=>l.set (l.length - 1) (f.1,f.2.1,f.2.2.1,to)|none=>l
def fP (b:Bs) (st:List Fd×Bool) (x:Ln):List Fd×Bool:=
 if Ao (bM b x)then(if st.2 then(pP st.1 x.2.2,true)else st)
 else match eN (bM b x)with
  |none=>(st.1,false)
  |some p=>(st.1++[(p.1,x.1,x.1+p.2,x.2.2)],true)
def dE (b:Bs) (fr to:Int):List Fd×Int:=
 if aT fr to b=[]then([],fr)else
 match hC (aT fr to b)with
  |some k=>((((aT fr to b).take k).foldl (fP b) ([],false)).1,((aT fr to b).getD k (0,0,0)).2.2)
  |none=>(((aT fr to b).foldl (fP b) ([],false)).1,((aT fr to b).getD ((aT fr to b).length - 1) (0,0,0)).2.2)
theorem pQ:∀(n a:Nat) (s:Bs),∀x∈eT n a s,a≤x.1∧x.1≤x.2.1∧x.2.1≤x.2.2∧x.2.2≤a+s.length
 |0,a,s,x,hx=>by cases hx
 |n+1,a,s,x,hx=>by
  unfold eT at hx
  split at hx
  ·cases hx
  ·rename_i hs
   split at hx
   ·simp at hx;subst hx;simp
   ·rename_i hk
    obtain⟨k,hk'⟩:∃k:Nat,Lib.indexByte s 10=k:=⟨(Lib.indexByte s 10).toNat,by omega⟩
    have hks:k<s.length:=(List.getElem?_eq_some_iff.1 (Lib.indexByte_some hk').1).1
    rw[hk']at hx
    simp only[Int.toNat_natCast]at hx
    rcases List.mem_cons.1 hx with rfl|hx
    ·simp only
     split<;>omega
    ·have:=pQ n _ _ x hx
     rw[List.length_drop]at this
     omega
theorem nU {fr to:Int} {b:Bs}:∀x∈aT fr to b,x.1≤x.2.1∧x.2.1≤x.2.2∧x.2.2≤b.length:=by
 intro x hx
 unfold aT at hx
 split at hx
 ·rename_i h
  have:=pQ _ _ _ x hx
  simp at this
  omega
 ·cases hx
theorem Ap:∀{l:List Ln} {k:Nat},hC l=some k→k<l.length
 |[],k,h=>by cases h
 |x::r,k,h=>by
  unfold hC at h
  split at h
  ·cases h;simp
  ·obtain⟨j,h1,rfl⟩:=Option.map_eq_some_iff.1 h
   have:=Ap h1
   simp;omega
theorem EV {s:Bs} {p:Bs×Nat} (h:eN s=some p):p.2≤s.length:=by
 unfold eN at h
 split at h
 ·cases h
 ·rename_i hk
  obtain⟨k,hk'⟩:∃k:Nat,Lib.indexByte s 58=k:=⟨(Lib.indexByte s 58).toNat,by omega⟩
  have hks:k<s.length:=(List.getElem?_eq_some_iff.1 (Lib.indexByte_some hk').1).1
  rw[hk']at h
  simp only[Int.toNat_natCast]at h
  split at h
  ·cases h;simp only;omega
  ·cases h
theorem xT (b:Bs) (l:Ln):(bM b l).length≤b.length:=by
 unfold bM kN
 split
 ·simp;omega
 ·simp
theorem mG (l:List Fd) (to:Nat):(pP l to).length=l.length:=by
 unfold pP;split<;>simp
theorem uZ {l:List Fd} {i:Nat} (h:i<l.length):(l.map fdV).getD i .bot=fdV l[i]:=by simp[List.getD,h]
theorem tJ (b:Bs) (hb:b.length≤1000000) (at_:Int) (l:List Ln) (hl:l.length≤1000000) (hx:∀x∈l,x.1≤1000000):∀(n i:Nat) (out:List Fd) (on:Bool),l.length - i=n→i≤l.length→out.length≤i→(on=true→out≠[])→
  Evt (fun k n=>L32 (aA cfg k) n (ofBytes b) at_ (out.map fdV) on (l.map lnV) (l.length:Nat) (i:Nat)) (.tup [.lst 91 false (((l.drop i).foldl (fP b) (out,on)).1.map fdV), .int .i64 at_],[])
 |0,i,out,on,h,hi,ho,hon=>by
  refine Jb (ofBytes b) at_ (out.map fdV) on (l.map lnV) (l.length:Nat) (i:Nat) ?_
  have h1:¬((i:Int)<(l.length:Int)):=by omega
  rw[List.drop_eq_nil_of_le (by omega)]
  simp only[Cs,h1,decide_false,Bool.false_eq_true,if_false,List.foldl_nil]
  exact aC _
 |n+1,i,out,on,h,hi,ho,hon=>by
  have hlt:i<l.length:=by omega
  refine Jb (ofBytes b) at_ (out.map fdV) on (l.map lnV) (l.length:Nat) (i:Nat) ?_
  have h1:((i:Int)<(l.length:Int)):=by omega
  have h2:(0:Int)≤(i:Int):=by omega
  have hw:IntKind.wrap .i64 ((i:Int)+1)=((i+1:Nat):Int):=by rw[wrap64 (by omega) (by omega)];omega
  have hd:l.drop i=l[i]::l.drop (i+1):=List.drop_eq_getElem_cons hlt
  have hxi:=hx l[i] (List.getElem_mem hlt)
  have htl:=xT b l[i]
  have h57:Ret 64 [.lst 5 false (ofBytes b), .agg [.int .i64 (l[i].1:Nat), .int .i64 (l[i].2.1:Nat), .int .i64 (l[i].2.2:Nat)]] [] (.str (bM b l[i]),[]):=GQ b l[i]
  rw[hd,List.foldl_cons]
  simp only[Cs,h1,decide_true,if_true,aI h2,List.length_map,Int.toNat_natCast,oW hlt,lnV,V.cells,List.headD_cons,List.tail_cons,V.getI,hw]
  refine aD h57 ?_
  simp only[V.getS]
  refine aD (LP (bM b l[i])) ?_
  simp only[V.getB]
  by_cases hg:Ao (bM b l[i])=true
  ·simp only[hg,if_true]
   cases on with
   |true=>
    have hne:=hon rfl
    have hpos:0<out.length:=List.length_pos_iff.2 hne
    have hw2:IntKind.wrap .i64 ((out.length:Int) - 1)=((out.length - 1:Nat):Int):=by rw[wrap64 (by omega) (by omega)];omega
    have h3:(0:Int)≤((out.length - 1:Nat):Int):=by omega
    have h4:((out.length - 1:Nat):Int)<(out.length:Int):=by omega
    have hol:out.length - 1<out.length:=by omega
    have hst:fP b (out,true) l[i]=(pP out l[i].2.2,true):=by unfold fP;rw[hg];rfl
    have hset:(out.map fdV).set (out.length - 1) (.agg [.str out[out.length - 1].1, .int .i64 (out[out.length - 1].2.1:Nat), .int .i64 (out[out.length - 1].2.2.1:Nat), .int .i64 (l[i].2.2:Nat)])=(pP out l[i].2.2).map fdV:=by
     unfold pP
     rw[List.getElem?_eq_getElem hol]
     simp only[List.map_set]
     rfl
    rw[hst]
    simp only[if_true,hw2,aI h3,aI h4,Int.toNat_natCast,uZ hol,fdV,V.cells,List.headD_cons,List.tail_cons,V.getS,V.getI]
    rw[hset]
    exact tJ b hb at_ l hl hx n (i+1) (pP out l[i].2.2) true (by omega) (by omega) (by rw[mG];omega) (fun _=>by
     rw[←List.length_pos_iff,mG];exact hpos)
   |false=>
    have hst:fP b (out,false) l[i]=(out,false):=by unfold fP;rw[hg];rfl
    rw[hst]
    simp only[Bool.false_eq_true,if_false]
    exact tJ b hb at_ l hl hx n (i+1) out false (by omega) (by omega) (by omega) (fun h=>by cases h)
  ·have hg' :Ao (bM b l[i])=false:=by simpa using hg
   simp only[hg',Bool.false_eq_true,if_false]
   obtain⟨r,⟨u,m,rfl,hum⟩,hr⟩:=LR (bM b l[i]) (by omega)
   refine aD hr ?_
   simp only[V.getT,List.headD_cons,List.tail_cons,V.getB,V.getS,V.getI]
   cases hn:eN (bM b l[i])with
   |none=>
    have hst:fP b (out,on) l[i]=(out,false):=by unfold fP;rw[hg',hn];rfl
    rw[hst]
    simp only[Option.isSome_none,Bool.false_eq_true,if_false]
    exact tJ b hb at_ l hl hx n (i+1) out false (by omega) (by omega) (by omega) (fun h=>by cases h)
   |some p=>
    obtain⟨rfl,rfl⟩:=hum p hn
    have hpl:=EV hn
    have hst:fP b (out,on) l[i]=(out++[(p.1,l[i].1,l[i].1+p.2,l[i].2.2)],true):=by unfold fP;rw[hg',hn];rfl
    have hw3:IntKind.wrap .i64 ((l[i].1:Int)+(p.2:Int))=((l[i].1+p.2:Nat):Int):=by rw[wrap64 (by omega) (by omega)];omega
    have hap:cZ (out.map fdV) [V.agg [.str p.1, .int .i64 (l[i].1:Nat), .int .i64 ((l[i].1+p.2:Nat):Int), .int .i64 (l[i].2.2:Nat)]] 41=true:=mC (by simp;omega)
    rw[hst]
    simp only[Option.isSome_some,if_true,hw3,eL hap]
    have:=tJ b hb at_ l hl hx n (i+1) (out++[(p.1,l[i].1,l[i].1+p.2,l[i].2.2)]) true (by omega) (by omega) (by simp;omega) (fun _=>by simp)
    simp only[List.map_append,List.map_cons,List.map_nil,fdV]at this
    exact this
theorem Cu (b:Bs) (hb:b.length≤1000000) (fr to:Int):
  Ret 32 [.lst 5 false (ofBytes b), .agg [.int .i64 fr, .int .i64 to]] [] (.tup [.lst 91 false ((dE b fr to).1.map fdV), .int .i64 (dE b fr to).2],[]):=by
 refine M32 (ofBytes b) fr to ?_
 simp only[T32]
 refine aD (GP b hb fr to) ?_
 have hll:=dB fr to b
 have hbd:=nU (fr:=fr) (to:=to) (b:=b)
 simp only[V.getL,List.length_map]
 unfold dE
 generalize aT fr to b=l at hll hbd
 by_cases hl0:l=[]
 ·subst hl0;exact aC _
 ·have hpos:0<l.length:=List.length_pos_iff.2 hl0
  have h0:((((l.length:Nat):Int))==(0:Int))=false:=beq_eq_false_iff_ne.2 (by omega)
  have hw:IntKind.wrap .i64 ((l.length:Int) - 1)=((l.length - 1:Nat):Int):=by rw[wrap64 (by omega) (by omega)];omega
  have h1:(0:Int)≤((l.length - 1:Nat):Int):=by omega
  have h2:((l.length - 1:Nat):Int)<(l.length:Int):=by omega
  rw[if_neg hl0]
  simp only[h0,Bool.false_eq_true,if_false,hw,aI h1,aI h2]
  refine aD (LQ l (by omega)) ?_
  have hxs:∀y∈l,y.1≤1000000:=fun y hy=>by have:=hbd y hy;omega
  have hgi:∀z:Int,(V.int .i64 z).getI=z:=fun _=>rfl
  simp only[hgi]
  cases he:hC l with
  |none=>
   have hoi:kP none= -1:=rfl
   have h3:¬((-1:Int)≥(0:Int)):=by omega
   have hlt:l.length - 1<l.length:=by omega
   simp only[hoi,h3,decide_false,Bool.false_eq_true,if_false,Int.toNat_natCast,oW hlt,lnV,V.cells,List.headD_cons,List.tail_cons,hgi]
   have:=tJ b hb (l[l.length - 1].2.2:Nat) l (by omega) hxs l.length 0 [] false (by omega) (by omega) (by simp) (fun h=>by cases h)
   have e:l.getD (l.length - 1) (0,0,0)=l[l.length - 1]:=by simp[List.getD,hlt]
   rw[e]
   simpa using this
  |some k=>
   have hk:=Ap he
   have hoi:kP (some k)=(k:Int):=rfl
   have h3:((k:Int)≥(0:Int)):=by omega
   have h5:(k:Int)<(l.length:Int):=by omega
   have h6:(k:Int)≤(l.length:Int):=by omega
   simp only[hoi]
   simp only[h3,decide_true,if_true,cD,aI h5,aI h6,aI (show(0:Int)≤0 by omega),Int.toNat_natCast,oW hk,lnV,V.cells,List.headD_cons,List.tail_cons,hgi,Int.toNat_zero,List.drop_zero]
   have e:l.getD k (0,0,0)=l[k]:=by simp[List.getD,hk]
   have htl:(l.take k).length=k:=by simp;omega
   have:=tJ b hb (l[k].2.2:Nat) (l.take k) (by omega) (fun y hy=>hxs y (List.mem_of_mem_take hy)) k 0 [] false (by omega) (by omega) (by simp) (fun h=>by cases h)
   rw[e]
   rw[List.map_take]at this
   have hmin:min k l.length=k:=by omega
   simpa[htl,hmin]using this
end Go.Proofs.YtdoaoaicdimbeaaGreatDoor
end
section
namespace Go.Proofs.YtdoaoaicdimbeaaGreatDoor
open Go.Ev Go
def low (s:Bs):Bs:=s.map dC
def lI:List Fd→Bs→Option Nat
 |[],_=>none
 |f::r,name=>if low f.1=low name then some 0 else(lI r name).map (· +1)
def kQ:List Fd→Bs→Option Fd
 |[],_=>none
 |f::r,name=>if low f.1=low name then some f else kQ r name
theorem xU:∀{l:List Fd} {name:Bs} {k:Nat},lI l name=some k→∃h:k<l.length,kQ l name=some l[k]
 |[],_,k,h=>by cases h
 |f::r,name,k,h=>by
  unfold lI at h
  unfold kQ
  split at h
  ·rename_i hc
   cases h
   exact⟨by simp,by rw[if_pos hc];rfl⟩
  ·rename_i hc
   obtain⟨j,h1,rfl⟩:=Option.map_eq_some_iff.1 h
   obtain⟨h2,h3⟩:=xU h1
   exact⟨by simp;omega,by rw[if_neg hc,h3];rfl⟩
theorem xW:∀{l:List Fd} {name:Bs},lI l name=none→kQ l name=none
 |[],_,_=>rfl
 |f::r,name,h=>by
  unfold lI at h
  unfold kQ
  split at h
  ·cases h
  ·rename_i hc
   rw[if_neg hc]
   exact xW (by simpa using h)
theorem LU (f:Fd) (name:Bs) (hf:f.1.length≤1000000) (hn:name.length≤1000000):
  Ret 68 [fdV f, .ref 0 0] [.cells [.str name]] (.bool (low f.1==low name),[.cells [.str name]]):=by
 obtain⟨a,p,q,r⟩:=f
 refine M68 a p q r name ?_
 simp only[T68]
 refine aD (Gx a name (by simp only at hf;omega) (by omega)) ?_
 exact aC _
theorem Kh (name:Bs) (hn:name.length≤1000000) (l:List Fd) (hl:l.length≤1000000) (hv:∀f∈l,f.1.length≤1000000):∀(n i:Nat),l.length - i≤n→i≤l.length→
  Evt (fun k n=>L67 (aA cfg k) n (l.map fdV) (l.length:Nat) (i:Nat) name) (.int .i64 (kP ((lI (l.drop i) name).map (· +i))),[.cells [.str name]]):=by
 have fin:∀i:Nat,i=l.length→Evt (fun k n=>L67 (aA cfg k) n (l.map fdV) (l.length:Nat) (i:Nat) name) (.int .i64 (kP ((lI (l.drop i) name).map (· +i))),[.cells [.str name]]):=by
  intro i h
  refine I9 (l.map fdV) (l.length:Nat) (i:Nat) name ?_
  have h1:¬((i:Int)<(l.length:Int)):=by omega
  rw[List.drop_eq_nil_of_le (by omega)]
  simp only[Cq,h1,decide_false,Bool.false_eq_true,if_false,lI,Option.map_none,kP]
  exact aC _
 intro n
 induction n with
 |zero=>intro i h hi;exact fin i (by omega)
 |succ n ih=>
  intro i h hi
  by_cases hlt:i<l.length
  ·refine I9 (l.map fdV) (l.length:Nat) (i:Nat) name ?_
   have h1:((i:Int)<(l.length:Int)):=by omega
   have h2:(0:Int)≤(i:Int):=by omega
   have hw:IntKind.wrap .i64 ((i:Int)+1)=((i+1:Nat):Int):=by rw[wrap64 (by omega) (by omega)];omega
   have hd:l.drop i=l[i]::l.drop (i+1):=List.drop_eq_getElem_cons hlt
   simp only[Cq,h1,decide_true,if_true,aI h2,List.length_map,cD,Int.toNat_natCast,uZ hlt,fdV,V.cells,List.headD_cons,List.tail_cons,V.getI,V.getS,hw]
   refine aD (LU l[i] name (hv _ (List.getElem_mem hlt)) hn) ?_
   simp only[V.getB,List.headD_cons,Ob.getC,V.getS]
   rw[hd,lI]
   by_cases hc:low l[i].1=low name
   ·simp only[hc,beq_self_eq_true,if_true,Option.map_some,Nat.zero_add,kP]
    exact aC _
   ·have hb:(low l[i].1==low name)=false:=by simpa using hc
    simp only[hb,hc,Bool.false_eq_true,if_false]
    have:=ih (i+1) (by omega) (by omega)
    have e:((lI (l.drop (i+1)) name).map (· +1)).map (· +i)=(lI (l.drop (i+1)) name).map (· +(i+1)):=by
     rw[Option.map_map];congr 1;funext x;simp only[Function.comp];omega
    rw[e]
    exact this
  ·exact fin i (by omega)
def tK:Option Fd→V
 |some f=> .tup [fdV f, .bool true]
 |none=> .tup [.agg [.str [], .int .i64 0, .int .i64 0, .int .i64 0], .bool false]
theorem Jc (l:List Fd) (hl:l.length≤1000000) (hv:∀f∈l,f.1.length≤1000000) (name:Bs) (hn:name.length≤1000000):
  Ret 33 [.lst 91 false (l.map fdV), .str name] [] (tK (kQ l name),[]):=by
 refine M33 (l.map fdV) name ?_
 simp only[T33,List.length_map]
 have h88:Ret 67 [.lst 91 false (l.map fdV), .clo (Fn.func 68) [] [.ref 0 0]] [.cells [.str name]] (.int .i64 (kP (lI l name)),[.cells [.str name]]):=by
  refine M67 (l.map fdV) name ?_
  simp only[T67,List.length_map]
  have:=Kh name hn l hl hv l.length 0 (by omega) (by omega)
  simpa using this
 refine aD h88 ?_
 have hgi:∀z:Int,(V.int .i64 z).getI=z:=fun _=>rfl
 simp only[hgi]
 cases he:lI l name with
 |none=>
  have hoi:kP none= -1:=rfl
  have h3:((-1:Int)<(0:Int)):=by omega
  rw[xW he]
  simp only[hoi,h3,decide_true,if_true]
  exact aC _
 |some k=>
  obtain⟨hk,hfd⟩:=xU he
  have hoi:kP (some k)=(k:Int):=rfl
  have h3:¬((k:Int)<(0:Int)):=by omega
  have h4:(0:Int)≤(k:Int):=by omega
  have h5:(k:Int)<(l.length:Int):=by omega
  rw[hfd]
  simp only[hoi]
  simp only[h3,decide_false,Bool.false_eq_true,if_false,aI h4,aI h5,Int.toNat_natCast,uZ hk,fdV,V.cells,List.headD_cons,List.tail_cons,hgi,V.getS,tK]
  exact aC _
end Go.Proofs.YtdoaoaicdimbeaaGreatDoor
end
section
namespace Go.Proofs.YtdoaoaicdimbeaaGreatDoor
open Go.Ev Go
def nV:Bs→Bs
 |[]=>[]
 |c::r=>if gZ c then nV r else c::r
def mH (s:Bs):Nat→Bs
 |0=>[]
 |n+1=>if gZ (s.getD n 0)then mH s n else s.take (n+1)
def trimF (s:Bs):Bs:=mH (nV s) (nV s).length
theorem Cv:∀s:Bs,(nV s).length≤s.length
 |[]=>Nat.le_refl _
 |c::r=>by
  unfold nV
  split
  ·have:=Cv r;simp;omega
  ·exact Nat.le_refl _
theorem Aq (s:Bs):∀n,(mH s n).length≤s.length
 |0=>by simp[mH]
 |n+1=>by
  unfold mH
  split
  ·exact Aq s n
  ·simp;omega
theorem GR (s:Bs):(trimF s).length≤s.length:=Nat.le_trans (Aq _ _) (Cv s)
theorem tL (s:Bs) (hs:s.length≤9000000000000000000):∀n,n≤s.length→Evt (fun k j=>(iK (aA cfg k) j).2 (s.take n)) (.str (mH s n),[])
 |0,hn=>by
  refine Gw (s.take 0) ?_
  simp only[List.take_zero,xE,List.length_nil,mH]
  exact aC _
 |n+1,hn=>by
  refine Gw (s.take (n+1)) ?_
  have hl:(s.take (n+1)).length=n+1:=by simp;omega
  have h1:(((n+1:Nat):Int)>0):=by omega
  have hw:IntKind.wrap .i64 (((n+1:Nat):Int) - 1)=(n:Int):=by rw[wrap64 (by omega) (by omega)];omega
  have h2:(0:Int)≤(n:Int):=by omega
  have h3:(n:Int)<((n+1:Nat):Int):=by omega
  have h4:(n:Int)≤((n+1:Nat):Int):=by omega
  have hlt:n<s.length:=by omega
  have hg:(s.take (n+1)).getD n 0=s[n]:=by simp[List.getD,List.getElem?_take,hlt]
  have htt:List.drop 0 (List.take n (s.take (n+1)))=s.take n:=by rw[List.drop_zero,List.take_take];congr 1;omega
  have hgs:s.getD n 0=s[n]:=getD_at hlt
  simp only[xE,hl,h1,decide_true,if_true,hw,aI h2,aI h3,aI h4,aI (show(0:Int)≤0 by omega),Int.toNat_natCast,hg,Int.toNat_zero,htt]
  refine aD (tD s[n]) ?_
  unfold mH
  rw[hgs]
  cases hb:gZ s[n]
  ·simp only[V.getB,Bool.false_eq_true,if_false];exact aC _
  ·simp only[V.getB,if_true];exact tL s hs n (by omega)
theorem Ar:∀s:Bs,s.length≤9000000000000000000→Evt (fun k j=>(iK (aA cfg k) j).1 s) (.str (trimF s),[])
 |[],hs=>by
  refine Gv [] ?_
  have:=tL [] (by simp) 0 (by simp)
  simp only[xC,List.length_nil]
  simpa[trimF,nV,mH]using this
 |c::r,hs=>by
  refine Gv (c::r) ?_
  have h1:((((c::r).length:Nat):Int)>0):=by simp
  have h2:((0:Int)<(((c::r).length:Nat):Int)):=h1
  have h3:((1:Int)≤(((c::r).length:Nat):Int)):=by omega
  simp only[xC,h1,decide_true,if_true,aI h2,aI h3,aI (show(0:Int)≤0 by omega),aI (show(0:Int)≤1 by omega),Int.toNat_zero,List.getD_cons_zero,Int.toNat_one,List.drop_one,List.tail_cons,cD]
  refine aD (tD c) ?_
  cases hb:gZ c
  ·simp only[V.getB,Bool.false_eq_true,if_false]
   have:=tL (c::r) hs (c::r).length (Nat.le_refl _)
   rw[List.take_length]at this
   have e:nV (c::r)=c::r:=by unfold nV;rw[hb];rfl
   unfold trimF
   rw[e]
   exact this
  ·simp only[V.getB,if_true]
   have e:trimF (c::r)=trimF r:=by
    unfold trimF
    have:nV (c::r)=nV r:=by
     conv=>lhs;unfold nV
     rw[hb];rfl
    rw[this]
   rw[e]
   exact Ar r (by simp at hs;omega)
theorem GT (s:Bs) (hs:s.length≤9000000000000000000):Ret 105 [.str s] [] (.str (trimF s),[]):=by
 refine NA s ?_
 exact Ar s hs
theorem LV (o s:Bs) (h:o.length+s.length≤10000000000000):
  Ret 27 [.ref 0 0, .str s] [.cells [.opt 0 0, .lst 5 true (ofBytes o)]] (.tup [.int .i64 (s.length:Nat), .raw .nilIface],[.cells [.opt 0 0, .lst 5 true (ofBytes (o++s))]]):=by
 refine M27 (ofBytes o) s ?_
 have h108:Ret 54 [.ref 0 0] [.cells [.opt 0 0, .lst 5 true (ofBytes o)]] (.tup [],[.cells [.opt 0 0, .lst 5 true (ofBytes o)]]):=iJ (h:=checkF) (by kernel_rfl) rfl
 have hap:fE (ofBytes o) s 2=true:=by simp[fE,aU];omega
 have hof:ofBytes o++ofBytes s=ofBytes (o++s):=by simp[ofBytes]
 simp only[T27]
 refine aD h108 ?_
 simp only[List.headD_cons,Ob.getC,List.tail_cons,V.getL,eL hap,hof]
 exact aC _
def jV (b:Bs) (f:Fd):Bs:=trimF ((aT f.2.2.1 f.2.2.2 b).flatMap (bM b))
theorem xX:∀(n a:Nat) (s:Bs),((eT n a s).map fun x=>x.2.1 - x.1).sum≤s.length
 |0,a,s=>by simp[eT]
 |n+1,a,s=>by
  unfold eT
  split
  ·simp
  ·split
   ·simp
   ·rename_i hk
    obtain⟨k,hk'⟩:∃k:Nat,Lib.indexByte s 10=k:=⟨(Lib.indexByte s 10).toNat,by omega⟩
    have hks:k<s.length:=(List.getElem?_eq_some_iff.1 (Lib.indexByte_some hk').1).1
    have:=xX n (a+k+1) (s.drop (k+1))
    rw[List.length_drop]at this
    rw[hk']
    simp only[Int.toNat_natCast,List.map_cons,List.sum_cons]
    split<;>omega
theorem pR (b:Bs):∀l:List Ln,(l.flatMap (bM b)).length≤(l.map fun x=>x.2.1 - x.1).sum
 |[]=>by simp
 |x::r=>by
  have:=pR b r
  have h:(bM b x).length≤x.2.1 - x.1:=by
   unfold bM kN
   split
   ·simp;omega
   ·simp
  simp only[List.flatMap_cons,List.length_append,List.map_cons,List.sum_cons]
  omega
theorem mN (fr to:Int) (b:Bs):((aT fr to b).flatMap (bM b)).length≤b.length:=by
 refine Nat.le_trans (pR b _) ?_
 unfold aT
 split
 ·exact Nat.le_trans (xX _ _ _) (by simp;omega)
 ·simp
theorem Cw (b:Bs) (f:Fd):(jV b f).length≤b.length:=Nat.le_trans (GR _) (mN _ _ _)
theorem GU (b:Bs) (l:List Ln) (hl:l.length≤1000000) (hb:b.length≤1000000) (hsum:(l.flatMap (bM b)).length≤1000000) (a:Bs) (p q r:Int):∀(n i:Nat),l.length - i=n→i≤l.length→
  Evt (fun k j=>L70 (aA cfg k) j (ofBytes b) (l.map lnV) (l.length:Nat) (i:Nat) a p q r (ofBytes ((l.take i).flatMap (bM b)))) (.str (trimF (l.flatMap (bM b))),[])
 |0,i,h,hi=>by
  have hil:i=l.length:=by omega
  subst hil
  rw[List.take_length]
  refine Ja (ofBytes b) (l.map lnV) (l.length:Nat) (l.length:Nat) a p q r (ofBytes (l.flatMap (bM b))) ?_
  have h1:¬((l.length:Int)<(l.length:Int)):=by omega
  have h92:Ret 29 [.ref 0 0] [.cells [.opt 0 0, .lst 5 true (ofBytes (l.flatMap (bM b)))]] (.str (l.flatMap (bM b)),[.cells [.opt 0 0, .lst 5 false (ofBytes (l.flatMap (bM b)))]]):=by
   refine iJ (h:=Go.Ev.textF) (by kernel_rfl) ?_
   have h2:=kO (l.flatMap (bM b))
   have h3:(ofBytes (l.flatMap (bM b))).length<1099511627776:=by rw[aU];omega
   simp only[Go.Ev.textF,h2,h3,decide_true,Bool.and_self,if_true,cM]
  simp only[Cr,h1,decide_false,Bool.false_eq_true,if_false]
  refine aD h92 ?_
  simp only[V.getS]
  refine aD (GT (l.flatMap (bM b)) (by omega)) ?_
  exact aC _
 |n+1,i,h,hi=>by
  have hlt:i<l.length:=by omega
  refine Ja (ofBytes b) (l.map lnV) (l.length:Nat) (i:Nat) a p q r (ofBytes ((l.take i).flatMap (bM b))) ?_
  have h1:((i:Int)<(l.length:Int)):=by omega
  have h2:(0:Int)≤(i:Int):=by omega
  have hw:IntKind.wrap .i64 ((i:Int)+1)=((i+1:Nat):Int):=by rw[wrap64 (by omega) (by omega)];omega
  have h57:Ret 64 [.lst 5 false (ofBytes b), .agg [.int .i64 (l[i].1:Nat), .int .i64 (l[i].2.1:Nat), .int .i64 (l[i].2.2:Nat)]] [] (.str (bM b l[i]),[]):=GQ b l[i]
  have htake:(l.take (i+1)).flatMap (bM b)=(l.take i).flatMap (bM b)++bM b l[i]:=by
   rw[List.take_add_one,List.getElem?_eq_getElem hlt,Option.toList_some,List.flatMap_append]
   simp only[List.flatMap_cons,List.flatMap_nil,List.append_nil]
  have hle:((l.take (i+1)).flatMap (bM b)).length≤1000000:=by
   have e:l.flatMap (bM b)=(l.take (i+1)).flatMap (bM b)++(l.drop (i+1)).flatMap (bM b):=by rw[←List.flatMap_append,List.take_append_drop]
   rw[e,List.length_append]at hsum;omega
  simp only[Cr,h1,decide_true,if_true,aI h2,List.length_map,cD,Int.toNat_natCast,oW hlt,lnV,V.cells,List.headD_cons,List.tail_cons,V.getI,hw]
  refine aD h57 ?_
  simp only[V.getS]
  refine aD (LV ((l.take i).flatMap (bM b)) (bM b l[i]) (by rw[htake,List.length_append]at hle;omega)) ?_
  simp only[List.headD_cons,Ob.getC,List.tail_cons,V.getL]
  rw[←htake]
  exact GU b l hl hb hsum a p q r n (i+1) (by omega) (by omega)
theorem Jd (b:Bs) (hb:b.length≤1000000) (f:Fd):Ret 70 [.lst 5 false (ofBytes b),fdV f] [] (.str (jV b f),[]):=by
 obtain⟨a,p,q,r⟩:=f
 refine M70 (ofBytes b) a p q r ?_
 simp only[T70]
 refine aD (GP b hb q r) ?_
 have h1:=dB q r b
 have h2:=mN q r b
 simp only[V.getL,List.length_map]
 have:=GU b (aT q r b) (by omega) hb (by omega) a p q r (aT q r b).length 0 (by omega) (by omega)
 simp only[List.take_zero,List.flatMap_nil]at this
 exact this
def kR (b:Bs) (l:List Fd) (name:Bs):Bs:=match kQ l name with|some f=>jV b f|none=>[]
theorem tM (b:Bs) (l:List Fd) (name:Bs):(kR b l name).length≤b.length:=by
 unfold kR
 split
 ·exact Cw b _
 ·simp
theorem Je (b:Bs) (hb:b.length≤1000000) (l:List Fd) (hl:l.length≤1000000) (hv:∀f∈l,f.1.length≤1000000) (name:Bs) (hn:name.length≤1000000):
  Ret 34 [.lst 5 false (ofBytes b), .lst 91 false (l.map fdV), .str name] [] (.str (kR b l name),[]):=by
 refine M34 (ofBytes b) (l.map fdV) name ?_
 simp only[T34]
 refine aD (Jc l hl hv name hn) ?_
 unfold kR
 cases kQ l name with
 |none=>
  simp only[tK,V.getT,List.tail_cons,List.headD_cons,V.getB,Bool.not_false,if_true]
  exact aC _
 |some f=>
  have h66:Ret 70 [.lst 5 false (ofBytes b), .agg [.str f.1, .int .i64 f.2.1, .int .i64 f.2.2.1, .int .i64 f.2.2.2]] [] (.str (jV b f),[]):=Jd b hb f
  simp only[tK,V.getT,List.tail_cons,List.headD_cons,V.getB,Bool.not_true,Bool.false_eq_true,if_false,fdV,V.cells,V.getS,V.getI]
  refine aD h66 ?_
  exact aC _
end Go.Proofs.YtdoaoaicdimbeaaGreatDoor
end
section
namespace Go.Proofs.YtdoaoaicdimbeaaGreatDoor
open Go.Ev Go
open List (headD tail getD length drop take)
open V (getI getL getT getS getB)
set_option maxRecDepth 100000
variable (call : FuncId → Fun) (icall : aQ (V × List Ob)) (again : List It → St → Option (V × List Ob))
def T57 (call:FuncId→Fun) (a0:List V) (a1:Int) (a2:List V) (a3:Bool):Option (V×List Ob):=
 Option.bind (call 34 [(V.lst 5 false a0),(V.lst 91 false a2),(V.str [99,111,110,116,101,110,116,45,116,121,112,101])] []) fun z0=>
 Option.bind (call 99 [(V.str (getS z0.1)),(V.bool true)] []) fun z1=>
 if(getB (headD (tail (getT z1.1)) V.bot))=true then
 some ((V.agg [(V.str (getS (headD (V.cells (headD (getT z1.1) V.bot)) V.bot))),(V.str (getS (headD (tail (V.cells (headD (getT z1.1) V.bot))) V.bot))),(V.lst 176 false (getL (headD (tail (tail (V.cells (headD (getT z1.1) V.bot)))) V.bot)))]),[(Ob.cells [(V.lst 5 false a0),(V.int .i64 a1)])])
 else
 if a3=true then
 some ((V.agg [(V.str [109,101,115,115,97,103,101]),(V.str [114,102,99,56,50,50]),(V.lst 176 false [])]),[(Ob.cells [(V.lst 5 false a0),(V.int .i64 a1)])])
 else
 some ((V.agg [(V.str [116,101,120,116]),(V.str [112,108,97,105,110]),(V.lst 176 false [])]),[(Ob.cells [(V.lst 5 false a0),(V.int .i64 a1)])])
def O57 (a0:List V) (a1:Int):List Ob:=[Ob.cells [V.lst 5 false a0,V.int IntKind.i64 a1]]
def A57 (a2:List V) (a3:Bool):List V:=[V.ref 0 0,V.lst 91 false a2,V.bool a3]
theorem E57 (a0:List V) (a1:Int) (a2:List V) (a3:Bool):GO 57 Tryz.f57 (A57 a2 a3) (O57 a0 a1) call icall again=T57 call a0 a1 a2 a3:=by kernel_rfl
theorem C57 (k:Nat) (a0:List V) (a1:Int) (a2:List V) (a3:Bool):aA cfg (k+1) 57 (A57 a2 a3) (O57 a0 a1)=T57 (aA cfg k) a0 a1 a2 a3:=
 (show aA cfg (k+1) 57 (A57 a2 a3) (O57 a0 a1)=GO 57 Tryz.f57 (A57 a2 a3) (O57 a0 a1) (aA cfg k) (aF cfg (aA cfg k) 20) (RN 57 Tryz.f57 (O57 a0 a1) (aA cfg k) (aF cfg (aA cfg k) 20) k)by kernel_rfl).trans (E57 _ _ _ a0 a1 a2 a3)
theorem M57 (a0:List V) (a1:Int) (a2:List V) (a3:Bool) {r:V×List Ob} (h:Evt (fun k n=>T57 (aA cfg k) a0 a1 a2 a3) r):Ret 57 [V.ref 0 0,V.lst 91 false a2,V.bool a3] [Ob.cells [V.lst 5 false a0,V.int IntKind.i64 a1]] r:=aR (g:=fun k n=>T57 (aA cfg k) a0 a1 a2 a3) (fun k=>C57 k a0 a1 a2 a3) h
def Cx (call:FuncId→Fun) (ag0:List UInt8→List V→Int→List V→Int→Int→List V→Int→Int→Int→Int→Int→Int→Int→Option (V×List Ob)) (s0:List UInt8) (l1:List V) (i2:Int) (l3:List V) (i4:Int) (i5:Int) (l6:List V) (i7:Int) (i8:Int) (i9:Int) (i10:Int) (i11:Int) (i12:Int) (i13:Int):Option (V×List Ob):=
 if(decide (i5<i4))=true then
 chk (decide (0≤i5)) (chk (decide (i5<((length l3:Nat):Int))) (Option.bind (call 64 [(V.lst 5 false l6),(V.agg [(V.int .i64 (getI (headD (V.cells (getD l3 (Int.toNat i5) V.bot)) V.bot))),(V.int .i64 (getI (headD (tail (V.cells (getD l3 (Int.toNat i5) V.bot))) V.bot))),(V.int .i64 (getI (headD (tail (tail (V.cells (getD l3 (Int.toNat i5) V.bot)))) V.bot)))])] []) fun z0=>
 Option.bind (call 100 [(V.str (getS z0.1)),(V.str s0)] []) fun z1=>
 if(!(getB (headD (getT z1.1) V.bot)))=true then
 (ag0 (s0) (l1) ((getI (headD (tail (V.cells (getD l3 (Int.toNat i5) V.bot))) V.bot))) (l3) (i4) ((IntKind.wrap .i64 (i5+(1:Int)))) (l6) (i7) (i8) (i9) (i10) (i11) (i12) (i13))
 else
 if(getB (headD (tail (getT z1.1)) V.bot))=true then
 some ((V.tup [(V.lst 32 false l1),(V.agg [(V.int .i64 i2),(V.int .i64 (getI (headD (tail (tail (V.cells (getD l3 (Int.toNat i5) V.bot)))) V.bot)))]),(V.bool (decide (((length l1:Nat):Int)>(0:Int))))]),[(Ob.cells [(V.lst 5 false l6),(V.int .i64 i7)])])
 else
 chk (cZ l1 [(V.agg [(V.int .i64 i2),(V.int .i64 (getI (headD (tail (tail (V.cells (getD l3 (Int.toNat i5) V.bot)))) V.bot)))])] 17) ((ag0 (s0) ((l1++[(V.agg [(V.int .i64 i2),(V.int .i64 (getI (headD (tail (tail (V.cells (getD l3 (Int.toNat i5) V.bot)))) V.bot)))])])) ((getI (headD (tail (tail (V.cells (getD l3 (Int.toNat i5) V.bot)))) V.bot))) (l3) (i4) ((IntKind.wrap .i64 (i5+(1:Int)))) (l6) (i7) (i8) (i9) (i10) (i11) (i12) (i13)))))
 else
 some ((V.tup [(V.lst 32 false l1),(V.agg [(V.int .i64 i12),(V.int .i64 i13)]),(V.bool (decide (((length l1:Nat):Int)>(0:Int))))]),[(Ob.cells [(V.lst 5 false l6),(V.int .i64 i7)])])
def T59 (call:FuncId→Fun) (ag0:List UInt8→List V→Int→List V→Int→Int→List V→Int→Int→Int→Int→Int→Int→Int→Option (V×List Ob)) (a0:List V) (a1:Int) (a2:Int) (a3:Int) (a4:List UInt8):Option (V×List Ob):=
 Option.bind (call 62 [(V.lst 5 false a0),(V.agg [(V.int .i64 a2),(V.int .i64 a3)])] []) fun z0=>
 (ag0 (a4) ([]) (a2) ((getL z0.1)) (((length (getL z0.1):Nat):Int)) ((0:Int)) (a0) (a1) (a2) (a3) ((0:Int)) ((0:Int)) (a3) (a3))
def O59 (a0:List V) (a1:Int):List Ob:=[Ob.cells [V.lst 5 false a0,V.int IntKind.i64 a1]]
def A59 (a2:Int) (a3:Int) (a4:List UInt8):List V:=[V.ref 0 0,V.agg [V.int IntKind.i64 a2,V.int IntKind.i64 a3],V.str a4]
def As (s0:List UInt8) (l1:List V) (i2:Int) (l3:List V) (i4:Int) (i5:Int) (l6:List V) (i7:Int) (i8:Int) (i9:Int) (i10:Int) (i11:Int) (i12:Int) (i13:Int):St:=⟨[(V.ref 0 0),V.bot,(V.str s0),V.bot,V.bot,V.bot,V.bot,(V.ref 2 0),V.bot,(V.lst 32 true l1),(V.ref 3 0),(V.int IntKind.i64 i2),V.bot,V.bot,V.bot,V.bot,V.bot,V.bot,V.bot,V.bot,V.bot,V.bot,V.bot,V.bot,V.bot,V.bot,V.bot,V.bot,V.bot,(V.lst 134 false l3),(V.int IntKind.i64 i4),(V.int IntKind.i64 i5)]++List.replicate 42 V.bot,[(Ob.cells [(V.lst 5 false l6),(V.int IntKind.i64 i7)]),(Ob.cells [(V.int IntKind.i64 i8),(V.int IntKind.i64 i9)]),(Ob.cells [(V.int IntKind.i64 i10),(V.int IntKind.i64 i11)]),(Ob.cells [(V.int IntKind.i64 i12),(V.int IntKind.i64 i13)])]⟩
theorem LW (a0:List V) (a1:Int) (s0:List UInt8) (l1:List V) (i2:Int) (l3:List V) (i4:Int) (i5:Int) (l6:List V) (i7:Int) (i8:Int) (i9:Int) (i10:Int) (i11:Int) (i12:Int) (i13:Int):
 RM 59 Tryz.f59 (O59 a0 a1) call icall again (aJ Tryz.f59 0) (As s0 l1 i2 l3 i4 i5 l6 i7 i8 i9 i10 i11 i12 i13)=Cx call (fun s0 l1 i2 l3 i4 i5 l6 i7 i8 i9 i10 i11 i12 i13=>again (aJ Tryz.f59 0) (As s0 l1 i2 l3 i4 i5 l6 i7 i8 i9 i10 i11 i12 i13)) s0 l1 i2 l3 i4 i5 l6 i7 i8 i9 i10 i11 i12 i13:=by kernel_rfl
theorem E59 (a0:List V) (a1:Int) (a2:Int) (a3:Int) (a4:List UInt8):GO 59 Tryz.f59 (A59 a2 a3 a4) (O59 a0 a1) call icall again=T59 call (fun s0 l1 i2 l3 i4 i5 l6 i7 i8 i9 i10 i11 i12 i13=>again (aJ Tryz.f59 0) (As s0 l1 i2 l3 i4 i5 l6 i7 i8 i9 i10 i11 i12 i13)) a0 a1 a2 a3 a4:=by kernel_rfl
def L59 (call:FuncId→Fun):Nat→(List UInt8→List V→Int→List V→Int→Int→List V→Int→Int→Int→Int→Int→Int→Int→Option (V×List Ob))
 |0=>fun _ _ _ _ _ _ _ _ _ _ _ _ _ _=>none
 |n+1=>Cx call (L59 call n)
theorem R59 (call:FuncId→Fun) (icall:aQ (V×List Ob)) (a0:List V) (a1:Int):∀n,(∀(s0:List UInt8) (l1:List V) (i2:Int) (l3:List V) (i4:Int) (i5:Int) (l6:List V) (i7:Int) (i8:Int) (i9:Int) (i10:Int) (i11:Int) (i12:Int) (i13:Int),RN 59 Tryz.f59 (O59 a0 a1) call icall n (aJ Tryz.f59 0) (As s0 l1 i2 l3 i4 i5 l6 i7 i8 i9 i10 i11 i12 i13)=(L59 call n) s0 l1 i2 l3 i4 i5 l6 i7 i8 i9 i10 i11 i12 i13)
 |0=>fun s0 l1 i2 l3 i4 i5 l6 i7 i8 i9 i10 i11 i12 i13=>rfl
 |n+1=>by
  have ih:=R59 call icall a0 a1 n
  exact fun s0 l1 i2 l3 i4 i5 l6 i7 i8 i9 i10 i11 i12 i13=>(LW call icall (RN 59 Tryz.f59 (O59 a0 a1) call icall n) a0 a1 s0 l1 i2 l3 i4 i5 l6 i7 i8 i9 i10 i11 i12 i13).trans (by rw[show(fun s0 l1 i2 l3 i4 i5 l6 i7 i8 i9 i10 i11 i12 i13=>RN 59 Tryz.f59 (O59 a0 a1) call icall n (aJ Tryz.f59 0) (As s0 l1 i2 l3 i4 i5 l6 i7 i8 i9 i10 i11 i12 i13))=(L59 call n)from(funext fun s0=>funext fun l1=>funext fun i2=>funext fun l3=>funext fun i4=>funext fun i5=>funext fun l6=>funext fun i7=>funext fun i8=>funext fun i9=>funext fun i10=>funext fun i11=>funext fun i12=>funext fun i13=>ih s0 l1 i2 l3 i4 i5 l6 i7 i8 i9 i10 i11 i12 i13)];rfl)
theorem C59 (k:Nat) (a0:List V) (a1:Int) (a2:Int) (a3:Int) (a4:List UInt8):aA cfg (k+1) 59 (A59 a2 a3 a4) (O59 a0 a1)=T59 (aA cfg k) (L59 (aA cfg k) k) a0 a1 a2 a3 a4:=by
 have ih:=R59 (aA cfg k) (aF cfg (aA cfg k) 20) a0 a1 k
 refine(show aA cfg (k+1) 59 (A59 a2 a3 a4) (O59 a0 a1)=GO 59 Tryz.f59 (A59 a2 a3 a4) (O59 a0 a1) (aA cfg k) (aF cfg (aA cfg k) 20) (RN 59 Tryz.f59 (O59 a0 a1) (aA cfg k) (aF cfg (aA cfg k) 20) k)by kernel_rfl).trans ((E59 _ _ _ a0 a1 a2 a3 a4).trans ?_)
 rw[show(fun s0 l1 i2 l3 i4 i5 l6 i7 i8 i9 i10 i11 i12 i13=>RN 59 Tryz.f59 (O59 a0 a1) (aA cfg k) (aF cfg (aA cfg k) 20) k (aJ Tryz.f59 0) (As s0 l1 i2 l3 i4 i5 l6 i7 i8 i9 i10 i11 i12 i13))=(L59 (aA cfg k) k)from(funext fun s0=>funext fun l1=>funext fun i2=>funext fun l3=>funext fun i4=>funext fun i5=>funext fun l6=>funext fun i7=>funext fun i8=>funext fun i9=>funext fun i10=>funext fun i11=>funext fun i12=>funext fun i13=>ih s0 l1 i2 l3 i4 i5 l6 i7 i8 i9 i10 i11 i12 i13)]
theorem M59 (a0:List V) (a1:Int) (a2:Int) (a3:Int) (a4:List UInt8) {r:V×List Ob} (h:Evt (fun k n=>T59 (aA cfg k) (L59 (aA cfg k) n) a0 a1 a2 a3 a4) r):Ret 59 [V.ref 0 0,V.agg [V.int IntKind.i64 a2,V.int IntKind.i64 a3],V.str a4] [Ob.cells [V.lst 5 false a0,V.int IntKind.i64 a1]] r:=aR (g:=fun k n=>T59 (aA cfg k) (L59 (aA cfg k) n) a0 a1 a2 a3 a4) (fun k=>C59 k a0 a1 a2 a3 a4) h
theorem Jf (s0:List UInt8) (l1:List V) (i2:Int) (l3:List V) (i4:Int) (i5:Int) (l6:List V) (i7:Int) (i8:Int) (i9:Int) (i10:Int) (i11:Int) (i12:Int) (i13:Int) {r:V×List Ob} (h:Evt (fun k n=>Cx (aA cfg k) (L59 (aA cfg k) n) s0 l1 i2 l3 i4 i5 l6 i7 i8 i9 i10 i11 i12 i13) r):Evt (fun k n=>(L59 (aA cfg k) n) s0 l1 i2 l3 i4 i5 l6 i7 i8 i9 i10 i11 i12 i13) r:=bC (fun k n=>rfl) h
def Au (call:FuncId→Fun) (ag0:Int→Bool→List V→Int→Int→List V→Int→Int→Int→Int→Int→Int→List V→List V→Int→Int→Option (V×List Ob)) (i0:Int) (b1:Bool) (l2:List V) (i3:Int) (i4:Int) (l5:List V) (i6:Int) (i7:Int) (i8:Int) (i9:Int) (i10:Int) (i11:Int) (l12:List V) (l13:List V) (i14:Int) (i15:Int):Option (V×List Ob):=
 if(decide (i4<i3))=true then
 chk (decide (0≤i4)) (chk (decide (i4<((length l2:Nat):Int))) (if(decide ((IntKind.wrap .i64 (i4+(1:Int)))<((length l13:Nat):Int)))=true then
 chk (decide (0≤(IntKind.wrap .i64 (i4+(1:Int))))) (chk (decide ((IntKind.wrap .i64 (i4+(1:Int)))<((length l13:Nat):Int))) (Option.bind (call 31 [(V.ref 0 0),(V.agg [(V.int .i64 (getI (headD (tail (V.cells (getD l2 (Int.toNat i4) V.bot))) V.bot))),(V.int .i64 (if(getI (headD (tail (V.cells (getD l2 (Int.toNat i4) V.bot))) V.bot))>(getI (headD (V.cells (getD l13 (Int.toNat (IntKind.wrap .i64 (i4+(1:Int)))) V.bot)) V.bot))then(getI (headD (tail (V.cells (getD l2 (Int.toNat i4) V.bot))) V.bot))else(getI (headD (V.cells (getD l13 (Int.toNat (IntKind.wrap .i64 (i4+(1:Int)))) V.bot)) V.bot))))]),(V.int .i64 i0),(V.bool b1)] [(Ob.cells [(V.lst 5 false l5),(V.int .i64 i6)])]) fun z0=>
 chk (((length l12:Nat):Int)==((length l12:Nat):Int)) (chk (cZ l12 [(V.agg [(V.int .i64 (getI (headD (V.cells z0.1) V.bot))),(V.int .i64 (getI (headD (tail (V.cells z0.1)) V.bot))),(V.int .i64 (getI (headD (tail (tail (V.cells z0.1))) V.bot))),(V.int .i64 (getI (headD (tail (tail (tail (V.cells z0.1)))) V.bot))),(V.int .i64 (getI (headD (tail (tail (tail (tail (V.cells z0.1))))) V.bot))),(V.lst 36 false (getL (headD (tail (tail (tail (tail (tail (V.cells z0.1)))))) V.bot))),(V.lst 32 false (getL (headD (tail (tail (tail (tail (tail (tail (V.cells z0.1))))))) V.bot))),(V.int .i64 (getI (headD (tail (tail (tail (tail (tail (tail (tail (V.cells z0.1)))))))) V.bot))),(V.int .i64 (getI (headD (tail (tail (tail (tail (tail (tail (tail (tail (V.cells z0.1))))))))) V.bot)))])] 105) ((ag0 (i0) (b1) (l2) (i3) ((IntKind.wrap .i64 (i4+(1:Int)))) ((getL (headD (Ob.getC (headD z0.2 Ob.dead)) V.bot))) ((getI (headD (tail (Ob.getC (headD z0.2 Ob.dead))) V.bot))) (i7) (i8) (i9) (i10) (i11) ((l12++[(V.agg [(V.int .i64 (getI (headD (V.cells z0.1) V.bot))),(V.int .i64 (getI (headD (tail (V.cells z0.1)) V.bot))),(V.int .i64 (getI (headD (tail (tail (V.cells z0.1))) V.bot))),(V.int .i64 (getI (headD (tail (tail (tail (V.cells z0.1)))) V.bot))),(V.int .i64 (getI (headD (tail (tail (tail (tail (V.cells z0.1))))) V.bot))),(V.lst 36 false (getL (headD (tail (tail (tail (tail (tail (V.cells z0.1)))))) V.bot))),(V.lst 32 false (getL (headD (tail (tail (tail (tail (tail (tail (V.cells z0.1))))))) V.bot))),(V.int .i64 (getI (headD (tail (tail (tail (tail (tail (tail (tail (V.cells z0.1)))))))) V.bot))),(V.int .i64 (getI (headD (tail (tail (tail (tail (tail (tail (tail (tail (V.cells z0.1))))))))) V.bot)))])])) (l13) (i14) (i15))))))
 else
 Option.bind (call 31 [(V.ref 0 0),(V.agg [(V.int .i64 (getI (headD (tail (V.cells (getD l2 (Int.toNat i4) V.bot))) V.bot))),(V.int .i64 (if(getI (headD (tail (V.cells (getD l2 (Int.toNat i4) V.bot))) V.bot))>i14 then(getI (headD (tail (V.cells (getD l2 (Int.toNat i4) V.bot))) V.bot))else i14))]),(V.int .i64 i0),(V.bool b1)] [(Ob.cells [(V.lst 5 false l5),(V.int .i64 i6)])]) fun z0=>
 chk (((length l12:Nat):Int)==((length l12:Nat):Int)) (chk (cZ l12 [(V.agg [(V.int .i64 (getI (headD (V.cells z0.1) V.bot))),(V.int .i64 (getI (headD (tail (V.cells z0.1)) V.bot))),(V.int .i64 (getI (headD (tail (tail (V.cells z0.1))) V.bot))),(V.int .i64 (getI (headD (tail (tail (tail (V.cells z0.1)))) V.bot))),(V.int .i64 (getI (headD (tail (tail (tail (tail (V.cells z0.1))))) V.bot))),(V.lst 36 false (getL (headD (tail (tail (tail (tail (tail (V.cells z0.1)))))) V.bot))),(V.lst 32 false (getL (headD (tail (tail (tail (tail (tail (tail (V.cells z0.1))))))) V.bot))),(V.int .i64 (getI (headD (tail (tail (tail (tail (tail (tail (tail (V.cells z0.1)))))))) V.bot))),(V.int .i64 (getI (headD (tail (tail (tail (tail (tail (tail (tail (tail (V.cells z0.1))))))))) V.bot)))])] 105) ((ag0 (i0) (b1) (l2) (i3) ((IntKind.wrap .i64 (i4+(1:Int)))) ((getL (headD (Ob.getC (headD z0.2 Ob.dead)) V.bot))) ((getI (headD (tail (Ob.getC (headD z0.2 Ob.dead))) V.bot))) (i7) (i8) (i9) (i10) (i11) ((l12++[(V.agg [(V.int .i64 (getI (headD (V.cells z0.1) V.bot))),(V.int .i64 (getI (headD (tail (V.cells z0.1)) V.bot))),(V.int .i64 (getI (headD (tail (tail (V.cells z0.1))) V.bot))),(V.int .i64 (getI (headD (tail (tail (tail (V.cells z0.1)))) V.bot))),(V.int .i64 (getI (headD (tail (tail (tail (tail (V.cells z0.1))))) V.bot))),(V.lst 36 false (getL (headD (tail (tail (tail (tail (tail (V.cells z0.1)))))) V.bot))),(V.lst 32 false (getL (headD (tail (tail (tail (tail (tail (tail (V.cells z0.1))))))) V.bot))),(V.int .i64 (getI (headD (tail (tail (tail (tail (tail (tail (tail (V.cells z0.1)))))))) V.bot))),(V.int .i64 (getI (headD (tail (tail (tail (tail (tail (tail (tail (tail (V.cells z0.1))))))))) V.bot)))])])) (l13) (i14) (i15))))))
 else
 some ((V.tup []),[(Ob.cells [(V.lst 5 false l5),(V.int .i64 i6)]),(Ob.cells [(V.int .i64 i7),(V.int .i64 i8),(V.int .i64 i9),(V.int .i64 i10),(V.int .i64 i11),(V.lst 36 true l12),(V.lst 32 false l13),(V.int .i64 i14),(V.int .i64 i15)])])
def T60 (call:FuncId→Fun) (ag0:Int→Bool→List V→Int→Int→List V→Int→Int→Int→Int→Int→Int→List V→List V→Int→Int→Option (V×List Ob)) (a0:List V) (a1:Int) (a2:Int) (a3:Int) (a4:Int) (a5:Int) (a6:Int) (a7:List V) (a8:List V) (a9:Int) (a10:Int) (a11:Int) (a12:Bool):Option (V×List Ob):=
 (ag0 (a11) (a12) (a8) (((length a8:Nat):Int)) ((0:Int)) (a0) (a1) (a2) (a3) (a4) (a5) (a6) (a7) (a8) (a9) (a10))
def O60 (a0:List V) (a1:Int) (a2:Int) (a3:Int) (a4:Int) (a5:Int) (a6:Int) (a7:List V) (a8:List V) (a9:Int) (a10:Int):List Ob:=[Ob.cells [V.lst 5 false a0,V.int IntKind.i64 a1],Ob.cells [V.int IntKind.i64 a2,V.int IntKind.i64 a3,V.int IntKind.i64 a4,V.int IntKind.i64 a5,V.int IntKind.i64 a6,V.lst 36 true a7,V.lst 32 false a8,V.int IntKind.i64 a9,V.int IntKind.i64 a10]]
def A60 (a11:Int) (a12:Bool):List V:=[V.ref 0 0,V.ref 1 0,V.int IntKind.i64 a11,V.bool a12]
def Av (i0:Int) (b1:Bool) (l2:List V) (i3:Int) (i4:Int) (l5:List V) (i6:Int) (i7:Int) (i8:Int) (i9:Int) (i10:Int) (i11:Int) (l12:List V) (l13:List V) (i14:Int) (i15:Int):St:=⟨[(V.ref 0 0),(V.ref 1 0),(V.int IntKind.i64 i0),(V.bool b1),V.bot,V.bot,V.bot,V.bot,V.bot,V.bot,V.bot,V.bot,V.bot,V.bot,(V.lst 32 false l2),(V.int IntKind.i64 i3),(V.int IntKind.i64 i4)]++List.replicate 48 V.bot,[(Ob.cells [(V.lst 5 false l5),(V.int IntKind.i64 i6)]),(Ob.cells [(V.int IntKind.i64 i7),(V.int IntKind.i64 i8),(V.int IntKind.i64 i9),(V.int IntKind.i64 i10),(V.int IntKind.i64 i11),(V.lst 36 true l12),(V.lst 32 false l13),(V.int IntKind.i64 i14),(V.int IntKind.i64 i15)])]⟩
theorem LX (a0:List V) (a1:Int) (a2:Int) (a3:Int) (a4:Int) (a5:Int) (a6:Int) (a7:List V) (a8:List V) (a9:Int) (a10:Int) (i0:Int) (b1:Bool) (l2:List V) (i3:Int) (i4:Int) (l5:List V) (i6:Int) (i7:Int) (i8:Int) (i9:Int) (i10:Int) (i11:Int) (l12:List V) (l13:List V) (i14:Int) (i15:Int):
 RM 60 Tryz.f60 (O60 a0 a1 a2 a3 a4 a5 a6 a7 a8 a9 a10) call icall again (aJ Tryz.f60 0) (Av i0 b1 l2 i3 i4 l5 i6 i7 i8 i9 i10 i11 l12 l13 i14 i15)=Au call (fun i0 b1 l2 i3 i4 l5 i6 i7 i8 i9 i10 i11 l12 l13 i14 i15=>again (aJ Tryz.f60 0) (Av i0 b1 l2 i3 i4 l5 i6 i7 i8 i9 i10 i11 l12 l13 i14 i15)) i0 b1 l2 i3 i4 l5 i6 i7 i8 i9 i10 i11 l12 l13 i14 i15:=by kernel_rfl
theorem E60 (a0:List V) (a1:Int) (a2:Int) (a3:Int) (a4:Int) (a5:Int) (a6:Int) (a7:List V) (a8:List V) (a9:Int) (a10:Int) (a11:Int) (a12:Bool):GO 60 Tryz.f60 (A60 a11 a12) (O60 a0 a1 a2 a3 a4 a5 a6 a7 a8 a9 a10) call icall again=T60 call (fun i0 b1 l2 i3 i4 l5 i6 i7 i8 i9 i10 i11 l12 l13 i14 i15=>again (aJ Tryz.f60 0) (Av i0 b1 l2 i3 i4 l5 i6 i7 i8 i9 i10 i11 l12 l13 i14 i15)) a0 a1 a2 a3 a4 a5 a6 a7 a8 a9 a10 a11 a12:=by kernel_rfl
def L60 (call:FuncId→Fun):Nat→(Int→Bool→List V→Int→Int→List V→Int→Int→Int→Int→Int→Int→List V→List V→Int→Int→Option (V×List Ob))
 |0=>fun _ _ _ _ _ _ _ _ _ _ _ _ _ _ _ _=>none
 |n+1=>Au call (L60 call n)
theorem R60 (call:FuncId→Fun) (icall:aQ (V×List Ob)) (a0:List V) (a1:Int) (a2:Int) (a3:Int) (a4:Int) (a5:Int) (a6:Int) (a7:List V) (a8:List V) (a9:Int) (a10:Int):∀n,(∀(i0:Int) (b1:Bool) (l2:List V) (i3:Int) (i4:Int) (l5:List V) (i6:Int) (i7:Int) (i8:Int) (i9:Int) (i10:Int) (i11:Int) (l12:List V) (l13:List V) (i14:Int) (i15:Int),RN 60 Tryz.f60 (O60 a0 a1 a2 a3 a4 a5 a6 a7 a8 a9 a10) call icall n (aJ Tryz.f60 0) (Av i0 b1 l2 i3 i4 l5 i6 i7 i8 i9 i10 i11 l12 l13 i14 i15)=(L60 call n) i0 b1 l2 i3 i4 l5 i6 i7 i8 i9 i10 i11 l12 l13 i14 i15)
 |0=>fun i0 b1 l2 i3 i4 l5 i6 i7 i8 i9 i10 i11 l12 l13 i14 i15=>rfl
 |n+1=>by
  have ih:=R60 call icall a0 a1 a2 a3 a4 a5 a6 a7 a8 a9 a10 n
  exact fun i0 b1 l2 i3 i4 l5 i6 i7 i8 i9 i10 i11 l12 l13 i14 i15=>(LX call icall (RN 60 Tryz.f60 (O60 a0 a1 a2 a3 a4 a5 a6 a7 a8 a9 a10) call icall n) a0 a1 a2 a3 a4 a5 a6 a7 a8 a9 a10 i0 b1 l2 i3 i4 l5 i6 i7 i8 i9 i10 i11 l12 l13 i14 i15).trans (by rw[show(fun i0 b1 l2 i3 i4 l5 i6 i7 i8 i9 i10 i11 l12 l13 i14 i15=>RN 60 Tryz.f60 (O60 a0 a1 a2 a3 a4 a5 a6 a7 a8 a9 a10) call icall n (aJ Tryz.f60 0) (Av i0 b1 l2 i3 i4 l5 i6 i7 i8 i9 i10 i11 l12 l13 i14 i15))=(L60 call n)from(funext fun i0=>funext fun b1=>funext fun l2=>funext fun i3=>funext fun i4=>funext fun l5=>funext fun i6=>funext fun i7=>funext fun i8=>funext fun i9=>funext fun i10=>funext fun i11=>funext fun l12=>funext fun l13=>funext fun i14=>funext fun i15=>ih i0 b1 l2 i3 i4 l5 i6 i7 i8 i9 i10 i11 l12 l13 i14 i15)];rfl)
theorem C60 (k:Nat) (a0:List V) (a1:Int) (a2:Int) (a3:Int) (a4:Int) (a5:Int) (a6:Int) (a7:List V) (a8:List V) (a9:Int) (a10:Int) (a11:Int) (a12:Bool):aA cfg (k+1) 60 (A60 a11 a12) (O60 a0 a1 a2 a3 a4 a5 a6 a7 a8 a9 a10)=T60 (aA cfg k) (L60 (aA cfg k) k) a0 a1 a2 a3 a4 a5 a6 a7 a8 a9 a10 a11 a12:=by
 have ih:=R60 (aA cfg k) (aF cfg (aA cfg k) 20) a0 a1 a2 a3 a4 a5 a6 a7 a8 a9 a10 k
 refine(show aA cfg (k+1) 60 (A60 a11 a12) (O60 a0 a1 a2 a3 a4 a5 a6 a7 a8 a9 a10)=GO 60 Tryz.f60 (A60 a11 a12) (O60 a0 a1 a2 a3 a4 a5 a6 a7 a8 a9 a10) (aA cfg k) (aF cfg (aA cfg k) 20) (RN 60 Tryz.f60 (O60 a0 a1 a2 a3 a4 a5 a6 a7 a8 a9 a10) (aA cfg k) (aF cfg (aA cfg k) 20) k)by kernel_rfl).trans ((E60 _ _ _ a0 a1 a2 a3 a4 a5 a6 a7 a8 a9 a10 a11 a12).trans ?_)
 rw[show(fun i0 b1 l2 i3 i4 l5 i6 i7 i8 i9 i10 i11 l12 l13 i14 i15=>RN 60 Tryz.f60 (O60 a0 a1 a2 a3 a4 a5 a6 a7 a8 a9 a10) (aA cfg k) (aF cfg (aA cfg k) 20) k (aJ Tryz.f60 0) (Av i0 b1 l2 i3 i4 l5 i6 i7 i8 i9 i10 i11 l12 l13 i14 i15))=(L60 (aA cfg k) k)from(funext fun i0=>funext fun b1=>funext fun l2=>funext fun i3=>funext fun i4=>funext fun l5=>funext fun i6=>funext fun i7=>funext fun i8=>funext fun i9=>funext fun i10=>funext fun i11=>funext fun l12=>funext fun l13=>funext fun i14=>funext fun i15=>ih i0 b1 l2 i3 i4 l5 i6 i7 i8 i9 i10 i11 l12 l13 i14 i15)]
theorem M60 (a0:List V) (a1:Int) (a2:Int) (a3:Int) (a4:Int) (a5:Int) (a6:Int) (a7:List V) (a8:List V) (a9:Int) (a10:Int) (a11:Int) (a12:Bool) {r:V×List Ob} (h:Evt (fun k n=>T60 (aA cfg k) (L60 (aA cfg k) n) a0 a1 a2 a3 a4 a5 a6 a7 a8 a9 a10 a11 a12) r):Ret 60 [V.ref 0 0,V.ref 1 0,V.int IntKind.i64 a11,V.bool a12] [Ob.cells [V.lst 5 false a0,V.int IntKind.i64 a1],Ob.cells [V.int IntKind.i64 a2,V.int IntKind.i64 a3,V.int IntKind.i64 a4,V.int IntKind.i64 a5,V.int IntKind.i64 a6,V.lst 36 true a7,V.lst 32 false a8,V.int IntKind.i64 a9,V.int IntKind.i64 a10]] r:=aR (g:=fun k n=>T60 (aA cfg k) (L60 (aA cfg k) n) a0 a1 a2 a3 a4 a5 a6 a7 a8 a9 a10 a11 a12) (fun k=>C60 k a0 a1 a2 a3 a4 a5 a6 a7 a8 a9 a10 a11 a12) h
theorem Jg (i0:Int) (b1:Bool) (l2:List V) (i3:Int) (i4:Int) (l5:List V) (i6:Int) (i7:Int) (i8:Int) (i9:Int) (i10:Int) (i11:Int) (l12:List V) (l13:List V) (i14:Int) (i15:Int) {r:V×List Ob} (h:Evt (fun k n=>Au (aA cfg k) (L60 (aA cfg k) n) i0 b1 l2 i3 i4 l5 i6 i7 i8 i9 i10 i11 l12 l13 i14 i15) r):Evt (fun k n=>(L60 (aA cfg k) n) i0 b1 l2 i3 i4 l5 i6 i7 i8 i9 i10 i11 l12 l13 i14 i15) r:=bC (fun k n=>rfl) h
def T61 (call:FuncId→Fun) (a0:List V) (a1:Int) (a2:List V):Option (V×List Ob):=
 Option.bind (call 33 [(V.lst 91 false a2),(V.str [99,111,110,116,101,110,116,45,116,114,97,110,115,102,101,114,45,101,110,99,111,100,105,110,103])] []) fun z0=>
 if(!(getB (headD (tail (getT z0.1)) V.bot)))=true then
 some ((V.bool true),[(Ob.cells [(V.lst 5 false a0),(V.int .i64 a1)])])
 else
 Option.bind (call 70 [(V.lst 5 false a0),(V.agg [(V.str (getS (headD (V.cells (headD (getT z0.1) V.bot)) V.bot))),(V.int .i64 (getI (headD (tail (V.cells (headD (getT z0.1) V.bot))) V.bot))),(V.int .i64 (getI (headD (tail (tail (V.cells (headD (getT z0.1) V.bot)))) V.bot))),(V.int .i64 (getI (headD (tail (tail (tail (V.cells (headD (getT z0.1) V.bot))))) V.bot)))])] []) fun z1=>
 Option.bind (call 73 [(V.str (getS z1.1))] []) fun z2=>
 if(sEq (getS z2.1) [55,98,105,116])=true then
 some ((V.bool true),[(Ob.cells [(V.lst 5 false a0),(V.int .i64 a1)])])
 else
 if(sEq (getS z2.1) [56,98,105,116])=true then
 some ((V.bool true),[(Ob.cells [(V.lst 5 false a0),(V.int .i64 a1)])])
 else
 if(sEq (getS z2.1) [98,105,110,97,114,121])=true then
 some ((V.bool true),[(Ob.cells [(V.lst 5 false a0),(V.int .i64 a1)])])
 else
 some ((V.bool false),[(Ob.cells [(V.lst 5 false a0),(V.int .i64 a1)])])
def O61 (a0:List V) (a1:Int):List Ob:=[Ob.cells [V.lst 5 false a0,V.int IntKind.i64 a1]]
def A61 (a2:List V):List V:=[V.ref 0 0,V.lst 91 false a2]
theorem E61 (a0:List V) (a1:Int) (a2:List V):GO 61 Tryz.f61 (A61 a2) (O61 a0 a1) call icall again=T61 call a0 a1 a2:=by kernel_rfl
theorem C61 (k:Nat) (a0:List V) (a1:Int) (a2:List V):aA cfg (k+1) 61 (A61 a2) (O61 a0 a1)=T61 (aA cfg k) a0 a1 a2:=
 (show aA cfg (k+1) 61 (A61 a2) (O61 a0 a1)=GO 61 Tryz.f61 (A61 a2) (O61 a0 a1) (aA cfg k) (aF cfg (aA cfg k) 20) (RN 61 Tryz.f61 (O61 a0 a1) (aA cfg k) (aF cfg (aA cfg k) 20) k)by kernel_rfl).trans (E61 _ _ _ a0 a1 a2)
theorem M61 (a0:List V) (a1:Int) (a2:List V) {r:V×List Ob} (h:Evt (fun k n=>T61 (aA cfg k) a0 a1 a2) r):Ret 61 [V.ref 0 0,V.lst 91 false a2] [Ob.cells [V.lst 5 false a0,V.int IntKind.i64 a1]] r:=aR (g:=fun k n=>T61 (aA cfg k) a0 a1 a2) (fun k=>C61 k a0 a1 a2) h
def T31 (call:FuncId→Fun) (a0:List V) (a1:Int) (a2:Int) (a3:Int) (a4:Int) (a5:Bool):Option (V×List Ob):=
 Option.bind (call 32 [(V.lst 5 false a0),(V.agg [(V.int .i64 a2),(V.int .i64 a3)])] []) fun z0=>
 if(a4==(32:Int))=true then
 some ((V.agg [(V.int .i64 0),(V.int .i64 a2),(V.int .i64 (getI (headD (tail (getT z0.1)) V.bot))),(V.int .i64 (getI (headD (tail (getT z0.1)) V.bot))),(V.int .i64 a3),(V.lst 36 false []),(V.lst 32 false []),(V.int .i64 0),(V.int .i64 0)]),[(Ob.cells [(V.lst 5 false a0),(V.int .i64 a1)])])
 else
 Option.bind (call 57 [(V.ref 0 0),(V.lst 91 false (getL (headD (getT z0.1) V.bot))),(V.bool a5)] [(Ob.cells [(V.lst 5 false a0),(V.int .i64 a1)])]) fun z1=>
 Option.bind (call 58 [(V.agg [(V.str (getS (headD (V.cells z1.1) V.bot))),(V.str (getS (headD (tail (V.cells z1.1)) V.bot))),(V.lst 176 false (getL (headD (tail (tail (V.cells z1.1))) V.bot)))]),(V.str [98,111,117,110,100,97,114,121])] []) fun z2=>
 Option.bind (if(sEq (getS (headD (V.cells z1.1) V.bot)) [109,117,108,116,105,112,97,114,116])=true then
 if(!(sEq (getS (headD (getT z2.1) V.bot)) []))=true then
 some (decide (((length (getS (headD (getT z2.1) V.bot)):Nat):Int)≤(70:Int)))
 else
 some false
 else
 some false) fun y3=>
 if y3=true then
 Option.bind (call 59 [(V.ref 0 0),(V.agg [(V.int .i64 (getI (headD (tail (getT z0.1)) V.bot))),(V.int .i64 a3)]),(V.str (getS (headD (getT z2.1) V.bot)))] [(Ob.cells [(V.lst 5 false (getL (headD (Ob.getC (headD z1.2 Ob.dead)) V.bot))),(V.int .i64 (getI (headD (tail (Ob.getC (headD z1.2 Ob.dead))) V.bot)))])]) fun z4=>
 Option.bind (if(getB (headD (tail (tail (getT z4.1))) V.bot))=true then
 some (decide ((IntKind.wrap .i64 ((getI (headD (tail (Ob.getC (headD z4.2 Ob.dead))) V.bot))+((length (getL (headD (getT z4.1) V.bot)):Nat):Int)))≤(1000:Int)))
 else
 some false) fun y5=>
 if y5=true then
 Option.bind (call 60 [(V.ref 0 0),(V.ref 1 0),(V.int .i64 (IntKind.wrap .i64 (a4+(1:Int)))),(V.bool (sEq (getS (headD (tail (V.cells z1.1)) V.bot)) [100,105,103,101,115,116]))] [(Ob.cells [(V.lst 5 false (getL (headD (Ob.getC (headD z4.2 Ob.dead)) V.bot))),(V.int .i64 (IntKind.wrap .i64 ((getI (headD (tail (Ob.getC (headD z4.2 Ob.dead))) V.bot))+((length (getL (headD (getT z4.1) V.bot)):Nat):Int))))]),(Ob.cells [(V.int .i64 1),(V.int .i64 a2),(V.int .i64 (getI (headD (tail (getT z0.1)) V.bot))),(V.int .i64 (getI (headD (tail (getT z0.1)) V.bot))),(V.int .i64 a3),(V.lst 36 true []),(V.lst 32 false (getL (headD (getT z4.1) V.bot))),(V.int .i64 (getI (headD (V.cells (headD (tail (getT z4.1)) V.bot)) V.bot))),(V.int .i64 (getI (headD (tail (V.cells (headD (tail (getT z4.1)) V.bot))) V.bot)))])]) fun z6=>
 some ((V.agg [(V.int .i64 (getI (headD (Ob.getC (headD (tail z6.2) Ob.dead)) V.bot))),(V.int .i64 (getI (headD (tail (Ob.getC (headD (tail z6.2) Ob.dead))) V.bot))),(V.int .i64 (getI (headD (tail (tail (Ob.getC (headD (tail z6.2) Ob.dead)))) V.bot))),(V.int .i64 (getI (headD (tail (tail (tail (Ob.getC (headD (tail z6.2) Ob.dead))))) V.bot))),(V.int .i64 (getI (headD (tail (tail (tail (tail (Ob.getC (headD (tail z6.2) Ob.dead)))))) V.bot))),(V.lst 36 false (getL (headD (tail (tail (tail (tail (tail (Ob.getC (headD (tail z6.2) Ob.dead))))))) V.bot))),(V.lst 32 false (getL (headD (tail (tail (tail (tail (tail (tail (Ob.getC (headD (tail z6.2) Ob.dead)))))))) V.bot))),(V.int .i64 (getI (headD (tail (tail (tail (tail (tail (tail (tail (Ob.getC (headD (tail z6.2) Ob.dead))))))))) V.bot))),(V.int .i64 (getI (headD (tail (tail (tail (tail (tail (tail (tail (tail (Ob.getC (headD (tail z6.2) Ob.dead)))))))))) V.bot)))]),[(Ob.cells [(V.lst 5 false (getL (headD (Ob.getC (headD z6.2 Ob.dead)) V.bot))),(V.int .i64 (getI (headD (tail (Ob.getC (headD z6.2 Ob.dead))) V.bot)))])])
 else
 some ((V.agg [(V.int .i64 0),(V.int .i64 a2),(V.int .i64 (getI (headD (tail (getT z0.1)) V.bot))),(V.int .i64 (getI (headD (tail (getT z0.1)) V.bot))),(V.int .i64 a3),(V.lst 36 false []),(V.lst 32 false []),(V.int .i64 0),(V.int .i64 0)]),[(Ob.cells [(V.lst 5 false (getL (headD (Ob.getC (headD z4.2 Ob.dead)) V.bot))),(V.int .i64 (getI (headD (tail (Ob.getC (headD z4.2 Ob.dead))) V.bot)))])])
 else
 if(sEq (getS (headD (V.cells z1.1) V.bot)) [109,101,115,115,97,103,101])=true then
 if(sEq (getS (headD (tail (V.cells z1.1)) V.bot)) [114,102,99,56,50,50])=true then
 Option.bind (call 61 [(V.ref 0 0),(V.lst 91 false (getL (headD (getT z0.1) V.bot)))] [(Ob.cells [(V.lst 5 false (getL (headD (Ob.getC (headD z1.2 Ob.dead)) V.bot))),(V.int .i64 (getI (headD (tail (Ob.getC (headD z1.2 Ob.dead))) V.bot)))])]) fun z4=>
 if(getB z4.1)=true then
 if(decide ((getI (headD (tail (Ob.getC (headD z4.2 Ob.dead))) V.bot))<(1000:Int)))=true then
 Option.bind (call 31 [(V.ref 0 0),(V.agg [(V.int .i64 (getI (headD (tail (getT z0.1)) V.bot))),(V.int .i64 a3)]),(V.int .i64 (IntKind.wrap .i64 (a4+(1:Int)))),(V.bool false)] [(Ob.cells [(V.lst 5 false (getL (headD (Ob.getC (headD z4.2 Ob.dead)) V.bot))),(V.int .i64 (IntKind.wrap .i64 ((getI (headD (tail (Ob.getC (headD z4.2 Ob.dead))) V.bot))+(1:Int))))])]) fun z5=>
 some ((V.agg [(V.int .i64 2),(V.int .i64 a2),(V.int .i64 (getI (headD (tail (getT z0.1)) V.bot))),(V.int .i64 (getI (headD (tail (getT z0.1)) V.bot))),(V.int .i64 a3),(V.lst 36 false [(V.agg [(V.int .i64 (getI (headD (V.cells z5.1) V.bot))),(V.int .i64 (getI (headD (tail (V.cells z5.1)) V.bot))),(V.int .i64 (getI (headD (tail (tail (V.cells z5.1))) V.bot))),(V.int .i64 (getI (headD (tail (tail (tail (V.cells z5.1)))) V.bot))),(V.int .i64 (getI (headD (tail (tail (tail (tail (V.cells z5.1))))) V.bot))),(V.lst 36 false (getL (headD (tail (tail (tail (tail (tail (V.cells z5.1)))))) V.bot))),(V.lst 32 false (getL (headD (tail (tail (tail (tail (tail (tail (V.cells z5.1))))))) V.bot))),(V.int .i64 (getI (headD (tail (tail (tail (tail (tail (tail (tail (V.cells z5.1)))))))) V.bot))),(V.int .i64 (getI (headD (tail (tail (tail (tail (tail (tail (tail (tail (V.cells z5.1))))))))) V.bot)))])]),(V.lst 32 false []),(V.int .i64 0),(V.int .i64 0)]),[(Ob.cells [(V.lst 5 false (getL (headD (Ob.getC (headD z5.2 Ob.dead)) V.bot))),(V.int .i64 (getI (headD (tail (Ob.getC (headD z5.2 Ob.dead))) V.bot)))])])
 else
 some ((V.agg [(V.int .i64 0),(V.int .i64 a2),(V.int .i64 (getI (headD (tail (getT z0.1)) V.bot))),(V.int .i64 (getI (headD (tail (getT z0.1)) V.bot))),(V.int .i64 a3),(V.lst 36 false []),(V.lst 32 false []),(V.int .i64 0),(V.int .i64 0)]),[(Ob.cells [(V.lst 5 false (getL (headD (Ob.getC (headD z4.2 Ob.dead)) V.bot))),(V.int .i64 (getI (headD (tail (Ob.getC (headD z4.2 Ob.dead))) V.bot)))])])
 else
 some ((V.agg [(V.int .i64 0),(V.int .i64 a2),(V.int .i64 (getI (headD (tail (getT z0.1)) V.bot))),(V.int .i64 (getI (headD (tail (getT z0.1)) V.bot))),(V.int .i64 a3),(V.lst 36 false []),(V.lst 32 false []),(V.int .i64 0),(V.int .i64 0)]),[(Ob.cells [(V.lst 5 false (getL (headD (Ob.getC (headD z4.2 Ob.dead)) V.bot))),(V.int .i64 (getI (headD (tail (Ob.getC (headD z4.2 Ob.dead))) V.bot)))])])
 else
 some ((V.agg [(V.int .i64 0),(V.int .i64 a2),(V.int .i64 (getI (headD (tail (getT z0.1)) V.bot))),(V.int .i64 (getI (headD (tail (getT z0.1)) V.bot))),(V.int .i64 a3),(V.lst 36 false []),(V.lst 32 false []),(V.int .i64 0),(V.int .i64 0)]),[(Ob.cells [(V.lst 5 false (getL (headD (Ob.getC (headD z1.2 Ob.dead)) V.bot))),(V.int .i64 (getI (headD (tail (Ob.getC (headD z1.2 Ob.dead))) V.bot)))])])
 else
 some ((V.agg [(V.int .i64 0),(V.int .i64 a2),(V.int .i64 (getI (headD (tail (getT z0.1)) V.bot))),(V.int .i64 (getI (headD (tail (getT z0.1)) V.bot))),(V.int .i64 a3),(V.lst 36 false []),(V.lst 32 false []),(V.int .i64 0),(V.int .i64 0)]),[(Ob.cells [(V.lst 5 false (getL (headD (Ob.getC (headD z1.2 Ob.dead)) V.bot))),(V.int .i64 (getI (headD (tail (Ob.getC (headD z1.2 Ob.dead))) V.bot)))])])
def O31 (a0:List V) (a1:Int):List Ob:=[Ob.cells [V.lst 5 false a0,V.int IntKind.i64 a1]]
def A31 (a2:Int) (a3:Int) (a4:Int) (a5:Bool):List V:=[V.ref 0 0,V.agg [V.int IntKind.i64 a2,V.int IntKind.i64 a3],V.int IntKind.i64 a4,V.bool a5]
theorem E31 (a0:List V) (a1:Int) (a2:Int) (a3:Int) (a4:Int) (a5:Bool):GO 31 Tryz.f31 (A31 a2 a3 a4 a5) (O31 a0 a1) call icall again=T31 call a0 a1 a2 a3 a4 a5:=by kernel_rfl
theorem C31 (k:Nat) (a0:List V) (a1:Int) (a2:Int) (a3:Int) (a4:Int) (a5:Bool):aA cfg (k+1) 31 (A31 a2 a3 a4 a5) (O31 a0 a1)=T31 (aA cfg k) a0 a1 a2 a3 a4 a5:=
 (show aA cfg (k+1) 31 (A31 a2 a3 a4 a5) (O31 a0 a1)=GO 31 Tryz.f31 (A31 a2 a3 a4 a5) (O31 a0 a1) (aA cfg k) (aF cfg (aA cfg k) 20) (RN 31 Tryz.f31 (O31 a0 a1) (aA cfg k) (aF cfg (aA cfg k) 20) k)by kernel_rfl).trans (E31 _ _ _ a0 a1 a2 a3 a4 a5)
theorem M31 (a0:List V) (a1:Int) (a2:Int) (a3:Int) (a4:Int) (a5:Bool) {r:V×List Ob} (h:Evt (fun k n=>T31 (aA cfg k) a0 a1 a2 a3 a4 a5) r):Ret 31 [V.ref 0 0,V.agg [V.int IntKind.i64 a2,V.int IntKind.i64 a3],V.int IntKind.i64 a4,V.bool a5] [Ob.cells [V.lst 5 false a0,V.int IntKind.i64 a1]] r:=aR (g:=fun k n=>T31 (aA cfg k) a0 a1 a2 a3 a4 a5) (fun k=>C31 k a0 a1 a2 a3 a4 a5) h
def T14 (call:FuncId→Fun) (a0:List V):Option (V×List Ob):=
 if(decide (((length a0:Nat):Int)>(67108864:Int)))=true then
 some ((V.tup [(V.agg [(V.int .i64 0),(V.int .i64 0),(V.int .i64 0),(V.int .i64 0),(V.int .i64 0),(V.lst 36 false []),(V.lst 32 false []),(V.int .i64 0),(V.int .i64 0)]),(V.int .i64 13)]),[])
 else
 Option.bind (call 31 [(V.ref 0 0),(V.agg [(V.int .i64 0),(V.int .i64 ((length a0:Nat):Int))]),(V.int .i64 0),(V.bool false)] [(Ob.cells [(V.lst 5 false a0),(V.int .i64 1)])]) fun z0=>
 some ((V.tup [(V.agg [(V.int .i64 (getI (headD (V.cells z0.1) V.bot))),(V.int .i64 (getI (headD (tail (V.cells z0.1)) V.bot))),(V.int .i64 (getI (headD (tail (tail (V.cells z0.1))) V.bot))),(V.int .i64 (getI (headD (tail (tail (tail (V.cells z0.1)))) V.bot))),(V.int .i64 (getI (headD (tail (tail (tail (tail (V.cells z0.1))))) V.bot))),(V.lst 36 false (getL (headD (tail (tail (tail (tail (tail (V.cells z0.1)))))) V.bot))),(V.lst 32 false (getL (headD (tail (tail (tail (tail (tail (tail (V.cells z0.1))))))) V.bot))),(V.int .i64 (getI (headD (tail (tail (tail (tail (tail (tail (tail (V.cells z0.1)))))))) V.bot))),(V.int .i64 (getI (headD (tail (tail (tail (tail (tail (tail (tail (tail (V.cells z0.1))))))))) V.bot)))]),(V.int .i64 0)]),[])
def A14 (a0:List V):List V:=[V.lst 5 false a0]
theorem E14 (a0:List V):GO 14 Tryz.f14 (A14 a0) [] call icall again=T14 call a0:=by kernel_rfl
theorem C14 (k:Nat) (a0:List V):aA cfg (k+1) 14 (A14 a0) []=T14 (aA cfg k) a0:=
 (show aA cfg (k+1) 14 (A14 a0) []=GO 14 Tryz.f14 (A14 a0) [] (aA cfg k) (aF cfg (aA cfg k) 20) (RN 14 Tryz.f14 [] (aA cfg k) (aF cfg (aA cfg k) 20) k)by kernel_rfl).trans (E14 _ _ _ a0)
theorem M14 (a0:List V) {r:V×List Ob} (h:Evt (fun k n=>T14 (aA cfg k) a0) r):Ret 14 [V.lst 5 false a0] [] r:=aR (g:=fun k n=>T14 (aA cfg k) a0) (fun k=>C14 k a0) h
end Go.Proofs.YtdoaoaicdimbeaaGreatDoor
end
section
namespace Go.Proofs.YtdoaoaicdimbeaaGreatDoor
open Go.Ev Go
def qK (s:Bs):Bool:=trimF s==[]
def qL (text bd:Bs):Bool×Bool:=
 if text.length<2+bd.length∨text.take (2+bd.length)≠[45,45]++bd then(false,false)else
 if qK (text.drop (2+bd.length))then(true,false)else
 if 2≤(text.drop (2+bd.length)).length∧(text.drop (2+bd.length)).take 2=[45,45]∧qK ((text.drop (2+bd.length)).drop 2)=true then(true,true)else(false,false)
theorem GV (s:Bs) (hs:s.length≤1000000):Ret 135 [.str s] [] (.bool (qK s),[]):=by
 refine NN s ?_
 simp only[GN]
 refine aD (GT s (by omega)) ?_
 exact aC _
theorem Ki (text bd:Bs) (ht:text.length≤1000000) (hb:bd.length≤1000000):Ret 100 [.str text, .str bd] [] (.tup [.bool (qL text bd).1, .bool (qL text bd).2],[]):=by
 refine NK text bd ?_
 have hw:IntKind.wrap .i64 ((2:Int)+(bd.length:Int))=((2+bd.length:Nat):Int):=by rw[wrap64 (by omega) (by omega)];omega
 have h0:(0:Int)≤((2+bd.length:Nat):Int):=by omega
 have hc:eV [45,45] bd=true:=qI (by simp;omega)
 simp only[GM,hw]
 unfold qL
 by_cases h1:text.length<2+bd.length
 ·have h1' :(text.length:Int)<((2+bd.length:Nat):Int):=by omega
  simp only[h1',decide_true,Bool.true_eq_false,if_false,cG,if_true,h1,true_or]
  exact aC _
 ·have h1' :¬((text.length:Int)<((2+bd.length:Nat):Int)):=by omega
  have h2:((2+bd.length:Nat):Int)≤(text.length:Int):=by omega
  simp only[h1',decide_false,if_true,aI h0,aI h2,aI (show(0:Int)≤0 by omega),eL hc,Int.toNat_zero,Int.toNat_natCast,List.drop_zero,cG,h1,false_or]
  by_cases h3:text.take (2+bd.length)=[45,45]++bd
  ·have h3' :sEq (text.take (2+bd.length)) ([45,45]++bd)=true:=by simp[sEq,h3]
   simp only[h3',Bool.not_true,Bool.false_eq_true,if_false]
   simp only[h3,ne_eq,not_true_eq_false,if_false]
   have hr:(text.drop (2+bd.length)).length≤1000000:=by simp;omega
   obtain⟨rest,hrest⟩:∃rest,text.drop (2+bd.length)=rest:=⟨_,rfl⟩
   simp only[hrest]at hr ⊢
   refine aD (GV rest hr) ?_
   simp only[V.getB]
   by_cases h4:qK rest=true
   ·simp only[h4,if_true];exact aC _
   ·have h4' :qK rest=false:=by simpa using h4
    simp only[h4',Bool.false_eq_true,if_false]
    by_cases h5:2≤rest.length
    ·have h5' :((rest.length:Int)≥(2:Int)):=by omega
     have h5'' :((2:Int)≤(rest.length:Int)):=by omega
     simp only[h5',decide_true,if_true,aI (show(0:Int)≤2 by omega),aI h5'',aI (show(0:Int)≤0 by omega),Int.toNat_zero,List.drop_zero,h5,true_and,show Int.toNat 2=2 from rfl,cD]
     by_cases h6:rest.take 2=[45,45]
     ·have h6' :sEq (rest.take 2) [45,45]=true:=by simp[sEq,h6]
      simp only[h6',if_true,h6,true_and]
      refine aD (GV (rest.drop 2) (by simp;omega)) ?_
      simp only[V.getB]
      by_cases h7:qK (rest.drop 2)=true
      ·simp only[h7,if_true];exact aC _
      ·have h7' :qK (rest.drop 2)=false:=by simpa using h7
       simp only[h7',Bool.false_eq_true,if_false];exact aC _
     ·have h6' :sEq (rest.take 2) [45,45]=false:=by simp[sEq,h6]
      simp only[h6',Bool.false_eq_true,if_false,h6,false_and];exact aC _
    ·have h5' :¬((rest.length:Int)≥(2:Int)):=by omega
     simp only[h5',decide_false,Bool.false_eq_true,if_false,h5,false_and];exact aC _
  ·have h3' :sEq (text.take (2+bd.length)) ([45,45]++bd)=false:=beq_eq_false_iff_ne.2 h3
   simp only[h3',Bool.not_false,if_true]
   simp only[h3,ne_eq,not_false_eq_true,if_true]
   exact aC _
end Go.Proofs.YtdoaoaicdimbeaaGreatDoor
end
section
namespace Go.Proofs.YtdoaoaicdimbeaaGreatDoor
open Go.Ev Go
def mO (b bd:Bs):List Ln→List (Nat×Nat)→Nat→List (Nat×Nat)×Option (Nat×Nat)
 |[],out,_=>(out,none)
 |l::r,out,from_=>
  if(qL (bM b l) bd).1=false then mO b bd r out l.2.1
  else if(qL (bM b l) bd).2 then(out,some (from_,l.2.2))else mO b bd r (out++[(from_,l.2.2)]) l.2.2
def fQ (b:Bs) (fr to:Nat) (bd:Bs):List (Nat×Nat)×(Nat×Nat):=((mO b bd (aT fr to b) [] fr).1,(mO b bd (aT fr to b) [] fr).2.getD (to,to))
def rJ (b:Bs) (n:Int):List Ob:=[.cells [.lst 5 false (ofBytes b), .int .i64 n]]
theorem DN (b bd:Bs) (hb:b.length≤1000000) (hbd:bd.length≤1000000) (nn:Int) (l:List Ln) (hl:l.length≤1000000) (c d e f:Int) (fr to:Nat):∀(n i:Nat) (out:List (Nat×Nat)) (from_:Nat),l.length - i=n→i≤l.length→out.length≤i→
  Evt (fun k j=>L59 (aA cfg k) j bd (out.map cutV) (from_:Nat) (l.map lnV) (l.length:Nat) (i:Nat) (ofBytes b) nn c d e f (to:Nat) (to:Nat))
   (.tup [.lst 32 false ((mO b bd (l.drop i) out from_).1.map cutV),cutV ((mO b bd (l.drop i) out from_).2.getD (to,to)), .bool (decide (0<(mO b bd (l.drop i) out from_).1.length))],rJ b nn)
 |0,i,out,from_,h,hi,ho=>by
  refine Jf bd (out.map cutV) (from_:Nat) (l.map lnV) (l.length:Nat) (i:Nat) (ofBytes b) nn c d e f (to:Nat) (to:Nat) ?_
  have h1:¬((i:Int)<(l.length:Int)):=by omega
  have h2:decide ((((out.map cutV).length:Nat):Int)>(0:Int))=decide (0<out.length):=by simp
  rw[List.drop_eq_nil_of_le (by omega)]
  simp only[Cx,h1,decide_false,Bool.false_eq_true,if_false,mO,h2]
  exact aC _
 |n+1,i,out,from_,h,hi,ho=>by
  have hlt:i<l.length:=by omega
  refine Jf bd (out.map cutV) (from_:Nat) (l.map lnV) (l.length:Nat) (i:Nat) (ofBytes b) nn c d e f (to:Nat) (to:Nat) ?_
  have h1:((i:Int)<(l.length:Int)):=by omega
  have h2:(0:Int)≤(i:Int):=by omega
  have hw:IntKind.wrap .i64 ((i:Int)+1)=((i+1:Nat):Int):=by rw[wrap64 (by omega) (by omega)];omega
  have hd:l.drop i=l[i]::l.drop (i+1):=List.drop_eq_getElem_cons hlt
  have htl:=xT b l[i]
  have h57:Ret 64 [.lst 5 false (ofBytes b), .agg [.int .i64 (l[i].1:Nat), .int .i64 (l[i].2.1:Nat), .int .i64 (l[i].2.2:Nat)]] [] (.str (bM b l[i]),[]):=GQ b l[i]
  rw[hd,mO]
  simp only[Cx,h1,decide_true,if_true,aI h2,List.length_map,cD,Int.toNat_natCast,oW hlt,lnV,V.cells,List.headD_cons,List.tail_cons,V.getI,hw]
  refine aD h57 ?_
  simp only[V.getS]
  refine aD (Ki (bM b l[i]) bd (by omega) hbd) ?_
  simp only[V.getT,List.headD_cons,List.tail_cons,V.getB]
  cases hd1:(qL (bM b l[i]) bd).1 with
  |false=>
   simp only[Bool.not_false,if_true]
   exact DN b bd hb hbd nn l hl c d e f fr to n (i+1) out l[i].2.1 (by omega) (by omega) (by omega)
  |true=>
   simp only[Bool.not_true,Bool.false_eq_true,if_false,Bool.true_eq_false]
   cases hd2:(qL (bM b l[i]) bd).2 with
   |true=>
    have h3:decide (((out.length:Nat):Int)>(0:Int))=decide (0<out.length):=by simp
    simp only[if_true,h3]
    exact aC _
   |false=>
    have hap:cZ (out.map cutV) [V.agg [.int .i64 (from_:Nat), .int .i64 (l[i].2.2:Nat)]] 17=true:=mC (by simp;omega)
    simp only[Bool.false_eq_true,if_false,eL hap]
    have:=DN b bd hb hbd nn l hl c d e f fr to n (i+1) (out++[(from_,l[i].2.2)]) l[i].2.2 (by omega) (by omega) (by simp;omega)
    simp only[List.map_append,List.map_cons,List.map_nil,cutV]at this
    exact this
theorem LY (b bd:Bs) (hb:b.length≤1000000) (hbd:bd.length≤1000000) (nn:Int) (fr to:Nat):
  Ret 59 [.ref 0 0, .agg [.int .i64 (fr:Nat), .int .i64 (to:Nat)], .str bd] (rJ b nn)
   (.tup [.lst 32 false ((fQ b fr to bd).1.map cutV),cutV (fQ b fr to bd).2, .bool (decide (0<(fQ b fr to bd).1.length))],rJ b nn):=by
 refine M59 (ofBytes b) nn (fr:Nat) (to:Nat) bd ?_
 simp only[T59]
 refine aD (GP b hb (fr:Nat) (to:Nat)) ?_
 have h1:=dB fr to b
 simp only[V.getL,List.length_map]
 exact DN b bd hb hbd nn (aT fr to b) (by omega) (fr:Nat) (to:Nat) 0 0 fr to (aT fr to b).length 0 [] fr (by omega) (by omega) (by simp)
def ctB:Bs:=[99,111,110,116,101,110,116,45,116,121,112,101]
def IC:Bs:=[99,111,110,116,101,110,116,45,116,114,97,110,115,102,101,114,45,101,110,99,111,100,105,110,103]
def mP (b:Bs) (l:List Fd) (digest:Bool):Bs×Bs×Ps:=
 match tH (kR b l ctB) true with
 |some p=>p
 |none=>if digest then([109,101,115,115,97,103,101],[114,102,99,56,50,50],[])else([116,101,120,116],[112,108,97,105,110],[])
theorem LZ (b:Bs) (hb:b.length≤1000000) (l:List Fd) (hl:l.length≤1000000) (hv:∀f∈l,f.1.length≤1000000) (digest:Bool) (nn:Int):
  Ret 57 [.ref 0 0, .lst 91 false (l.map fdV), .bool digest] (rJ b nn)
   (.agg [.str (mP b l digest).1, .str (mP b l digest).2.1, .lst 176 false ((mP b l digest).2.2.map pV)],rJ b nn):=by
 refine M57 (ofBytes b) nn (l.map fdV) digest ?_
 simp only[T57]
 refine aD (Je b hb l hl hv ctB (by simp[ctB])) ?_
 have hle:=tM b l ctB
 simp only[V.getS]
 refine aD (LH (kR b l ctB) (by omega) true) ?_
 unfold mP
 cases tH (kR b l ctB) true with
 |some p=>
  obtain⟨t,u,ps⟩:=p
  simp only[xM,V.getT,List.tail_cons,List.headD_cons,V.getB,if_true,V.cells,V.getS,V.getL]
  exact aC _
 |none=>
  simp only[xM,V.getT,List.tail_cons,List.headD_cons,V.getB,Bool.false_eq_true,if_false]
  cases digest with
  |true=>simp only[if_true];exact aC _
  |false=>simp only[Bool.false_eq_true,if_false];exact aC _
def Aw (b:Bs) (l:List Fd):Bool:=
 match kQ l IC with
 |none=>true
 |some f=>low (jV b f)==[55,98,105,116]||(low (jV b f)==[56,98,105,116]||low (jV b f)==[98,105,110,97,114,121])
theorem L0 (b:Bs) (hb:b.length≤1000000) (l:List Fd) (hl:l.length≤1000000) (hv:∀f∈l,f.1.length≤1000000) (nn:Int):
  Ret 61 [.ref 0 0, .lst 91 false (l.map fdV)] (rJ b nn) (.bool (Aw b l),rJ b nn):=by
 refine M61 (ofBytes b) nn (l.map fdV) ?_
 simp only[T61]
 refine aD (Jc l hl hv IC (by simp[IC])) ?_
 unfold Aw
 cases kQ l IC with
 |none=>
  simp only[tK,V.getT,List.tail_cons,List.headD_cons,V.getB,Bool.not_false,if_true]
  exact aC _
 |some f=>
  have h66:Ret 70 [.lst 5 false (ofBytes b), .agg [.str f.1, .int .i64 f.2.1, .int .i64 f.2.2.1, .int .i64 f.2.2.2]] [] (.str (jV b f),[]):=Jd b hb f
  have hle:=Cw b f
  simp only[tK,V.getT,List.tail_cons,List.headD_cons,V.getB,Bool.not_true,Bool.false_eq_true,if_false,fdV,V.cells,V.getS,V.getI]
  refine aD h66 ?_
  simp only[V.getS]
  refine aD (xG (jV b f) (by omega)) ?_
  simp only[V.getS,sEq]
  unfold low
  by_cases h1:((jV b f).map dC==[55,98,105,116])=true
  ·simp only[h1,if_true,Bool.true_or];exact aC _
  ·have h1' :((jV b f).map dC==[55,98,105,116])=false:=Bool.eq_false_iff.2 h1
   simp only[h1',Bool.false_eq_true,if_false,Bool.false_or]
   by_cases h2:((jV b f).map dC==[56,98,105,116])=true
   ·simp only[h2,if_true,Bool.true_or];exact aC _
   ·have h2' :((jV b f).map dC==[56,98,105,116])=false:=Bool.eq_false_iff.2 h2
    simp only[h2',Bool.false_eq_true,if_false,Bool.false_or]
    by_cases h3:((jV b f).map dC==[98,105,110,97,114,121])=true
    ·simp only[h3,if_true];exact aC _
    ·have h3' :((jV b f).map dC==[98,105,110,97,114,121])=false:=Bool.eq_false_iff.2 h3
     simp only[h3',Bool.false_eq_true,if_false];exact aC _
end Go.Proofs.YtdoaoaicdimbeaaGreatDoor
end
section
namespace Go.Proofs.YtdoaoaicdimbeaaGreatDoor
open Go.Ev Go
def iU (fr at_ to:Nat):Pt:= .mk 0 (fr,at_) (at_,to) [] [] (0,0)
def bdB:Bs:=[98,111,117,110,100,97,114,121]
def mpB:Bs:=[109,117,108,116,105,112,97,114,116]
def ID:Bs:=[109,101,115,115,97,103,101]
def IE:Bs:=[114,102,99,56,50,50]
def dgB:Bs:=[100,105,103,101,115,116]
def Ax (fin:Nat):List (Nat×Nat)→Nat
 |[]=>fin
 |d::_=>d.1
def fB (ent:Nat→Nat→Nat→Pt×Nat) (fin:Nat):List (Nat×Nat)→Nat→List Pt×Nat
 |[],n=>([],n)
 |c::r,n=>
  ((ent c.2 (max (Ax fin r) c.2) n).1::(fB ent fin r (ent c.2 (max (Ax fin r) c.2) n).2).1,(fB ent fin r (ent c.2 (max (Ax fin r) c.2) n).2).2)
def dZ (b:Bs):Nat→Nat→Nat→Bool→Nat→Pt×Nat
 |0,fr,to,_,n=>(iU fr (dE b fr to).2.toNat to,n)
 |d+1,fr,to,dg,n=>
  let at_:=(dE b fr to).2.toNat
  let v:=mP b (dE b fr to).1 dg
  let bd:=(getF v.2.2 bdB).getD []
  if v.1=mpB∧bd≠[]∧bd.length≤70 then
   let c:=fQ b at_ to bd
   if 0<c.1.length∧n+c.1.length≤1000 then
    let q:=fB (fun fr to n=>dZ b d fr to (v.2.1==dgB) n) c.2.1 c.1 (n+c.1.length)
    (.mk 1 (fr,at_) (at_,to) q.1 c.1 c.2,q.2)
   else(iU fr at_ to,n)
  else if v.1=ID∧v.2.1=IE∧Aw b (dE b fr to).1=true∧n<1000 then
   let k:=dZ b d at_ to false (n+1)
   (.mk 2 (fr,at_) (at_,to) [k.1] [] (0,0),k.2)
  else(iU fr at_ to,n)
def IF (m:Nat) (f:Fd):Prop:=f.1.length≤m
theorem Cy {s:Bs} {p:Bs×Nat} (h:eN s=some p):p.1.length≤s.length:=by
 unfold eN at h
 split at h
 ·cases h
 ·split at h
  ·cases h;simp only[List.length_take];omega
  ·cases h
theorem GW (b:Bs) (st:List Fd×Bool) (x:Ln) (h:∀f∈st.1,IF b.length f):(∀f∈(fP b st x).1,IF b.length f)∧(fP b st x).1.length≤st.1.length+1:=by
 unfold fP
 split
 ·split
  ·refine⟨fun f hf=>?_,by simp only[mG];omega⟩
   unfold pP at hf
   split at hf
   ·rename_i g hg
    rcases List.mem_or_eq_of_mem_set hf with hf|rfl
    ·exact h f hf
    ·exact h g (List.mem_of_getElem? hg)
   ·exact h f hf
  ·exact⟨h,by omega⟩
 ·split
  ·exact⟨h,by simp⟩
  ·rename_i p hp
   refine⟨fun f hf=>?_,by simp⟩
   rw[List.mem_append]at hf
   rcases hf with hf|hf
   ·exact h f hf
   ·simp at hf;subst hf
    exact Nat.le_trans (Cy hp) (xT b x)
theorem xY (b:Bs):∀(l:List Ln) (st:List Fd×Bool),(∀f∈st.1,IF b.length f)→(∀f∈(l.foldl (fP b) st).1,IF b.length f)∧(l.foldl (fP b) st).1.length≤st.1.length+l.length
 |[],st,h=>⟨h,by simp⟩
 |x::r,st,h=>by
  obtain⟨h1,h2⟩:=GW b st x h
  obtain⟨h3,h4⟩:=xY b r (fP b st x) h1
  exact⟨h3,by simp only[List.foldl_cons,List.length_cons]at h4 ⊢;omega⟩
theorem rK (b:Bs) (fr to:Int):(∀f∈(dE b fr to).1,f.1.length≤b.length)∧(dE b fr to).1.length≤b.length:=by
 have hl:=dB fr to b
 unfold dE
 split
 ·simp
 ·split
  ·rename_i k hk
   obtain⟨h1,h2⟩:=xY b ((aT fr to b).take k) ([],false) (by simp)
   exact⟨h1,by simp at h2 ⊢;omega⟩
  ·obtain⟨h1,h2⟩:=xY b (aT fr to b) ([],false) (by simp)
   exact⟨h1,by simp at h2 ⊢;omega⟩
theorem Cz (b:Bs) (fr to:Nat):(((dE b fr to).2.toNat:Nat):Int)=(dE b fr to).2:=by
 unfold dE
 split
 ·simp
 ·split<;>simp
end Go.Proofs.YtdoaoaicdimbeaaGreatDoor
end
section
namespace Go.Proofs.YtdoaoaicdimbeaaGreatDoor
open Go.Ev Go
theorem xZ (l:Ps) (m:Nat):∀(q:Ps) (seen:List Bs),(∀p∈q,p.1.length≤m)→(pB l seen q).length≤q.length∧∀p∈pB l seen q,p.1.length≤m
 |[],seen,_=>by simp[pB]
 |p::r,seen,h=>by
  have hp:=h p (by simp)
  have hb:=Cm p.1
  have ih:=fun seen=>xZ l m r seen fun p hp=>h p (by simp[hp])
  unfold pB
  split
  ·obtain⟨h1,h2⟩:=ih seen
   exact⟨by simp;omega,h2⟩
  ·split
   ·obtain⟨h1,h2⟩:=ih (dD p.1::seen)
    refine⟨by simp;omega,fun x hx=>?_⟩
    rcases List.mem_cons.1 hx with rfl|hx
    ·simp only;omega
    ·exact h2 x hx
   ·obtain⟨h1,h2⟩:=ih (dD p.1::seen)
    exact⟨by simp;omega,h2⟩
theorem Bh {s:Bs} {two:Bool} {t u:Bs} {ps:Ps} (h:tH s two=some (t,u,ps)):ps.length≤s.length∧∀p∈ps,p.1.length≤s.length:=by
 have key:∀q:Bs,q.length≤s.length→(pB (cN q) [] (cN q)).length≤s.length∧∀p∈pB (cN q) [] (cN q),p.1.length≤s.length:=by
  intro q hq
  obtain⟨g1,g2⟩:=rH q.length q (Nat.le_refl _)
  obtain⟨h1,h2⟩:=xZ (cN q) s.length (cN q) [] fun p hp=>by have:=g2 p hp;omega
  exact⟨by omega,h2⟩
 have h0:=nS s
 have h1:=kD (cJ s)
 unfold tH at h
 split at h
 ·cases h
 ·split at h
  ·split at h
   ·cases h
   ·rename_i s2 hs2
    split at h
    ·cases h
    ·cases h
     have h2:=iL hs2
     have h3:=kD s2
     exact key _ (by omega)
  ·cases h
   exact key _ (by omega)
theorem CB (b:Bs) (l:List Fd) (dg:Bool):(mP b l dg).2.2.length≤b.length∧∀p∈(mP b l dg).2.2,p.1.length≤b.length:=by
 have hv:=tM b l ctB
 unfold mP
 split
 ·rename_i p hp
  obtain⟨t,u,ps⟩:=p
  obtain⟨h1,h2⟩:=Bh hp
  exact⟨by simp only;omega,fun p hp=>by have:=h2 p hp;omega⟩
 ·split<;>simp
end Go.Proofs.YtdoaoaicdimbeaaGreatDoor
end
section
namespace Go.Proofs.YtdoaoaicdimbeaaGreatDoor
open Go.Ev Go
theorem Eg {ent:Nat→Nat→Nat→Pt×Nat} (h:∀fr to n,n≤1000→(ent fr to n).2≤1000) (fin:Nat):∀(cs:List (Nat×Nat)) (n:Nat),n≤1000→(fB ent fin cs n).2≤1000
 |[],n,hn=>hn
 |c::r,n,hn=>by
  unfold fB
  exact Eg h fin r _ (h _ _ _ hn)
theorem Bi (b:Bs):∀(d fr to:Nat) (dg:Bool) (n:Nat),n≤1000→(dZ b d fr to dg n).2≤1000
 |0,fr,to,dg,n,hn=>by simpa[dZ]using hn
 |d+1,fr,to,dg,n,hn=>by
  unfold dZ
  simp only
  split
  ·split
   ·rename_i h
    exact Eg (fun fr to n hn=>Bi b d fr to _ n hn) _ _ _ h.2
   ·exact hn
  ·split
   ·rename_i h
    exact Bi b d _ _ _ _ (by have:=h.2.2.2;omega)
   ·exact hn
def tN (b:Bs) (d:Nat):Prop:=∀(fr to n:Nat) (dg:Bool),n≤1000→
 Ret 31 [.ref 0 0, .agg [.int .i64 (fr:Nat), .int .i64 (to:Nat)], .int .i64 ((32 - d:Nat):Int), .bool dg] (rJ b (n:Nat)) (partV (dZ b d fr to dg n).1,rJ b ((dZ b d fr to dg n).2:Nat))
def GX (k h1 h2 b1 b2:Int) (kids:List V) (cs:List (Nat×Nat)) (e1 e2:Int):Ob:=
 .cells [.int .i64 k, .int .i64 h1, .int .i64 h2, .int .i64 b1, .int .i64 b2, .lst 36 true kids, .lst 32 false (cs.map cutV), .int .i64 e1, .int .i64 e2]
theorem yA {l:List (Nat×Nat)} {i:Nat} (h:i<l.length):(l.map cutV).getD i .bot=cutV l[i]:=by simp[List.getD,h]
theorem iN (p:Pt):V.agg [V.int .i64 (V.getI (List.headD (V.cells (partV p)) V.bot)),V.int .i64 (V.getI (List.headD (List.tail (V.cells (partV p))) V.bot)),V.int .i64 (V.getI (List.headD (List.tail (List.tail (V.cells (partV p)))) V.bot)),
  V.int .i64 (V.getI (List.headD (List.tail (List.tail (List.tail (V.cells (partV p))))) V.bot)),V.int .i64 (V.getI (List.headD (List.tail (List.tail (List.tail (List.tail (V.cells (partV p)))))) V.bot)),
  V.lst 36 false (V.getL (List.headD (List.tail (List.tail (List.tail (List.tail (List.tail (V.cells (partV p))))))) V.bot)),V.lst 32 false (V.getL (List.headD (List.tail (List.tail (List.tail (List.tail (List.tail (List.tail (V.cells (partV p)))))))) V.bot)),
  V.int .i64 (V.getI (List.headD (List.tail (List.tail (List.tail (List.tail (List.tail (List.tail (List.tail (V.cells (partV p))))))))) V.bot)),V.int .i64 (V.getI (List.headD (List.tail (List.tail (List.tail (List.tail (List.tail (List.tail (List.tail (List.tail (V.cells (partV p)))))))))) V.bot))]=partV p:=by
 cases p;rw[partV];rfl
theorem Eh (x y:Nat):(if((y:Nat):Int)>((x:Nat):Int)then((y:Nat):Int)else((x:Nat):Int))=((max x y:Nat):Int):=by
 split<;>omega
theorem GY (b:Bs) (d:Nat) (he:tN b d) (dg:Bool) (cs:List (Nat×Nat)) (hcs:cs.length≤1000) (h1 h2 b1 b2:Int) (e1 e2:Nat):∀(m i:Nat) (kids:List Pt) (n:Nat),cs.length - i=m→i≤cs.length→kids.length=i→n≤1000→
  Evt (fun k j=>L60 (aA cfg k) j ((32 - d:Nat):Int) dg (cs.map cutV) (cs.length:Nat) (i:Nat) (ofBytes b) (n:Nat) 1 h1 h2 b1 b2 (kids.map partV) (cs.map cutV) (e1:Nat) (e2:Nat))
   (.tup [],[.cells [.lst 5 false (ofBytes b), .int .i64 ((fB (fun fr to n=>dZ b d fr to dg n) e1 (cs.drop i) n).2:Nat)],GX 1 h1 h2 b1 b2 ((kids++(fB (fun fr to n=>dZ b d fr to dg n) e1 (cs.drop i) n).1).map partV) cs (e1:Nat) (e2:Nat)])
 |0,i,kids,n,h,hi,hk,hn=>by
  refine Jg ((32 - d:Nat):Int) dg (cs.map cutV) (cs.length:Nat) (i:Nat) (ofBytes b) (n:Nat) 1 h1 h2 b1 b2 (kids.map partV) (cs.map cutV) (e1:Nat) (e2:Nat) ?_
  have g1:¬((i:Int)<(cs.length:Int)):=by omega
  rw[List.drop_eq_nil_of_le (by omega)]
  simp only[Au,g1,decide_false,Bool.false_eq_true,if_false,fB,List.append_nil,GX]
  exact aC _
 |m+1,i,kids,n,h,hi,hk,hn=>by
  have hlt:i<cs.length:=by omega
  refine Jg ((32 - d:Nat):Int) dg (cs.map cutV) (cs.length:Nat) (i:Nat) (ofBytes b) (n:Nat) 1 h1 h2 b1 b2 (kids.map partV) (cs.map cutV) (e1:Nat) (e2:Nat) ?_
  have g1:((i:Int)<(cs.length:Int)):=by omega
  have g2:(0:Int)≤(i:Int):=by omega
  have hw:IntKind.wrap .i64 ((i:Int)+1)=((i+1:Nat):Int):=by rw[wrap64 (by omega) (by omega)];omega
  have hd:cs.drop i=cs[i]::cs.drop (i+1):=List.drop_eq_getElem_cons hlt
  have hap:∀v:V,cZ (kids.map partV) [v] 105=true:=fun v=>mC (by simp;omega)
  have hkl:((((kids.map partV).length:Nat):Int)==(((kids.map partV).length:Nat):Int))=true:=by simp
  rw[hd]
  have fin:∀x:Nat,Ax e1 (cs.drop (i+1))=x→
    Evt (fun k j=>Option.bind (aA cfg k 31 [.ref 0 0, .agg [.int .i64 (cs[i].2:Nat), .int .i64 ((max x cs[i].2:Nat):Int)], .int .i64 ((32 - d:Nat):Int), .bool dg] (rJ b (n:Nat))) fun z0=>
     L60 (aA cfg k) j ((32 - d:Nat):Int) dg (cs.map cutV) (cs.length:Nat) ((i+1:Nat):Int) ((V.getL (List.headD (Ob.getC (List.headD z0.2 Ob.dead)) V.bot))) ((V.getI (List.headD (List.tail (Ob.getC (List.headD z0.2 Ob.dead))) V.bot))) 1 h1 h2 b1 b2 (kids.map partV++[V.agg [V.int .i64 (V.getI (List.headD (V.cells z0.1) V.bot)),V.int .i64 (V.getI (List.headD (List.tail (V.cells z0.1)) V.bot)),V.int .i64 (V.getI (List.headD (List.tail (List.tail (V.cells z0.1))) V.bot)),V.int .i64 (V.getI (List.headD (List.tail (List.tail (List.tail (V.cells z0.1)))) V.bot)),V.int .i64 (V.getI (List.headD (List.tail (List.tail (List.tail (List.tail (V.cells z0.1))))) V.bot)),V.lst 36 false (V.getL (List.headD (List.tail (List.tail (List.tail (List.tail (List.tail (V.cells z0.1)))))) V.bot)),V.lst 32 false (V.getL (List.headD (List.tail (List.tail (List.tail (List.tail (List.tail (List.tail (V.cells z0.1))))))) V.bot)),V.int .i64 (V.getI (List.headD (List.tail (List.tail (List.tail (List.tail (List.tail (List.tail (List.tail (V.cells z0.1)))))))) V.bot)),V.int .i64 (V.getI (List.headD (List.tail (List.tail (List.tail (List.tail (List.tail (List.tail (List.tail (List.tail (V.cells z0.1))))))))) V.bot))]]) (cs.map cutV) (e1:Nat) (e2:Nat))
    (.tup [],[.cells [.lst 5 false (ofBytes b), .int .i64 ((fB (fun fr to n=>dZ b d fr to dg n) e1 (cs[i]::cs.drop (i+1)) n).2:Nat)],GX 1 h1 h2 b1 b2 ((kids++(fB (fun fr to n=>dZ b d fr to dg n) e1 (cs[i]::cs.drop (i+1)) n).1).map partV) cs (e1:Nat) (e2:Nat)]):=by
   intro x hx
   refine aD (he cs[i].2 (max x cs[i].2) n dg hn) ?_
   have:=GY b d he dg cs hcs h1 h2 b1 b2 e1 e2 m (i+1) (kids++[(dZ b d cs[i].2 (max x cs[i].2) dg n).1]) (dZ b d cs[i].2 (max x cs[i].2) dg n).2 (by omega) (by omega) (by simp[hk]) (Bi b d _ _ _ _ hn)
   unfold fB
   rw[hx]
   simp only[iN]
   simp only[List.map_append,List.map_cons,List.map_nil,List.append_assoc,List.singleton_append]at this ⊢
   exact this
  by_cases hn1:i+1<cs.length
  ·have q1:(((i+1:Nat):Int)<(cs.length:Int)):=by omega
   have q2:(0:Int)≤((i+1:Nat):Int):=by omega
   simp only[Au,g1,decide_true,if_true,aI g2,List.length_map,cD,hw,q1,aI q2,Int.toNat_natCast,yA hlt,yA hn1,cutV,V.cells,List.headD_cons,List.tail_cons,V.getI,Eh,beq_self_eq_true,eL (hap _)]
   exact fin cs[i+1].1 (by rw[List.drop_eq_getElem_cons hn1];rfl)
  ·have q1:¬(((i+1:Nat):Int)<(cs.length:Int)):=by omega
   simp only[Au,g1,decide_true,decide_false,Bool.false_eq_true,if_false,if_true,aI g2,List.length_map,cD,hw,q1,Int.toNat_natCast,yA hlt,cutV,V.cells,List.headD_cons,List.tail_cons,V.getI,Eh,beq_self_eq_true,eL (hap _)]
   exact fin e1 (by rw[List.drop_eq_nil_of_le (by omega)];rfl)
end Go.Proofs.YtdoaoaicdimbeaaGreatDoor
end
section
namespace Go.Proofs.YtdoaoaicdimbeaaGreatDoor
open Go.Ev Go
theorem L1 (b:Bs) (d:Nat) (he:tN b d) (dg:Bool) (cs:List (Nat×Nat)) (hcs:cs.length≤1000) (h1 h2 b1 b2:Int) (e1 e2:Nat) (n:Nat) (hn:n≤1000):
  Ret 60 [.ref 0 0, .ref 1 0, .int .i64 ((32 - d:Nat):Int), .bool dg] [.cells [.lst 5 false (ofBytes b), .int .i64 (n:Nat)],GX 1 h1 h2 b1 b2 [] cs (e1:Nat) (e2:Nat)]
   (.tup [],[.cells [.lst 5 false (ofBytes b), .int .i64 ((fB (fun fr to n=>dZ b d fr to dg n) e1 cs n).2:Nat)],GX 1 h1 h2 b1 b2 ((fB (fun fr to n=>dZ b d fr to dg n) e1 cs n).1.map partV) cs (e1:Nat) (e2:Nat)]):=by
 refine M60 (ofBytes b) (n:Nat) 1 h1 h2 b1 b2 [] (cs.map cutV) (e1:Nat) (e2:Nat) ((32 - d:Nat):Int) dg ?_
 simp only[T60,List.length_map]
 have:=GY b d he dg cs hcs h1 h2 b1 b2 e1 e2 cs.length 0 [] n (by omega) (by omega) rfl hn
 simpa using this
theorem L2 (b:Bs) (hb:b.length≤100000):tN b 0:=by
 intro fr to n dg hn
 refine M31 (ofBytes b) (n:Nat) (fr:Nat) (to:Nat) ((32 - 0:Nat):Int) dg ?_
 simp only[T31]
 refine aD (Cu b (by omega) (fr:Nat) (to:Nat)) ?_
 have h1:((((32 - 0:Nat):Int))==(32:Int))=true:=rfl
 simp only[h1,if_true,V.getT,List.headD_cons,List.tail_cons,V.getI]
 rw[←Cz]
 exact aC _
theorem mI (b bd:Bs):∀(l:List Ln) (out:List (Nat×Nat)) (fr:Nat),(mO b bd l out fr).1.length≤out.length+l.length
 |[],out,fr=>by simp[mO]
 |x::r,out,fr=>by
  unfold mO
  split
  ·have:=mI b bd r out x.2.1;simp only[List.length_cons];omega
  ·split
   ·simp
   ·have:=mI b bd r (out++[(fr,x.2.2)]) x.2.2;simp only[List.length_append,List.length_cons,List.length_nil]at this ⊢;omega
theorem Bj (b:Bs) (fr to:Nat) (bd:Bs):(fQ b fr to bd).1.length≤b.length:=by
 have h1:=dB fr to b
 have h2:=mI b bd (aT fr to b) [] fr
 unfold fQ;simp at h2;simp only;omega
theorem bT (k:IntKind) (z:Int):(V.int k z).getI=z:=rfl
theorem aY (t:TypeId) (o:Bool) (l:List V):(V.lst t o l).getL=l:=rfl
theorem bF (x:Bool):(V.bool x).getB=x:=rfl
theorem gG (x:Bs):(V.str x).getS=x:=rfl
theorem bZ (l:List V):(V.tup l).getT=l:=rfl
theorem Ay (l:List V):(V.agg l).cells=l:=rfl
theorem GZ (fr at_ to:Nat):partV (iU fr at_ to)= .agg [.int .i64 0, .int .i64 (fr:Nat), .int .i64 (at_:Nat), .int .i64 (at_:Nat), .int .i64 (to:Nat), .lst 36 false [], .lst 32 false [], .int .i64 0, .int .i64 0]:=by
 unfold iU;rw[partV];rfl
theorem cK {α β:Type} {o:Option β} {v:β} {F:Nat→Nat→β→Option α} {r:α} (h:o=some v) (h2:Evt (fun k n=>F k n v) r):Evt (fun k n=>Option.bind o (F k n)) r:=by subst h;exact h2
theorem L6 (b:Bs) (hb:b.length≤100000) (d:Nat) (hd:d+1≤32) (he:tN b d):tN b (d+1):=by
 intro fr to n dg hn
 refine M31 (ofBytes b) (n:Nat) (fr:Nat) (to:Nat) ((32 - (d+1):Nat):Int) dg ?_
 simp only[T31]
 refine aD (Cu b (by omega) (fr:Nat) (to:Nat)) ?_
 obtain⟨k1,k2⟩:=rK b (fr:Nat) (to:Nat)
 have h1:((((32 - (d+1):Nat):Int))==(32:Int))=false:=beq_eq_false_iff_ne.2 (by omega)
 have hw:IntKind.wrap .i64 (((32 - (d+1):Nat):Int)+1)=((32 - d:Nat):Int):=by rw[wrap64 (by omega) (by omega)];omega
 simp only[h1,Bool.false_eq_true,if_false,bZ,List.headD_cons,List.tail_cons,bT,aY,hw]
 rw[←Cz]
 generalize hat:(dE b (fr:Nat) (to:Nat)).2.toNat=at_
 generalize hfl:(dE b (fr:Nat) (to:Nat)).1=l at k1 k2
 refine aD (LZ b (by omega) l (by omega) (fun f hf=>by have:=k1 f hf;omega) dg (n:Nat)) ?_
 obtain⟨m1,m2⟩:=CB b l dg
 generalize hv:mP b l dg=v at m1 m2
 obtain⟨t,u,ps⟩:=v
 simp only at m1 m2
 simp only[Ay,gG,aY,List.headD_cons,List.tail_cons]
 refine aD (LI t u ps (by omega) (fun p hp=>by have:=m2 p hp;omega) bdB (by simp[bdB])) ?_
 simp only[bZ,gG,List.headD_cons]
 have hent:dZ b (d+1) fr to dg n=(if t=mpB∧(getF ps bdB).getD []≠[]∧((getF ps bdB).getD []).length≤70 then
   if 0<(fQ b at_ to ((getF ps bdB).getD [])).1.length∧n+(fQ b at_ to ((getF ps bdB).getD [])).1.length≤1000 then
    (Pt.mk 1 (fr,at_) (at_,to) (fB (fun fr to n=>dZ b d fr to (u==dgB) n) (fQ b at_ to ((getF ps bdB).getD [])).2.1 (fQ b at_ to ((getF ps bdB).getD [])).1 (n+(fQ b at_ to ((getF ps bdB).getD [])).1.length)).1 (fQ b at_ to ((getF ps bdB).getD [])).1 (fQ b at_ to ((getF ps bdB).getD [])).2,
     (fB (fun fr to n=>dZ b d fr to (u==dgB) n) (fQ b at_ to ((getF ps bdB).getD [])).2.1 (fQ b at_ to ((getF ps bdB).getD [])).1 (n+(fQ b at_ to ((getF ps bdB).getD [])).1.length)).2)
   else(iU fr at_ to,n)
  else if t=ID∧u=IE∧Aw b l=true∧n<1000 then(Pt.mk 2 (fr,at_) (at_,to) [(dZ b d at_ to false (n+1)).1] [] (0,0),(dZ b d at_ to false (n+1)).2)
  else(iU fr at_ to,n)):=by
  rw[dZ]
  simp only[hat,hfl,hv]
 rw[hent]
 generalize hbd:(getF ps bdB).getD []=bd
 have hsq:∀x y:Bs,sEq x y=decide (x=y):=fun x y=>by
  by_cases h:x=y
  ·subst h;simp[sEq]
  ·simp[sEq,h]
 have leaf:∀x:Int,x=(n:Int)→Evt (fun _ _=>some (V.agg [.int .i64 0, .int .i64 (fr:Nat), .int .i64 (at_:Nat), .int .i64 (at_:Nat), .int .i64 (to:Nat), .lst 36 false [], .lst 32 false [], .int .i64 0, .int .i64 0],
   [Ob.cells [.lst 5 false (ofBytes b), .int .i64 x]])) (partV (iU fr at_ to),rJ b (n:Nat)):=by
  intro x hx
  subst hx
  rw[GZ]
  exact aC _
 have hy3:(if sEq t [109,117,108,116,105,112,97,114,116]=true then(if(!(sEq bd []))=true then some (decide (((bd.length:Nat):Int)≤(70:Int)))else some false)else some false)=some (decide (t=mpB∧bd≠[]∧bd.length≤70)):=by
  have e1:sEq t [109,117,108,116,105,112,97,114,116]=decide (t=mpB):=hsq t mpB
  rw[e1,hsq bd []]
  by_cases c1:t=mpB
  ·by_cases c2:bd=[]
   ·simp[c1,c2]
   ·by_cases c3:bd.length≤70
    ·have:((bd.length:Nat):Int)≤70:=by omega
     simp[c1,c2,c3,this]
    ·have:¬(((bd.length:Nat):Int)≤70):=by omega
     simp[c1,c2,c3,this]
  ·simp[c1]
 refine cK hy3 ?_
 by_cases hc:t=mpB∧bd≠[]∧bd.length≤70
 ·rw[if_pos hc]
  simp only[decide_eq_true hc,if_true]
  refine aD (LY b bd (by omega) (by have:=hc.2.2;omega) (n:Nat) at_ to) ?_
  have hcl:=Bj b at_ to bd
  generalize hcu:fQ b at_ to bd=cu at hcl
  obtain⟨cs,e1,e2⟩:=cu
  simp only at hcl
  have hwn:IntKind.wrap .i64 ((n:Int)+((cs.length:Nat):Int))=((n+cs.length:Nat):Int):=by rw[wrap64 (by omega) (by omega)];omega
  simp only[V.getT,List.headD_cons,List.tail_cons,V.getB,V.getL,rJ,Ob.getC,V.getI,cutV,V.cells,List.length_map,hwn]
  have hy5:(if decide (0<cs.length)=true then some (decide (((n+cs.length:Nat):Int)≤(1000:Int)))else some false)=some (decide (0<cs.length∧n+cs.length≤1000)):=by
   by_cases c1:0<cs.length
   ·by_cases c2:n+cs.length≤1000
    ·have:((n+cs.length:Nat):Int)≤1000:=by omega
     simp only[c1,c2,this,decide_true,if_true,and_self]
    ·have:¬(((n+cs.length:Nat):Int)≤1000):=by omega
     simp only[c1,c2,this,decide_true,decide_false,if_true,and_false]
   ·simp only[c1,decide_false,Bool.false_eq_true,if_false,false_and]
  refine cK hy5 ?_
  by_cases hc2:0<cs.length∧n+cs.length≤1000
  ·rw[if_pos hc2]
   simp only[decide_eq_true hc2,if_true]
   refine aD (L1 b d he (u==dgB) cs (by omega) (fr:Nat) (at_:Nat) (at_:Nat) (to:Nat) e1 e2 (n+cs.length) hc2.2) ?_
   rw[partV,sQ]
   exact aC _
  ·rw[if_neg hc2]
   simp only[decide_eq_false hc2,Bool.false_eq_true,if_false]
   exact leaf _ rfl
 ·rw[if_neg hc]
  simp only[decide_eq_false hc,Bool.false_eq_true,if_false]
  by_cases t1:t=ID
  ·by_cases t2:u=IE
   ·have s1:sEq t [109,101,115,115,97,103,101]=true:=by rw[hsq];exact decide_eq_true t1
    have s2:sEq u [114,102,99,56,50,50]=true:=by rw[hsq];exact decide_eq_true t2
    simp only[s1,s2,if_true]
    refine aD (L0 b (by omega) l (by omega) (fun f hf=>by have:=k1 f hf;omega) (n:Nat)) ?_
    simp only[bF,rJ,Ob.getC,List.headD_cons,List.tail_cons,bT,aY]
    by_cases t3:Aw b l=true
    ·by_cases t4:n<1000
     ·have t4' :((n:Nat):Int)<1000:=by omega
      have hwn:IntKind.wrap .i64 ((n:Int)+1)=((n+1:Nat):Int):=by rw[wrap64 (by omega) (by omega)];omega
      rw[if_pos ⟨t1,t2,t3,t4⟩]
      simp only[t3,if_true,t4',decide_true,hwn]
      refine aD (he at_ to (n+1) false (by omega)) ?_
      simp only[iN]
      rw[partV,sP,sP]
      exact aC _
     ·have t4' :¬(((n:Nat):Int)<1000):=by omega
      rw[if_neg (fun h=>t4 h.2.2.2)]
      simp only[t3,if_true,t4',decide_false,Bool.false_eq_true,if_false]
      exact leaf _ rfl
    ·rw[if_neg (fun h=>t3 h.2.2.1)]
     simp only[t3,Bool.false_eq_true,if_false]
     exact leaf _ rfl
   ·rw[if_neg (fun h=>t2 h.2.1)]
    have s1:sEq t [109,101,115,115,97,103,101]=true:=by rw[hsq];exact decide_eq_true t1
    have s2:sEq u [114,102,99,56,50,50]=false:=by rw[hsq];exact decide_eq_false t2
    simp only[s1,s2,if_true,Bool.false_eq_true,if_false]
    exact leaf _ rfl
  ·rw[if_neg (fun h=>t1 h.1)]
   have s1:sEq t [109,101,115,115,97,103,101]=false:=by rw[hsq];exact decide_eq_false t1
   simp only[s1,Bool.false_eq_true,if_false]
   exact leaf _ rfl
theorem Ei (b:Bs) (hb:b.length≤100000):∀d,d≤32→tN b d
 |0,_=>L2 b hb
 |d+1,h=>L6 b hb d h (Ei b hb d (by omega))
end Go.Proofs.YtdoaoaicdimbeaaGreatDoor
end
section
namespace Go.Proofs.YtdoaoaicdimbeaaGreatDoor
open Go.Ev Go
theorem L8 (b:Bs) (hb:b.length≤100000):
  Ret 14 [.lst 5 false (ofBytes b)] [] (.tup [partV (dZ b 32 0 b.length false 1).1, .int .i64 0],[]):=by
 refine M14 (ofBytes b) ?_
 have h1:¬(((b.length:Nat):Int)>67108864):=by omega
 simp only[T14,aU,h1,decide_false,Bool.false_eq_true,if_false]
 have he:Ret 31 [.ref 0 0, .agg [.int .i64 (0:Int), .int .i64 (b.length:Nat)], .int .i64 (0:Int), .bool false] [.cells [.lst 5 false (ofBytes b), .int .i64 (1:Int)]] (partV (dZ b 32 0 b.length false 1).1,rJ b ((dZ b 32 0 b.length false 1).2:Nat)):=
  Ei b hb 32 (by omega) 0 b.length 1 false (by omega)
 refine aD he ?_
 simp only[iN]
 exact aC _
mutual
def cntF:Pt→Nat
 | .mk _ _ _ kids _ _=>1+qM kids
def qM:List Pt→Nat
 |[]=>0
 |p::r=>cntF p+qM r
end
theorem G3 (p:Pt):1≤cntF p:=by cases p;rw[cntF];omega
theorem yB:∀l:List Pt,l.length≤qM l
 |[]=>by simp[qM]
 |p::r=>by have:=yB r;have:=G3 p;rw[qM,List.length_cons];omega
end Go.Proofs.YtdoaoaicdimbeaaGreatDoor
end
section
namespace Go.Proofs.YtdoaoaicdimbeaaGreatDoor
open Go.Ev Go
open List (headD tail getD length drop take)
open V (getI getL getT getS getB)
set_option maxRecDepth 100000
variable (call : FuncId → Fun) (icall : aQ (V × List Ob)) (again : List It → St → Option (V × List Ob))
def T36 (call:FuncId→Fun) (a0:List V) (a1:Int) (a2:Int) (a3:Int) (a4:Int) (a5:Int) (a6:List V) (a7:List V) (a8:Int) (a9:Int):Option (V×List Ob):=
 Option.bind (call 32 [(V.lst 5 false a0),(V.agg [(V.int .i64 a2),(V.int .i64 a3)])] []) fun z0=>
 Option.bind (call 34 [(V.lst 5 false a0),(V.lst 91 false (getL (headD (getT z0.1) V.bot))),(V.str [99,111,110,116,101,110,116,45,116,114,97,110,115,102,101,114,45,101,110,99,111,100,105,110,103])] []) fun z1=>
 Option.bind (call 73 [(V.str (getS z1.1))] []) fun z2=>
 if(!(sEq (getS z2.1) []))=true then
 some ((V.str (getS z2.1)),[])
 else
 some ((V.str [55,98,105,116]),[])
def A36 (a0:List V) (a1:Int) (a2:Int) (a3:Int) (a4:Int) (a5:Int) (a6:List V) (a7:List V) (a8:Int) (a9:Int):List V:=[V.lst 5 false a0,V.agg [V.int IntKind.i64 a1,V.int IntKind.i64 a2,V.int IntKind.i64 a3,V.int IntKind.i64 a4,V.int IntKind.i64 a5,V.lst 36 false a6,V.lst 32 false a7,V.int IntKind.i64 a8,V.int IntKind.i64 a9]]
theorem E36 (a0:List V) (a1:Int) (a2:Int) (a3:Int) (a4:Int) (a5:Int) (a6:List V) (a7:List V) (a8:Int) (a9:Int):GO 36 Tryz.f36 (A36 a0 a1 a2 a3 a4 a5 a6 a7 a8 a9) [] call icall again=T36 call a0 a1 a2 a3 a4 a5 a6 a7 a8 a9:=by kernel_rfl
theorem C36 (k:Nat) (a0:List V) (a1:Int) (a2:Int) (a3:Int) (a4:Int) (a5:Int) (a6:List V) (a7:List V) (a8:Int) (a9:Int):aA cfg (k+1) 36 (A36 a0 a1 a2 a3 a4 a5 a6 a7 a8 a9) []=T36 (aA cfg k) a0 a1 a2 a3 a4 a5 a6 a7 a8 a9:=
 (show aA cfg (k+1) 36 (A36 a0 a1 a2 a3 a4 a5 a6 a7 a8 a9) []=GO 36 Tryz.f36 (A36 a0 a1 a2 a3 a4 a5 a6 a7 a8 a9) [] (aA cfg k) (aF cfg (aA cfg k) 20) (RN 36 Tryz.f36 [] (aA cfg k) (aF cfg (aA cfg k) 20) k)by kernel_rfl).trans (E36 _ _ _ a0 a1 a2 a3 a4 a5 a6 a7 a8 a9)
theorem M36 (a0:List V) (a1:Int) (a2:Int) (a3:Int) (a4:Int) (a5:Int) (a6:List V) (a7:List V) (a8:Int) (a9:Int) {r:V×List Ob} (h:Evt (fun k n=>T36 (aA cfg k) a0 a1 a2 a3 a4 a5 a6 a7 a8 a9) r):Ret 36 [V.lst 5 false a0,V.agg [V.int IntKind.i64 a1,V.int IntKind.i64 a2,V.int IntKind.i64 a3,V.int IntKind.i64 a4,V.int IntKind.i64 a5,V.lst 36 false a6,V.lst 32 false a7,V.int IntKind.i64 a8,V.int IntKind.i64 a9]] [] r:=aR (g:=fun k n=>T36 (aA cfg k) a0 a1 a2 a3 a4 a5 a6 a7 a8 a9) (fun k=>C36 k a0 a1 a2 a3 a4 a5 a6 a7 a8 a9) h
end Go.Proofs.YtdoaoaicdimbeaaGreatDoor
end
section
namespace Go.Proofs.YtdoaoaicdimbeaaGreatDoor
open Go.Ev Go
end Go.Proofs.YtdoaoaicdimbeaaGreatDoor
end
section
namespace Go.Proofs.YtdoaoaicdimbeaaGreatDoor
open Go.Ev Go
open List (headD tail getD length drop take)
open V (getI getL getT getS getB)
set_option maxRecDepth 100000
variable (call : FuncId → Fun) (icall : aQ (V × List Ob)) (again : List It → St → Option (V × List Ob))
def T17 (call:FuncId→Fun) (a0:List V) (a1:Int) (a2:Int) (a3:Int) (a4:Int) (a5:Int) (a6:List V) (a7:List V) (a8:Int) (a9:Int) (a10:List V):Option (V×List Ob):=
 if(((length a10:Nat):Int)==(0:Int))=true then
 Option.bind (call 37 [(V.lst 5 false a0),(V.agg [(V.int .i64 a2),(V.int .i64 a5)])] []) fun z0=>
 some ((V.tup [(V.lst 5 false (getL z0.1)),(V.int .i64 0)]),[])
 else
 Option.bind (call 38 [(V.agg [(V.int .i64 a1),(V.int .i64 a2),(V.int .i64 a3),(V.int .i64 a4),(V.int .i64 a5),(V.lst 36 false a6),(V.lst 32 false a7),(V.int .i64 a8),(V.int .i64 a9)]),(V.lst 3 false a10)] []) fun z0=>
 if(!(getB (headD (tail (getT z0.1)) V.bot)))=true then
 some ((V.tup [(V.lst 5 false []),(V.int .i64 30)]),[])
 else
 Option.bind (call 39 [(V.lst 5 false a0),(V.agg [(V.int .i64 (getI (headD (V.cells (headD (getT z0.1) V.bot)) V.bot))),(V.int .i64 (getI (headD (tail (V.cells (headD (getT z0.1) V.bot))) V.bot))),(V.int .i64 (getI (headD (tail (tail (V.cells (headD (getT z0.1) V.bot)))) V.bot))),(V.int .i64 (getI (headD (tail (tail (tail (V.cells (headD (getT z0.1) V.bot))))) V.bot))),(V.int .i64 (getI (headD (tail (tail (tail (tail (V.cells (headD (getT z0.1) V.bot)))))) V.bot))),(V.lst 36 false (getL (headD (tail (tail (tail (tail (tail (V.cells (headD (getT z0.1) V.bot))))))) V.bot))),(V.lst 32 false (getL (headD (tail (tail (tail (tail (tail (tail (V.cells (headD (getT z0.1) V.bot)))))))) V.bot))),(V.int .i64 (getI (headD (tail (tail (tail (tail (tail (tail (tail (V.cells (headD (getT z0.1) V.bot))))))))) V.bot))),(V.int .i64 (getI (headD (tail (tail (tail (tail (tail (tail (tail (tail (V.cells (headD (getT z0.1) V.bot)))))))))) V.bot)))])] []) fun z1=>
 if(!(getB (headD (tail (getT z1.1)) V.bot)))=true then
 some ((V.tup [(V.lst 5 false []),(V.int .i64 22)]),[])
 else
 some ((V.tup [(V.lst 5 false (getL (headD (getT z1.1) V.bot))),(V.int .i64 0)]),[])
def A17 (a0:List V) (a1:Int) (a2:Int) (a3:Int) (a4:Int) (a5:Int) (a6:List V) (a7:List V) (a8:Int) (a9:Int) (a10:List V):List V:=[V.lst 5 false a0,V.agg [V.int IntKind.i64 a1,V.int IntKind.i64 a2,V.int IntKind.i64 a3,V.int IntKind.i64 a4,V.int IntKind.i64 a5,V.lst 36 false a6,V.lst 32 false a7,V.int IntKind.i64 a8,V.int IntKind.i64 a9],V.lst 3 false a10]
theorem E17 (a0:List V) (a1:Int) (a2:Int) (a3:Int) (a4:Int) (a5:Int) (a6:List V) (a7:List V) (a8:Int) (a9:Int) (a10:List V):GO 17 Tryz.f17 (A17 a0 a1 a2 a3 a4 a5 a6 a7 a8 a9 a10) [] call icall again=T17 call a0 a1 a2 a3 a4 a5 a6 a7 a8 a9 a10:=by kernel_rfl
theorem C17 (k:Nat) (a0:List V) (a1:Int) (a2:Int) (a3:Int) (a4:Int) (a5:Int) (a6:List V) (a7:List V) (a8:Int) (a9:Int) (a10:List V):aA cfg (k+1) 17 (A17 a0 a1 a2 a3 a4 a5 a6 a7 a8 a9 a10) []=T17 (aA cfg k) a0 a1 a2 a3 a4 a5 a6 a7 a8 a9 a10:=
 (show aA cfg (k+1) 17 (A17 a0 a1 a2 a3 a4 a5 a6 a7 a8 a9 a10) []=GO 17 Tryz.f17 (A17 a0 a1 a2 a3 a4 a5 a6 a7 a8 a9 a10) [] (aA cfg k) (aF cfg (aA cfg k) 20) (RN 17 Tryz.f17 [] (aA cfg k) (aF cfg (aA cfg k) 20) k)by kernel_rfl).trans (E17 _ _ _ a0 a1 a2 a3 a4 a5 a6 a7 a8 a9 a10)
theorem M17 (a0:List V) (a1:Int) (a2:Int) (a3:Int) (a4:Int) (a5:Int) (a6:List V) (a7:List V) (a8:Int) (a9:Int) (a10:List V) {r:V×List Ob} (h:Evt (fun k n=>T17 (aA cfg k) a0 a1 a2 a3 a4 a5 a6 a7 a8 a9 a10) r):Ret 17 [V.lst 5 false a0,V.agg [V.int IntKind.i64 a1,V.int IntKind.i64 a2,V.int IntKind.i64 a3,V.int IntKind.i64 a4,V.int IntKind.i64 a5,V.lst 36 false a6,V.lst 32 false a7,V.int IntKind.i64 a8,V.int IntKind.i64 a9],V.lst 3 false a10] [] r:=aR (g:=fun k n=>T17 (aA cfg k) a0 a1 a2 a3 a4 a5 a6 a7 a8 a9 a10) (fun k=>C17 k a0 a1 a2 a3 a4 a5 a6 a7 a8 a9 a10) h
def T18 (call:FuncId→Fun) (a0:List V) (a1:Int) (a2:Int) (a3:Int) (a4:Int) (a5:Int) (a6:List V) (a7:List V) (a8:Int) (a9:Int) (a10:List V):Option (V×List Ob):=
 Option.bind (call 17 [(V.lst 5 false a0),(V.agg [(V.int .i64 a1),(V.int .i64 a2),(V.int .i64 a3),(V.int .i64 a4),(V.int .i64 a5),(V.lst 36 false a6),(V.lst 32 false a7),(V.int .i64 a8),(V.int .i64 a9)]),(V.lst 3 false a10)] []) fun z0=>
 some ((V.tup [(V.int .i64 ((length (getL (headD (getT z0.1) V.bot)):Nat):Int)),(V.int .i64 (getI (headD (tail (getT z0.1)) V.bot)))]),[])
def A18 (a0:List V) (a1:Int) (a2:Int) (a3:Int) (a4:Int) (a5:Int) (a6:List V) (a7:List V) (a8:Int) (a9:Int) (a10:List V):List V:=[V.lst 5 false a0,V.agg [V.int IntKind.i64 a1,V.int IntKind.i64 a2,V.int IntKind.i64 a3,V.int IntKind.i64 a4,V.int IntKind.i64 a5,V.lst 36 false a6,V.lst 32 false a7,V.int IntKind.i64 a8,V.int IntKind.i64 a9],V.lst 3 false a10]
theorem E18 (a0:List V) (a1:Int) (a2:Int) (a3:Int) (a4:Int) (a5:Int) (a6:List V) (a7:List V) (a8:Int) (a9:Int) (a10:List V):GO 18 Tryz.f18 (A18 a0 a1 a2 a3 a4 a5 a6 a7 a8 a9 a10) [] call icall again=T18 call a0 a1 a2 a3 a4 a5 a6 a7 a8 a9 a10:=by kernel_rfl
theorem C18 (k:Nat) (a0:List V) (a1:Int) (a2:Int) (a3:Int) (a4:Int) (a5:Int) (a6:List V) (a7:List V) (a8:Int) (a9:Int) (a10:List V):aA cfg (k+1) 18 (A18 a0 a1 a2 a3 a4 a5 a6 a7 a8 a9 a10) []=T18 (aA cfg k) a0 a1 a2 a3 a4 a5 a6 a7 a8 a9 a10:=
 (show aA cfg (k+1) 18 (A18 a0 a1 a2 a3 a4 a5 a6 a7 a8 a9 a10) []=GO 18 Tryz.f18 (A18 a0 a1 a2 a3 a4 a5 a6 a7 a8 a9 a10) [] (aA cfg k) (aF cfg (aA cfg k) 20) (RN 18 Tryz.f18 [] (aA cfg k) (aF cfg (aA cfg k) 20) k)by kernel_rfl).trans (E18 _ _ _ a0 a1 a2 a3 a4 a5 a6 a7 a8 a9 a10)
theorem M18 (a0:List V) (a1:Int) (a2:Int) (a3:Int) (a4:Int) (a5:Int) (a6:List V) (a7:List V) (a8:Int) (a9:Int) (a10:List V) {r:V×List Ob} (h:Evt (fun k n=>T18 (aA cfg k) a0 a1 a2 a3 a4 a5 a6 a7 a8 a9 a10) r):Ret 18 [V.lst 5 false a0,V.agg [V.int IntKind.i64 a1,V.int IntKind.i64 a2,V.int IntKind.i64 a3,V.int IntKind.i64 a4,V.int IntKind.i64 a5,V.lst 36 false a6,V.lst 32 false a7,V.int IntKind.i64 a8,V.int IntKind.i64 a9],V.lst 3 false a10] [] r:=aR (g:=fun k n=>T18 (aA cfg k) a0 a1 a2 a3 a4 a5 a6 a7 a8 a9 a10) (fun k=>C18 k a0 a1 a2 a3 a4 a5 a6 a7 a8 a9 a10) h
def T37 (call:FuncId→Fun) (a0:List V) (a1:Int) (a2:Int):Option (V×List Ob):=
 Option.bind (call 74 [(V.agg [(V.int .i64 a1),(V.int .i64 a2)]),(V.int .i64 ((length a0:Nat):Int))] []) fun z0=>
 if(!(getB z0.1))=true then
 some ((V.lst 5 false []),[])
 else
 chk (decide (0≤a2)) (chk (decide (a2≤((length a0:Nat):Int))) (chk (decide (0≤a1)) (chk (decide (a1≤a2)) (Option.bind (call 75 [(V.lst 5 false (drop (Int.toNat a1) (take (Int.toNat a2) a0)))] []) fun z1=>
 some ((V.lst 5 false (getL z1.1)),[])))))
def A37 (a0:List V) (a1:Int) (a2:Int):List V:=[V.lst 5 false a0,V.agg [V.int IntKind.i64 a1,V.int IntKind.i64 a2]]
theorem E37 (a0:List V) (a1:Int) (a2:Int):GO 37 Tryz.f37 (A37 a0 a1 a2) [] call icall again=T37 call a0 a1 a2:=by kernel_rfl
theorem C37 (k:Nat) (a0:List V) (a1:Int) (a2:Int):aA cfg (k+1) 37 (A37 a0 a1 a2) []=T37 (aA cfg k) a0 a1 a2:=
 (show aA cfg (k+1) 37 (A37 a0 a1 a2) []=GO 37 Tryz.f37 (A37 a0 a1 a2) [] (aA cfg k) (aF cfg (aA cfg k) 20) (RN 37 Tryz.f37 [] (aA cfg k) (aF cfg (aA cfg k) 20) k)by kernel_rfl).trans (E37 _ _ _ a0 a1 a2)
theorem M37 (a0:List V) (a1:Int) (a2:Int) {r:V×List Ob} (h:Evt (fun k n=>T37 (aA cfg k) a0 a1 a2) r):Ret 37 [V.lst 5 false a0,V.agg [V.int IntKind.i64 a1,V.int IntKind.i64 a2]] [] r:=aR (g:=fun k n=>T37 (aA cfg k) a0 a1 a2) (fun k=>C37 k a0 a1 a2) h
def G4 (call:FuncId→Fun) (ag0:List V→Int→Int→Int→Int→Int→Int→List V→List V→Int→Int→Option (V×List Ob)) (l0:List V) (i1:Int) (i2:Int) (i3:Int) (i4:Int) (i5:Int) (i6:Int) (l7:List V) (l8:List V) (i9:Int) (i10:Int):Option (V×List Ob):=
 if(decide (i1<((length l7:Nat):Int)))=true then
 chk (decide (0≤i1)) (chk (decide (i1<((length l7:Nat):Int))) (Option.bind (if(i2 != (1:Int))=false then
 some ((getI (headD (V.cells (getD l7 (Int.toNat i1) V.bot)) V.bot)) != (1:Int))
 else
 some true) fun y0=>
 if y0=true then
 (ag0 (l0) ((IntKind.wrap .i64 (i1+(1:Int)))) (i2) (i3) (i4) (i5) (i6) (l7) (l8) (i9) (i10))
 else
 Option.bind (call 17 [(V.lst 5 false l0),(V.agg [(V.int .i64 i2),(V.int .i64 i3),(V.int .i64 i4),(V.int .i64 i5),(V.int .i64 i6),(V.lst 36 false l7),(V.lst 32 false l8),(V.int .i64 i9),(V.int .i64 i10)]),(V.lst 3 false [(V.int .i64 (IntKind.wrap .i64 (i1+(1:Int))))])] []) fun z1=>
 if((getI (headD (tail (getT z1.1)) V.bot)) != (0:Int))=false then
 Option.bind (call 19 [(V.lst 5 false l0),(V.agg [(V.int .i64 i2),(V.int .i64 i3),(V.int .i64 i4),(V.int .i64 i5),(V.int .i64 i6),(V.lst 36 false l7),(V.lst 32 false l8),(V.int .i64 i9),(V.int .i64 i10)]),(V.agg [(V.lst 3 false [(V.int .i64 (IntKind.wrap .i64 (i1+(1:Int))))]),(V.int .i64 0),(V.lst 9 false []),(V.bool false),(V.int .i64 0),(V.int .i64 0)])] []) fun z2=>
 if(!(sEq (bytesOf (getL (headD (getT z1.1) V.bot))) (bytesOf (getL z2.1))))=true then
 some ((V.bool false),[])
 else
 (ag0 (l0) ((IntKind.wrap .i64 (i1+(1:Int)))) (i2) (i3) (i4) (i5) (i6) (l7) (l8) (i9) (i10))
 else
 some ((V.bool false),[])))
 else
 some ((V.bool true),[])
def T5 (call:FuncId→Fun) (ag0:List V→Int→Int→Int→Int→Int→Int→List V→List V→Int→Int→Option (V×List Ob)) (a0:List V):Option (V×List Ob):=
 Option.bind (call 16 [] []) fun z0=>
 if(!(getB z0.1))=true then
 some ((V.bool false),[])
 else
 if(decide (((length a0:Nat):Int)>(1000:Int)))=true then
 some ((V.bool true),[])
 else
 Option.bind (call 14 [(V.lst 5 false a0)] []) fun z1=>
 Option.bind (call 17 [(V.lst 5 false a0),(V.agg [(V.int .i64 (getI (headD (V.cells (headD (getT z1.1) V.bot)) V.bot))),(V.int .i64 (getI (headD (tail (V.cells (headD (getT z1.1) V.bot))) V.bot))),(V.int .i64 (getI (headD (tail (tail (V.cells (headD (getT z1.1) V.bot)))) V.bot))),(V.int .i64 (getI (headD (tail (tail (tail (V.cells (headD (getT z1.1) V.bot))))) V.bot))),(V.int .i64 (getI (headD (tail (tail (tail (tail (V.cells (headD (getT z1.1) V.bot)))))) V.bot))),(V.lst 36 false (getL (headD (tail (tail (tail (tail (tail (V.cells (headD (getT z1.1) V.bot))))))) V.bot))),(V.lst 32 false (getL (headD (tail (tail (tail (tail (tail (tail (V.cells (headD (getT z1.1) V.bot)))))))) V.bot))),(V.int .i64 (getI (headD (tail (tail (tail (tail (tail (tail (tail (V.cells (headD (getT z1.1) V.bot))))))))) V.bot))),(V.int .i64 (getI (headD (tail (tail (tail (tail (tail (tail (tail (tail (V.cells (headD (getT z1.1) V.bot)))))))))) V.bot)))]),(V.lst 3 false [])] []) fun z2=>
 Option.bind (call 18 [(V.lst 5 false a0),(V.agg [(V.int .i64 (getI (headD (V.cells (headD (getT z1.1) V.bot)) V.bot))),(V.int .i64 (getI (headD (tail (V.cells (headD (getT z1.1) V.bot))) V.bot))),(V.int .i64 (getI (headD (tail (tail (V.cells (headD (getT z1.1) V.bot)))) V.bot))),(V.int .i64 (getI (headD (tail (tail (tail (V.cells (headD (getT z1.1) V.bot))))) V.bot))),(V.int .i64 (getI (headD (tail (tail (tail (tail (V.cells (headD (getT z1.1) V.bot)))))) V.bot))),(V.lst 36 false (getL (headD (tail (tail (tail (tail (tail (V.cells (headD (getT z1.1) V.bot))))))) V.bot))),(V.lst 32 false (getL (headD (tail (tail (tail (tail (tail (tail (V.cells (headD (getT z1.1) V.bot)))))))) V.bot))),(V.int .i64 (getI (headD (tail (tail (tail (tail (tail (tail (tail (V.cells (headD (getT z1.1) V.bot))))))))) V.bot))),(V.int .i64 (getI (headD (tail (tail (tail (tail (tail (tail (tail (tail (V.cells (headD (getT z1.1) V.bot)))))))))) V.bot)))]),(V.lst 3 false [])] []) fun z3=>
 if((getI (headD (tail (getT z2.1)) V.bot)) != (0:Int))=false then
 if((getI (headD (tail (getT z3.1)) V.bot)) != (0:Int))=false then
 if(!(sEq (bytesOf (getL (headD (getT z2.1) V.bot))) (bytesOf a0)))=false then
 if((getI (headD (getT z3.1) V.bot)) != ((length a0:Nat):Int))=true then
 some ((V.bool false),[])
 else
 (ag0 (a0) ((0:Int)) ((getI (headD (V.cells (headD (getT z1.1) V.bot)) V.bot))) ((getI (headD (tail (V.cells (headD (getT z1.1) V.bot))) V.bot))) ((getI (headD (tail (tail (V.cells (headD (getT z1.1) V.bot)))) V.bot))) ((getI (headD (tail (tail (tail (V.cells (headD (getT z1.1) V.bot))))) V.bot))) ((getI (headD (tail (tail (tail (tail (V.cells (headD (getT z1.1) V.bot)))))) V.bot))) ((getL (headD (tail (tail (tail (tail (tail (V.cells (headD (getT z1.1) V.bot))))))) V.bot))) ((getL (headD (tail (tail (tail (tail (tail (tail (V.cells (headD (getT z1.1) V.bot)))))))) V.bot))) ((getI (headD (tail (tail (tail (tail (tail (tail (tail (V.cells (headD (getT z1.1) V.bot))))))))) V.bot))) ((getI (headD (tail (tail (tail (tail (tail (tail (tail (tail (V.cells (headD (getT z1.1) V.bot)))))))))) V.bot))))
 else
 some ((V.bool false),[])
 else
 some ((V.bool false),[])
 else
 some ((V.bool false),[])
def A5 (a0:List V):List V:=[V.lst 5 false a0]
def EW (l0:List V) (i1:Int) (i2:Int) (i3:Int) (i4:Int) (i5:Int) (i6:Int) (l7:List V) (l8:List V) (i9:Int) (i10:Int):St:=⟨[(V.lst 5 false l0),V.bot,V.bot,V.bot,(V.ref 0 0),V.bot,V.bot,V.bot,V.bot,V.bot,(V.int IntKind.i64 i1)]++List.replicate 89 V.bot,[(Ob.cells [(V.int IntKind.i64 i2),(V.int IntKind.i64 i3),(V.int IntKind.i64 i4),(V.int IntKind.i64 i5),(V.int IntKind.i64 i6),(V.lst 36 false l7),(V.lst 32 false l8),(V.int IntKind.i64 i9),(V.int IntKind.i64 i10)])]⟩
theorem NQ (l0:List V) (i1:Int) (i2:Int) (i3:Int) (i4:Int) (i5:Int) (i6:Int) (l7:List V) (l8:List V) (i9:Int) (i10:Int):
 RM 5 Tryz.f5 [] call icall again (aJ Tryz.f5 0) (EW l0 i1 i2 i3 i4 i5 i6 l7 l8 i9 i10)=G4 call (fun l0 i1 i2 i3 i4 i5 i6 l7 l8 i9 i10=>again (aJ Tryz.f5 0) (EW l0 i1 i2 i3 i4 i5 i6 l7 l8 i9 i10)) l0 i1 i2 i3 i4 i5 i6 l7 l8 i9 i10:=by kernel_rfl
theorem E5 (a0:List V):GO 5 Tryz.f5 (A5 a0) [] call icall again=T5 call (fun l0 i1 i2 i3 i4 i5 i6 l7 l8 i9 i10=>again (aJ Tryz.f5 0) (EW l0 i1 i2 i3 i4 i5 i6 l7 l8 i9 i10)) a0:=by kernel_rfl
def L5 (call:FuncId→Fun):Nat→(List V→Int→Int→Int→Int→Int→Int→List V→List V→Int→Int→Option (V×List Ob))
 |0=>fun _ _ _ _ _ _ _ _ _ _ _=>none
 |n+1=>G4 call (L5 call n)
theorem R5 (call:FuncId→Fun) (icall:aQ (V×List Ob)):∀n,(∀(l0:List V) (i1:Int) (i2:Int) (i3:Int) (i4:Int) (i5:Int) (i6:Int) (l7:List V) (l8:List V) (i9:Int) (i10:Int),RN 5 Tryz.f5 [] call icall n (aJ Tryz.f5 0) (EW l0 i1 i2 i3 i4 i5 i6 l7 l8 i9 i10)=(L5 call n) l0 i1 i2 i3 i4 i5 i6 l7 l8 i9 i10)
 |0=>fun l0 i1 i2 i3 i4 i5 i6 l7 l8 i9 i10=>rfl
 |n+1=>by
  have ih:=R5 call icall n
  exact fun l0 i1 i2 i3 i4 i5 i6 l7 l8 i9 i10=>(NQ call icall (RN 5 Tryz.f5 [] call icall n) l0 i1 i2 i3 i4 i5 i6 l7 l8 i9 i10).trans (by rw[show(fun l0 i1 i2 i3 i4 i5 i6 l7 l8 i9 i10=>RN 5 Tryz.f5 [] call icall n (aJ Tryz.f5 0) (EW l0 i1 i2 i3 i4 i5 i6 l7 l8 i9 i10))=(L5 call n)from(funext fun l0=>funext fun i1=>funext fun i2=>funext fun i3=>funext fun i4=>funext fun i5=>funext fun i6=>funext fun l7=>funext fun l8=>funext fun i9=>funext fun i10=>ih l0 i1 i2 i3 i4 i5 i6 l7 l8 i9 i10)];rfl)
theorem C5 (k:Nat) (a0:List V):aA cfg (k+1) 5 (A5 a0) []=T5 (aA cfg k) (L5 (aA cfg k) k) a0:=by
 have ih:=R5 (aA cfg k) (aF cfg (aA cfg k) 20) k
 refine(show aA cfg (k+1) 5 (A5 a0) []=GO 5 Tryz.f5 (A5 a0) [] (aA cfg k) (aF cfg (aA cfg k) 20) (RN 5 Tryz.f5 [] (aA cfg k) (aF cfg (aA cfg k) 20) k)by kernel_rfl).trans ((E5 _ _ _ a0).trans ?_)
 rw[show(fun l0 i1 i2 i3 i4 i5 i6 l7 l8 i9 i10=>RN 5 Tryz.f5 [] (aA cfg k) (aF cfg (aA cfg k) 20) k (aJ Tryz.f5 0) (EW l0 i1 i2 i3 i4 i5 i6 l7 l8 i9 i10))=(L5 (aA cfg k) k)from(funext fun l0=>funext fun i1=>funext fun i2=>funext fun i3=>funext fun i4=>funext fun i5=>funext fun i6=>funext fun l7=>funext fun l8=>funext fun i9=>funext fun i10=>ih l0 i1 i2 i3 i4 i5 i6 l7 l8 i9 i10)]
theorem M5 (a0:List V) {r:V×List Ob} (h:Evt (fun k n=>T5 (aA cfg k) (L5 (aA cfg k) n) a0) r):Ret 5 [V.lst 5 false a0] [] r:=aR (g:=fun k n=>T5 (aA cfg k) (L5 (aA cfg k) n) a0) (fun k=>C5 k a0) h
theorem L9 (l0:List V) (i1:Int) (i2:Int) (i3:Int) (i4:Int) (i5:Int) (i6:Int) (l7:List V) (l8:List V) (i9:Int) (i10:Int) {r:V×List Ob} (h:Evt (fun k n=>G4 (aA cfg k) (L5 (aA cfg k) n) l0 i1 i2 i3 i4 i5 i6 l7 l8 i9 i10) r):Evt (fun k n=>(L5 (aA cfg k) n) l0 i1 i2 i3 i4 i5 i6 l7 l8 i9 i10) r:=bC (fun k n=>rfl) h
end Go.Proofs.YtdoaoaicdimbeaaGreatDoor
end
section
namespace Go.Proofs.YtdoaoaicdimbeaaGreatDoor
open Go.Ev Go
end Go.Proofs.YtdoaoaicdimbeaaGreatDoor
end
section
namespace Go.Proofs.YtdoaoaicdimbeaaGreatDoor
open Go.Ev Go
def Pt.kd:Pt→Nat| .mk k _ _ _ _ _=>k
def Pt.hd:Pt→Nat×Nat| .mk _ h _ _ _ _=>h
def Pt.bd:Pt→Nat×Nat| .mk _ _ b _ _ _=>b
def Pt.ks:Pt→List Pt| .mk _ _ _ l _ _=>l
def Pt.cs:Pt→List (Nat×Nat)| .mk _ _ _ _ c _=>c
def Pt.en:Pt→Nat×Nat| .mk _ _ _ _ _ e=>e
def iV:Pt:=iU 0 0 0
theorem cC (p:Pt):V.agg [.int .i64 (p.kd:Nat), .int .i64 (p.hd.1:Nat), .int .i64 (p.hd.2:Nat), .int .i64 (p.bd.1:Nat), .int .i64 (p.bd.2:Nat), .lst 36 false (p.ks.map partV), .lst 32 false (p.cs.map cutV), .int .i64 (p.en.1:Nat), .int .i64 (p.en.2:Nat)]=partV p:=by
 cases p;rw[partV,sQ];rfl
theorem hD (p:Pt):V.cells (partV p)=[.int .i64 (p.kd:Nat), .int .i64 (p.hd.1:Nat), .int .i64 (p.hd.2:Nat), .int .i64 (p.bd.1:Nat), .int .i64 (p.bd.2:Nat), .lst 36 false (p.ks.map partV), .lst 32 false (p.cs.map cutV), .int .i64 (p.en.1:Nat), .int .i64 (p.en.2:Nat)]:=by
 rw[←cC];rfl
theorem vA {l:List Pt} {i:Nat} (h:i<l.length):(l.map partV).getD i .bot=partV (l.getD i iV):=by simp[List.getD,h]
theorem Bl:∀{l:List Pt} {q:Pt},q∈l→cntF q≤qM l
 |p::r,q,h=>by
  rw[qM]
  rcases List.mem_cons.1 h with rfl|h
  ·omega
  ·have:=Bl h;omega
theorem Bm (p:Pt):cntF p=1+qM p.ks:=by cases p;rw[cntF];rfl
theorem getD_mem {l:List Pt} {i:Nat} (h:i<l.length):l.getD i iV∈l:=by
 have:l.getD i iV=l[i]:=by simp[List.getD,h]
 rw[this];exact List.getElem_mem h
theorem G5 (b:Bs) (d fr to:Nat) (dg:Bool) (n:Nat) {at_:Nat} {l:List Fd} {t u:Bs} {ps:Ps} {bd:Bs} {cs:List (Nat×Nat)} {e:Nat×Nat}
  (h1:(dE b (fr:Nat) (to:Nat)).1=l) (h2:(dE b (fr:Nat) (to:Nat)).2.toNat=at_) (h3:mP b l dg=(t,u,ps)) (h4:(getF ps bdB).getD []=bd) (h5:fQ b at_ to bd=(cs,e)):
  dZ b (d+1) fr to dg n=if t=mpB∧bd≠[]∧bd.length≤70 then
   if 0<cs.length∧n+cs.length≤1000 then
    (Pt.mk 1 (fr,at_) (at_,to) (fB (fun fr to n=>dZ b d fr to (u==dgB) n) e.1 cs (n+cs.length)).1 cs e,(fB (fun fr to n=>dZ b d fr to (u==dgB) n) e.1 cs (n+cs.length)).2)
   else(iU fr at_ to,n)
  else if t=ID∧u=IE∧Aw b l=true∧n<1000 then(Pt.mk 2 (fr,at_) (at_,to) [(dZ b d at_ to false (n+1)).1] [] (0,0),(dZ b d at_ to false (n+1)).2)
  else(iU fr at_ to,n):=by
 rw[dZ]
 simp only[h1,h2,h3,h4,h5]
theorem Az (ent:Nat→Nat→Nat→Pt×Nat) (h:∀fr to n,(ent fr to n).2+1=n+cntF (ent fr to n).1) (fin:Nat):∀(cs:List (Nat×Nat)) (n:Nat),(fB ent fin cs n).2+cs.length=n+qM (fB ent fin cs n).1
 |[],n=>by simp[fB,qM]
 |c::r,n=>by
  have h1:=h c.2 (max (Ax fin r) c.2) n
  have h2:=Az ent h fin r (ent c.2 (max (Ax fin r) c.2) n).2
  rw[fB,qM,List.length_cons]
  simp only
  omega
theorem yC (b:Bs):∀(d fr to:Nat) (dg:Bool) (n:Nat),(dZ b d fr to dg n).2+1=n+cntF (dZ b d fr to dg n).1
 |0,fr,to,dg,n=>by rw[dZ];simp only[iU,cntF,qM]
 |d+1,fr,to,dg,n=>by
  generalize h1:(dE b (fr:Nat) (to:Nat)).1=l
  generalize h2:(dE b (fr:Nat) (to:Nat)).2.toNat=at_
  obtain⟨t,u,ps,h3⟩:∃t u ps,mP b l dg=(t,u,ps):=⟨_,_,_,rfl⟩
  generalize h4:(getF ps bdB).getD []=bd
  obtain⟨cs,e,h5⟩:∃cs e,fQ b at_ to bd=(cs,e):=⟨_,_,rfl⟩
  rw[G5 b d fr to dg n h1 h2 h3 h4 h5]
  split
  ·split
   ·have:=Az (fun fr to n=>dZ b d fr to (u==dgB) n) (fun fr to n=>yC b d fr to _ n) e.1 cs (n+cs.length)
    rw[cntF]
    simp only
    omega
   ·simp only[iU,cntF,qM]
  ·split
   ·have:=yC b d at_ to false (n+1)
    simp only[cntF,qM]
    omega
   ·simp only[iU,cntF,qM]
theorem nW (x y:Bs):ofBytes x++ofBytes y=ofBytes (x++y):=by simp[ofBytes]
theorem IG {b:Bs} {i:Nat} (h:i<b.length):(ofBytes b).getD i .bot= .int .u8 (b[i].toNat:Nat):=by simp[ofBytes,List.getD,h]
end Go.Proofs.YtdoaoaicdimbeaaGreatDoor
end
section
namespace Go.Proofs.YtdoaoaicdimbeaaGreatDoor
open Go.Ev Go
theorem Ma {x y:Bs} (h:x=y):sEq x y=true:=by subst h;simp[sEq]
theorem Mb {x y:Bs} (h:¬x=y):sEq x y=false:=by simp[sEq,h]
def hdL (b:Bs) (p:Pt):List Fd:=(dE b (p.hd.1:Nat) (p.hd.2:Nat)).1
def EX:Bs:=[99,111,110,116,101,110,116,45,116,114,97,110,115,102,101,114,45,101,110,99,111,100,105,110,103]
def Mc (b:Bs) (p:Pt):Bs:=if(kR b (hdL b p) EX).map dC=[]then[55,98,105,116]else(kR b (hdL b p) EX).map dC
theorem Md (b:Bs) (hb:b.length≤3000) (p:Pt):Ret 36 [.lst 5 false (ofBytes b),partV p] [] (.str (Mc b p),[]):=by
 obtain⟨h1,h2⟩:=rK b (p.hd.1:Nat) (p.hd.2:Nat)
 have hv:=tM b (hdL b p) EX
 have hl:(hdL b p).length≤1000000:=by unfold hdL;omega
 have hl2:∀f∈hdL b p,f.1.length≤1000000:=fun f hf=>by have:=h1 f hf;omega
 rw[←cC p]
 refine M36 (ofBytes b) (p.kd:Nat) (p.hd.1:Nat) (p.hd.2:Nat) (p.bd.1:Nat) (p.bd.2:Nat) (p.ks.map partV) (p.cs.map cutV) (p.en.1:Nat) (p.en.2:Nat) ?_
 simp only[T36]
 refine aD (Cu b (by omega) (p.hd.1:Nat) (p.hd.2:Nat)) ?_
 simp only[bZ,List.headD_cons,aY]
 refine aD (Je b (by omega) (hdL b p) hl hl2 EX (by simp[EX])) ?_
 simp only[gG]
 refine aD (xG _ (by omega)) ?_
 simp only[gG]
 unfold Mc
 by_cases h:(kR b (hdL b p) EX).map dC=[]
 ·rw[if_pos h]
  simp only[Ma h,Bool.not_true,Bool.false_eq_true,if_false]
  exact aC _
 ·rw[if_neg h]
  simp only[Mb h,Bool.not_false,if_true]
  exact aC _
end Go.Proofs.YtdoaoaicdimbeaaGreatDoor
end
section
namespace Go.Proofs.YtdoaoaicdimbeaaGreatDoor
open Go.Ev Go
end Go.Proofs.YtdoaoaicdimbeaaGreatDoor
end
section
namespace Go.Proofs.YtdoaoaicdimbeaaGreatDoor
open Go.Ev Go
theorem G6 {m:Nat} {l:List Fd} {to:Nat} (h:∀f∈l,f.2.2.2≤m) (ht:to≤m):∀f∈pP l to,f.2.2.2≤m:=by
 intro f hf
 unfold pP at hf
 split at hf
 ·rename_i g hg
  rcases List.mem_or_eq_of_mem_set hf with hf|rfl
  ·exact h f hf
  ·exact ht
 ·exact h f hf
theorem G7 {m:Nat} {b:Bs} {st:List Fd×Bool} {x:Ln} (h:∀f∈st.1,f.2.2.2≤m) (hx:x.2.2≤m):∀f∈(fP b st x).1,f.2.2.2≤m:=by
 unfold fP
 split
 ·split
  ·exact G6 h hx
  ·exact h
 ·split
  ·exact h
  ·intro f hf
   rw[List.mem_append]at hf
   rcases hf with hf|hf
   ·exact h f hf
   ·simp at hf;subst hf;exact hx
theorem yD {m:Nat} {b:Bs}:∀(l:List Ln) (st:List Fd×Bool),(∀f∈st.1,f.2.2.2≤m)→(∀x∈l,x.2.2≤m)→∀f∈(l.foldl (fP b) st).1,f.2.2.2≤m
 |[],st,h,_=>h
 |x::r,st,h,hx=>yD r _ (G7 h (hx x (by simp))) fun y hy=>hx y (by simp[hy])
theorem G8 (b:Bs) (fr to:Nat):∀f∈(dE b (fr:Nat) (to:Nat)).1,f.2.2.2≤b.length:=by
 have hb:∀x∈aT (fr:Nat) (to:Nat) b,x.2.2≤b.length:=fun x hx=>(nU x hx).2.2
 unfold dE
 split
 ·simp
 ·split
  ·exact yD _ _ (by simp) fun x hx=>hb x (List.mem_of_mem_take hx)
  ·exact yD _ _ (by simp) hb
end Go.Proofs.YtdoaoaicdimbeaaGreatDoor
end
section
namespace Go.Proofs.YtdoaoaicdimbeaaGreatDoor
open Go.Ev Go
end Go.Proofs.YtdoaoaicdimbeaaGreatDoor
end
