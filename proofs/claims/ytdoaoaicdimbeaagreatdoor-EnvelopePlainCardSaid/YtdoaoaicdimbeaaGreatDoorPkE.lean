/- Lemmas for the claim, merged: the plain reading of the program's functions, its soundness, and what they compute. -/
import Derived.Test.YtdoaoaicdimbeaaGreatDoorPkD
import Derived.KernelRfl
set_option linter.all false
set_option linter.unusedVariables false
set_option linter.unusedSimpArgs false
section
namespace Go.Proofs.YtdoaoaicdimbeaaGreatDoor
open Go.Ev Go
def cE (b:UInt8):Bs→Option (Bs×Bs)
 |[]=>none
 |c::r=>if c=b then some ([],r)else(cE b r).map fun p=>(c::p.1,p.2)
theorem eX {b:UInt8}:∀{s t r:Bs},cE b s=some (t,r)→s=t++b::r
 |[],_,_,h=>by simp[cE]at h
 |c::s,t,r,h=>by
  unfold cE at h
  split at h
  ·rename_i e;cases h;simp[e]
  ·simp at h
   obtain⟨a,ha,rfl⟩:=h
   rw[eX ha];rfl
theorem jK (b:UInt8):∀s:Bs,Lib.indexByte s b=match cE b s with|some p=>(p.1.length:Int)|none=> -1
 |[]=>rfl
 |c::s=>by
  unfold Lib.indexByte cE
  rw[jK b s]
  by_cases h:c=b
  ·simp[h]
  ·have h' :(c==b)=false:=by simpa using h
   simp only[h',Bool.false_eq_true,if_false,h]
   cases cE b s with
   |none=>rfl
   |some p=>
    have:((p.1.length:Int)== -1)=false:=by simp
    simp[this]
def dE (s:Bs):Bs:=match cE 42 s with|some p=>p.1|none=>s
theorem CQ (s:Bs):(dE s).length≤s.length:=by
 unfold dE
 cases h:cE 42 s with
 |none=>simp
 |some p=>have:=congrArg List.length (eX h);simp at this ⊢;omega
theorem G9 (s:Bs) (b:UInt8):Ret 168 [.str s, .str [b]] [] (.int .i64 (Lib.indexByte s b),[]):=gB (h:=Ik) rfl rfl
theorem KC (s:Bs) (hs:s.length≤1000000):∃r b,Ret 155 [.str s, .str [42]] [] (.tup [.str (dE s), .str r, .bool b],[]):=by
 unfold dE
 cases h:cE 42 s with
 |none=>
  refine⟨[],false,Mp s [42] ?_⟩
  simp only[Fp]
  refine aD (G9 s 42) ?_
  rw[jK,h]
  simp only[V.getI,show¬((-1:Int)≥0)by omega,decide_false,Bool.false_eq_true,if_false]
  exact aG _
 |some p=>
  have hl:=congrArg List.length (eX h)
  simp at hl
  have hw:IntKind.wrap .i64 ((p.1.length:Int)+((([42]:Bs).length:Nat):Int))=((p.1.length+1:Nat):Int):=by
   rw[show((([42]:Bs).length:Nat):Int)=1 from rfl,wrap64 (by omega) (by omega)];omega
  have g0:(p.1.length:Int)≥0:=by omega
  have g1:(p.1.length:Int)≤(s.length:Int):=by omega
  have g2:((p.1.length+1:Nat):Int)≤(s.length:Int):=by omega
  have g3:(0:Int)≤((p.1.length+1:Nat):Int):=by omega
  refine⟨s.drop (p.1.length+1),true,Mp s [42] ?_⟩
  simp only[Fp]
  obtain⟨x,hx⟩:∃x:Int,x=(p.1.length:Int):=⟨_,rfl⟩
  have h51:Ret 168 [.str s, .str [42]] [] (.int .i64 x,[]):=by
   have:=G9 s 42
   rw[jK,h]at this
   rw[hx];exact this
  refine aD h51 ?_
  have e1:(s.take p.1.length)=p.1:=by
   have:=eX h
   conv=>lhs;rw[this]
   simp
  rw[←hx]at hw g0 g1
  show Evt (fun _ _=>if decide (x≥0)=true then
    chk (decide (0≤x)) (chk (decide (x≤((List.length s:Nat):Int))) (chk (decide ((0:Int)≤0)) (chk (decide (0≤x)) (chk (decide (0≤(IntKind.wrap IntKind.i64 (x+((List.length ([42]:Bs):Nat):Int))))) (chk (decide ((IntKind.wrap IntKind.i64 (x+((List.length ([42]:Bs):Nat):Int)))≤((List.length s:Nat):Int))) (some ((V.tup [(V.str (List.drop (Int.toNat (0:Int)) (List.take (Int.toNat x) s))),(V.str (List.drop (Int.toNat (IntKind.wrap IntKind.i64 (x+((List.length ([42]:Bs):Nat):Int)))) s)),(V.bool true)]),[])))))))
   else some ((V.tup [(V.str s),(V.str []),(V.bool false)]),[])) _
  rw[hw]
  have hxn:x.toNat=p.1.length:=by omega
  simp only[g0,decide_true,if_true,ge_iff_le.1 g0,cS,aI g1,aI g2,aI g3,aI (Int.le_refl 0),hxn,Int.toNat_natCast,Int.toNat_zero,List.drop_zero,e1]
  exact aG _
theorem KD (s:Bs) (hs:s.length≤1000000):∃r b,Ret 133 [.str s, .str [42]] [] (.tup [.str (dE s), .str r, .bool b],[]):=by
 obtain⟨r,b,h⟩:=KC s hs
 refine⟨r,b,NL s [42] ?_⟩
 simp only[GE]
 exact aD h (aG _)
def pS (s:Bs):Bs:=match cE 39 s with
 |none=>s
 |some p=>match cE 39 p.2 with|none=>s|some q=>q.2
theorem xY (s:Bs):(pS s).length≤s.length:=by
 unfold pS
 cases h:cE 39 s with
 |none=>simp
 |some p=>
  have h1:=congrArg List.length (eX h)
  dsimp only
  cases h' :cE 39 p.2 with
  |none=>simp
  |some q=>have h2:=congrArg List.length (eX h');simp at h1 h2 ⊢;omega
theorem nT (b:UInt8) (k:Nat) (s:Bs):qL b (k+1) s=match cE b s with|none=>[s]|some p=>p.1::qL b k p.2:=by
 rw[qL,jK]
 cases h:cE b s with
 |none=>simp
 |some p=>
  have e:=eX h
  have h1:¬((p.1.length:Int)= -1):=by omega
  simp only[h1,if_false,Int.toNat_natCast]
  have e1:s.take p.1.length=p.1:=by
   conv=>lhs;rw[e]
   simp
  have e2:s.drop (p.1.length+1)=p.2:=by
   conv=>lhs;rw[e]
   simp
  rw[e1,e2]
theorem Ha (s:Bs) (hs:s.length≤1000000):Ret 158 [.str s] [] (.str (pS s),[]):=by
 have h53:Ret 170 [.str s, .str [39], .int .i64 (3:Int)] [] (.lst 9 false ((qL 39 (min (Int.toNat 3) (s.length+1) - 1) s).map V.str),[]):=by
  refine gB (h:=xF) rfl ?_
  have:s.length<4294967281:=by omega
  simp[xF,this]
 refine Oj s ?_
 simp only[GV]
 refine aD h53 ?_
 simp only[V.getL,List.length_map]
 generalize hk:qL 39 (min (Int.toNat 3) (s.length+1) - 1) s=ps
 have hmain:(ps.length<3∧pS s=s)∨(∃a b,ps=[a,b,pS s]):=by
  unfold pS
  by_cases h2:2≤s.length
  ·have:min (Int.toNat 3) (s.length+1) - 1=2:=by simp;omega
   rw[this,nT]at hk
   cases h:cE 39 s with
   |none=>rw[h]at hk;left;subst hk;simp
   |some p=>
    rw[h]at hk
    simp only[nT]at hk
    cases h' :cE 39 p.2 with
    |none=>rw[h']at hk;left;subst hk;exact⟨by simp,by simp only[h']⟩
    |some q=>rw[h']at hk;right;subst hk;exact⟨p.1,q.1,by simp[h',qL]⟩
  ·left
   have hsm:(match cE 39 s with|none=>s|some p=>match cE 39 p.2 with|none=>s|some q=>q.2)=s:=by
    cases h:cE 39 s with
    |none=>rfl
    |some p=>
     have h1:=congrArg List.length (eX h)
     dsimp only
     cases h' :cE 39 p.2 with
     |none=>rfl
     |some q=>have h3:=congrArg List.length (eX h');simp at h1 h3;omega
   refine⟨?_,hsm⟩
   have:min (Int.toNat 3) (s.length+1) - 1≤1:=by simp;omega
   have hk2:∀k,k≤1→(qL 39 k s).length<3:=by
    intro k hk
    match k,hk with
    |0,_=>simp[qL]
    |1,_=>rw[nT];cases cE 39 s<;>simp[qL]
   rw[←hk];exact hk2 _ this
 rcases hmain with⟨h1,h2⟩|⟨a,b,h⟩
 ·have g:(ps.length:Int)<3:=by omega
  simp only[g,decide_true,if_true,h2]
  exact aG _
 ·subst h
  simp only[List.length_cons,List.length_nil,show¬(((0+1+1+1:Nat):Int)<3)by omega,decide_false,Bool.false_eq_true,if_false]
  generalize pS s=x
  exact aG _
def jL (n:Nat):Bs:=if n<10 then[UInt8.ofNat (48+n)]else jL (n / 10)++[UInt8.ofNat (48+n % 10)]
termination_by n
theorem kB {n:Nat} (h:n<10):jL n=[UInt8.ofNat (48+n)]:=by rw[jL,if_pos h]
theorem rM {n:Nat} (h:¬n<10):jL n=jL (n / 10)++[UInt8.ofNat (48+n % 10)]:=by rw[jL,if_neg h]
theorem CU:∀n:Nat,(jL n).length≤n+1:=by
 intro n
 induction n using Nat.strongRecOn with
 |_ n ih=>
  by_cases h:n<10
  ·rw[kB h];simp
  ·rw[rM h]
   have:=ih (n / 10) (by omega)
   simp;omega
theorem My:∀d:Fin 10,(Utf8.encode (IntKind.wrap .i32 (IntKind.wrap .i64 (48+(d.val:Int))))).data.toList=[UInt8.ofNat (48+d.val)]:=by decide+kernel
theorem KE:∀(n:Nat) (out:Bs),0<n→n+out.length≤2000000000→Evt (fun k m=>L47 (aA cfg k) m (n:Int) out false) (.str (jL n++out),[]):=by
 intro n
 induction n using Nat.strongRecOn with
 |_ n ih=>
  intro out hn hb
  refine JI (n:Int) out false ?_
  have h1:((n:Int) != 0)=true:=by simp;omega
  have h2:((10:Int) != 0)=true:=by decide
  have ht:Int.tmod (n:Int) 10=((n % 10:Nat):Int):=by rw[Int.tmod_eq_emod_of_nonneg (by omega)];omega
  have hq:IntKind.wrap .i64 (Int.tdiv (n:Int) 10)=((n / 10:Nat):Int):=by
   rw[Int.tdiv_eq_ediv_of_nonneg (by omega),wrap64 (by omega) (by omega)];omega
  have hm:IntKind.wrap .i64 (0 - ((n % 10:Nat):Int))= -((n % 10:Nat):Int):=by rw[wrap64 (by omega) (by omega)];omega
  have hng:¬(-((n % 10:Nat):Int)>((n % 10:Nat):Int)):=by omega
  have he:=My ⟨n % 10,by omega⟩
  simp only at he
  have hc:cI [UInt8.ofNat (48+n % 10)] out=true:=gC (by simp;omega)
  simp only[CN,h1,if_true,h2,cS,ht,hq,hm,hng,if_false,he,cG hc]
  by_cases hs:n<10
  ·have e:n / 10=0:=by omega
   have e' :n % 10=n:=by omega
   rw[e,e',kB hs]
   refine JI ((0:Nat):Int) _ false ?_
   have h0:((((0:Nat):Int)) != 0)=false:=by decide
   simp only[CN,h0,Bool.false_eq_true,if_false]
   exact aG _
  ·rw[rM hs]
   have:=ih (n / 10) (by omega) ([UInt8.ofNat (48+n % 10)]++out) (by omega) (by simp;omega)
   simpa using this
theorem Mz (n:Nat) (hn:n≤1000000001):Ret 47 [.int .i64 (n:Int)] [] (.str (jL n),[]):=by
 refine M47 (n:Int) ?_
 simp only[T47]
 by_cases h:n=0
 ·subst h
  have h0:((((0:Nat):Int))==0)=true:=by decide
  simp only[h0,if_true,kB (show 0<10 by omega)]
  exact aG _
 ·have h0:((n:Int)==0)=false:=by simp;omega
  have h1:¬((n:Int)<0):=by omega
  simp only[h0,Bool.false_eq_true,if_false,h1,decide_false]
  have:=KE n [] (by omega) (by simp;omega)
  simpa using this
end Go.Proofs.YtdoaoaicdimbeaaGreatDoor
end
section
namespace Go.Proofs.YtdoaoaicdimbeaaGreatDoor
open Go.Ev Go
theorem kC:∀{l:Ps} {name v:Bs},fP l name=some v→∃p∈l,p.1=name∧p.2=v
 |[],_,_,h=>by simp[fP]at h
 |p::l,name,v,h=>by
  unfold fP at h
  split at h
  ·rename_i e;cases h;exact⟨p,by simp,e,rfl⟩
  ·obtain⟨q,hq,h1⟩:=kC h
   exact⟨q,by simp[hq],h1⟩
def iR (l:Ps) (base:Bs) (n:Nat):Option Bs:=
 match fP l ((base++[42])++jL n)with
 |some v=>some v
 |none=>match fP l (((base++[42])++jL n)++[42])with
  |some v=>some (cT (if n=0 then pS v else v))
  |none=>none
def joinL (l:Ps) (base:Bs):Nat→Nat→Bs
 |0,_=>[]
 |f+1,n=>match iR l base n with|none=>[]|some v=>v++joinL l base f (n+1)
def MA (ds:Bs):Nat:=ds.foldl (fun a d=>10*a+(d.toNat - 48)) 0
theorem tQ {d:Nat} (h:d<10):(UInt8.ofNat (48+d)).toNat=48+d:=by simp;omega
theorem AC:∀n:Nat,MA (jL n)=n:=by
 intro n
 induction n using Nat.strongRecOn with
 |_ n ih=>
  by_cases h:n<10
  ·rw[kB h]
   show 10*0+((UInt8.ofNat (48+n)).toNat - 48)=n
   rw[tQ h];omega
  ·rw[rM h]
   have:=ih (n / 10) (by omega)
   unfold MA at this ⊢
   rw[List.foldl_append,this]
   show 10* (n / 10)+((UInt8.ofNat (48+n % 10)).toNat - 48)=n
   rw[tQ (by omega)];omega
theorem Fq:∀n:Nat,∀d∈jL n,d≠42:=by
 intro n
 have key:∀m,m<10→UInt8.ofNat (48+m)≠42:=fun m hm e=>by
  have:=congrArg UInt8.toNat e
  rw[tQ hm]at this
  simp at this;omega
 induction n using Nat.strongRecOn with
 |_ n ih=>
  by_cases h:n<10
  ·rw[kB h]
   intro d hd
   rw[List.mem_singleton]at hd;subst hd;exact key n h
  ·rw[rM h]
   intro d hd
   rw[List.mem_append]at hd
   rcases hd with hd|hd
   ·exact ih (n / 10) (by omega) d hd
   ·rw[List.mem_singleton]at hd;subst hd;exact key _ (by omega)
theorem xZ (n:Nat) (e:Bs) (he:e=[]∨e=[42]):(jL n++e).filter (· != 42)=jL n:=by
 rw[List.filter_append]
 have h1:(jL n).filter (· != 42)=jL n:=List.filter_eq_self.2 fun d hd=>by simpa using Fq n d hd
 rw[h1]
 rcases he with rfl|rfl<;>simp
def jA (base:Bs) (p:Bs×Bs) (n:Nat):Bool:=p.1==(base++[42])++jL n||p.1==((base++[42])++jL n)++[42]
theorem D9 {base:Bs} {p:Bs×Bs} {n m:Nat} (h:jA base p n=true) (h' :jA base p m=true):n=m:=by
 have key:∀k,jA base p k=true→∃e,(e=[]∨e=[42])∧p.1=(base++[42])++(jL k++e):=by
  intro k hk
  simp only[jA,Bool.or_eq_true,beq_iff_eq]at hk
  rcases hk with hk|hk
  ·exact⟨[], .inl rfl,by rw[hk];simp⟩
  ·exact⟨[42], .inr rfl,by rw[hk];simp⟩
 obtain⟨e1,he1,h1⟩:=key n h
 obtain⟨e2,he2,h2⟩:=key m h'
 have:=List.append_cancel_left (h1.symm.trans h2)
 have h3:=congrArg (List.filter (· != 42)) this
 rw[xZ n e1 he1,xZ m e2 he2]at h3
 rw[←AC n,←AC m,h3]
theorem uW {l:Ps} {base:Bs} {n:Nat} {v:Bs} (h:iR l base n=some v):∃p∈l,jA base p n=true∧v.length≤p.2.length:=by
 unfold iR at h
 split at h
 ·rename_i u hu
  cases h
  obtain⟨p,hp,h1,h2⟩:=kC hu
  exact⟨p,hp,by simp[jA,h1],by rw[h2];exact Nat.le_refl _⟩
 ·split at h
  ·rename_i u hu
   cases h
   obtain⟨p,hp,h1,h2⟩:=kC hu
   refine⟨p,hp,by simp[jA,h1],?_⟩
   rw[h2]
   split
   ·exact Nat.le_trans (CP _) (xY _)
   ·exact CP _
  ·cases h
theorem rN {α:Type} (q:α→Bool):∀S:List α,S.length=(S.filter q).length+(S.filter fun x=> !q x).length
 |[]=>rfl
 |x::S=>by
  have:=rN q S
  cases h:q x<;>simp[h]<;>omega
theorem Ft {α:Type}:∀{S:List α},S.Nodup→(∀x∈S,∀y∈S,x=y)→S.length≤1
 |[],_,_=>by simp
 |[x],_,_=>by simp
 |x::y::S,h,h' =>by
  have:=h' x (by simp) y (by simp)
  subst this
  simp at h
theorem Hb (base:Bs):∀(l:Ps) (S:List Nat),S.Nodup→(∀n∈S,∃p∈l,jA base p n=true)→S.length≤l.length
 |[],S,_,h=>by
  cases S with
  |nil=>simp
  |cons n S=>obtain⟨p,hp,_⟩:=h n (by simp);simp at hp
 |p::l,S,hn,h=>by
  have h1:=rN (fun n=>jA base p n) S
  have h2:(S.filter fun n=>jA base p n).length≤1:=Ft (hn.filter _) fun x hx y hy=>by
   rw[List.mem_filter]at hx hy
   exact D9 hx.2 hy.2
  have h3:=Hb base l (S.filter fun n=> !jA base p n) (hn.filter _) fun n hnm=>by
   rw[List.mem_filter]at hnm
   obtain⟨q,hq,hm⟩:=h n hnm.1
   rw[List.mem_cons]at hq
   rcases hq with rfl|hq
   ·rw[hm]at hnm;simp at hnm
   ·exact⟨q,hq,hm⟩
  rw[List.length_cons];omega
theorem Ea (l:Ps) (base:Bs):∃m,m≤l.length∧iR l base m=none:=by
 apply Classical.byContradiction
 intro hno
 have:∀n∈List.range (l.length+1),∃p∈l,jA base p n=true:=by
  intro n hn
  rw[List.mem_range]at hn
  cases h:iR l base n with
  |none=>exact absurd ⟨n,by omega,h⟩ hno
  |some v=>obtain⟨p,hp,hm,_⟩:=uW h;exact⟨p,hp,hm⟩
 have:=Hb base l _ List.nodup_range this
 simp at this;omega
theorem EE (l:Ps) (base:Bs) (hl:l.length≤1000000) (hv:∀p∈l,p.2.length≤1000000) (hb:base.length≤1000000):∀(f n:Nat) (out:Bs),n+f≤1000001→out.length≤n*1000000→
  (∃m,n≤m∧m<n+f∧iR l base m=none)→
  Evt (fun k j=>xN (aA cfg k) j (l.map pV) base out (n:Int)) (.tup [.str (out++joinL l base f n), .bool (decide (0<n)||(iR l base n).isSome)],[])
 |0,n,out,_,_,⟨m,h1,h2,_⟩=>by omega
 |f+1,n,out,hf,ho,⟨m,h1,h2,h3⟩=>by
  refine Kr (l.map pV) base out (n:Int) ?_
  have hd:=CU n
  have c1:cI base [42]=true:=gC (by simp;omega)
  have c2:cI (base++[42]) (jL n)=true:=gC (by simp;omega)
  have c3:cI ((base++[42])++jL n) [42]=true:=gC (by simp;omega)
  have hw:IntKind.wrap .i64 ((n:Int)+1)=((n+1:Nat):Int):=by rw[wrap64 (by omega) (by omega)];omega
  have next:∀v,iR l base n=some v→cI out v=true∧Evt (fun k j=>xN (aA cfg k) j (l.map pV) base (out++v) ((n+1:Nat):Int)) (.tup [.str (out++joinL l base (f+1) n), .bool (decide (0<n)||(iR l base n).isSome)],[]):=by
   intro v hj
   obtain⟨p,hp,_,hle⟩:=uW hj
   have:=hv p hp
   refine⟨gC (by omega),?_⟩
   have hne:n≠m:=fun e=>by rw[e,h3]at hj;cases hj
   have:=EE l base hl hv hb f (n+1) (out++v) (by omega) (by simp;omega) ⟨m,by omega,by omega,h3⟩
   rw[joinL,hj]
   simpa using this
  simp only[Bq,cG c1]
  refine aD (Mz n (by omega)) ?_
  simp only[V.getS,cG c2]
  refine aD (BB l hl _) ?_
  simp only[V.getT,List.tail_cons,List.headD_cons,V.getB,V.getS]
  cases hj1:fP l ((base++[42])++jL n)with
  |some v=>
   have hj:iR l base n=some v:=by unfold iR;rw[hj1]
   obtain⟨hc,hn⟩:=next v hj
   simp only[Option.isSome_some,Bool.not_true,Bool.false_eq_true,if_false,Option.getD_some,cG hc,hw]
   exact hn
  |none=>
   simp only[Option.isSome_none,Bool.not_false,if_true,cG c3]
   refine aD (BB l hl _) ?_
   simp only[V.getT,List.tail_cons,List.headD_cons,V.getB,V.getS]
   cases hj2:fP l (((base++[42])++jL n)++[42])with
   |none=>
    have hj:iR l base n=none:=by unfold iR;rw[hj1];dsimp only;rw[hj2]
    simp only[Option.isSome_none,Bool.not_false,if_true]
    rw[joinL,hj]
    have:(decide ((n:Int)>0))=(decide (0<n)||(none:Option Bs).isSome):=by simp
    rw[this]
    simp only[List.append_nil]
    exact aG _
   |some v=>
    have hj:iR l base n=some (cT (if n=0 then pS v else v)):=by unfold iR;rw[hj1];dsimp only;rw[hj2]
    obtain⟨hc,hn⟩:=next _ hj
    obtain⟨p,hp,_,rfl⟩:=kC hj2
    have hvl:=hv p hp
    simp only[Option.isSome_some,Bool.not_true,Bool.false_eq_true,if_false,Option.getD_some]
    by_cases h0:n=0
    ·have hb0:((n:Int)==0)=true:=by simp[h0]
     simp only[hb0,if_true]
     refine aD (Ha p.2 hvl) ?_
     simp only[V.getS]
     refine aD (D8 _ (Nat.le_trans (xY _) hvl)) ?_
     rw[if_pos h0]at hc hn
     simp only[V.getS,cG hc,hw]
     exact hn
    ·have hb0:((n:Int)==0)=false:=by simp[h0]
     simp only[hb0,Bool.false_eq_true,if_false]
     refine aD (D8 _ hvl) ?_
     rw[if_neg h0]at hc hn
     simp only[V.getS,cG hc,hw]
     exact hn
def EF (l:Ps) (base:Bs):Option Bs:=if(iR l base 0).isSome then some (joinL l base (l.length+1) 0)else none
theorem KF (l:Ps) (base:Bs) (hl:l.length≤1000000) (hv:∀p∈l,p.2.length≤1000000) (hb:base.length≤1000000):
  Ret 159 [.lst 176 false (l.map pV), .str base] [] (.tup [.str ((EF l base).getD []), .bool (EF l base).isSome],[]):=by
 refine On (l.map pV) base ?_
 simp only[GW]
 obtain⟨m,h1,h2⟩:=Ea l base
 have:=EE l base hl hv hb (l.length+1) 0 [] (by omega) (by simp) ⟨m,by omega,by omega,h2⟩
 unfold EF
 cases hj:iR l base 0 with
 |none=>rw[hj]at this;simpa[joinL,hj]using this
 |some v=>rw[hj]at this;simpa[hj]using this
def CV (l:Ps) (base:Bs):Option Bs:=
 match fP l base with
 |some v=>some v
 |none=>match fP l (base++[42])with
  |some v=>some (cT (pS v))
  |none=>EF l base
theorem KG (l:Ps) (base:Bs) (hl:l.length≤1000000) (hv:∀p∈l,p.2.length≤1000000) (hb:base.length≤1000000):
  Ret 134 [.lst 176 false (l.map pV), .str base] [] (.tup [.str ((CV l base).getD []), .bool (CV l base).isSome],[]):=by
 refine NP (l.map pV) base ?_
 have c1:cI base [42]=true:=gC (by simp;omega)
 simp only[GF]
 refine aD (BB l hl base) ?_
 simp only[V.getT,List.tail_cons,List.headD_cons,V.getB,V.getS]
 unfold CV
 cases h1:fP l base with
 |some v=>
  simp only[Option.isSome_some,if_true,Option.getD_some]
  exact aG _
 |none=>
  simp only[Option.isSome_none,Bool.false_eq_true,if_false,cG c1]
  refine aD (BB l hl _) ?_
  simp only[V.getT,List.tail_cons,List.headD_cons,V.getB,V.getS]
  cases h2:fP l (base++[42])with
  |some v=>
   obtain⟨p,hp,_,rfl⟩:=kC h2
   simp only[Option.isSome_some,if_true,Option.getD_some]
   refine aD (Ha _ (hv p hp)) ?_
   simp only[V.getS]
   refine aD (D8 _ (Nat.le_trans (xY _) (hv p hp))) ?_
   exact aG _
  |none=>
   simp only[Option.isSome_none,Bool.false_eq_true,if_false]
   refine aD (KF l base hl hv hb) ?_
   exact aG _
end Go.Proofs.YtdoaoaicdimbeaaGreatDoor
end
section
namespace Go.Proofs.YtdoaoaicdimbeaaGreatDoor
open Go.Ev Go
theorem rO:∀(n:Nat) (s:Bs),s.length≤n→(cP s).length≤s.length∧∀p∈cP s,p.1.length≤s.length∧p.2.length≤s.length:=by
 intro n
 induction n with
 |zero=>
  intro s h
  have:s=[]:=List.eq_nil_of_length_eq_zero (by omega)
  subst this
  have hb:gI 59 []=none:=by simp[gI,oU]
  rw[oV];simp[hb]
 |succ n ih=>
  intro s h
  rw[oV]
  cases h1:gI 59 s with
  |none=>simp
  |some s1=>
   have g1:=iQ h1
   have g2:=kM s1
   dsimp only
   split
   ·simp
   ·cases h2:gI 61 (tokF s1).2 with
    |none=>simp
    |some s3=>
     have g3:=iQ h2
     dsimp only
     cases h3:By s3 with
     |none=>simp
     |some p=>
      obtain⟨v,s4⟩:=p
      have g4:=Bz h3
      obtain⟨e1,e2⟩:=ih s4 (by omega)
      dsimp only
      refine⟨by rw[List.length_cons];omega,fun p hp=>?_⟩
      rw[List.mem_cons]at hp
      rcases hp with rfl|hp
      ·simp only[List.length_map];omega
      ·have:=e2 p hp;omega
theorem rP (a b:Bs):(Sc.str a).same (.str b)=(a==b):=rfl
theorem CW (x y:Bs):∀m:List (Sc×Sc),Sc.getB (iU (.str x) (pA (.str y) (.bool true) m))=(x==y||Sc.getB (iU (.str x) m))
 |[]=>by
  simp only[pA,iU,rP]
  by_cases h:x=y
  ·simp[h,Sc.getB]
  ·simp[h,Sc.getB]
 |(k,u)::m=>by
  have ih:=CW x y m
  simp only[pA]
  cases hk:(Sc.str y).same k
  ·simp only[Bool.false_eq_true,if_false,iU]
   cases hx:(Sc.str x).same k
   ·simp only[Bool.false_eq_true,if_false];exact ih
   ·simp only[if_true]
    have:(x==y)=false:=by
     cases k with
     |str b=>
      rw[rP]at hk hx
      have e:=eq_of_beq hx
      subst e
      cases hxy:(x==y)with
      |false=>rfl
      |true=>have e:=eq_of_beq hxy;subst e;simp at hk
     |_=>cases hx
    rw[this,Bool.false_or]
  ·simp only[if_true,iU]
   cases k with
   |str b=>
    rw[rP]at hk
    have e:=eq_of_beq hk
    subst e
    simp only[rP]
    by_cases h:x=y
    ·simp[h,Sc.getB]
    ·simp[h]
   |_=>cases hk
def pD (l:Ps):List Bs→Ps→Ps
 |_,[]=>[]
 |seen,p::r=>
  if dE p.1=[]∨dE p.1∈seen then pD l seen r
  else match CV l (dE p.1)with
   |some x=>(dE p.1,x)::pD l (dE p.1::seen) r
   |none=>pD l (dE p.1::seen) r
theorem KH (l:Ps) (hl:l.length≤1000000) (hv:∀p∈l,p.1.length≤1000000∧p.2.length≤1000000) (s4 s5 s7 t u:Bs) (l6:List V):∀(n i:Nat) (out:Ps) (seen:List Bs) (m:List (Sc×Sc)),
  l.length - i≤n→out.length≤i→(∀x,Sc.getB (iU (.str x) m)=decide (x∈seen))→
  Evt (fun k j=>L99 (aA cfg k) j (l.map pV) (l.map pV) (l.length:Nat) (i:Nat) s4 s5 l6 s7 t u (out.map pV) m) (.tup [.agg [.str t, .str u, .lst 176 false ((out++pD l seen (l.drop i)).map pV)], .bool true],[]):=by
 have fin:∀(i:Nat) (out:Ps) (seen:List Bs) (m:List (Sc×Sc)),l.length≤i→
   Evt (fun k j=>L99 (aA cfg k) j (l.map pV) (l.map pV) (l.length:Nat) (i:Nat) s4 s5 l6 s7 t u (out.map pV) m) (.tup [.agg [.str t, .str u, .lst 176 false ((out++pD l seen (l.drop i)).map pV)], .bool true],[]):=by
  intro i out seen m h
  refine JH (l.map pV) (l.map pV) (l.length:Nat) (i:Nat) s4 s5 l6 s7 t u (out.map pV) m ?_
  have h1:¬((i:Int)<(l.length:Int)):=by omega
  rw[List.drop_eq_nil_of_le h]
  simp only[CM,h1,decide_false,Bool.false_eq_true,if_false,pD,List.append_nil]
  exact aG _
 intro n
 induction n with
 |zero=>intro i out seen m h _ _;exact fin i out seen m (by omega)
 |succ n ih=>
  intro i out seen m h ho hm
  by_cases hlt:i<l.length
  ·refine JH (l.map pV) (l.map pV) (l.length:Nat) (i:Nat) s4 s5 l6 s7 t u (out.map pV) m ?_
   have h1:((i:Int)<(l.length:Int)):=by omega
   have h2:(0:Int)≤(i:Int):=by omega
   have hw:IntKind.wrap .i64 ((i:Int)+1)=((i+1:Nat):Int):=by rw[wrap64 (by omega) (by omega)];omega
   have hd:l.drop i=l[i]::l.drop (i+1):=List.drop_eq_getElem_cons hlt
   have hpv:=hv l[i] (List.getElem_mem hlt)
   have hvv:∀p∈l,p.2.length≤1000000:=fun p hp=>(hv p hp).2
   obtain⟨r,b,h21⟩:=KD l[i].1 hpv.1
   rw[hd,pD]
   simp only[CM,h1,decide_true,if_true,aI h2,List.length_map,cS,Int.toNat_natCast,BA hlt,pV,V.cells,List.headD_cons,List.tail_cons,V.getS]
   refine aD h21 ?_
   simp only[V.getT,V.getS,List.headD_cons,hm,sEq,hw]
   have hskip:(if(dE l[i].1==[])=false then some (decide (dE l[i].1∈seen))else some true)=some (decide (dE l[i].1=[]∨dE l[i].1∈seen)):=by
    by_cases e:dE l[i].1=[]
    ·simp[e]
    ·have:(dE l[i].1==[])=false:=by simpa using e
     simp[e]
   rw[hskip]
   simp only[cY]
   by_cases hs:dE l[i].1=[]∨dE l[i].1∈seen
   ·simp only[hs,decide_true,if_true]
    exact ih (i+1) out seen m (by omega) (by omega) hm
   ·simp only[hs,decide_false,Bool.false_eq_true,if_false]
    refine aD (KG l (dE l[i].1) hl hvv (Nat.le_trans (CQ _) hpv.1)) ?_
    have hm' :∀x,Sc.getB (iU (.str x) (pA (.str (dE l[i].1)) (.bool true) m))=decide (x∈dE l[i].1::seen):=by
     intro x
     rw[CW,hm]
     by_cases e:x=dE l[i].1
     ·simp[e]
     ·have:(x==dE l[i].1)=false:=by simpa using e
      rw[this];simp[e]
    simp only[V.getT,V.getB,V.getS,List.headD_cons,List.tail_cons]
    cases ht:CV l (dE l[i].1)with
    |none=>
     simp only[Option.isSome_none,Bool.false_eq_true,if_false]
     exact ih (i+1) out (dE l[i].1::seen) _ (by omega) (by omega) hm'
    |some x=>
     have hap:bO (out.map pV) [V.agg [V.str (dE l[i].1),V.str x]] 33=true:=iZ (by simp;omega)
     simp only[Option.isSome_some,if_true,Option.getD_some]
     simp only[cG hap]
     have:=ih (i+1) (out++[(dE l[i].1,x)]) (dE l[i].1::seen) _ (by omega) (by simp;omega) hm'
     simpa[pV]using this
  ·exact fin i out seen m (by omega)
def tR (s:Bs) (two:Bool):Option (Bs×Bs×Ps):=
 if(tokF (cN s)).1=[]then none
 else if two then match gI 47 (tokF (cN s)).2 with
  |none=>none
  |some s2=>if(tokF s2).1=[]then none else some ((tokF (cN s)).1.map dN,(tokF s2).1.map dN,pD (cP (tokF s2).2) [] (cP (tokF s2).2))
 else some ((tokF (cN s)).1.map dN,[],pD (cP (tokF (cN s)).2) [] (cP (tokF (cN s)).2))
def yA:Option (Bs×Bs×Ps)→V
 |none=> .tup [.agg [.str [], .str [], .lst 176 false []], .bool false]
 |some (t,u,ps)=> .tup [.agg [.str t, .str u, .lst 176 false (ps.map pV)], .bool true]
theorem AD (s:Bs) (hs:s.length≤1000000) (rest t u s4 s5:Bs) (l6:List V):
  Evt (fun k j=>L99 (aA cfg k) j ((cP s).map pV) ((cP s).map pV) ((((cP s).map pV).length:Nat):Int) (0:Int) s4 s5 l6 rest t u [] []) (yA (some (t,u,pD (cP s) [] (cP s))),[]):=by
 obtain⟨g1,g2⟩:=rO s.length s (Nat.le_refl _)
 have:=KH (cP s) (by omega) (fun p hp=>by have:=g2 p hp;omega) s4 s5 rest t u l6 (cP s).length 0 [] [] [] (by omega) (by simp) (fun x=>by simp[iU,Sc.getB])
 rw[List.length_map]
 simpa[yA]using this
theorem MB (s:Bs) (hs:s.length≤1000000) (two:Bool):Ret 99 [.str s, .bool two] [] (yA (tR s two),[]):=by
 refine M99 s two ?_
 have h0:=nS s
 have h1:=kM (cN s)
 simp only[T99]
 refine aD (D6 s hs) ?_
 simp only[List.headD_cons,Ob.getC,V.getS]
 refine aD (Bu (cN s) (by omega)) ?_
 simp only[V.getS]
 refine aD (Az _ (by omega)) ?_
 simp only[V.getS,List.headD_cons,Ob.getC,sEq]
 unfold tR
 by_cases ht:(tokF (cN s)).1=[]
 ·simp only[ht,List.map_nil,beq_self_eq_true,if_true]
  exact aG _
 ·have hb:(((tokF (cN s)).1.map dN)==[])=false:=by simp[ht]
  simp only[hb,Bool.false_eq_true,if_false,ht]
  cases two with
  |false=>
   simp only[Bool.false_eq_true,if_false]
   obtain⟨rest,h20⟩:=G6 (tokF (cN s)).2 (by omega)
   refine aD h20 ?_
   simp only[V.getL,List.headD_cons,Ob.getC,V.getS]
   exact AD _ (by omega) _ _ _ _ _ _
  |true=>
   simp only[if_true]
   refine aD (xX (tokF (cN s)).2 (by omega) 47 (by decide)) ?_
   simp only[V.getB,List.headD_cons,Ob.getC,V.getS]
   cases h2:gI 47 (tokF (cN s)).2 with
   |none=>
    simp only[Option.isSome_none,Bool.not_false,if_true]
    exact aG _
   |some s2=>
    have g2:=iQ h2
    have g3:=kM s2
    simp only[Option.isSome_some,Bool.not_true,Bool.false_eq_true,if_false,rL,h2]
    refine aD (Bu s2 (by omega)) ?_
    simp only[V.getS,List.headD_cons,Ob.getC]
    refine aD (Az _ (by omega)) ?_
    simp only[V.getS]
    by_cases hu:(tokF s2).1=[]
    ·simp only[hu,List.map_nil,beq_self_eq_true,if_true]
     exact aG _
    ·have hb2:(((tokF s2).1.map dN)==[])=false:=by simp[hu]
     simp only[hb2,Bool.false_eq_true,if_false,hu]
     obtain⟨rest,h20⟩:=G6 (tokF s2).2 (by omega)
     refine aD h20 ?_
     simp only[V.getL,List.headD_cons,Ob.getC,V.getS]
     exact AD _ (by omega) _ _ _ _ _ _
def getF:Ps→Bs→Option Bs
 |[],_=>none
 |p::r,name=>if p.1.map dN=name.map dN then some p.2 else getF r name
theorem KI (name:Bs) (hn:name.length≤1000000) (l:Ps) (hl:l.length≤1000000) (hv:∀p∈l,p.1.length≤1000000):∀(n i:Nat),l.length - i≤n→
  Evt (fun k n=>L58 (aA cfg k) n name (l.map pV) (l.length:Nat) (i:Nat)) (.tup [.str ((getF (l.drop i) name).getD []), .bool (getF (l.drop i) name).isSome],[]):=by
 have fin:∀i:Nat,l.length≤i→Evt (fun k n=>L58 (aA cfg k) n name (l.map pV) (l.length:Nat) (i:Nat)) (.tup [.str ((getF (l.drop i) name).getD []), .bool (getF (l.drop i) name).isSome],[]):=by
  intro i h
  refine JG name (l.map pV) (l.length:Nat) (i:Nat) ?_
  have h1:¬((i:Int)<(l.length:Int)):=by omega
  rw[List.drop_eq_nil_of_le h]
  simp only[CL,h1,decide_false,Bool.false_eq_true,if_false,getF]
  exact aG _
 intro n
 induction n with
 |zero=>intro i h;exact fin i (by omega)
 |succ n ih=>
  intro i h
  by_cases hlt:i<l.length
  ·refine JG name (l.map pV) (l.length:Nat) (i:Nat) ?_
   have h1:((i:Int)<(l.length:Int)):=by omega
   have h2:(0:Int)≤(i:Int):=by omega
   have hw:IntKind.wrap .i64 ((i:Int)+1)=((i+1:Nat):Int):=by rw[wrap64 (by omega) (by omega)];omega
   have hd:l.drop i=l[i]::l.drop (i+1):=List.drop_eq_getElem_cons hlt
   have hpv:=hv l[i] (List.getElem_mem hlt)
   rw[hd,getF]
   simp only[CL,h1,decide_true,if_true,aI h2,List.length_map,cS,Int.toNat_natCast,BA hlt,pV,V.cells,List.headD_cons,List.tail_cons,V.getS,hw]
   refine aD (JJ l[i].1 name (by omega) (by omega)) ?_
   simp only[V.getB]
   by_cases he:l[i].1.map dN=name.map dN
   ·simp only[he,beq_self_eq_true,if_true]
    exact aG _
   ·have:(l[i].1.map dN==name.map dN)=false:=by simpa using he
    simp only[this,Bool.false_eq_true,if_false,he]
    exact ih (i+1) (by omega)
  ·exact fin i (by omega)
theorem MC (t u:Bs) (l:Ps) (hl:l.length≤1000000) (hv:∀p∈l,p.1.length≤1000000) (name:Bs) (hn:name.length≤1000000):
  Ret 58 [.agg [.str t, .str u, .lst 176 false (l.map pV)], .str name] [] (.tup [.str ((getF l name).getD []), .bool (getF l name).isSome],[]):=by
 refine M58 t u (l.map pV) name ?_
 simp only[T58,List.length_map]
 exact KI name hn l hl hv l.length 0 (by omega)
end Go.Proofs.YtdoaoaicdimbeaaGreatDoor
end
section
namespace Go.Proofs.YtdoaoaicdimbeaaGreatDoor
open Go.Ev Go
open List (headD tail getD length drop take)
open V (getI getL getT getS getB)
set_option maxRecDepth 100000
variable (call : FuncId → Fun) (icall : aQ (V × List Ob)) (again : List It → St → Option (V × List Ob))
def T63 (call:FuncId→Fun) (a0:List V):Option (V×List Ob):=
 Option.bind (call 102 [(V.lst 134 false a0),(V.clo (Fn.func 103) [] [])] []) fun z0=>
 some ((V.int .i64 (getI z0.1)),[])
def A63 (a0:List V):List V:=[V.lst 134 false a0]
theorem E63 (a0:List V):GO 63 Tryz.f63 (A63 a0) [] call icall again=T63 call a0:=by kernel_rfl
theorem C63 (k:Nat) (a0:List V):aA cfg (k+1) 63 (A63 a0) []=T63 (aA cfg k) a0:=
 (show aA cfg (k+1) 63 (A63 a0) []=GO 63 Tryz.f63 (A63 a0) [] (aA cfg k) (aE cfg (aA cfg k) 20) (RN 63 Tryz.f63 [] (aA cfg k) (aE cfg (aA cfg k) 20) k)by kernel_rfl).trans (E63 _ _ _ a0)
theorem M63 (a0:List V) {r:V×List Ob} (h:Evt (fun k n=>T63 (aA cfg k) a0) r):Ret 63 [V.lst 134 false a0] [] r:=aT (g:=fun k n=>T63 (aA cfg k) a0) (fun k=>C63 k a0) h
def T64 (call:FuncId→Fun) (a0:List V) (a1:Int) (a2:Int) (a3:Int):Option (V×List Ob):=
 Option.bind (call 74 [(V.agg [(V.int .i64 a1),(V.int .i64 a2)]),(V.int .i64 ((length a0:Nat):Int))] []) fun z0=>
 if(!(getB z0.1))=true then
 some ((V.str []),[])
 else
 chk (decide (0≤a2)) (chk (decide (a2≤((length a0:Nat):Int))) (chk (decide (0≤a1)) (chk (decide (a1≤a2)) (some ((V.str (bytesOf (drop (Int.toNat a1) (take (Int.toNat a2) a0)))),[])))))
def A64 (a0:List V) (a1:Int) (a2:Int) (a3:Int):List V:=[V.lst 5 false a0,V.agg [V.int IntKind.i64 a1,V.int IntKind.i64 a2,V.int IntKind.i64 a3]]
theorem E64 (a0:List V) (a1:Int) (a2:Int) (a3:Int):GO 64 Tryz.f64 (A64 a0 a1 a2 a3) [] call icall again=T64 call a0 a1 a2 a3:=by kernel_rfl
theorem C64 (k:Nat) (a0:List V) (a1:Int) (a2:Int) (a3:Int):aA cfg (k+1) 64 (A64 a0 a1 a2 a3) []=T64 (aA cfg k) a0 a1 a2 a3:=
 (show aA cfg (k+1) 64 (A64 a0 a1 a2 a3) []=GO 64 Tryz.f64 (A64 a0 a1 a2 a3) [] (aA cfg k) (aE cfg (aA cfg k) 20) (RN 64 Tryz.f64 [] (aA cfg k) (aE cfg (aA cfg k) 20) k)by kernel_rfl).trans (E64 _ _ _ a0 a1 a2 a3)
theorem M64 (a0:List V) (a1:Int) (a2:Int) (a3:Int) {r:V×List Ob} (h:Evt (fun k n=>T64 (aA cfg k) a0 a1 a2 a3) r):Ret 64 [V.lst 5 false a0,V.agg [V.int IntKind.i64 a1,V.int IntKind.i64 a2,V.int IntKind.i64 a3]] [] r:=aT (g:=fun k n=>T64 (aA cfg k) a0 a1 a2 a3) (fun k=>C64 k a0 a1 a2 a3) h
def T65 (call:FuncId→Fun) (a0:List UInt8):Option (V×List Ob):=
 if(!(sEq a0 []))=true then
 chk (decide (0≤(0:Int))) (chk (decide ((0:Int)<((length a0:Nat):Int))) (Option.bind (call 104 [(V.int .u8 ((UInt8.toNat (getD a0 (Int.toNat (0:Int)) 0):Nat):Int))] []) fun z0=>
 some ((V.bool (getB z0.1)),[])))
 else
 some ((V.bool false),[])
def A65 (a0:List UInt8):List V:=[V.str a0]
theorem E65 (a0:List UInt8):GO 65 Tryz.f65 (A65 a0) [] call icall again=T65 call a0:=by kernel_rfl
theorem C65 (k:Nat) (a0:List UInt8):aA cfg (k+1) 65 (A65 a0) []=T65 (aA cfg k) a0:=
 (show aA cfg (k+1) 65 (A65 a0) []=GO 65 Tryz.f65 (A65 a0) [] (aA cfg k) (aE cfg (aA cfg k) 20) (RN 65 Tryz.f65 [] (aA cfg k) (aE cfg (aA cfg k) 20) k)by kernel_rfl).trans (E65 _ _ _ a0)
theorem M65 (a0:List UInt8) {r:V×List Ob} (h:Evt (fun k n=>T65 (aA cfg k) a0) r):Ret 65 [V.str a0] [] r:=aT (g:=fun k n=>T65 (aA cfg k) a0) (fun k=>C65 k a0) h
def AE (call:FuncId→Fun) (ag0:List UInt8→Int→Int→Option (V×List Ob)) (ag1:List UInt8→Int→Int→Int→Int→Option (V×List Ob)) (s0:List UInt8) (i1:Int) (i2:Int):Option (V×List Ob):=
 if(decide (i2>(0:Int)))=true then
 chk (decide (0≤(IntKind.wrap .i64 (i2 - (1:Int))))) (chk (decide ((IntKind.wrap .i64 (i2 - (1:Int)))<((length s0:Nat):Int))) (Option.bind (call 104 [(V.int .u8 ((UInt8.toNat (getD s0 (Int.toNat (IntKind.wrap .i64 (i2 - (1:Int)))) 0):Nat):Int))] []) fun z0=>
 if(getB z0.1)=true then
 (ag0 (s0) (i1) ((IntKind.wrap .i64 (i2 - (1:Int)))))
 else
 (ag1 (s0) (i1) (i2) (i2) ((0:Int)))))
 else
 (ag1 (s0) (i1) (i2) (i2) ((0:Int)))
def AG (call:FuncId→Fun) (ag0:List UInt8→Int→Int→Option (V×List Ob)) (ag1:List UInt8→Int→Int→Int→Int→Option (V×List Ob)) (s0:List UInt8) (i1:Int) (i2:Int) (i3:Int) (i4:Int):Option (V×List Ob):=
 if(decide (i4<i3))=true then
 Option.bind (chk (decide (0≤i4)) (chk (decide (i4<((length s0:Nat):Int))) (if(decide (((UInt8.toNat (getD s0 (Int.toNat i4) 0):Nat):Int)<(33:Int)))=false then
 chk (decide (0≤i4)) (chk (decide (i4<((length s0:Nat):Int))) (some (decide (((UInt8.toNat (getD s0 (Int.toNat i4) 0):Nat):Int)>(126:Int)))))
 else
 some true))) fun y0=>
 if y0=true then
 some ((V.tup [(V.str []),(V.int .i64 0),(V.bool false)]),[])
 else
 (ag1 (s0) (i1) (i2) (i3) ((IntKind.wrap .i64 (i4+(1:Int)))))
 else
 chk (decide (0≤i2)) (chk (decide (i2≤((length s0:Nat):Int))) (chk (decide (0≤(0:Int))) (chk (decide ((0:Int)≤i2)) (some ((V.tup [(V.str (drop (Int.toNat (0:Int)) (take (Int.toNat i2) s0))),(V.int .i64 (IntKind.wrap .i64 (i1+(1:Int)))),(V.bool (decide (i2>(0:Int))))]),[])))))
def T66 (call:FuncId→Fun) (ag0:List UInt8→Int→Int→Option (V×List Ob)) (ag1:List UInt8→Int→Int→Int→Int→Option (V×List Ob)) (a0:List UInt8):Option (V×List Ob):=
 Option.bind (call 89 [(V.str a0),(V.int .u8 58)] []) fun z0=>
 if(decide ((getI z0.1)<(0:Int)))=true then
 some ((V.tup [(V.str []),(V.int .i64 0),(V.bool false)]),[])
 else
 (ag0 (a0) ((getI z0.1)) ((getI z0.1)))
def A66 (a0:List UInt8):List V:=[V.str a0]
def uX (s0:List UInt8) (i1:Int) (i2:Int):St:=⟨[(V.str s0),V.bot,V.bot,V.bot,V.bot,(V.int IntKind.i64 i1),(V.int IntKind.i64 i2)]++List.replicate 39 V.bot,[]⟩
def uY (s0:List UInt8) (i1:Int) (i2:Int) (i3:Int) (i4:Int):St:=⟨[(V.str s0),V.bot,V.bot,V.bot,V.bot,(V.int IntKind.i64 i1),(V.int IntKind.i64 i2),V.bot,V.bot,V.bot,V.bot,V.bot,V.bot,V.bot,V.bot,V.bot,V.bot,V.bot,V.bot,V.bot,V.bot,V.bot,V.bot,V.bot,(V.int IntKind.i64 i3),(V.int IntKind.i64 i4)]++List.replicate 20 V.bot,[]⟩
theorem MD (s0:List UInt8) (i1:Int) (i2:Int):
 RM 66 Tryz.f66 [] call icall again (aJ Tryz.f66 0) (uX s0 i1 i2)=AE call (fun s0 i1 i2=>again (aJ Tryz.f66 0) (uX s0 i1 i2)) (fun s0 i1 i2 i3 i4=>again (aJ Tryz.f66 1) (uY s0 i1 i2 i3 i4)) s0 i1 i2:=by kernel_rfl
theorem ME (s0:List UInt8) (i1:Int) (i2:Int) (i3:Int) (i4:Int):
 RM 66 Tryz.f66 [] call icall again (aJ Tryz.f66 1) (uY s0 i1 i2 i3 i4)=AG call (fun s0 i1 i2=>again (aJ Tryz.f66 0) (uX s0 i1 i2)) (fun s0 i1 i2 i3 i4=>again (aJ Tryz.f66 1) (uY s0 i1 i2 i3 i4)) s0 i1 i2 i3 i4:=by kernel_rfl
theorem E66 (a0:List UInt8):GO 66 Tryz.f66 (A66 a0) [] call icall again=T66 call (fun s0 i1 i2=>again (aJ Tryz.f66 0) (uX s0 i1 i2)) (fun s0 i1 i2 i3 i4=>again (aJ Tryz.f66 1) (uY s0 i1 i2 i3 i4)) a0:=by kernel_rfl
def L66 (call:FuncId→Fun):Nat→(List UInt8→Int→Int→Option (V×List Ob))×(List UInt8→Int→Int→Int→Int→Option (V×List Ob))
 |0=>⟨fun _ _ _=>none,fun _ _ _ _ _=>none⟩
 |n+1=>⟨AE call (L66 call n).1 (L66 call n).2,AG call (L66 call n).1 (L66 call n).2⟩
theorem R66 (call:FuncId→Fun) (icall:aQ (V×List Ob)):∀n,(∀(s0:List UInt8) (i1:Int) (i2:Int),RN 66 Tryz.f66 [] call icall n (aJ Tryz.f66 0) (uX s0 i1 i2)=(L66 call n).1 s0 i1 i2)∧(∀(s0:List UInt8) (i1:Int) (i2:Int) (i3:Int) (i4:Int),RN 66 Tryz.f66 [] call icall n (aJ Tryz.f66 1) (uY s0 i1 i2 i3 i4)=(L66 call n).2 s0 i1 i2 i3 i4)
 |0=>⟨fun s0 i1 i2=>rfl,fun s0 i1 i2 i3 i4=>rfl⟩
 |n+1=>by
  have ih:=R66 call icall n
  exact⟨fun s0 i1 i2=>(MD call icall (RN 66 Tryz.f66 [] call icall n) s0 i1 i2).trans (by rw[show(fun s0 i1 i2=>RN 66 Tryz.f66 [] call icall n (aJ Tryz.f66 0) (uX s0 i1 i2))=(L66 call n).1 from(funext fun s0=>funext fun i1=>funext fun i2=>ih.1 s0 i1 i2),show(fun s0 i1 i2 i3 i4=>RN 66 Tryz.f66 [] call icall n (aJ Tryz.f66 1) (uY s0 i1 i2 i3 i4))=(L66 call n).2 from(funext fun s0=>funext fun i1=>funext fun i2=>funext fun i3=>funext fun i4=>ih.2 s0 i1 i2 i3 i4)];rfl),
   fun s0 i1 i2 i3 i4=>(ME call icall (RN 66 Tryz.f66 [] call icall n) s0 i1 i2 i3 i4).trans (by rw[show(fun s0 i1 i2=>RN 66 Tryz.f66 [] call icall n (aJ Tryz.f66 0) (uX s0 i1 i2))=(L66 call n).1 from(funext fun s0=>funext fun i1=>funext fun i2=>ih.1 s0 i1 i2),show(fun s0 i1 i2 i3 i4=>RN 66 Tryz.f66 [] call icall n (aJ Tryz.f66 1) (uY s0 i1 i2 i3 i4))=(L66 call n).2 from(funext fun s0=>funext fun i1=>funext fun i2=>funext fun i3=>funext fun i4=>ih.2 s0 i1 i2 i3 i4)];rfl)⟩
theorem C66 (k:Nat) (a0:List UInt8):aA cfg (k+1) 66 (A66 a0) []=T66 (aA cfg k) (L66 (aA cfg k) k).1 (L66 (aA cfg k) k).2 a0:=by
 have ih:=R66 (aA cfg k) (aE cfg (aA cfg k) 20) k
 refine(show aA cfg (k+1) 66 (A66 a0) []=GO 66 Tryz.f66 (A66 a0) [] (aA cfg k) (aE cfg (aA cfg k) 20) (RN 66 Tryz.f66 [] (aA cfg k) (aE cfg (aA cfg k) 20) k)by kernel_rfl).trans ((E66 _ _ _ a0).trans ?_)
 rw[show(fun s0 i1 i2=>RN 66 Tryz.f66 [] (aA cfg k) (aE cfg (aA cfg k) 20) k (aJ Tryz.f66 0) (uX s0 i1 i2))=(L66 (aA cfg k) k).1 from(funext fun s0=>funext fun i1=>funext fun i2=>ih.1 s0 i1 i2),show(fun s0 i1 i2 i3 i4=>RN 66 Tryz.f66 [] (aA cfg k) (aE cfg (aA cfg k) 20) k (aJ Tryz.f66 1) (uY s0 i1 i2 i3 i4))=(L66 (aA cfg k) k).2 from(funext fun s0=>funext fun i1=>funext fun i2=>funext fun i3=>funext fun i4=>ih.2 s0 i1 i2 i3 i4)]
theorem M66 (a0:List UInt8) {r:V×List Ob} (h:Evt (fun k n=>T66 (aA cfg k) (L66 (aA cfg k) n).1 (L66 (aA cfg k) n).2 a0) r):Ret 66 [V.str a0] [] r:=aT (g:=fun k n=>T66 (aA cfg k) (L66 (aA cfg k) n).1 (L66 (aA cfg k) n).2 a0) (fun k=>C66 k a0) h
theorem Hd (s0:List UInt8) (i1:Int) (i2:Int) {r:V×List Ob} (h:Evt (fun k n=>AE (aA cfg k) (L66 (aA cfg k) n).1 (L66 (aA cfg k) n).2 s0 i1 i2) r):Evt (fun k n=>(L66 (aA cfg k) n).1 s0 i1 i2) r:=aX (fun k n=>rfl) h
theorem He (s0:List UInt8) (i1:Int) (i2:Int) (i3:Int) (i4:Int) {r:V×List Ob} (h:Evt (fun k n=>AG (aA cfg k) (L66 (aA cfg k) n).1 (L66 (aA cfg k) n).2 s0 i1 i2 i3 i4) r):Evt (fun k n=>(L66 (aA cfg k) n).2 s0 i1 i2 i3 i4) r:=aX (fun k n=>rfl) h
def T74 (call:FuncId→Fun) (a0:Int) (a1:Int) (a2:Int):Option (V×List Ob):=
 Option.bind (if(decide (a0≥(0:Int)))=true then
 if(decide (a0≤a1))=true then
 some (decide (a1≤a2))
 else
 some false
 else
 some false) fun y0=>
 some ((V.bool y0),[])
def A74 (a0:Int) (a1:Int) (a2:Int):List V:=[V.agg [V.int IntKind.i64 a0,V.int IntKind.i64 a1],V.int IntKind.i64 a2]
theorem E74 (a0:Int) (a1:Int) (a2:Int):GO 74 Tryz.f74 (A74 a0 a1 a2) [] call icall again=T74 call a0 a1 a2:=by kernel_rfl
theorem C74 (k:Nat) (a0:Int) (a1:Int) (a2:Int):aA cfg (k+1) 74 (A74 a0 a1 a2) []=T74 (aA cfg k) a0 a1 a2:=
 (show aA cfg (k+1) 74 (A74 a0 a1 a2) []=GO 74 Tryz.f74 (A74 a0 a1 a2) [] (aA cfg k) (aE cfg (aA cfg k) 20) (RN 74 Tryz.f74 [] (aA cfg k) (aE cfg (aA cfg k) 20) k)by kernel_rfl).trans (E74 _ _ _ a0 a1 a2)
theorem M74 (a0:Int) (a1:Int) (a2:Int) {r:V×List Ob} (h:Evt (fun k n=>T74 (aA cfg k) a0 a1 a2) r):Ret 74 [V.agg [V.int IntKind.i64 a0,V.int IntKind.i64 a1],V.int IntKind.i64 a2] [] r:=aT (g:=fun k n=>T74 (aA cfg k) a0 a1 a2) (fun k=>C74 k a0 a1 a2) h
def yB (call:FuncId→Fun) (ag0:List V→Int→Int→Option (V×List Ob)) (l0:List V) (i1:Int) (i2:Int):Option (V×List Ob):=
 if(decide (i2<i1))=true then
 chk (decide (0≤i2)) (chk (decide (i2<((length l0:Nat):Int))) (Option.bind (call 103 [(V.agg [(V.int .i64 (getI (headD (V.cells (getD l0 (Int.toNat i2) V.bot)) V.bot))),(V.int .i64 (getI (headD (tail (V.cells (getD l0 (Int.toNat i2) V.bot))) V.bot))),(V.int .i64 (getI (headD (tail (tail (V.cells (getD l0 (Int.toNat i2) V.bot)))) V.bot)))])] []) fun z0=>
 if(getB z0.1)=true then
 some ((V.int .i64 i2),[])
 else
 (ag0 (l0) (i1) ((IntKind.wrap .i64 (i2+(1:Int)))))))
 else
 some ((V.int .i64 (-1:Int)),[])
def Hf (call:FuncId→Fun) (ag0:List V→Int→Int→Option (V×List Ob)) (a0:List V):Option (V×List Ob):=
 (ag0 (a0) (((length a0:Nat):Int)) ((0:Int)))
def IR (a0:List V):List V:=[V.lst 134 false a0,V.clo (Fn.func 103) [] []]
def tU (l0:List V) (i1:Int) (i2:Int):St:=⟨[(V.lst 134 false l0),(V.clo (Fn.func 103) [] []),V.bot,V.bot,V.bot,V.bot,V.bot,(V.int IntKind.i64 i1),(V.int IntKind.i64 i2)]++List.replicate 10 V.bot,[]⟩
theorem KJ (l0:List V) (i1:Int) (i2:Int):
 RM 102 Tryz.f102 [] call icall again (aJ Tryz.f102 0) (tU l0 i1 i2)=yB call (fun l0 i1 i2=>again (aJ Tryz.f102 0) (tU l0 i1 i2)) l0 i1 i2:=by kernel_rfl
theorem OE (a0:List V):GO 102 Tryz.f102 (IR a0) [] call icall again=Hf call (fun l0 i1 i2=>again (aJ Tryz.f102 0) (tU l0 i1 i2)) a0:=by kernel_rfl
def yC (call:FuncId→Fun):Nat→(List V→Int→Int→Option (V×List Ob))
 |0=>fun _ _ _=>none
 |n+1=>yB call (yC call n)
theorem MF (call:FuncId→Fun) (icall:aQ (V×List Ob)):∀n,(∀(l0:List V) (i1:Int) (i2:Int),RN 102 Tryz.f102 [] call icall n (aJ Tryz.f102 0) (tU l0 i1 i2)=(yC call n) l0 i1 i2)
 |0=>fun l0 i1 i2=>rfl
 |n+1=>by
  have ih:=MF call icall n
  exact fun l0 i1 i2=>(KJ call icall (RN 102 Tryz.f102 [] call icall n) l0 i1 i2).trans (by rw[show(fun l0 i1 i2=>RN 102 Tryz.f102 [] call icall n (aJ Tryz.f102 0) (tU l0 i1 i2))=(yC call n)from(funext fun l0=>funext fun i1=>funext fun i2=>ih l0 i1 i2)];rfl)
theorem OF (k:Nat) (a0:List V):aA cfg (k+1) 102 (IR a0) []=Hf (aA cfg k) (yC (aA cfg k) k) a0:=by
 have ih:=MF (aA cfg k) (aE cfg (aA cfg k) 20) k
 refine(show aA cfg (k+1) 102 (IR a0) []=GO 102 Tryz.f102 (IR a0) [] (aA cfg k) (aE cfg (aA cfg k) 20) (RN 102 Tryz.f102 [] (aA cfg k) (aE cfg (aA cfg k) 20) k)by kernel_rfl).trans ((OE _ _ _ a0).trans ?_)
 rw[show(fun l0 i1 i2=>RN 102 Tryz.f102 [] (aA cfg k) (aE cfg (aA cfg k) 20) k (aJ Tryz.f102 0) (tU l0 i1 i2))=(yC (aA cfg k) k)from(funext fun l0=>funext fun i1=>funext fun i2=>ih l0 i1 i2)]
theorem OG (a0:List V) {r:V×List Ob} (h:Evt (fun k n=>Hf (aA cfg k) (yC (aA cfg k) n) a0) r):Ret 102 [V.lst 134 false a0,V.clo (Fn.func 103) [] []] [] r:=aT (g:=fun k n=>Hf (aA cfg k) (yC (aA cfg k) n) a0) (fun k=>OF k a0) h
theorem Hg (l0:List V) (i1:Int) (i2:Int) {r:V×List Ob} (h:Evt (fun k n=>yB (aA cfg k) (yC (aA cfg k) n) l0 i1 i2) r):Evt (fun k n=>(yC (aA cfg k) n) l0 i1 i2) r:=aX (fun k n=>rfl) h
def Hh (call:FuncId→Fun) (a0:Int) (a1:Int) (a2:Int):Option (V×List Ob):=
 some ((V.bool (a0==a1)),[])
def IS (a0:Int) (a1:Int) (a2:Int):List V:=[V.agg [V.int IntKind.i64 a0,V.int IntKind.i64 a1,V.int IntKind.i64 a2]]
theorem OH (a0:Int) (a1:Int) (a2:Int):GO 103 Tryz.f103 (IS a0 a1 a2) [] call icall again=Hh call a0 a1 a2:=by kernel_rfl
theorem OI (k:Nat) (a0:Int) (a1:Int) (a2:Int):aA cfg (k+1) 103 (IS a0 a1 a2) []=Hh (aA cfg k) a0 a1 a2:=
 (show aA cfg (k+1) 103 (IS a0 a1 a2) []=GO 103 Tryz.f103 (IS a0 a1 a2) [] (aA cfg k) (aE cfg (aA cfg k) 20) (RN 103 Tryz.f103 [] (aA cfg k) (aE cfg (aA cfg k) 20) k)by kernel_rfl).trans (OH _ _ _ a0 a1 a2)
theorem OJ (a0:Int) (a1:Int) (a2:Int) {r:V×List Ob} (h:Evt (fun k n=>Hh (aA cfg k) a0 a1 a2) r):Ret 103 [V.agg [V.int IntKind.i64 a0,V.int IntKind.i64 a1,V.int IntKind.i64 a2]] [] r:=aT (g:=fun k n=>Hh (aA cfg k) a0 a1 a2) (fun k=>OI k a0 a1 a2) h
def CX (call:FuncId→Fun) (ag0:List V→Int→Int→List UInt8→Option (V×List Ob)) (l0:List V) (i1:Int) (i2:Int) (s3:List UInt8):Option (V×List Ob):=
 if(decide (i2<i1))=true then
 chk (decide (0≤i2)) (chk (decide (i2<((length l0:Nat):Int))) (Option.bind (call 68 [(V.agg [(V.str (getS (headD (V.cells (getD l0 (Int.toNat i2) V.bot)) V.bot))),(V.int .i64 (getI (headD (tail (V.cells (getD l0 (Int.toNat i2) V.bot))) V.bot))),(V.int .i64 (getI (headD (tail (tail (V.cells (getD l0 (Int.toNat i2) V.bot)))) V.bot))),(V.int .i64 (getI (headD (tail (tail (tail (V.cells (getD l0 (Int.toNat i2) V.bot))))) V.bot)))]),(V.ref 0 0)] [(Ob.cells [(V.str s3)])]) fun z0=>
 if(getB z0.1)=true then
 some ((V.int .i64 i2),[(Ob.cells [(V.str (getS (headD (Ob.getC (headD z0.2 Ob.dead)) V.bot)))])])
 else
 (ag0 (l0) (i1) ((IntKind.wrap .i64 (i2+(1:Int)))) ((getS (headD (Ob.getC (headD z0.2 Ob.dead)) V.bot))))))
 else
 some ((V.int .i64 (-1:Int)),[(Ob.cells [(V.str s3)])])
def T67 (call:FuncId→Fun) (ag0:List V→Int→Int→List UInt8→Option (V×List Ob)) (a0:List V) (a1:List UInt8):Option (V×List Ob):=
 (ag0 (a0) (((length a0:Nat):Int)) ((0:Int)) (a1))
def O67 (a1:List UInt8):List Ob:=[Ob.cells [V.str a1]]
def A67 (a0:List V):List V:=[V.lst 91 false a0,V.clo (Fn.func 68) [] [V.ref 0 0]]
def AH (l0:List V) (i1:Int) (i2:Int) (s3:List UInt8):St:=⟨[(V.lst 91 false l0),(V.clo (Fn.func 68) [] [(V.ref 0 0)]),V.bot,V.bot,V.bot,V.bot,V.bot,(V.int IntKind.i64 i1),(V.int IntKind.i64 i2)]++List.replicate 10 V.bot,[(Ob.cells [(V.str s3)])]⟩
theorem MG (a1:List UInt8) (l0:List V) (i1:Int) (i2:Int) (s3:List UInt8):
 RM 67 Tryz.f67 (O67 a1) call icall again (aJ Tryz.f67 0) (AH l0 i1 i2 s3)=CX call (fun l0 i1 i2 s3=>again (aJ Tryz.f67 0) (AH l0 i1 i2 s3)) l0 i1 i2 s3:=by kernel_rfl
theorem E67 (a0:List V) (a1:List UInt8):GO 67 Tryz.f67 (A67 a0) (O67 a1) call icall again=T67 call (fun l0 i1 i2 s3=>again (aJ Tryz.f67 0) (AH l0 i1 i2 s3)) a0 a1:=by kernel_rfl
def L67 (call:FuncId→Fun):Nat→(List V→Int→Int→List UInt8→Option (V×List Ob))
 |0=>fun _ _ _ _=>none
 |n+1=>CX call (L67 call n)
theorem R67 (call:FuncId→Fun) (icall:aQ (V×List Ob)) (a1:List UInt8):∀n,(∀(l0:List V) (i1:Int) (i2:Int) (s3:List UInt8),RN 67 Tryz.f67 (O67 a1) call icall n (aJ Tryz.f67 0) (AH l0 i1 i2 s3)=(L67 call n) l0 i1 i2 s3)
 |0=>fun l0 i1 i2 s3=>rfl
 |n+1=>by
  have ih:=R67 call icall a1 n
  exact fun l0 i1 i2 s3=>(MG call icall (RN 67 Tryz.f67 (O67 a1) call icall n) a1 l0 i1 i2 s3).trans (by rw[show(fun l0 i1 i2 s3=>RN 67 Tryz.f67 (O67 a1) call icall n (aJ Tryz.f67 0) (AH l0 i1 i2 s3))=(L67 call n)from(funext fun l0=>funext fun i1=>funext fun i2=>funext fun s3=>ih l0 i1 i2 s3)];rfl)
theorem C67 (k:Nat) (a0:List V) (a1:List UInt8):aA cfg (k+1) 67 (A67 a0) (O67 a1)=T67 (aA cfg k) (L67 (aA cfg k) k) a0 a1:=by
 have ih:=R67 (aA cfg k) (aE cfg (aA cfg k) 20) a1 k
 refine(show aA cfg (k+1) 67 (A67 a0) (O67 a1)=GO 67 Tryz.f67 (A67 a0) (O67 a1) (aA cfg k) (aE cfg (aA cfg k) 20) (RN 67 Tryz.f67 (O67 a1) (aA cfg k) (aE cfg (aA cfg k) 20) k)by kernel_rfl).trans ((E67 _ _ _ a0 a1).trans ?_)
 rw[show(fun l0 i1 i2 s3=>RN 67 Tryz.f67 (O67 a1) (aA cfg k) (aE cfg (aA cfg k) 20) k (aJ Tryz.f67 0) (AH l0 i1 i2 s3))=(L67 (aA cfg k) k)from(funext fun l0=>funext fun i1=>funext fun i2=>funext fun s3=>ih l0 i1 i2 s3)]
theorem M67 (a0:List V) (a1:List UInt8) {r:V×List Ob} (h:Evt (fun k n=>T67 (aA cfg k) (L67 (aA cfg k) n) a0 a1) r):Ret 67 [V.lst 91 false a0,V.clo (Fn.func 68) [] [V.ref 0 0]] [Ob.cells [V.str a1]] r:=aT (g:=fun k n=>T67 (aA cfg k) (L67 (aA cfg k) n) a0 a1) (fun k=>C67 k a0 a1) h
theorem JK (l0:List V) (i1:Int) (i2:Int) (s3:List UInt8) {r:V×List Ob} (h:Evt (fun k n=>CX (aA cfg k) (L67 (aA cfg k) n) l0 i1 i2 s3) r):Evt (fun k n=>(L67 (aA cfg k) n) l0 i1 i2 s3) r:=aX (fun k n=>rfl) h
def T68 (call:FuncId→Fun) (a0:List UInt8) (a1:Int) (a2:Int) (a3:Int) (a4:List UInt8):Option (V×List Ob):=
 Option.bind (call 69 [(V.str a0),(V.str a4)] []) fun z0=>
 some ((V.bool (getB z0.1)),[(Ob.cells [(V.str a4)])])
def O68 (a4:List UInt8):List Ob:=[Ob.cells [V.str a4]]
def A68 (a0:List UInt8) (a1:Int) (a2:Int) (a3:Int):List V:=[V.agg [V.str a0,V.int IntKind.i64 a1,V.int IntKind.i64 a2,V.int IntKind.i64 a3],V.ref 0 0]
theorem E68 (a0:List UInt8) (a1:Int) (a2:Int) (a3:Int) (a4:List UInt8):GO 68 Tryz.f68 (A68 a0 a1 a2 a3) (O68 a4) call icall again=T68 call a0 a1 a2 a3 a4:=by kernel_rfl
theorem C68 (k:Nat) (a0:List UInt8) (a1:Int) (a2:Int) (a3:Int) (a4:List UInt8):aA cfg (k+1) 68 (A68 a0 a1 a2 a3) (O68 a4)=T68 (aA cfg k) a0 a1 a2 a3 a4:=
 (show aA cfg (k+1) 68 (A68 a0 a1 a2 a3) (O68 a4)=GO 68 Tryz.f68 (A68 a0 a1 a2 a3) (O68 a4) (aA cfg k) (aE cfg (aA cfg k) 20) (RN 68 Tryz.f68 (O68 a4) (aA cfg k) (aE cfg (aA cfg k) 20) k)by kernel_rfl).trans (E68 _ _ _ a0 a1 a2 a3 a4)
theorem M68 (a0:List UInt8) (a1:Int) (a2:Int) (a3:Int) (a4:List UInt8) {r:V×List Ob} (h:Evt (fun k n=>T68 (aA cfg k) a0 a1 a2 a3 a4) r):Ret 68 [V.agg [V.str a0,V.int IntKind.i64 a1,V.int IntKind.i64 a2,V.int IntKind.i64 a3],V.ref 0 0] [Ob.cells [V.str a4]] r:=aT (g:=fun k n=>T68 (aA cfg k) a0 a1 a2 a3 a4) (fun k=>C68 k a0 a1 a2 a3 a4) h
def T27 (call:FuncId→Fun) (a0:List V) (a1:List UInt8):Option (V×List Ob):=
 Option.bind (call 54 [(V.ref 0 0)] [(Ob.cells [(V.opt 0 0),(V.lst 5 true a0)])]) fun z0=>
 chk (lM (getL (headD (tail (Ob.getC (headD z0.2 Ob.dead))) V.bot)) a1 2) (some ((V.tup [(V.int .i64 ((length a1:Nat):Int)),(V.raw (Value.nilIface))]),[(Ob.cells [(V.opt 0 0),(V.lst 5 true ((getL (headD (tail (Ob.getC (headD z0.2 Ob.dead))) V.bot))++(ofBytes a1)))])]))
def O27 (a0:List V):List Ob:=[Ob.cells [V.opt 0 0,V.lst 5 true a0]]
def A27 (a1:List UInt8):List V:=[V.ref 0 0,V.str a1]
theorem E27 (a0:List V) (a1:List UInt8):GO 27 Tryz.f27 (A27 a1) (O27 a0) call icall again=T27 call a0 a1:=by kernel_rfl
theorem C27 (k:Nat) (a0:List V) (a1:List UInt8):aA cfg (k+1) 27 (A27 a1) (O27 a0)=T27 (aA cfg k) a0 a1:=
 (show aA cfg (k+1) 27 (A27 a1) (O27 a0)=GO 27 Tryz.f27 (A27 a1) (O27 a0) (aA cfg k) (aE cfg (aA cfg k) 20) (RN 27 Tryz.f27 (O27 a0) (aA cfg k) (aE cfg (aA cfg k) 20) k)by kernel_rfl).trans (E27 _ _ _ a0 a1)
theorem M27 (a0:List V) (a1:List UInt8) {r:V×List Ob} (h:Evt (fun k n=>T27 (aA cfg k) a0 a1) r):Ret 27 [V.ref 0 0,V.str a1] [Ob.cells [V.opt 0 0,V.lst 5 true a0]] r:=aT (g:=fun k n=>T27 (aA cfg k) a0 a1) (fun k=>C27 k a0 a1) h
def CY (call:FuncId→Fun) (ag0:List V→List V→Int→Int→List UInt8→Int→Int→Int→List V→Option (V×List Ob)) (l0:List V) (l1:List V) (i2:Int) (i3:Int) (s4:List UInt8) (i5:Int) (i6:Int) (i7:Int) (l8:List V):Option (V×List Ob):=
 if(decide (i3<i2))=true then
 chk (decide (0≤i3)) (chk (decide (i3<((length l1:Nat):Int))) (Option.bind (call 64 [(V.lst 5 false l0),(V.agg [(V.int .i64 (getI (headD (V.cells (getD l1 (Int.toNat i3) V.bot)) V.bot))),(V.int .i64 (getI (headD (tail (V.cells (getD l1 (Int.toNat i3) V.bot))) V.bot))),(V.int .i64 (getI (headD (tail (tail (V.cells (getD l1 (Int.toNat i3) V.bot)))) V.bot)))])] []) fun z0=>
 Option.bind (call 27 [(V.ref 0 0),(V.str (getS z0.1))] [(Ob.cells [(V.opt 0 0),(V.lst 5 true l8)])]) fun z1=>
 (ag0 (l0) (l1) (i2) ((IntKind.wrap .i64 (i3+(1:Int)))) (s4) (i5) (i6) (i7) ((getL (headD (tail (Ob.getC (headD z1.2 Ob.dead))) V.bot))))))
 else
 Option.bind (call 29 [(V.ref 0 0)] [(Ob.cells [(V.opt 0 0),(V.lst 5 true l8)])]) fun z0=>
 Option.bind (call 105 [(V.str (getS z0.1))] []) fun z1=>
 some ((V.str (getS z1.1)),[])
def T70 (call:FuncId→Fun) (ag0:List V→List V→Int→Int→List UInt8→Int→Int→Int→List V→Option (V×List Ob)) (a0:List V) (a1:List UInt8) (a2:Int) (a3:Int) (a4:Int):Option (V×List Ob):=
 Option.bind (call 62 [(V.lst 5 false a0),(V.agg [(V.int .i64 a3),(V.int .i64 a4)])] []) fun z0=>
 (ag0 (a0) ((getL z0.1)) (((length (getL z0.1):Nat):Int)) ((0:Int)) (a1) (a2) (a3) (a4) ([]))
def A70 (a0:List V) (a1:List UInt8) (a2:Int) (a3:Int) (a4:Int):List V:=[V.lst 5 false a0,V.agg [V.str a1,V.int IntKind.i64 a2,V.int IntKind.i64 a3,V.int IntKind.i64 a4]]
def AI (l0:List V) (l1:List V) (i2:Int) (i3:Int) (s4:List UInt8) (i5:Int) (i6:Int) (i7:Int) (l8:List V):St:=⟨[(V.lst 5 false l0),V.bot,V.bot,V.bot,V.bot,(V.ref 1 0),V.bot,V.bot,V.bot,V.bot,V.bot,V.bot,V.bot,V.bot,(V.lst 134 false l1),(V.int IntKind.i64 i2),(V.int IntKind.i64 i3)]++List.replicate 10 V.bot,[(Ob.cells [(V.str s4),(V.int IntKind.i64 i5),(V.int IntKind.i64 i6),(V.int IntKind.i64 i7)]),(Ob.cells [(V.opt 1 0),(V.lst 5 true l8)])]⟩
theorem MH (l0:List V) (l1:List V) (i2:Int) (i3:Int) (s4:List UInt8) (i5:Int) (i6:Int) (i7:Int) (l8:List V):
 RM 70 Tryz.f70 [] call icall again (aJ Tryz.f70 0) (AI l0 l1 i2 i3 s4 i5 i6 i7 l8)=CY call (fun l0 l1 i2 i3 s4 i5 i6 i7 l8=>again (aJ Tryz.f70 0) (AI l0 l1 i2 i3 s4 i5 i6 i7 l8)) l0 l1 i2 i3 s4 i5 i6 i7 l8:=by kernel_rfl
theorem E70 (a0:List V) (a1:List UInt8) (a2:Int) (a3:Int) (a4:Int):GO 70 Tryz.f70 (A70 a0 a1 a2 a3 a4) [] call icall again=T70 call (fun l0 l1 i2 i3 s4 i5 i6 i7 l8=>again (aJ Tryz.f70 0) (AI l0 l1 i2 i3 s4 i5 i6 i7 l8)) a0 a1 a2 a3 a4:=by kernel_rfl
def L70 (call:FuncId→Fun):Nat→(List V→List V→Int→Int→List UInt8→Int→Int→Int→List V→Option (V×List Ob))
 |0=>fun _ _ _ _ _ _ _ _ _=>none
 |n+1=>CY call (L70 call n)
theorem R70 (call:FuncId→Fun) (icall:aQ (V×List Ob)):∀n,(∀(l0:List V) (l1:List V) (i2:Int) (i3:Int) (s4:List UInt8) (i5:Int) (i6:Int) (i7:Int) (l8:List V),RN 70 Tryz.f70 [] call icall n (aJ Tryz.f70 0) (AI l0 l1 i2 i3 s4 i5 i6 i7 l8)=(L70 call n) l0 l1 i2 i3 s4 i5 i6 i7 l8)
 |0=>fun l0 l1 i2 i3 s4 i5 i6 i7 l8=>rfl
 |n+1=>by
  have ih:=R70 call icall n
  exact fun l0 l1 i2 i3 s4 i5 i6 i7 l8=>(MH call icall (RN 70 Tryz.f70 [] call icall n) l0 l1 i2 i3 s4 i5 i6 i7 l8).trans (by rw[show(fun l0 l1 i2 i3 s4 i5 i6 i7 l8=>RN 70 Tryz.f70 [] call icall n (aJ Tryz.f70 0) (AI l0 l1 i2 i3 s4 i5 i6 i7 l8))=(L70 call n)from(funext fun l0=>funext fun l1=>funext fun i2=>funext fun i3=>funext fun s4=>funext fun i5=>funext fun i6=>funext fun i7=>funext fun l8=>ih l0 l1 i2 i3 s4 i5 i6 i7 l8)];rfl)
theorem C70 (k:Nat) (a0:List V) (a1:List UInt8) (a2:Int) (a3:Int) (a4:Int):aA cfg (k+1) 70 (A70 a0 a1 a2 a3 a4) []=T70 (aA cfg k) (L70 (aA cfg k) k) a0 a1 a2 a3 a4:=by
 have ih:=R70 (aA cfg k) (aE cfg (aA cfg k) 20) k
 refine(show aA cfg (k+1) 70 (A70 a0 a1 a2 a3 a4) []=GO 70 Tryz.f70 (A70 a0 a1 a2 a3 a4) [] (aA cfg k) (aE cfg (aA cfg k) 20) (RN 70 Tryz.f70 [] (aA cfg k) (aE cfg (aA cfg k) 20) k)by kernel_rfl).trans ((E70 _ _ _ a0 a1 a2 a3 a4).trans ?_)
 rw[show(fun l0 l1 i2 i3 s4 i5 i6 i7 l8=>RN 70 Tryz.f70 [] (aA cfg k) (aE cfg (aA cfg k) 20) k (aJ Tryz.f70 0) (AI l0 l1 i2 i3 s4 i5 i6 i7 l8))=(L70 (aA cfg k) k)from(funext fun l0=>funext fun l1=>funext fun i2=>funext fun i3=>funext fun s4=>funext fun i5=>funext fun i6=>funext fun i7=>funext fun l8=>ih l0 l1 i2 i3 s4 i5 i6 i7 l8)]
theorem M70 (a0:List V) (a1:List UInt8) (a2:Int) (a3:Int) (a4:Int) {r:V×List Ob} (h:Evt (fun k n=>T70 (aA cfg k) (L70 (aA cfg k) n) a0 a1 a2 a3 a4) r):Ret 70 [V.lst 5 false a0,V.agg [V.str a1,V.int IntKind.i64 a2,V.int IntKind.i64 a3,V.int IntKind.i64 a4]] [] r:=aT (g:=fun k n=>T70 (aA cfg k) (L70 (aA cfg k) n) a0 a1 a2 a3 a4) (fun k=>C70 k a0 a1 a2 a3 a4) h
theorem JL (l0:List V) (l1:List V) (i2:Int) (i3:Int) (s4:List UInt8) (i5:Int) (i6:Int) (i7:Int) (l8:List V) {r:V×List Ob} (h:Evt (fun k n=>CY (aA cfg k) (L70 (aA cfg k) n) l0 l1 i2 i3 s4 i5 i6 i7 l8) r):Evt (fun k n=>(L70 (aA cfg k) n) l0 l1 i2 i3 s4 i5 i6 i7 l8) r:=aX (fun k n=>rfl) h
def T33 (call:FuncId→Fun) (a0:List V) (a1:List UInt8):Option (V×List Ob):=
 Option.bind (call 67 [(V.lst 91 false a0),(V.clo (Fn.func 68) [] [(V.ref 0 0)])] [(Ob.cells [(V.str a1)])]) fun z0=>
 if(decide ((getI z0.1)<(0:Int)))=true then
 some ((V.tup [(V.agg [(V.str []),(V.int .i64 0),(V.int .i64 0),(V.int .i64 0)]),(V.bool false)]),[])
 else
 chk (decide (0≤(getI z0.1))) (chk (decide ((getI z0.1)<((length a0:Nat):Int))) (some ((V.tup [(V.agg [(V.str (getS (headD (V.cells (getD a0 (Int.toNat (getI z0.1)) V.bot)) V.bot))),(V.int .i64 (getI (headD (tail (V.cells (getD a0 (Int.toNat (getI z0.1)) V.bot))) V.bot))),(V.int .i64 (getI (headD (tail (tail (V.cells (getD a0 (Int.toNat (getI z0.1)) V.bot)))) V.bot))),(V.int .i64 (getI (headD (tail (tail (tail (V.cells (getD a0 (Int.toNat (getI z0.1)) V.bot))))) V.bot)))]),(V.bool true)]),[])))
def A33 (a0:List V) (a1:List UInt8):List V:=[V.lst 91 false a0,V.str a1]
theorem E33 (a0:List V) (a1:List UInt8):GO 33 Tryz.f33 (A33 a0 a1) [] call icall again=T33 call a0 a1:=by kernel_rfl
theorem C33 (k:Nat) (a0:List V) (a1:List UInt8):aA cfg (k+1) 33 (A33 a0 a1) []=T33 (aA cfg k) a0 a1:=
 (show aA cfg (k+1) 33 (A33 a0 a1) []=GO 33 Tryz.f33 (A33 a0 a1) [] (aA cfg k) (aE cfg (aA cfg k) 20) (RN 33 Tryz.f33 [] (aA cfg k) (aE cfg (aA cfg k) 20) k)by kernel_rfl).trans (E33 _ _ _ a0 a1)
theorem M33 (a0:List V) (a1:List UInt8) {r:V×List Ob} (h:Evt (fun k n=>T33 (aA cfg k) a0 a1) r):Ret 33 [V.lst 91 false a0,V.str a1] [] r:=aT (g:=fun k n=>T33 (aA cfg k) a0 a1) (fun k=>C33 k a0 a1) h
def T34 (call:FuncId→Fun) (a0:List V) (a1:List V) (a2:List UInt8):Option (V×List Ob):=
 Option.bind (call 33 [(V.lst 91 false a1),(V.str a2)] []) fun z0=>
 if(!(getB (headD (tail (getT z0.1)) V.bot)))=true then
 some ((V.str []),[])
 else
 Option.bind (call 70 [(V.lst 5 false a0),(V.agg [(V.str (getS (headD (V.cells (headD (getT z0.1) V.bot)) V.bot))),(V.int .i64 (getI (headD (tail (V.cells (headD (getT z0.1) V.bot))) V.bot))),(V.int .i64 (getI (headD (tail (tail (V.cells (headD (getT z0.1) V.bot)))) V.bot))),(V.int .i64 (getI (headD (tail (tail (tail (V.cells (headD (getT z0.1) V.bot))))) V.bot)))])] []) fun z1=>
 some ((V.str (getS z1.1)),[])
def A34 (a0:List V) (a1:List V) (a2:List UInt8):List V:=[V.lst 5 false a0,V.lst 91 false a1,V.str a2]
theorem E34 (a0:List V) (a1:List V) (a2:List UInt8):GO 34 Tryz.f34 (A34 a0 a1 a2) [] call icall again=T34 call a0 a1 a2:=by kernel_rfl
theorem C34 (k:Nat) (a0:List V) (a1:List V) (a2:List UInt8):aA cfg (k+1) 34 (A34 a0 a1 a2) []=T34 (aA cfg k) a0 a1 a2:=
 (show aA cfg (k+1) 34 (A34 a0 a1 a2) []=GO 34 Tryz.f34 (A34 a0 a1 a2) [] (aA cfg k) (aE cfg (aA cfg k) 20) (RN 34 Tryz.f34 [] (aA cfg k) (aE cfg (aA cfg k) 20) k)by kernel_rfl).trans (E34 _ _ _ a0 a1 a2)
theorem M34 (a0:List V) (a1:List V) (a2:List UInt8) {r:V×List Ob} (h:Evt (fun k n=>T34 (aA cfg k) a0 a1 a2) r):Ret 34 [V.lst 5 false a0,V.lst 91 false a1,V.str a2] [] r:=aT (g:=fun k n=>T34 (aA cfg k) a0 a1 a2) (fun k=>C34 k a0 a1 a2) h
def CZ (call:FuncId→Fun) (ag0:List V→Int→List V→Bool→List V→Int→Int→Option (V×List Ob)) (l0:List V) (i1:Int) (o2:List V) (b3:Bool) (l4:List V) (i5:Int) (i6:Int):Option (V×List Ob):=
 if(decide (i6<i5))=true then
 chk (decide (0≤i6)) (chk (decide (i6<((length l4:Nat):Int))) (Option.bind (call 64 [(V.lst 5 false l0),(V.agg [(V.int .i64 (getI (headD (V.cells (getD l4 (Int.toNat i6) V.bot)) V.bot))),(V.int .i64 (getI (headD (tail (V.cells (getD l4 (Int.toNat i6) V.bot))) V.bot))),(V.int .i64 (getI (headD (tail (tail (V.cells (getD l4 (Int.toNat i6) V.bot)))) V.bot)))])] []) fun z0=>
 Option.bind (call 65 [(V.str (getS z0.1))] []) fun z1=>
 if(getB z1.1)=true then
 if b3=true then
 chk (decide (0≤(IntKind.wrap .i64 (((length o2:Nat):Int) - (1:Int))))) (chk (decide ((IntKind.wrap .i64 (((length o2:Nat):Int) - (1:Int)))<((length o2:Nat):Int))) ((ag0 (l0) (i1) ((List.set o2 (Int.toNat (IntKind.wrap .i64 (((length o2:Nat):Int) - (1:Int)))) (V.agg [(V.str (getS (headD (V.cells (getD o2 (Int.toNat (IntKind.wrap .i64 (((length o2:Nat):Int) - (1:Int)))) V.bot)) V.bot))),(V.int .i64 (getI (headD (tail (V.cells (getD o2 (Int.toNat (IntKind.wrap .i64 (((length o2:Nat):Int) - (1:Int)))) V.bot))) V.bot))),(V.int .i64 (getI (headD (tail (tail (V.cells (getD o2 (Int.toNat (IntKind.wrap .i64 (((length o2:Nat):Int) - (1:Int)))) V.bot)))) V.bot))),(V.int .i64 (getI (headD (tail (tail (V.cells (getD l4 (Int.toNat i6) V.bot)))) V.bot)))]))) (b3) (l4) (i5) ((IntKind.wrap .i64 (i6+(1:Int)))))))
 else
 (ag0 (l0) (i1) (o2) (b3) (l4) (i5) ((IntKind.wrap .i64 (i6+(1:Int)))))
 else
 Option.bind (call 66 [(V.str (getS z0.1))] []) fun z2=>
 if(getB (headD (tail (tail (getT z2.1))) V.bot))=true then
 chk (bO o2 [(V.agg [(V.str (getS (headD (getT z2.1) V.bot))),(V.int .i64 (getI (headD (V.cells (getD l4 (Int.toNat i6) V.bot)) V.bot))),(V.int .i64 (IntKind.wrap .i64 ((getI (headD (V.cells (getD l4 (Int.toNat i6) V.bot)) V.bot))+(getI (headD (tail (getT z2.1)) V.bot))))),(V.int .i64 (getI (headD (tail (tail (V.cells (getD l4 (Int.toNat i6) V.bot)))) V.bot)))])] 41) ((ag0 (l0) (i1) ((o2++[(V.agg [(V.str (getS (headD (getT z2.1) V.bot))),(V.int .i64 (getI (headD (V.cells (getD l4 (Int.toNat i6) V.bot)) V.bot))),(V.int .i64 (IntKind.wrap .i64 ((getI (headD (V.cells (getD l4 (Int.toNat i6) V.bot)) V.bot))+(getI (headD (tail (getT z2.1)) V.bot))))),(V.int .i64 (getI (headD (tail (tail (V.cells (getD l4 (Int.toNat i6) V.bot)))) V.bot)))])])) ((getB (headD (tail (tail (getT z2.1))) V.bot))) (l4) (i5) ((IntKind.wrap .i64 (i6+(1:Int))))))
 else
 (ag0 (l0) (i1) (o2) ((getB (headD (tail (tail (getT z2.1))) V.bot))) (l4) (i5) ((IntKind.wrap .i64 (i6+(1:Int)))))))
 else
 some ((V.tup [(V.lst 91 false o2),(V.int .i64 i1)]),[])
def T32 (call:FuncId→Fun) (ag0:List V→Int→List V→Bool→List V→Int→Int→Option (V×List Ob)) (a0:List V) (a1:Int) (a2:Int):Option (V×List Ob):=
 Option.bind (call 62 [(V.lst 5 false a0),(V.agg [(V.int .i64 a1),(V.int .i64 a2)])] []) fun z0=>
 if(((length (getL z0.1):Nat):Int)==(0:Int))=true then
 some ((V.tup [(V.lst 91 false []),(V.int .i64 a1)]),[])
 else
 chk (decide (0≤(IntKind.wrap .i64 (((length (getL z0.1):Nat):Int) - (1:Int))))) (chk (decide ((IntKind.wrap .i64 (((length (getL z0.1):Nat):Int) - (1:Int)))<((length (getL z0.1):Nat):Int))) (Option.bind (call 63 [(V.lst 134 false (getL z0.1))] []) fun z1=>
 if(decide ((getI z1.1)≥(0:Int)))=true then
 chk (decide (0≤(getI z1.1))) (chk (decide ((getI z1.1)<((length (getL z0.1):Nat):Int))) (chk (decide (0≤(getI z1.1))) (chk (decide ((getI z1.1)≤((length (getL z0.1):Nat):Int))) (chk (decide (0≤(0:Int))) (chk (decide ((0:Int)≤(getI z1.1))) ((ag0 (a0) ((getI (headD (tail (tail (V.cells (getD (getL z0.1) (Int.toNat (getI z1.1)) V.bot)))) V.bot))) ([]) (false) ((drop (Int.toNat (0:Int)) (take (Int.toNat (getI z1.1)) (getL z0.1)))) (((length (drop (Int.toNat (0:Int)) (take (Int.toNat (getI z1.1)) (getL z0.1))):Nat):Int)) ((0:Int)))))))))
 else
 (ag0 (a0) ((getI (headD (tail (tail (V.cells (getD (getL z0.1) (Int.toNat (IntKind.wrap .i64 (((length (getL z0.1):Nat):Int) - (1:Int)))) V.bot)))) V.bot))) ([]) (false) ((getL z0.1)) (((length (getL z0.1):Nat):Int)) ((0:Int)))))
def A32 (a0:List V) (a1:Int) (a2:Int):List V:=[V.lst 5 false a0,V.agg [V.int IntKind.i64 a1,V.int IntKind.i64 a2]]
def AK (l0:List V) (i1:Int) (o2:List V) (b3:Bool) (l4:List V) (i5:Int) (i6:Int):St:=⟨[(V.lst 5 false l0),V.bot,V.bot,V.bot,V.bot,V.bot,V.bot,(V.int IntKind.i64 i1),V.bot,(V.own 91 o2),(V.bool b3),V.bot,V.bot,V.bot,V.bot,V.bot,V.bot,V.bot,V.bot,V.bot,V.bot,V.bot,V.bot,V.bot,V.bot,V.bot,V.bot,V.bot,V.bot,V.bot,V.bot,V.bot,V.bot,V.bot,V.bot,V.bot,V.bot,V.bot,V.bot,V.bot,V.bot,V.bot,V.bot,V.bot,(V.lst 134 false l4),(V.int IntKind.i64 i5),(V.int IntKind.i64 i6)]++List.replicate 41 V.bot,[]⟩
theorem MI (l0:List V) (i1:Int) (o2:List V) (b3:Bool) (l4:List V) (i5:Int) (i6:Int):
 RM 32 Tryz.f32 [] call icall again (aJ Tryz.f32 0) (AK l0 i1 o2 b3 l4 i5 i6)=CZ call (fun l0 i1 o2 b3 l4 i5 i6=>again (aJ Tryz.f32 0) (AK l0 i1 o2 b3 l4 i5 i6)) l0 i1 o2 b3 l4 i5 i6:=by kernel_rfl
theorem E32 (a0:List V) (a1:Int) (a2:Int):GO 32 Tryz.f32 (A32 a0 a1 a2) [] call icall again=T32 call (fun l0 i1 o2 b3 l4 i5 i6=>again (aJ Tryz.f32 0) (AK l0 i1 o2 b3 l4 i5 i6)) a0 a1 a2:=by kernel_rfl
def L32 (call:FuncId→Fun):Nat→(List V→Int→List V→Bool→List V→Int→Int→Option (V×List Ob))
 |0=>fun _ _ _ _ _ _ _=>none
 |n+1=>CZ call (L32 call n)
theorem R32 (call:FuncId→Fun) (icall:aQ (V×List Ob)):∀n,(∀(l0:List V) (i1:Int) (o2:List V) (b3:Bool) (l4:List V) (i5:Int) (i6:Int),RN 32 Tryz.f32 [] call icall n (aJ Tryz.f32 0) (AK l0 i1 o2 b3 l4 i5 i6)=(L32 call n) l0 i1 o2 b3 l4 i5 i6)
 |0=>fun l0 i1 o2 b3 l4 i5 i6=>rfl
 |n+1=>by
  have ih:=R32 call icall n
  exact fun l0 i1 o2 b3 l4 i5 i6=>(MI call icall (RN 32 Tryz.f32 [] call icall n) l0 i1 o2 b3 l4 i5 i6).trans (by rw[show(fun l0 i1 o2 b3 l4 i5 i6=>RN 32 Tryz.f32 [] call icall n (aJ Tryz.f32 0) (AK l0 i1 o2 b3 l4 i5 i6))=(L32 call n)from(funext fun l0=>funext fun i1=>funext fun o2=>funext fun b3=>funext fun l4=>funext fun i5=>funext fun i6=>ih l0 i1 o2 b3 l4 i5 i6)];rfl)
theorem C32 (k:Nat) (a0:List V) (a1:Int) (a2:Int):aA cfg (k+1) 32 (A32 a0 a1 a2) []=T32 (aA cfg k) (L32 (aA cfg k) k) a0 a1 a2:=by
 have ih:=R32 (aA cfg k) (aE cfg (aA cfg k) 20) k
 refine(show aA cfg (k+1) 32 (A32 a0 a1 a2) []=GO 32 Tryz.f32 (A32 a0 a1 a2) [] (aA cfg k) (aE cfg (aA cfg k) 20) (RN 32 Tryz.f32 [] (aA cfg k) (aE cfg (aA cfg k) 20) k)by kernel_rfl).trans ((E32 _ _ _ a0 a1 a2).trans ?_)
 rw[show(fun l0 i1 o2 b3 l4 i5 i6=>RN 32 Tryz.f32 [] (aA cfg k) (aE cfg (aA cfg k) 20) k (aJ Tryz.f32 0) (AK l0 i1 o2 b3 l4 i5 i6))=(L32 (aA cfg k) k)from(funext fun l0=>funext fun i1=>funext fun o2=>funext fun b3=>funext fun l4=>funext fun i5=>funext fun i6=>ih l0 i1 o2 b3 l4 i5 i6)]
theorem M32 (a0:List V) (a1:Int) (a2:Int) {r:V×List Ob} (h:Evt (fun k n=>T32 (aA cfg k) (L32 (aA cfg k) n) a0 a1 a2) r):Ret 32 [V.lst 5 false a0,V.agg [V.int IntKind.i64 a1,V.int IntKind.i64 a2]] [] r:=aT (g:=fun k n=>T32 (aA cfg k) (L32 (aA cfg k) n) a0 a1 a2) (fun k=>C32 k a0 a1 a2) h
theorem JM (l0:List V) (i1:Int) (o2:List V) (b3:Bool) (l4:List V) (i5:Int) (i6:Int) {r:V×List Ob} (h:Evt (fun k n=>CZ (aA cfg k) (L32 (aA cfg k) n) l0 i1 o2 b3 l4 i5 i6) r):Evt (fun k n=>(L32 (aA cfg k) n) l0 i1 o2 b3 l4 i5 i6) r:=aX (fun k n=>rfl) h
def Hi (call:FuncId→Fun) (a0:List UInt8) (a1:List UInt8):Option (V×List Ob):=
 Option.bind (if(decide (((length a0:Nat):Int)<(IntKind.wrap .i64 ((2:Int)+((length a1:Nat):Int)))))=false then
 chk (decide (0≤(IntKind.wrap .i64 ((2:Int)+((length a1:Nat):Int))))) (chk (decide ((IntKind.wrap .i64 ((2:Int)+((length a1:Nat):Int)))≤((length a0:Nat):Int))) (chk (decide (0≤(0:Int))) (chk (decide ((0:Int)≤(IntKind.wrap .i64 ((2:Int)+((length a1:Nat):Int))))) (chk (cI [45,45] a1) (some (!(sEq (drop (Int.toNat (0:Int)) (take (Int.toNat (IntKind.wrap .i64 ((2:Int)+((length a1:Nat):Int)))) a0)) ([45,45]++a1))))))))
 else
 some true) fun y0=>
 if y0=true then
 some ((V.tup [(V.bool false),(V.bool false)]),[])
 else
 chk (decide (0≤(IntKind.wrap .i64 ((2:Int)+((length a1:Nat):Int))))) (chk (decide ((IntKind.wrap .i64 ((2:Int)+((length a1:Nat):Int)))≤((length a0:Nat):Int))) (Option.bind (call 135 [(V.str (drop (Int.toNat (IntKind.wrap .i64 ((2:Int)+((length a1:Nat):Int)))) a0))] []) fun z1=>
 if(getB z1.1)=true then
 some ((V.tup [(V.bool true),(V.bool false)]),[])
 else
 if(decide (((length (drop (Int.toNat (IntKind.wrap .i64 ((2:Int)+((length a1:Nat):Int)))) a0):Nat):Int)≥(2:Int)))=true then
 chk (decide (0≤(2:Int))) (chk (decide ((2:Int)≤((length (drop (Int.toNat (IntKind.wrap .i64 ((2:Int)+((length a1:Nat):Int)))) a0):Nat):Int))) (chk (decide (0≤(0:Int))) (chk (decide ((0:Int)≤(2:Int))) (if(sEq (drop (Int.toNat (0:Int)) (take (Int.toNat (2:Int)) (drop (Int.toNat (IntKind.wrap .i64 ((2:Int)+((length a1:Nat):Int)))) a0))) [45,45])=true then
 chk (decide (0≤(2:Int))) (chk (decide ((2:Int)≤((length (drop (Int.toNat (IntKind.wrap .i64 ((2:Int)+((length a1:Nat):Int)))) a0):Nat):Int))) (Option.bind (call 135 [(V.str (drop (Int.toNat (2:Int)) (drop (Int.toNat (IntKind.wrap .i64 ((2:Int)+((length a1:Nat):Int)))) a0)))] []) fun z2=>
 if(getB z2.1)=true then
 some ((V.tup [(V.bool true),(V.bool true)]),[])
 else
 some ((V.tup [(V.bool false),(V.bool false)]),[])))
 else
 some ((V.tup [(V.bool false),(V.bool false)]),[])))))
 else
 some ((V.tup [(V.bool false),(V.bool false)]),[])))
def IT (a0:List UInt8) (a1:List UInt8):List V:=[V.str a0,V.str a1]
theorem OK (a0:List UInt8) (a1:List UInt8):GO 100 Tryz.f100 (IT a0 a1) [] call icall again=Hi call a0 a1:=by kernel_rfl
theorem OL (k:Nat) (a0:List UInt8) (a1:List UInt8):aA cfg (k+1) 100 (IT a0 a1) []=Hi (aA cfg k) a0 a1:=
 (show aA cfg (k+1) 100 (IT a0 a1) []=GO 100 Tryz.f100 (IT a0 a1) [] (aA cfg k) (aE cfg (aA cfg k) 20) (RN 100 Tryz.f100 [] (aA cfg k) (aE cfg (aA cfg k) 20) k)by kernel_rfl).trans (OK _ _ _ a0 a1)
theorem OM (a0:List UInt8) (a1:List UInt8) {r:V×List Ob} (h:Evt (fun k n=>Hi (aA cfg k) a0 a1) r):Ret 100 [V.str a0,V.str a1] [] r:=aT (g:=fun k n=>Hi (aA cfg k) a0 a1) (fun k=>OL k a0 a1) h
def Hj (call:FuncId→Fun) (a0:List UInt8):Option (V×List Ob):=
 Option.bind (call 105 [(V.str a0)] []) fun z0=>
 some ((V.bool (sEq (getS z0.1) [])),[])
def IU (a0:List UInt8):List V:=[V.str a0]
theorem ON (a0:List UInt8):GO 135 Tryz.f135 (IU a0) [] call icall again=Hj call a0:=by kernel_rfl
theorem OO (k:Nat) (a0:List UInt8):aA cfg (k+1) 135 (IU a0) []=Hj (aA cfg k) a0:=
 (show aA cfg (k+1) 135 (IU a0) []=GO 135 Tryz.f135 (IU a0) [] (aA cfg k) (aE cfg (aA cfg k) 20) (RN 135 Tryz.f135 [] (aA cfg k) (aE cfg (aA cfg k) 20) k)by kernel_rfl).trans (ON _ _ _ a0)
theorem OP (a0:List UInt8) {r:V×List Ob} (h:Evt (fun k n=>Hj (aA cfg k) a0) r):Ret 135 [V.str a0] [] r:=aT (g:=fun k n=>Hj (aA cfg k) a0) (fun k=>OO k a0) h
end Go.Proofs.YtdoaoaicdimbeaaGreatDoor
end
section
namespace Go.Proofs.YtdoaoaicdimbeaaGreatDoor
open Go.Ev Go
abbrev Ln:=Nat×Nat×Nat
def Eb (b:Bs) (fr to:Nat):Bs:=(b.take to).drop fr
def bM (b:Bs) (l:Ln):Bs:=if l.1≤l.2.1∧l.2.1≤b.length then Eb b l.1 l.2.1 else[]
theorem pT (b:Bs):(ofBytes b).all pR=true:=by
 simp only[List.all_eq_true,ofBytes,List.mem_map]
 rintro v ⟨c,_,rfl⟩
 have:=c.toNat_lt
 simp[pR];omega
theorem Hk (b:Bs) (hb:b.length≤1000000) (fr to:Int):
  Ret 62 [.lst 5 false (ofBytes b), .agg [.int .i64 fr, .int .i64 to]] [] (.lst 134 false ((aS fr to b).map lnV),[]):=by
 refine gB (h:=ofF) (by kernel_rfl) ?_
 have h1:=pT b
 have h2:(ofBytes b).length<1099511627776:=by rw[cD];omega
 simp only[ofF,h1,h2,decide_true,Bool.and_self,if_true,dL]
theorem MJ (a b n:Int):Ret 74 [.agg [.int .i64 a, .int .i64 b], .int .i64 n] [] (.bool (decide (0≤a∧a≤b∧b≤n)),[]):=by
 refine M74 a b n ?_
 simp only[T74]
 by_cases h1:a≥0
 ·by_cases h2:a≤b
  ·have e:decide (0≤a∧a≤b∧b≤n)=decide (b≤n):=by simp[h1,h2]
   rw[e]
   simp only[h1,h2,decide_true,if_true,cY]
   exact aG _
  ·have e:decide (0≤a∧a≤b∧b≤n)=false:=by simp[h2]
   rw[e]
   simp only[h1,h2,decide_true,decide_false,if_true,Bool.false_eq_true,if_false,cY]
   exact aG _
 ·have e:decide (0≤a∧a≤b∧b≤n)=false:=by simp;omega
  rw[e]
  simp only[h1,decide_false,Bool.false_eq_true,if_false,cY]
  exact aG _
theorem OQ (b:Bs) (fr to:Nat):bytesOf (List.drop fr (List.take to (ofBytes b)))=Eb b fr to:=by
 unfold ofBytes Eb
 rw[←List.map_take,←List.map_drop]
 exact dL _
theorem Hl (b:Bs) (l:Ln):Ret 64 [.lst 5 false (ofBytes b),lnV l] [] (.str (bM b l),[]):=by
 obtain⟨p,q,r⟩:=l
 refine M64 (ofBytes b) p q r ?_
 simp only[T64,cD]
 refine aD (MJ p q (b.length:Nat)) ?_
 simp only[V.getB]
 by_cases h:p≤q∧q≤b.length
 ·have h1:(0:Int)≤(p:Int)∧(p:Int)≤(q:Int)∧(q:Int)≤(b.length:Int):=by omega
  have e:bM b (p,q,r)=Eb b p q:=if_pos h
  simp only[h1,and_self,decide_true,Bool.not_true,Bool.false_eq_true,if_false,cS,Int.toNat_natCast,OQ,e,aI (show(0:Int)≤(q:Int)by omega)]
  exact aG _
 ·have h1:¬((0:Int)≤(p:Int)∧(p:Int)≤(q:Int)∧(q:Int)≤(b.length:Int)):=by omega
  have e:bM b (p,q,r)=[]:=if_neg h
  simp only[h1,decide_false,Bool.not_false,if_true,e]
  exact aG _
def yD:Bs→Bool
 |[]=>false
 |c::_=>dD c
theorem MK (s:Bs):Ret 65 [.str s] [] (.bool (yD s),[]):=by
 refine M65 s ?_
 simp only[T65]
 cases s with
 |nil=>simp only[sEq,beq_self_eq_true,Bool.not_true,Bool.false_eq_true,if_false,yD];exact aG _
 |cons c r=>
  have e:sEq (c::r) []=false:=rfl
  have h1:(0:Int)<(((c::r).length:Nat):Int):=by simp
  simp only[e,Bool.not_false,if_true,aI h1,aI (show(0:Int)≤0 by omega),Int.toNat_zero,List.getD_cons_zero,yD]
  refine aD (qN c) ?_
  exact aG _
def eD:List Ln→Option Nat
 |[]=>none
 |l::r=>if l.1=l.2.1 then some 0 else(eD r).map (· +1)
theorem oW {l:List Ln} {i:Nat} (h:i<l.length):(l.map lnV).getD i .bot=lnV l[i]:=by simp[List.getD,h]
theorem KL (l:Ln):Ret 103 [lnV l] [] (.bool (decide (l.1=l.2.1)),[]):=by
 obtain⟨p,q,r⟩:=l
 refine OJ p q r ?_
 simp only[Hh]
 have e:(((p:Nat):Int)==((q:Nat):Int))=decide (p=q):=by
  by_cases h:p=q
  ·subst h;simp
  ·have:¬((p:Int)=(q:Int)):=by omega
   simp[h,this]
 rw[e]
 exact aG _
def qO:Option Nat→Int
 |none=> -1
 |some k=>k
theorem IV (l:List Ln) (hl:l.length≤1000000):∀(n i:Nat),l.length - i≤n→i≤l.length→
  Evt (fun k n=>yC (aA cfg k) n (l.map lnV) (l.length:Nat) (i:Nat)) (.int .i64 (qO ((eD (l.drop i)).map (· +i))),[]):=by
 have fin:∀i:Nat,i=l.length→Evt (fun k n=>yC (aA cfg k) n (l.map lnV) (l.length:Nat) (i:Nat)) (.int .i64 (qO ((eD (l.drop i)).map (· +i))),[]):=by
  intro i h
  refine Hg (l.map lnV) (l.length:Nat) (i:Nat) ?_
  have h1:¬((i:Int)<(l.length:Int)):=by omega
  rw[List.drop_eq_nil_of_le (by omega)]
  simp only[yB,h1,decide_false,Bool.false_eq_true,if_false,eD,Option.map_none,qO]
  exact aG _
 intro n
 induction n with
 |zero=>intro i h hi;exact fin i (by omega)
 |succ n ih=>
  intro i h hi
  by_cases hlt:i<l.length
  ·refine Hg (l.map lnV) (l.length:Nat) (i:Nat) ?_
   have h1:((i:Int)<(l.length:Int)):=by omega
   have h2:(0:Int)≤(i:Int):=by omega
   have hw:IntKind.wrap .i64 ((i:Int)+1)=((i+1:Nat):Int):=by rw[wrap64 (by omega) (by omega)];omega
   have hd:l.drop i=l[i]::l.drop (i+1):=List.drop_eq_getElem_cons hlt
   simp only[yB,h1,decide_true,if_true,aI h2,List.length_map,cS,Int.toNat_natCast,oW hlt,lnV,V.cells,List.headD_cons,List.tail_cons,V.getI,hw]
   refine aD (KL l[i]) ?_
   simp only[V.getB,decide_eq_true_eq]
   rw[hd,eD]
   by_cases hn:l[i].1=l[i].2.1
   ·simp only[hn,if_true,Option.map_some,Nat.zero_add,qO]
    exact aG _
   ·simp only[hn,if_false]
    have:=ih (i+1) (by omega) (by omega)
    have e:((eD (l.drop (i+1))).map (· +1)).map (· +i)=(eD (l.drop (i+1))).map (· +(i+1)):=by
     rw[Option.map_map];congr 1;funext x;simp only[Function.comp];omega
    rw[e]
    exact this
  ·exact fin i (by omega)
theorem ML (l:List Ln) (hl:l.length≤1000000):Ret 63 [.lst 134 false (l.map lnV)] [] (.int .i64 (qO (eD l)),[]):=by
 refine M63 (l.map lnV) ?_
 simp only[T63]
 have h76:Ret 102 [.lst 134 false (l.map lnV), .clo (Fn.func 103) [] []] [] (.int .i64 (qO (eD l)),[]):=by
  refine OG (l.map lnV) ?_
  simp only[Hf,List.length_map]
  have:=IV l hl l.length 0 (by omega) (by omega)
  simpa using this
 refine aD h76 ?_
 exact aG _
end Go.Proofs.YtdoaoaicdimbeaaGreatDoor
end
section
namespace Go.Proofs.YtdoaoaicdimbeaaGreatDoor
open Go.Ev Go
def pE (c:UInt8):Bool:=33≤c&&c≤126
def iS (s:Bs):Nat→Nat
 |0=>0
 |n+1=>if dD (s.getD n 0)then iS s n else n+1
theorem yE (s:Bs):∀n,iS s n≤n
 |0=>Nat.le_refl _
 |n+1=>by
  unfold iS
  split
  ·have:=yE s n;omega
  ·exact Nat.le_refl _
def eE (s:Bs):Option (Bs×Nat):=
 if Lib.indexByte s 58<0 then none else
 if(s.take (iS s (Lib.indexByte s 58).toNat)).all pE&&decide (0<iS s (Lib.indexByte s 58).toNat)then some (s.take (iS s (Lib.indexByte s 58).toNat),(Lib.indexByte s 58).toNat+1)else none
def Ec (s:Bs) (r:V×List Ob):Prop:=∃u m,r=(.tup [.str u, .int .i64 m, .bool (eE s).isSome],[])∧∀p,eE s=some p→u=p.1∧m=p.2
theorem IW (c:UInt8):(((c.toNat:Nat):Int)<33∨((c.toNat:Nat):Int)>126)↔pE c=false:=by
 have h1:=oS 33 c
 have h2:=oS c 126
 have e33:((UInt8.toNat 33:Nat):Int)=33:=rfl
 have e126:((UInt8.toNat 126:Nat):Int)=126:=rfl
 rw[e33]at h1
 rw[e126]at h2
 simp only[pE,Bool.and_eq_false_iff,decide_eq_false_iff_not]
 rw[←h1,←h2]
 omega
theorem yF (s:Bs) (hs:s.length≤1000000) (k n:Nat) (hk:Lib.indexByte s 58=k) (hks:k<s.length) (hn:n=iS s k):∀(m i:Nat),n - i=m→i≤n→(s.take i).all pE=true→
  ∃r,Ec s r∧Evt (fun q j=>(L66 (aA cfg q) j).2 s (k:Nat) (n:Nat) (n:Nat) (i:Nat)) r
 |0,i,h,hi,ha=>by
  have hin:i=n:=by omega
  subst hin
  have hnk:=yE s k
  refine⟨_,⟨s.take i,(k:Int)+1,rfl,fun p hp=>?_⟩,He s (k:Nat) (i:Nat) (i:Nat) (i:Nat) ?_⟩
  ·have h0:¬((k:Int)<0):=by omega
   unfold eE at hp
   rw[hk,if_neg h0,Int.toNat_natCast,←hn,ha]at hp
   split at hp
   ·cases hp;exact⟨rfl,by omega⟩
   ·cases hp
  ·have h1:¬((i:Int)<(i:Int)):=by omega
   have h2:(0:Int)≤(i:Int):=by omega
   have h3:(i:Int)≤(s.length:Int):=by omega
   have hw:IntKind.wrap .i64 ((k:Int)+1)=(k:Int)+1:=wrap64 (by omega) (by omega)
   have he:(eE s).isSome=decide ((i:Int)>0):=by
    have h0:¬((k:Int)<0):=by omega
    unfold eE
    rw[hk,if_neg h0,Int.toNat_natCast,←hn,ha]
    by_cases hi0:0<i
    ·have:(i:Int)>0:=by omega
     simp[hi0,this]
    ·have:¬((i:Int)>0):=by omega
     simp[hi0,this]
   rw[he]
   simp only[AG,h1,decide_false,Bool.false_eq_true,if_false,aI h2,aI h3,aI (show(0:Int)≤0 by omega),Int.toNat_zero,List.drop_zero,Int.toNat_natCast,hw]
   exact aG _
 |m+1,i,h,hi,ha=>by
  have hnk:=yE s k
  have his:i<s.length:=by omega
  have h1:((i:Int)<(n:Int)):=by omega
  have h2:(0:Int)≤(i:Int):=by omega
  have h3:(i:Int)<(s.length:Int):=by omega
  have hw:IntKind.wrap .i64 ((i:Int)+1)=((i+1:Nat):Int):=by rw[wrap64 (by omega) (by omega)];omega
  have hy:(chk (decide ((0:Int)≤(i:Int))) (chk (decide ((i:Int)<(s.length:Int))) (if(decide (((s[i].toNat:Nat):Int)<(33:Int)))=false then
    chk (decide ((0:Int)≤(i:Int))) (chk (decide ((i:Int)<(s.length:Int))) (some (decide (((s[i].toNat:Nat):Int)>(126:Int)))))
   else some true)))=some (!pE s[i]):=by
   rw[aI h2,aI h3]
   have hv:=IW s[i]
   by_cases c1:((s[i].toNat:Nat):Int)<33
   ·simp[c1,hv.1 (.inl c1)]
   ·by_cases c2:((s[i].toNat:Nat):Int)>126
    ·simp only[c1,c2,decide_false,decide_true,if_true,aI h2,aI h3,hv.1 (.inr c2),Bool.not_false]
    ·have:pE s[i]=true:=by
      cases hvv:pE s[i]with
      |true=>rfl
      |false=>rcases hv.2 hvv with h|h;exact absurd h c1;exact absurd h c2
     simp only[c1,c2,decide_false,if_true,aI h2,aI h3,this,Bool.not_true]
  by_cases hv:pE s[i]=true
  ·obtain⟨r,hr1,hr2⟩:=yF s hs k n hk hks hn m (i+1) (by omega) (by omega) (by
    rw[List.take_add_one,List.all_append,ha,List.getElem?_eq_getElem his];simp[hv])
   refine⟨r,hr1,He s (k:Nat) (n:Nat) (n:Nat) (i:Nat) ?_⟩
   simp only[AG,h1,decide_true,if_true,Int.toNat_natCast,getD_at his,hw]
   simp only[hy,cY,hv,Bool.not_true,Bool.false_eq_true,if_false]
   exact hr2
  ·have hv' :pE s[i]=false:=by simpa using hv
   refine⟨_,⟨[],0,rfl,fun p hp=>?_⟩,He s (k:Nat) (n:Nat) (n:Nat) (i:Nat) ?_⟩
   ·exfalso
    have h0:¬((k:Int)<0):=by omega
    unfold eE at hp
    rw[hk,if_neg h0,Int.toNat_natCast,←hn]at hp
    have:(s.take n).all pE=false:=by
     rw[List.all_eq_false]
     exact⟨s[i],List.mem_take_iff_getElem.2 ⟨i,by omega,rfl⟩,by simp[hv']⟩
    rw[this]at hp
    simp at hp
   ·have he:(eE s).isSome=false:=by
     have h0:¬((k:Int)<0):=by omega
     have:(s.take n).all pE=false:=by
      rw[List.all_eq_false]
      exact⟨s[i],List.mem_take_iff_getElem.2 ⟨i,by omega,rfl⟩,by simp[hv']⟩
     unfold eE
     rw[hk,if_neg h0,Int.toNat_natCast,←hn,this]
     simp
    rw[he]
    simp only[AG,h1,decide_true,if_true,Int.toNat_natCast,getD_at his]
    simp only[hy,cY,hv',Bool.not_false,if_true]
    exact aG _
theorem C0 (s:Bs) (hs:s.length≤1000000) (k:Nat) (hk:Lib.indexByte s 58=k) (hks:k<s.length):∀n:Nat,n≤k→iS s n=iS s k→
  ∃r,Ec s r∧Evt (fun q j=>(L66 (aA cfg q) j).1 s (k:Nat) (n:Nat)) r
 |0,hn,hb=>by
  obtain⟨r,hr1,hr2⟩:=yF s hs k 0 hk hks hb 0 0 rfl (Nat.le_refl _) rfl
  refine⟨r,hr1,Hd s (k:Nat) (0:Nat) ?_⟩
  have h1:¬(((0:Nat):Int)>0):=by omega
  simp only[AE,h1,decide_false,Bool.false_eq_true,if_false]
  exact hr2
 |n+1,hn,hb=>by
  have hlt:n<s.length:=by omega
  have h1:(((n+1:Nat):Int)>0):=by omega
  have hw:IntKind.wrap .i64 (((n+1:Nat):Int) - 1)=(n:Int):=by rw[wrap64 (by omega) (by omega)];omega
  have h2:(0:Int)≤(n:Int):=by omega
  have h3:(n:Int)<(s.length:Int):=by omega
  by_cases hbl:dD s[n]=true
  ·have hb' :iS s n=iS s k:=by
    rw[←hb];conv=>rhs;unfold iS
    rw[getD_at hlt,hbl];rfl
   obtain⟨r,hr1,hr2⟩:=C0 s hs k hk hks n (by omega) hb'
   refine⟨r,hr1,Hd s (k:Nat) ((n+1:Nat):Int) ?_⟩
   simp only[AE,h1,decide_true,if_true,hw,aI h2,aI h3,Int.toNat_natCast,getD_at hlt]
   refine aD (qN s[n]) ?_
   simp only[V.getB,hbl,if_true]
   exact hr2
  ·have hbl' :dD s[n]=false:=by simpa using hbl
   have hb' :n+1=iS s k:=by
    rw[←hb];unfold iS
    rw[getD_at hlt,hbl'];rfl
   obtain⟨r,hr1,hr2⟩:=yF s hs k (n+1) hk hks hb' (n+1) 0 (by omega) (by omega) rfl
   refine⟨r,hr1,Hd s (k:Nat) ((n+1:Nat):Int) ?_⟩
   simp only[AE,h1,decide_true,if_true,hw,aI h2,aI h3,Int.toNat_natCast,getD_at hlt]
   refine aD (qN s[n]) ?_
   simp only[V.getB,hbl',Bool.false_eq_true,if_false]
   exact hr2
theorem MM (s:Bs) (hs:s.length≤1000000):∃r,Ec s r∧Ret 66 [.str s] [] r:=by
 have h79:Ret 89 [.str s, .int .u8 58] [] (.int .i64 (Lib.indexByte s 58),[]):=gB (h:=Fl) (by kernel_rfl) rfl
 by_cases h:Lib.indexByte s 58<0
 ·refine⟨_,⟨[],0,rfl,fun p hp=>?_⟩,M66 s ?_⟩
  ·unfold eE at hp
   rw[if_pos h]at hp;cases hp
  ·have he:(eE s).isSome=false:=by unfold eE;rw[if_pos h];rfl
   rw[he]
   simp only[T66]
   refine aD h79 ?_
   simp only[V.getI,h,decide_true,if_true]
   exact aG _
 ·obtain⟨k,hk⟩:∃k:Nat,Lib.indexByte s 58=k:=⟨(Lib.indexByte s 58).toNat,by omega⟩
  have hks:k<s.length:=(List.getElem?_eq_some_iff.1 (Lib.indexByte_some hk).1).1
  obtain⟨r,hr1,hr2⟩:=C0 s hs k hk hks k (Nat.le_refl _) rfl
  refine⟨r,hr1,M66 s ?_⟩
  simp only[T66]
  refine aD h79 ?_
  simp only[V.getI,h,decide_false,Bool.false_eq_true,if_false]
  rw[hk]
  exact hr2
end Go.Proofs.YtdoaoaicdimbeaaGreatDoor
end
section
namespace Go.Proofs.YtdoaoaicdimbeaaGreatDoor
open Go.Ev Go
abbrev Fd:=Bs×Nat×Nat×Nat
def fdV (f:Fd):V:= .agg [.str f.1, .int .i64 f.2.1, .int .i64 f.2.2.1, .int .i64 f.2.2.2]
def uZ (l:List Fd) (to:Nat):List Fd:=match l[l.length - 1]? with|some f=>l.set (l.length - 1) (f.1,f.2.1,f.2.2.1,to)|none=>l
def fQ (b:Bs) (st:List Fd×Bool) (x:Ln):List Fd×Bool:=
 if yD (bM b x)then(if st.2 then(uZ st.1 x.2.2,true)else st)
 else match eE (bM b x)with
  |none=>(st.1,false)
  |some p=>(st.1++[(p.1,x.1,x.1+p.2,x.2.2)],true)
def gJ (b:Bs) (fr to:Int):List Fd×Int:=
 if aS fr to b=[]then([],fr)else
 match eD (aS fr to b)with
  |some k=>((((aS fr to b).take k).foldl (fQ b) ([],false)).1,((aS fr to b).getD k (0,0,0)).2.2)
  |none=>(((aS fr to b).foldl (fQ b) ([],false)).1,((aS fr to b).getD ((aS fr to b).length - 1) (0,0,0)).2.2)
theorem pU:∀(n a:Nat) (s:Bs),∀x∈eJ n a s,a≤x.1∧x.1≤x.2.1∧x.2.1≤x.2.2∧x.2.2≤a+s.length
 |0,a,s,x,hx=>by cases hx
 |n+1,a,s,x,hx=>by
  unfold eJ at hx
  split at hx
  ·cases hx
  ·rename_i hs
   split at hx
   ·simp at hx;subst hx;simp
   ·rename_i hk
    obtain⟨k,hk'⟩:∃k:Nat,Lib.indexByte s 10=k:=⟨(Lib.indexByte s 10).toNat,by omega⟩
    have hks:k<s.length:=(List.getElem?_eq_some_iff.1 (Lib.indexByte_some hk').1).1
    rw[hk']at hx
    simp only[Int.toNat_natCast]at hx
    rcases List.mem_cons.1 hx with rfl|hx
    ·simp only
     split<;>omega
    ·have:=pU n _ _ x hx
     rw[List.length_drop]at this
     omega
theorem yG {fr to:Int} {b:Bs}:∀x∈aS fr to b,x.1≤x.2.1∧x.2.1≤x.2.2∧x.2.2≤b.length:=by
 intro x hx
 unfold aS at hx
 split at hx
 ·rename_i h
  have:=pU _ _ _ x hx
  simp at this
  omega
 ·cases hx
theorem AM:∀{l:List Ln} {k:Nat},eD l=some k→k<l.length
 |[],k,h=>by cases h
 |x::r,k,h=>by
  unfold eD at h
  split at h
  ·cases h;simp
  ·obtain⟨j,h1,rfl⟩:=Option.map_eq_some_iff.1 h
   have:=AM h1
   simp;omega
theorem Fu {s:Bs} {p:Bs×Nat} (h:eE s=some p):p.2≤s.length:=by
 unfold eE at h
 split at h
 ·cases h
 ·rename_i hk
  obtain⟨k,hk'⟩:∃k:Nat,Lib.indexByte s 58=k:=⟨(Lib.indexByte s 58).toNat,by omega⟩
  have hks:k<s.length:=(List.getElem?_eq_some_iff.1 (Lib.indexByte_some hk').1).1
  rw[hk']at h
  simp only[Int.toNat_natCast]at h
  split at h
  ·cases h;simp only;omega
  ·cases h
theorem yH (b:Bs) (l:Ln):(bM b l).length≤b.length:=by
 unfold bM Eb
 split
 ·simp;omega
 ·simp
theorem mH (l:List Fd) (to:Nat):(uZ l to).length=l.length:=by
 unfold uZ;split<;>simp
theorem BC {l:List Fd} {i:Nat} (h:i<l.length):(l.map fdV).getD i .bot=fdV l[i]:=by simp[List.getD,h]
theorem tV (b:Bs) (hb:b.length≤1000000) (at_:Int) (l:List Ln) (hl:l.length≤1000000) (hx:∀x∈l,x.1≤1000000):∀(n i:Nat) (out:List Fd) (on:Bool),l.length - i=n→i≤l.length→out.length≤i→(on=true→out≠[])→
  Evt (fun k n=>L32 (aA cfg k) n (ofBytes b) at_ (out.map fdV) on (l.map lnV) (l.length:Nat) (i:Nat)) (.tup [.lst 91 false (((l.drop i).foldl (fQ b) (out,on)).1.map fdV), .int .i64 at_],[])
 |0,i,out,on,h,hi,ho,hon=>by
  refine JM (ofBytes b) at_ (out.map fdV) on (l.map lnV) (l.length:Nat) (i:Nat) ?_
  have h1:¬((i:Int)<(l.length:Int)):=by omega
  rw[List.drop_eq_nil_of_le (by omega)]
  simp only[CZ,h1,decide_false,Bool.false_eq_true,if_false,List.foldl_nil]
  exact aG _
 |n+1,i,out,on,h,hi,ho,hon=>by
  have hlt:i<l.length:=by omega
  refine JM (ofBytes b) at_ (out.map fdV) on (l.map lnV) (l.length:Nat) (i:Nat) ?_
  have h1:((i:Int)<(l.length:Int)):=by omega
  have h2:(0:Int)≤(i:Int):=by omega
  have hw:IntKind.wrap .i64 ((i:Int)+1)=((i+1:Nat):Int):=by rw[wrap64 (by omega) (by omega)];omega
  have hd:l.drop i=l[i]::l.drop (i+1):=List.drop_eq_getElem_cons hlt
  have hxi:=hx l[i] (List.getElem_mem hlt)
  have htl:=yH b l[i]
  have h57:Ret 64 [.lst 5 false (ofBytes b), .agg [.int .i64 (l[i].1:Nat), .int .i64 (l[i].2.1:Nat), .int .i64 (l[i].2.2:Nat)]] [] (.str (bM b l[i]),[]):=Hl b l[i]
  rw[hd,List.foldl_cons]
  simp only[CZ,h1,decide_true,if_true,aI h2,List.length_map,Int.toNat_natCast,oW hlt,lnV,V.cells,List.headD_cons,List.tail_cons,V.getI,hw]
  refine aD h57 ?_
  simp only[V.getS]
  refine aD (MK (bM b l[i])) ?_
  simp only[V.getB]
  by_cases hg:yD (bM b l[i])=true
  ·simp only[hg,if_true]
   cases on with
   |true=>
    have hne:=hon rfl
    have hpos:0<out.length:=List.length_pos_iff.2 hne
    have hw2:IntKind.wrap .i64 ((out.length:Int) - 1)=((out.length - 1:Nat):Int):=by rw[wrap64 (by omega) (by omega)];omega
    have h3:(0:Int)≤((out.length - 1:Nat):Int):=by omega
    have h4:((out.length - 1:Nat):Int)<(out.length:Int):=by omega
    have hol:out.length - 1<out.length:=by omega
    have hst:fQ b (out,true) l[i]=(uZ out l[i].2.2,true):=by unfold fQ;rw[hg];rfl
    have hset:(out.map fdV).set (out.length - 1) (.agg [.str out[out.length - 1].1, .int .i64 (out[out.length - 1].2.1:Nat), .int .i64 (out[out.length - 1].2.2.1:Nat), .int .i64 (l[i].2.2:Nat)])=(uZ out l[i].2.2).map fdV:=by
     unfold uZ
     rw[List.getElem?_eq_getElem hol]
     simp only[List.map_set]
     rfl
    rw[hst]
    simp only[if_true,hw2,aI h3,aI h4,Int.toNat_natCast,BC hol,fdV,V.cells,List.headD_cons,List.tail_cons,V.getS,V.getI]
    rw[hset]
    exact tV b hb at_ l hl hx n (i+1) (uZ out l[i].2.2) true (by omega) (by omega) (by rw[mH];omega) (fun _=>by
     rw[←List.length_pos_iff,mH];exact hpos)
   |false=>
    have hst:fQ b (out,false) l[i]=(out,false):=by unfold fQ;rw[hg];rfl
    rw[hst]
    simp only[Bool.false_eq_true,if_false]
    exact tV b hb at_ l hl hx n (i+1) out false (by omega) (by omega) (by omega) (fun h=>by cases h)
  ·have hg' :yD (bM b l[i])=false:=by simpa using hg
   simp only[hg',Bool.false_eq_true,if_false]
   obtain⟨r,⟨u,m,rfl,hum⟩,hr⟩:=MM (bM b l[i]) (by omega)
   refine aD hr ?_
   simp only[V.getT,List.headD_cons,List.tail_cons,V.getB,V.getS,V.getI]
   cases hn:eE (bM b l[i])with
   |none=>
    have hst:fQ b (out,on) l[i]=(out,false):=by unfold fQ;rw[hg',hn];rfl
    rw[hst]
    simp only[Option.isSome_none,Bool.false_eq_true,if_false]
    exact tV b hb at_ l hl hx n (i+1) out false (by omega) (by omega) (by omega) (fun h=>by cases h)
   |some p=>
    obtain⟨rfl,rfl⟩:=hum p hn
    have hpl:=Fu hn
    have hst:fQ b (out,on) l[i]=(out++[(p.1,l[i].1,l[i].1+p.2,l[i].2.2)],true):=by unfold fQ;rw[hg',hn];rfl
    have hw3:IntKind.wrap .i64 ((l[i].1:Int)+(p.2:Int))=((l[i].1+p.2:Nat):Int):=by rw[wrap64 (by omega) (by omega)];omega
    have hap:bO (out.map fdV) [V.agg [.str p.1, .int .i64 (l[i].1:Nat), .int .i64 ((l[i].1+p.2:Nat):Int), .int .i64 (l[i].2.2:Nat)]] 41=true:=iZ (by simp;omega)
    rw[hst]
    simp only[Option.isSome_some,if_true,hw3,cG hap]
    have:=tV b hb at_ l hl hx n (i+1) (out++[(p.1,l[i].1,l[i].1+p.2,l[i].2.2)]) true (by omega) (by omega) (by simp;omega) (fun _=>by simp)
    simp only[List.map_append,List.map_cons,List.map_nil,fdV]at this
    exact this
theorem Hm (b:Bs) (hb:b.length≤1000000) (fr to:Int):
  Ret 32 [.lst 5 false (ofBytes b), .agg [.int .i64 fr, .int .i64 to]] [] (.tup [.lst 91 false ((gJ b fr to).1.map fdV), .int .i64 (gJ b fr to).2],[]):=by
 refine M32 (ofBytes b) fr to ?_
 simp only[T32]
 refine aD (Hk b hb fr to) ?_
 have hll:=dC fr to b
 have hbd:=yG (fr:=fr) (to:=to) (b:=b)
 simp only[V.getL,List.length_map]
 unfold gJ
 generalize aS fr to b=l at hll hbd
 by_cases hl0:l=[]
 ·subst hl0;exact aG _
 ·have hpos:0<l.length:=List.length_pos_iff.2 hl0
  have h0:((((l.length:Nat):Int))==(0:Int))=false:=beq_eq_false_iff_ne.2 (by omega)
  have hw:IntKind.wrap .i64 ((l.length:Int) - 1)=((l.length - 1:Nat):Int):=by rw[wrap64 (by omega) (by omega)];omega
  have h1:(0:Int)≤((l.length - 1:Nat):Int):=by omega
  have h2:((l.length - 1:Nat):Int)<(l.length:Int):=by omega
  rw[if_neg hl0]
  simp only[h0,Bool.false_eq_true,if_false,hw,aI h1,aI h2]
  refine aD (ML l (by omega)) ?_
  have hxs:∀y∈l,y.1≤1000000:=fun y hy=>by have:=hbd y hy;omega
  have hgi:∀z:Int,(V.int .i64 z).getI=z:=fun _=>rfl
  simp only[hgi]
  cases he:eD l with
  |none=>
   have hoi:qO none= -1:=rfl
   have h3:¬((-1:Int)≥(0:Int)):=by omega
   have hlt:l.length - 1<l.length:=by omega
   simp only[hoi,h3,decide_false,Bool.false_eq_true,if_false,Int.toNat_natCast,oW hlt,lnV,V.cells,List.headD_cons,List.tail_cons,hgi]
   have:=tV b hb (l[l.length - 1].2.2:Nat) l (by omega) hxs l.length 0 [] false (by omega) (by omega) (by simp) (fun h=>by cases h)
   have e:l.getD (l.length - 1) (0,0,0)=l[l.length - 1]:=by simp[List.getD,hlt]
   rw[e]
   simpa using this
  |some k=>
   have hk:=AM he
   have hoi:qO (some k)=(k:Int):=rfl
   have h3:((k:Int)≥(0:Int)):=by omega
   have h5:(k:Int)<(l.length:Int):=by omega
   have h6:(k:Int)≤(l.length:Int):=by omega
   simp only[hoi]
   simp only[h3,decide_true,if_true,cS,aI h5,aI h6,aI (show(0:Int)≤0 by omega),Int.toNat_natCast,oW hk,lnV,V.cells,List.headD_cons,List.tail_cons,hgi,Int.toNat_zero,List.drop_zero]
   have e:l.getD k (0,0,0)=l[k]:=by simp[List.getD,hk]
   have htl:(l.take k).length=k:=by simp;omega
   have:=tV b hb (l[k].2.2:Nat) (l.take k) (by omega) (fun y hy=>hxs y (List.mem_of_mem_take hy)) k 0 [] false (by omega) (by omega) (by simp) (fun h=>by cases h)
   rw[e]
   rw[List.map_take]at this
   have hmin:min k l.length=k:=by omega
   simpa[htl,hmin]using this
end Go.Proofs.YtdoaoaicdimbeaaGreatDoor
end
section
namespace Go.Proofs.YtdoaoaicdimbeaaGreatDoor
open Go.Ev Go
def low (s:Bs):Bs:=s.map dN
def lL:List Fd→Bs→Option Nat
 |[],_=>none
 |f::r,name=>if low f.1=low name then some 0 else(lL r name).map (· +1)
def dP:List Fd→Bs→Option Fd
 |[],_=>none
 |f::r,name=>if low f.1=low name then some f else dP r name
theorem yI:∀{l:List Fd} {name:Bs} {k:Nat},lL l name=some k→∃h:k<l.length,dP l name=some l[k]
 |[],_,k,h=>by cases h
 |f::r,name,k,h=>by
  unfold lL at h
  unfold dP
  split at h
  ·rename_i hc
   cases h
   exact⟨by simp,by rw[if_pos hc];rfl⟩
  ·rename_i hc
   obtain⟨j,h1,rfl⟩:=Option.map_eq_some_iff.1 h
   obtain⟨h2,h3⟩:=yI h1
   exact⟨by simp;omega,by rw[if_neg hc,h3];rfl⟩
theorem yJ:∀{l:List Fd} {name:Bs},lL l name=none→dP l name=none
 |[],_,_=>rfl
 |f::r,name,h=>by
  unfold lL at h
  unfold dP
  split at h
  ·cases h
  ·rename_i hc
   rw[if_neg hc]
   exact yJ (by simpa using h)
theorem MN (f:Fd) (name:Bs) (hf:f.1.length≤1000000) (hn:name.length≤1000000):
  Ret 68 [fdV f, .ref 0 0] [.cells [.str name]] (.bool (low f.1==low name),[.cells [.str name]]):=by
 obtain⟨a,p,q,r⟩:=f
 refine M68 a p q r name ?_
 simp only[T68]
 refine aD (JJ a name (by simp only at hf;omega) (by omega)) ?_
 exact aG _
theorem KN (name:Bs) (hn:name.length≤1000000) (l:List Fd) (hl:l.length≤1000000) (hv:∀f∈l,f.1.length≤1000000):∀(n i:Nat),l.length - i≤n→i≤l.length→
  Evt (fun k n=>L67 (aA cfg k) n (l.map fdV) (l.length:Nat) (i:Nat) name) (.int .i64 (qO ((lL (l.drop i) name).map (· +i))),[.cells [.str name]]):=by
 have fin:∀i:Nat,i=l.length→Evt (fun k n=>L67 (aA cfg k) n (l.map fdV) (l.length:Nat) (i:Nat) name) (.int .i64 (qO ((lL (l.drop i) name).map (· +i))),[.cells [.str name]]):=by
  intro i h
  refine JK (l.map fdV) (l.length:Nat) (i:Nat) name ?_
  have h1:¬((i:Int)<(l.length:Int)):=by omega
  rw[List.drop_eq_nil_of_le (by omega)]
  simp only[CX,h1,decide_false,Bool.false_eq_true,if_false,lL,Option.map_none,qO]
  exact aG _
 intro n
 induction n with
 |zero=>intro i h hi;exact fin i (by omega)
 |succ n ih=>
  intro i h hi
  by_cases hlt:i<l.length
  ·refine JK (l.map fdV) (l.length:Nat) (i:Nat) name ?_
   have h1:((i:Int)<(l.length:Int)):=by omega
   have h2:(0:Int)≤(i:Int):=by omega
   have hw:IntKind.wrap .i64 ((i:Int)+1)=((i+1:Nat):Int):=by rw[wrap64 (by omega) (by omega)];omega
   have hd:l.drop i=l[i]::l.drop (i+1):=List.drop_eq_getElem_cons hlt
   simp only[CX,h1,decide_true,if_true,aI h2,List.length_map,cS,Int.toNat_natCast,BC hlt,fdV,V.cells,List.headD_cons,List.tail_cons,V.getI,V.getS,hw]
   refine aD (MN l[i] name (hv _ (List.getElem_mem hlt)) hn) ?_
   simp only[V.getB,List.headD_cons,Ob.getC,V.getS]
   rw[hd,lL]
   by_cases hc:low l[i].1=low name
   ·simp only[hc,beq_self_eq_true,if_true,Option.map_some,Nat.zero_add,qO]
    exact aG _
   ·have hb:(low l[i].1==low name)=false:=by simpa using hc
    simp only[hb,hc,Bool.false_eq_true,if_false]
    have:=ih (i+1) (by omega) (by omega)
    have e:((lL (l.drop (i+1)) name).map (· +1)).map (· +i)=(lL (l.drop (i+1)) name).map (· +(i+1)):=by
     rw[Option.map_map];congr 1;funext x;simp only[Function.comp];omega
    rw[e]
    exact this
  ·exact fin i (by omega)
def qP:Option Fd→V
 |some f=> .tup [fdV f, .bool true]
 |none=> .tup [.agg [.str [], .int .i64 0, .int .i64 0, .int .i64 0], .bool false]
theorem AN (l:List Fd) (hl:l.length≤1000000) (hv:∀f∈l,f.1.length≤1000000) (name:Bs) (hn:name.length≤1000000):
  Ret 33 [.lst 91 false (l.map fdV), .str name] [] (qP (dP l name),[]):=by
 refine M33 (l.map fdV) name ?_
 simp only[T33,List.length_map]
 have h88:Ret 67 [.lst 91 false (l.map fdV), .clo (Fn.func 68) [] [.ref 0 0]] [.cells [.str name]] (.int .i64 (qO (lL l name)),[.cells [.str name]]):=by
  refine M67 (l.map fdV) name ?_
  simp only[T67,List.length_map]
  have:=KN name hn l hl hv l.length 0 (by omega) (by omega)
  simpa using this
 refine aD h88 ?_
 have hgi:∀z:Int,(V.int .i64 z).getI=z:=fun _=>rfl
 simp only[hgi]
 cases he:lL l name with
 |none=>
  have hoi:qO none= -1:=rfl
  have h3:((-1:Int)<(0:Int)):=by omega
  rw[yJ he]
  simp only[hoi,h3,decide_true,if_true]
  exact aG _
 |some k=>
  obtain⟨hk,hfd⟩:=yI he
  have hoi:qO (some k)=(k:Int):=rfl
  have h3:¬((k:Int)<(0:Int)):=by omega
  have h4:(0:Int)≤(k:Int):=by omega
  have h5:(k:Int)<(l.length:Int):=by omega
  rw[hfd]
  simp only[hoi]
  simp only[h3,decide_false,Bool.false_eq_true,if_false,aI h4,aI h5,Int.toNat_natCast,BC hk,fdV,V.cells,List.headD_cons,List.tail_cons,hgi,V.getS,qP]
  exact aG _
end Go.Proofs.YtdoaoaicdimbeaaGreatDoor
end
section
namespace Go.Proofs.YtdoaoaicdimbeaaGreatDoor
open Go.Ev Go
def jD:Bs→Bs
 |[]=>[]
 |c::r=>if dD c then jD r else c::r
def jB (s:Bs):Nat→Bs
 |0=>[]
 |n+1=>if dD (s.getD n 0)then jB s n else s.take (n+1)
def trimF (s:Bs):Bs:=jB (jD s) (jD s).length
theorem C2:∀s:Bs,(jD s).length≤s.length
 |[]=>Nat.le_refl _
 |c::r=>by
  unfold jD
  split
  ·have:=C2 r;simp;omega
  ·exact Nat.le_refl _
theorem AO (s:Bs):∀n,(jB s n).length≤s.length
 |0=>by simp[jB]
 |n+1=>by
  unfold jB
  split
  ·exact AO s n
  ·simp;omega
theorem Hn (s:Bs):(trimF s).length≤s.length:=Nat.le_trans (AO _ _) (C2 s)
theorem tW (s:Bs) (hs:s.length≤9000000000000000000):∀n,n≤s.length→Evt (fun k j=>(iP (aA cfg k) j).2 (s.take n)) (.str (jB s n),[])
 |0,hn=>by
  refine G5 (s.take 0) ?_
  simp only[List.take_zero,xT,List.length_nil,jB]
  exact aG _
 |n+1,hn=>by
  refine G5 (s.take (n+1)) ?_
  have hl:(s.take (n+1)).length=n+1:=by simp;omega
  have h1:(((n+1:Nat):Int)>0):=by omega
  have hw:IntKind.wrap .i64 (((n+1:Nat):Int) - 1)=(n:Int):=by rw[wrap64 (by omega) (by omega)];omega
  have h2:(0:Int)≤(n:Int):=by omega
  have h3:(n:Int)<((n+1:Nat):Int):=by omega
  have h4:(n:Int)≤((n+1:Nat):Int):=by omega
  have hlt:n<s.length:=by omega
  have hg:(s.take (n+1)).getD n 0=s[n]:=by simp[List.getD,List.getElem?_take,hlt]
  have htt:List.drop 0 (List.take n (s.take (n+1)))=s.take n:=by rw[List.drop_zero,List.take_take];congr 1;omega
  have hgs:s.getD n 0=s[n]:=getD_at hlt
  simp only[xT,hl,h1,decide_true,if_true,hw,aI h2,aI h3,aI h4,aI (show(0:Int)≤0 by omega),Int.toNat_natCast,hg,Int.toNat_zero,htt]
  refine aD (qN s[n]) ?_
  unfold jB
  rw[hgs]
  cases hb:dD s[n]
  ·simp only[V.getB,Bool.false_eq_true,if_false];exact aG _
  ·simp only[V.getB,if_true];exact tW s hs n (by omega)
theorem AP:∀s:Bs,s.length≤9000000000000000000→Evt (fun k j=>(iP (aA cfg k) j).1 s) (.str (trimF s),[])
 |[],hs=>by
  refine G4 [] ?_
  have:=tW [] (by simp) 0 (by simp)
  simp only[xR,List.length_nil]
  simpa[trimF,jD,jB]using this
 |c::r,hs=>by
  refine G4 (c::r) ?_
  have h1:((((c::r).length:Nat):Int)>0):=by simp
  have h2:((0:Int)<(((c::r).length:Nat):Int)):=h1
  have h3:((1:Int)≤(((c::r).length:Nat):Int)):=by omega
  simp only[xR,h1,decide_true,if_true,aI h2,aI h3,aI (show(0:Int)≤0 by omega),aI (show(0:Int)≤1 by omega),Int.toNat_zero,List.getD_cons_zero,Int.toNat_one,List.drop_one,List.tail_cons,cS]
  refine aD (qN c) ?_
  cases hb:dD c
  ·simp only[V.getB,Bool.false_eq_true,if_false]
   have:=tW (c::r) hs (c::r).length (Nat.le_refl _)
   rw[List.take_length]at this
   have e:jD (c::r)=c::r:=by unfold jD;rw[hb];rfl
   unfold trimF
   rw[e]
   exact this
  ·simp only[V.getB,if_true]
   have e:trimF (c::r)=trimF r:=by
    unfold trimF
    have:jD (c::r)=jD r:=by
     conv=>lhs;unfold jD
     rw[hb];rfl
    rw[this]
   rw[e]
   exact AP r (by simp at hs;omega)
theorem Ho (s:Bs) (hs:s.length≤9000000000000000000):Ret 105 [.str s] [] (.str (trimF s),[]):=by
 refine OC s ?_
 exact AP s hs
theorem MO (o s:Bs) (h:o.length+s.length≤35000000000000):
  Ret 27 [.ref 0 0, .str s] [.cells [.opt 0 0, .lst 5 true (ofBytes o)]] (.tup [.int .i64 (s.length:Nat), .raw .nilIface],[.cells [.opt 0 0, .lst 5 true (ofBytes (o++s))]]):=by
 refine M27 (ofBytes o) s ?_
 have h108:Ret 54 [.ref 0 0] [.cells [.opt 0 0, .lst 5 true (ofBytes o)]] (.tup [],[.cells [.opt 0 0, .lst 5 true (ofBytes o)]]):=gB (h:=xA) (by kernel_rfl) rfl
 have hap:lM (ofBytes o) s 2=true:=by simp[lM,cD];omega
 have hof:ofBytes o++ofBytes s=ofBytes (o++s):=by simp[ofBytes]
 simp only[T27]
 refine aD h108 ?_
 simp only[List.headD_cons,Ob.getC,List.tail_cons,V.getL,cG hap,hof]
 exact aG _
def gV (b:Bs) (f:Fd):Bs:=trimF ((aS f.2.2.1 f.2.2.2 b).flatMap (bM b))
theorem yK:∀(n a:Nat) (s:Bs),((eJ n a s).map fun x=>x.2.1 - x.1).sum≤s.length
 |0,a,s=>by simp[eJ]
 |n+1,a,s=>by
  unfold eJ
  split
  ·simp
  ·split
   ·simp
   ·rename_i hk
    obtain⟨k,hk'⟩:∃k:Nat,Lib.indexByte s 10=k:=⟨(Lib.indexByte s 10).toNat,by omega⟩
    have hks:k<s.length:=(List.getElem?_eq_some_iff.1 (Lib.indexByte_some hk').1).1
    have:=yK n (a+k+1) (s.drop (k+1))
    rw[List.length_drop]at this
    rw[hk']
    simp only[Int.toNat_natCast,List.map_cons,List.sum_cons]
    split<;>omega
theorem pW (b:Bs):∀l:List Ln,(l.flatMap (bM b)).length≤(l.map fun x=>x.2.1 - x.1).sum
 |[]=>by simp
 |x::r=>by
  have:=pW b r
  have h:(bM b x).length≤x.2.1 - x.1:=by
   unfold bM Eb
   split
   ·simp;omega
   ·simp
  simp only[List.flatMap_cons,List.length_append,List.map_cons,List.sum_cons]
  omega
theorem mO (fr to:Int) (b:Bs):((aS fr to b).flatMap (bM b)).length≤b.length:=by
 refine Nat.le_trans (pW b _) ?_
 unfold aS
 split
 ·exact Nat.le_trans (yK _ _ _) (by simp;omega)
 ·simp
theorem C3 (b:Bs) (f:Fd):(gV b f).length≤b.length:=Nat.le_trans (Hn _) (mO _ _ _)
theorem Hp (b:Bs) (l:List Ln) (hl:l.length≤1000000) (hb:b.length≤1000000) (hsum:(l.flatMap (bM b)).length≤1000000) (a:Bs) (p q r:Int):∀(n i:Nat),l.length - i=n→i≤l.length→
  Evt (fun k j=>L70 (aA cfg k) j (ofBytes b) (l.map lnV) (l.length:Nat) (i:Nat) a p q r (ofBytes ((l.take i).flatMap (bM b)))) (.str (trimF (l.flatMap (bM b))),[])
 |0,i,h,hi=>by
  have hil:i=l.length:=by omega
  subst hil
  rw[List.take_length]
  refine JL (ofBytes b) (l.map lnV) (l.length:Nat) (l.length:Nat) a p q r (ofBytes (l.flatMap (bM b))) ?_
  have h1:¬((l.length:Int)<(l.length:Int)):=by omega
  have h92:Ret 29 [.ref 0 0] [.cells [.opt 0 0, .lst 5 true (ofBytes (l.flatMap (bM b)))]] (.str (l.flatMap (bM b)),[.cells [.opt 0 0, .lst 5 false (ofBytes (l.flatMap (bM b)))]]):=by
   refine gB (h:=Go.Ev.textF) (by kernel_rfl) ?_
   have h2:=pT (l.flatMap (bM b))
   have h3:(ofBytes (l.flatMap (bM b))).length<1152921504606846976:=by rw[cD];omega
   simp only[Go.Ev.textF,h2,h3,decide_true,Bool.and_self,if_true,dL]
  simp only[CY,h1,decide_false,Bool.false_eq_true,if_false]
  refine aD h92 ?_
  simp only[V.getS]
  refine aD (Ho (l.flatMap (bM b)) (by omega)) ?_
  exact aG _
 |n+1,i,h,hi=>by
  have hlt:i<l.length:=by omega
  refine JL (ofBytes b) (l.map lnV) (l.length:Nat) (i:Nat) a p q r (ofBytes ((l.take i).flatMap (bM b))) ?_
  have h1:((i:Int)<(l.length:Int)):=by omega
  have h2:(0:Int)≤(i:Int):=by omega
  have hw:IntKind.wrap .i64 ((i:Int)+1)=((i+1:Nat):Int):=by rw[wrap64 (by omega) (by omega)];omega
  have h57:Ret 64 [.lst 5 false (ofBytes b), .agg [.int .i64 (l[i].1:Nat), .int .i64 (l[i].2.1:Nat), .int .i64 (l[i].2.2:Nat)]] [] (.str (bM b l[i]),[]):=Hl b l[i]
  have htake:(l.take (i+1)).flatMap (bM b)=(l.take i).flatMap (bM b)++bM b l[i]:=by
   rw[List.take_add_one,List.getElem?_eq_getElem hlt,Option.toList_some,List.flatMap_append]
   simp only[List.flatMap_cons,List.flatMap_nil,List.append_nil]
  have hle:((l.take (i+1)).flatMap (bM b)).length≤1000000:=by
   have e:l.flatMap (bM b)=(l.take (i+1)).flatMap (bM b)++(l.drop (i+1)).flatMap (bM b):=by rw[←List.flatMap_append,List.take_append_drop]
   rw[e,List.length_append]at hsum;omega
  simp only[CY,h1,decide_true,if_true,aI h2,List.length_map,cS,Int.toNat_natCast,oW hlt,lnV,V.cells,List.headD_cons,List.tail_cons,V.getI,hw]
  refine aD h57 ?_
  simp only[V.getS]
  refine aD (MO ((l.take i).flatMap (bM b)) (bM b l[i]) (by rw[htake,List.length_append]at hle;omega)) ?_
  simp only[List.headD_cons,Ob.getC,List.tail_cons,V.getL]
  rw[←htake]
  exact Hp b l hl hb hsum a p q r n (i+1) (by omega) (by omega)
theorem JO (b:Bs) (hb:b.length≤1000000) (f:Fd):Ret 70 [.lst 5 false (ofBytes b),fdV f] [] (.str (gV b f),[]):=by
 obtain⟨a,p,q,r⟩:=f
 refine M70 (ofBytes b) a p q r ?_
 simp only[T70]
 refine aD (Hk b hb q r) ?_
 have h1:=dC q r b
 have h2:=mO q r b
 simp only[V.getL,List.length_map]
 have:=Hp b (aS q r b) (by omega) hb (by omega) a p q r (aS q r b).length 0 (by omega) (by omega)
 simp only[List.take_zero,List.flatMap_nil]at this
 exact this
def aW (b:Bs) (l:List Fd) (name:Bs):Bs:=match dP l name with|some f=>gV b f|none=>[]
theorem tX (b:Bs) (l:List Fd) (name:Bs):(aW b l name).length≤b.length:=by
 unfold aW
 split
 ·exact C3 b _
 ·simp
theorem nU (b:Bs) (hb:b.length≤1000000) (l:List Fd) (hl:l.length≤1000000) (hv:∀f∈l,f.1.length≤1000000) (name:Bs) (hn:name.length≤1000000):
  Ret 34 [.lst 5 false (ofBytes b), .lst 91 false (l.map fdV), .str name] [] (.str (aW b l name),[]):=by
 refine M34 (ofBytes b) (l.map fdV) name ?_
 simp only[T34]
 refine aD (AN l hl hv name hn) ?_
 unfold aW
 cases dP l name with
 |none=>
  simp only[qP,V.getT,List.tail_cons,List.headD_cons,V.getB,Bool.not_false,if_true]
  exact aG _
 |some f=>
  have h66:Ret 70 [.lst 5 false (ofBytes b), .agg [.str f.1, .int .i64 f.2.1, .int .i64 f.2.2.1, .int .i64 f.2.2.2]] [] (.str (gV b f),[]):=JO b hb f
  simp only[qP,V.getT,List.tail_cons,List.headD_cons,V.getB,Bool.not_true,Bool.false_eq_true,if_false,fdV,V.cells,V.getS,V.getI]
  refine aD h66 ?_
  exact aG _
end Go.Proofs.YtdoaoaicdimbeaaGreatDoor
end
section
namespace Go.Proofs.YtdoaoaicdimbeaaGreatDoor
open Go.Ev Go
open List (headD tail getD length drop take)
open V (getI getL getT getS getB)
set_option maxRecDepth 100000
variable (call : FuncId → Fun) (icall : aQ (V × List Ob)) (again : List It → St → Option (V × List Ob))
def T57 (call:FuncId→Fun) (a0:List V) (a1:Int) (a2:List V) (a3:Bool):Option (V×List Ob):=
 Option.bind (call 34 [(V.lst 5 false a0),(V.lst 91 false a2),(V.str [99,111,110,116,101,110,116,45,116,121,112,101])] []) fun z0=>
 Option.bind (call 99 [(V.str (getS z0.1)),(V.bool true)] []) fun z1=>
 if(getB (headD (tail (getT z1.1)) V.bot))=true then
 some ((V.agg [(V.str (getS (headD (V.cells (headD (getT z1.1) V.bot)) V.bot))),(V.str (getS (headD (tail (V.cells (headD (getT z1.1) V.bot))) V.bot))),(V.lst 176 false (getL (headD (tail (tail (V.cells (headD (getT z1.1) V.bot)))) V.bot)))]),[(Ob.cells [(V.lst 5 false a0),(V.int .i64 a1)])])
 else
 if a3=true then
 some ((V.agg [(V.str [109,101,115,115,97,103,101]),(V.str [114,102,99,56,50,50]),(V.lst 176 false [])]),[(Ob.cells [(V.lst 5 false a0),(V.int .i64 a1)])])
 else
 some ((V.agg [(V.str [116,101,120,116]),(V.str [112,108,97,105,110]),(V.lst 176 false [])]),[(Ob.cells [(V.lst 5 false a0),(V.int .i64 a1)])])
def O57 (a0:List V) (a1:Int):List Ob:=[Ob.cells [V.lst 5 false a0,V.int IntKind.i64 a1]]
def A57 (a2:List V) (a3:Bool):List V:=[V.ref 0 0,V.lst 91 false a2,V.bool a3]
theorem E57 (a0:List V) (a1:Int) (a2:List V) (a3:Bool):GO 57 Tryz.f57 (A57 a2 a3) (O57 a0 a1) call icall again=T57 call a0 a1 a2 a3:=by kernel_rfl
theorem C57 (k:Nat) (a0:List V) (a1:Int) (a2:List V) (a3:Bool):aA cfg (k+1) 57 (A57 a2 a3) (O57 a0 a1)=T57 (aA cfg k) a0 a1 a2 a3:=
 (show aA cfg (k+1) 57 (A57 a2 a3) (O57 a0 a1)=GO 57 Tryz.f57 (A57 a2 a3) (O57 a0 a1) (aA cfg k) (aE cfg (aA cfg k) 20) (RN 57 Tryz.f57 (O57 a0 a1) (aA cfg k) (aE cfg (aA cfg k) 20) k)by kernel_rfl).trans (E57 _ _ _ a0 a1 a2 a3)
theorem M57 (a0:List V) (a1:Int) (a2:List V) (a3:Bool) {r:V×List Ob} (h:Evt (fun k n=>T57 (aA cfg k) a0 a1 a2 a3) r):Ret 57 [V.ref 0 0,V.lst 91 false a2,V.bool a3] [Ob.cells [V.lst 5 false a0,V.int IntKind.i64 a1]] r:=aT (g:=fun k n=>T57 (aA cfg k) a0 a1 a2 a3) (fun k=>C57 k a0 a1 a2 a3) h
def C4 (call:FuncId→Fun) (ag0:List UInt8→List V→Int→List V→Int→Int→List V→Int→Int→Int→Int→Int→Int→Int→Option (V×List Ob)) (s0:List UInt8) (l1:List V) (i2:Int) (l3:List V) (i4:Int) (i5:Int) (l6:List V) (i7:Int) (i8:Int) (i9:Int) (i10:Int) (i11:Int) (i12:Int) (i13:Int):Option (V×List Ob):=
 if(decide (i5<i4))=true then
 chk (decide (0≤i5)) (chk (decide (i5<((length l3:Nat):Int))) (Option.bind (call 64 [(V.lst 5 false l6),(V.agg [(V.int .i64 (getI (headD (V.cells (getD l3 (Int.toNat i5) V.bot)) V.bot))),(V.int .i64 (getI (headD (tail (V.cells (getD l3 (Int.toNat i5) V.bot))) V.bot))),(V.int .i64 (getI (headD (tail (tail (V.cells (getD l3 (Int.toNat i5) V.bot)))) V.bot)))])] []) fun z0=>
 Option.bind (call 100 [(V.str (getS z0.1)),(V.str s0)] []) fun z1=>
 if(!(getB (headD (getT z1.1) V.bot)))=true then
 (ag0 (s0) (l1) ((getI (headD (tail (V.cells (getD l3 (Int.toNat i5) V.bot))) V.bot))) (l3) (i4) ((IntKind.wrap .i64 (i5+(1:Int)))) (l6) (i7) (i8) (i9) (i10) (i11) (i12) (i13))
 else
 if(getB (headD (tail (getT z1.1)) V.bot))=true then
 some ((V.tup [(V.lst 32 false l1),(V.agg [(V.int .i64 i2),(V.int .i64 (getI (headD (tail (tail (V.cells (getD l3 (Int.toNat i5) V.bot)))) V.bot)))]),(V.bool (decide (((length l1:Nat):Int)>(0:Int))))]),[(Ob.cells [(V.lst 5 false l6),(V.int .i64 i7)])])
 else
 chk (bO l1 [(V.agg [(V.int .i64 i2),(V.int .i64 (getI (headD (tail (tail (V.cells (getD l3 (Int.toNat i5) V.bot)))) V.bot)))])] 17) ((ag0 (s0) ((l1++[(V.agg [(V.int .i64 i2),(V.int .i64 (getI (headD (tail (tail (V.cells (getD l3 (Int.toNat i5) V.bot)))) V.bot)))])])) ((getI (headD (tail (tail (V.cells (getD l3 (Int.toNat i5) V.bot)))) V.bot))) (l3) (i4) ((IntKind.wrap .i64 (i5+(1:Int)))) (l6) (i7) (i8) (i9) (i10) (i11) (i12) (i13)))))
 else
 some ((V.tup [(V.lst 32 false l1),(V.agg [(V.int .i64 i12),(V.int .i64 i13)]),(V.bool (decide (((length l1:Nat):Int)>(0:Int))))]),[(Ob.cells [(V.lst 5 false l6),(V.int .i64 i7)])])
def T59 (call:FuncId→Fun) (ag0:List UInt8→List V→Int→List V→Int→Int→List V→Int→Int→Int→Int→Int→Int→Int→Option (V×List Ob)) (a0:List V) (a1:Int) (a2:Int) (a3:Int) (a4:List UInt8):Option (V×List Ob):=
 Option.bind (call 62 [(V.lst 5 false a0),(V.agg [(V.int .i64 a2),(V.int .i64 a3)])] []) fun z0=>
 (ag0 (a4) ([]) (a2) ((getL z0.1)) (((length (getL z0.1):Nat):Int)) ((0:Int)) (a0) (a1) (a2) (a3) ((0:Int)) ((0:Int)) (a3) (a3))
def O59 (a0:List V) (a1:Int):List Ob:=[Ob.cells [V.lst 5 false a0,V.int IntKind.i64 a1]]
def A59 (a2:Int) (a3:Int) (a4:List UInt8):List V:=[V.ref 0 0,V.agg [V.int IntKind.i64 a2,V.int IntKind.i64 a3],V.str a4]
def AQ (s0:List UInt8) (l1:List V) (i2:Int) (l3:List V) (i4:Int) (i5:Int) (l6:List V) (i7:Int) (i8:Int) (i9:Int) (i10:Int) (i11:Int) (i12:Int) (i13:Int):St:=⟨[(V.ref 0 0),V.bot,(V.str s0),V.bot,V.bot,V.bot,V.bot,(V.ref 2 0),V.bot,(V.lst 32 true l1),(V.ref 3 0),(V.int IntKind.i64 i2),V.bot,V.bot,V.bot,V.bot,V.bot,V.bot,V.bot,V.bot,V.bot,V.bot,V.bot,V.bot,V.bot,V.bot,V.bot,V.bot,V.bot,(V.lst 134 false l3),(V.int IntKind.i64 i4),(V.int IntKind.i64 i5)]++List.replicate 42 V.bot,[(Ob.cells [(V.lst 5 false l6),(V.int IntKind.i64 i7)]),(Ob.cells [(V.int IntKind.i64 i8),(V.int IntKind.i64 i9)]),(Ob.cells [(V.int IntKind.i64 i10),(V.int IntKind.i64 i11)]),(Ob.cells [(V.int IntKind.i64 i12),(V.int IntKind.i64 i13)])]⟩
theorem MP (a0:List V) (a1:Int) (s0:List UInt8) (l1:List V) (i2:Int) (l3:List V) (i4:Int) (i5:Int) (l6:List V) (i7:Int) (i8:Int) (i9:Int) (i10:Int) (i11:Int) (i12:Int) (i13:Int):
 RM 59 Tryz.f59 (O59 a0 a1) call icall again (aJ Tryz.f59 0) (AQ s0 l1 i2 l3 i4 i5 l6 i7 i8 i9 i10 i11 i12 i13)=C4 call (fun s0 l1 i2 l3 i4 i5 l6 i7 i8 i9 i10 i11 i12 i13=>again (aJ Tryz.f59 0) (AQ s0 l1 i2 l3 i4 i5 l6 i7 i8 i9 i10 i11 i12 i13)) s0 l1 i2 l3 i4 i5 l6 i7 i8 i9 i10 i11 i12 i13:=by kernel_rfl
theorem E59 (a0:List V) (a1:Int) (a2:Int) (a3:Int) (a4:List UInt8):GO 59 Tryz.f59 (A59 a2 a3 a4) (O59 a0 a1) call icall again=T59 call (fun s0 l1 i2 l3 i4 i5 l6 i7 i8 i9 i10 i11 i12 i13=>again (aJ Tryz.f59 0) (AQ s0 l1 i2 l3 i4 i5 l6 i7 i8 i9 i10 i11 i12 i13)) a0 a1 a2 a3 a4:=by kernel_rfl
def L59 (call:FuncId→Fun):Nat→(List UInt8→List V→Int→List V→Int→Int→List V→Int→Int→Int→Int→Int→Int→Int→Option (V×List Ob))
 |0=>fun _ _ _ _ _ _ _ _ _ _ _ _ _ _=>none
 |n+1=>C4 call (L59 call n)
theorem R59 (call:FuncId→Fun) (icall:aQ (V×List Ob)) (a0:List V) (a1:Int):∀n,(∀(s0:List UInt8) (l1:List V) (i2:Int) (l3:List V) (i4:Int) (i5:Int) (l6:List V) (i7:Int) (i8:Int) (i9:Int) (i10:Int) (i11:Int) (i12:Int) (i13:Int),RN 59 Tryz.f59 (O59 a0 a1) call icall n (aJ Tryz.f59 0) (AQ s0 l1 i2 l3 i4 i5 l6 i7 i8 i9 i10 i11 i12 i13)=(L59 call n) s0 l1 i2 l3 i4 i5 l6 i7 i8 i9 i10 i11 i12 i13)
 |0=>fun s0 l1 i2 l3 i4 i5 l6 i7 i8 i9 i10 i11 i12 i13=>rfl
 |n+1=>by
  have ih:=R59 call icall a0 a1 n
  exact fun s0 l1 i2 l3 i4 i5 l6 i7 i8 i9 i10 i11 i12 i13=>(MP call icall (RN 59 Tryz.f59 (O59 a0 a1) call icall n) a0 a1 s0 l1 i2 l3 i4 i5 l6 i7 i8 i9 i10 i11 i12 i13).trans (by rw[show(fun s0 l1 i2 l3 i4 i5 l6 i7 i8 i9 i10 i11 i12 i13=>RN 59 Tryz.f59 (O59 a0 a1) call icall n (aJ Tryz.f59 0) (AQ s0 l1 i2 l3 i4 i5 l6 i7 i8 i9 i10 i11 i12 i13))=(L59 call n)from(funext fun s0=>funext fun l1=>funext fun i2=>funext fun l3=>funext fun i4=>funext fun i5=>funext fun l6=>funext fun i7=>funext fun i8=>funext fun i9=>funext fun i10=>funext fun i11=>funext fun i12=>funext fun i13=>ih s0 l1 i2 l3 i4 i5 l6 i7 i8 i9 i10 i11 i12 i13)];rfl)
theorem C59 (k:Nat) (a0:List V) (a1:Int) (a2:Int) (a3:Int) (a4:List UInt8):aA cfg (k+1) 59 (A59 a2 a3 a4) (O59 a0 a1)=T59 (aA cfg k) (L59 (aA cfg k) k) a0 a1 a2 a3 a4:=by
 have ih:=R59 (aA cfg k) (aE cfg (aA cfg k) 20) a0 a1 k
 refine(show aA cfg (k+1) 59 (A59 a2 a3 a4) (O59 a0 a1)=GO 59 Tryz.f59 (A59 a2 a3 a4) (O59 a0 a1) (aA cfg k) (aE cfg (aA cfg k) 20) (RN 59 Tryz.f59 (O59 a0 a1) (aA cfg k) (aE cfg (aA cfg k) 20) k)by kernel_rfl).trans ((E59 _ _ _ a0 a1 a2 a3 a4).trans ?_)
 rw[show(fun s0 l1 i2 l3 i4 i5 l6 i7 i8 i9 i10 i11 i12 i13=>RN 59 Tryz.f59 (O59 a0 a1) (aA cfg k) (aE cfg (aA cfg k) 20) k (aJ Tryz.f59 0) (AQ s0 l1 i2 l3 i4 i5 l6 i7 i8 i9 i10 i11 i12 i13))=(L59 (aA cfg k) k)from(funext fun s0=>funext fun l1=>funext fun i2=>funext fun l3=>funext fun i4=>funext fun i5=>funext fun l6=>funext fun i7=>funext fun i8=>funext fun i9=>funext fun i10=>funext fun i11=>funext fun i12=>funext fun i13=>ih s0 l1 i2 l3 i4 i5 l6 i7 i8 i9 i10 i11 i12 i13)]
theorem M59 (a0:List V) (a1:Int) (a2:Int) (a3:Int) (a4:List UInt8) {r:V×List Ob} (h:Evt (fun k n=>T59 (aA cfg k) (L59 (aA cfg k) n) a0 a1 a2 a3 a4) r):Ret 59 [V.ref 0 0,V.agg [V.int IntKind.i64 a2,V.int IntKind.i64 a3],V.str a4] [Ob.cells [V.lst 5 false a0,V.int IntKind.i64 a1]] r:=aT (g:=fun k n=>T59 (aA cfg k) (L59 (aA cfg k) n) a0 a1 a2 a3 a4) (fun k=>C59 k a0 a1 a2 a3 a4) h
theorem JP (s0:List UInt8) (l1:List V) (i2:Int) (l3:List V) (i4:Int) (i5:Int) (l6:List V) (i7:Int) (i8:Int) (i9:Int) (i10:Int) (i11:Int) (i12:Int) (i13:Int) {r:V×List Ob} (h:Evt (fun k n=>C4 (aA cfg k) (L59 (aA cfg k) n) s0 l1 i2 l3 i4 i5 l6 i7 i8 i9 i10 i11 i12 i13) r):Evt (fun k n=>(L59 (aA cfg k) n) s0 l1 i2 l3 i4 i5 l6 i7 i8 i9 i10 i11 i12 i13) r:=aX (fun k n=>rfl) h
def AS (call:FuncId→Fun) (ag0:Int→Bool→List V→Int→Int→List V→Int→Int→Int→Int→Int→Int→List V→List V→Int→Int→Option (V×List Ob)) (i0:Int) (b1:Bool) (l2:List V) (i3:Int) (i4:Int) (l5:List V) (i6:Int) (i7:Int) (i8:Int) (i9:Int) (i10:Int) (i11:Int) (l12:List V) (l13:List V) (i14:Int) (i15:Int):Option (V×List Ob):=
 if(decide (i4<i3))=true then
 chk (decide (0≤i4)) (chk (decide (i4<((length l2:Nat):Int))) (if(decide ((IntKind.wrap .i64 (i4+(1:Int)))<((length l13:Nat):Int)))=true then
 chk (decide (0≤(IntKind.wrap .i64 (i4+(1:Int))))) (chk (decide ((IntKind.wrap .i64 (i4+(1:Int)))<((length l13:Nat):Int))) (Option.bind (call 31 [(V.ref 0 0),(V.agg [(V.int .i64 (getI (headD (tail (V.cells (getD l2 (Int.toNat i4) V.bot))) V.bot))),(V.int .i64 (if(getI (headD (tail (V.cells (getD l2 (Int.toNat i4) V.bot))) V.bot))>(getI (headD (V.cells (getD l13 (Int.toNat (IntKind.wrap .i64 (i4+(1:Int)))) V.bot)) V.bot))then(getI (headD (tail (V.cells (getD l2 (Int.toNat i4) V.bot))) V.bot))else(getI (headD (V.cells (getD l13 (Int.toNat (IntKind.wrap .i64 (i4+(1:Int)))) V.bot)) V.bot))))]),(V.int .i64 i0),(V.bool b1)] [(Ob.cells [(V.lst 5 false l5),(V.int .i64 i6)])]) fun z0=>
 chk (((length l12:Nat):Int)==((length l12:Nat):Int)) (chk (bO l12 [(V.agg [(V.int .i64 (getI (headD (V.cells z0.1) V.bot))),(V.int .i64 (getI (headD (tail (V.cells z0.1)) V.bot))),(V.int .i64 (getI (headD (tail (tail (V.cells z0.1))) V.bot))),(V.int .i64 (getI (headD (tail (tail (tail (V.cells z0.1)))) V.bot))),(V.int .i64 (getI (headD (tail (tail (tail (tail (V.cells z0.1))))) V.bot))),(V.lst 36 false (getL (headD (tail (tail (tail (tail (tail (V.cells z0.1)))))) V.bot))),(V.lst 32 false (getL (headD (tail (tail (tail (tail (tail (tail (V.cells z0.1))))))) V.bot))),(V.int .i64 (getI (headD (tail (tail (tail (tail (tail (tail (tail (V.cells z0.1)))))))) V.bot))),(V.int .i64 (getI (headD (tail (tail (tail (tail (tail (tail (tail (tail (V.cells z0.1))))))))) V.bot)))])] 105) ((ag0 (i0) (b1) (l2) (i3) ((IntKind.wrap .i64 (i4+(1:Int)))) ((getL (headD (Ob.getC (headD z0.2 Ob.dead)) V.bot))) ((getI (headD (tail (Ob.getC (headD z0.2 Ob.dead))) V.bot))) (i7) (i8) (i9) (i10) (i11) ((l12++[(V.agg [(V.int .i64 (getI (headD (V.cells z0.1) V.bot))),(V.int .i64 (getI (headD (tail (V.cells z0.1)) V.bot))),(V.int .i64 (getI (headD (tail (tail (V.cells z0.1))) V.bot))),(V.int .i64 (getI (headD (tail (tail (tail (V.cells z0.1)))) V.bot))),(V.int .i64 (getI (headD (tail (tail (tail (tail (V.cells z0.1))))) V.bot))),(V.lst 36 false (getL (headD (tail (tail (tail (tail (tail (V.cells z0.1)))))) V.bot))),(V.lst 32 false (getL (headD (tail (tail (tail (tail (tail (tail (V.cells z0.1))))))) V.bot))),(V.int .i64 (getI (headD (tail (tail (tail (tail (tail (tail (tail (V.cells z0.1)))))))) V.bot))),(V.int .i64 (getI (headD (tail (tail (tail (tail (tail (tail (tail (tail (V.cells z0.1))))))))) V.bot)))])])) (l13) (i14) (i15))))))
 else
 Option.bind (call 31 [(V.ref 0 0),(V.agg [(V.int .i64 (getI (headD (tail (V.cells (getD l2 (Int.toNat i4) V.bot))) V.bot))),(V.int .i64 (if(getI (headD (tail (V.cells (getD l2 (Int.toNat i4) V.bot))) V.bot))>i14 then(getI (headD (tail (V.cells (getD l2 (Int.toNat i4) V.bot))) V.bot))else i14))]),(V.int .i64 i0),(V.bool b1)] [(Ob.cells [(V.lst 5 false l5),(V.int .i64 i6)])]) fun z0=>
 chk (((length l12:Nat):Int)==((length l12:Nat):Int)) (chk (bO l12 [(V.agg [(V.int .i64 (getI (headD (V.cells z0.1) V.bot))),(V.int .i64 (getI (headD (tail (V.cells z0.1)) V.bot))),(V.int .i64 (getI (headD (tail (tail (V.cells z0.1))) V.bot))),(V.int .i64 (getI (headD (tail (tail (tail (V.cells z0.1)))) V.bot))),(V.int .i64 (getI (headD (tail (tail (tail (tail (V.cells z0.1))))) V.bot))),(V.lst 36 false (getL (headD (tail (tail (tail (tail (tail (V.cells z0.1)))))) V.bot))),(V.lst 32 false (getL (headD (tail (tail (tail (tail (tail (tail (V.cells z0.1))))))) V.bot))),(V.int .i64 (getI (headD (tail (tail (tail (tail (tail (tail (tail (V.cells z0.1)))))))) V.bot))),(V.int .i64 (getI (headD (tail (tail (tail (tail (tail (tail (tail (tail (V.cells z0.1))))))))) V.bot)))])] 105) ((ag0 (i0) (b1) (l2) (i3) ((IntKind.wrap .i64 (i4+(1:Int)))) ((getL (headD (Ob.getC (headD z0.2 Ob.dead)) V.bot))) ((getI (headD (tail (Ob.getC (headD z0.2 Ob.dead))) V.bot))) (i7) (i8) (i9) (i10) (i11) ((l12++[(V.agg [(V.int .i64 (getI (headD (V.cells z0.1) V.bot))),(V.int .i64 (getI (headD (tail (V.cells z0.1)) V.bot))),(V.int .i64 (getI (headD (tail (tail (V.cells z0.1))) V.bot))),(V.int .i64 (getI (headD (tail (tail (tail (V.cells z0.1)))) V.bot))),(V.int .i64 (getI (headD (tail (tail (tail (tail (V.cells z0.1))))) V.bot))),(V.lst 36 false (getL (headD (tail (tail (tail (tail (tail (V.cells z0.1)))))) V.bot))),(V.lst 32 false (getL (headD (tail (tail (tail (tail (tail (tail (V.cells z0.1))))))) V.bot))),(V.int .i64 (getI (headD (tail (tail (tail (tail (tail (tail (tail (V.cells z0.1)))))))) V.bot))),(V.int .i64 (getI (headD (tail (tail (tail (tail (tail (tail (tail (tail (V.cells z0.1))))))))) V.bot)))])])) (l13) (i14) (i15))))))
 else
 some ((V.tup []),[(Ob.cells [(V.lst 5 false l5),(V.int .i64 i6)]),(Ob.cells [(V.int .i64 i7),(V.int .i64 i8),(V.int .i64 i9),(V.int .i64 i10),(V.int .i64 i11),(V.lst 36 true l12),(V.lst 32 false l13),(V.int .i64 i14),(V.int .i64 i15)])])
def T60 (call:FuncId→Fun) (ag0:Int→Bool→List V→Int→Int→List V→Int→Int→Int→Int→Int→Int→List V→List V→Int→Int→Option (V×List Ob)) (a0:List V) (a1:Int) (a2:Int) (a3:Int) (a4:Int) (a5:Int) (a6:Int) (a7:List V) (a8:List V) (a9:Int) (a10:Int) (a11:Int) (a12:Bool):Option (V×List Ob):=
 (ag0 (a11) (a12) (a8) (((length a8:Nat):Int)) ((0:Int)) (a0) (a1) (a2) (a3) (a4) (a5) (a6) (a7) (a8) (a9) (a10))
def O60 (a0:List V) (a1:Int) (a2:Int) (a3:Int) (a4:Int) (a5:Int) (a6:Int) (a7:List V) (a8:List V) (a9:Int) (a10:Int):List Ob:=[Ob.cells [V.lst 5 false a0,V.int IntKind.i64 a1],Ob.cells [V.int IntKind.i64 a2,V.int IntKind.i64 a3,V.int IntKind.i64 a4,V.int IntKind.i64 a5,V.int IntKind.i64 a6,V.lst 36 true a7,V.lst 32 false a8,V.int IntKind.i64 a9,V.int IntKind.i64 a10]]
def A60 (a11:Int) (a12:Bool):List V:=[V.ref 0 0,V.ref 1 0,V.int IntKind.i64 a11,V.bool a12]
def AT (i0:Int) (b1:Bool) (l2:List V) (i3:Int) (i4:Int) (l5:List V) (i6:Int) (i7:Int) (i8:Int) (i9:Int) (i10:Int) (i11:Int) (l12:List V) (l13:List V) (i14:Int) (i15:Int):St:=⟨[(V.ref 0 0),(V.ref 1 0),(V.int IntKind.i64 i0),(V.bool b1),V.bot,V.bot,V.bot,V.bot,V.bot,V.bot,V.bot,V.bot,V.bot,V.bot,(V.lst 32 false l2),(V.int IntKind.i64 i3),(V.int IntKind.i64 i4)]++List.replicate 48 V.bot,[(Ob.cells [(V.lst 5 false l5),(V.int IntKind.i64 i6)]),(Ob.cells [(V.int IntKind.i64 i7),(V.int IntKind.i64 i8),(V.int IntKind.i64 i9),(V.int IntKind.i64 i10),(V.int IntKind.i64 i11),(V.lst 36 true l12),(V.lst 32 false l13),(V.int IntKind.i64 i14),(V.int IntKind.i64 i15)])]⟩
theorem MQ (a0:List V) (a1:Int) (a2:Int) (a3:Int) (a4:Int) (a5:Int) (a6:Int) (a7:List V) (a8:List V) (a9:Int) (a10:Int) (i0:Int) (b1:Bool) (l2:List V) (i3:Int) (i4:Int) (l5:List V) (i6:Int) (i7:Int) (i8:Int) (i9:Int) (i10:Int) (i11:Int) (l12:List V) (l13:List V) (i14:Int) (i15:Int):
 RM 60 Tryz.f60 (O60 a0 a1 a2 a3 a4 a5 a6 a7 a8 a9 a10) call icall again (aJ Tryz.f60 0) (AT i0 b1 l2 i3 i4 l5 i6 i7 i8 i9 i10 i11 l12 l13 i14 i15)=AS call (fun i0 b1 l2 i3 i4 l5 i6 i7 i8 i9 i10 i11 l12 l13 i14 i15=>again (aJ Tryz.f60 0) (AT i0 b1 l2 i3 i4 l5 i6 i7 i8 i9 i10 i11 l12 l13 i14 i15)) i0 b1 l2 i3 i4 l5 i6 i7 i8 i9 i10 i11 l12 l13 i14 i15:=by kernel_rfl
theorem E60 (a0:List V) (a1:Int) (a2:Int) (a3:Int) (a4:Int) (a5:Int) (a6:Int) (a7:List V) (a8:List V) (a9:Int) (a10:Int) (a11:Int) (a12:Bool):GO 60 Tryz.f60 (A60 a11 a12) (O60 a0 a1 a2 a3 a4 a5 a6 a7 a8 a9 a10) call icall again=T60 call (fun i0 b1 l2 i3 i4 l5 i6 i7 i8 i9 i10 i11 l12 l13 i14 i15=>again (aJ Tryz.f60 0) (AT i0 b1 l2 i3 i4 l5 i6 i7 i8 i9 i10 i11 l12 l13 i14 i15)) a0 a1 a2 a3 a4 a5 a6 a7 a8 a9 a10 a11 a12:=by kernel_rfl
def L60 (call:FuncId→Fun):Nat→(Int→Bool→List V→Int→Int→List V→Int→Int→Int→Int→Int→Int→List V→List V→Int→Int→Option (V×List Ob))
 |0=>fun _ _ _ _ _ _ _ _ _ _ _ _ _ _ _ _=>none
 |n+1=>AS call (L60 call n)
theorem R60 (call:FuncId→Fun) (icall:aQ (V×List Ob)) (a0:List V) (a1:Int) (a2:Int) (a3:Int) (a4:Int) (a5:Int) (a6:Int) (a7:List V) (a8:List V) (a9:Int) (a10:Int):∀n,(∀(i0:Int) (b1:Bool) (l2:List V) (i3:Int) (i4:Int) (l5:List V) (i6:Int) (i7:Int) (i8:Int) (i9:Int) (i10:Int) (i11:Int) (l12:List V) (l13:List V) (i14:Int) (i15:Int),RN 60 Tryz.f60 (O60 a0 a1 a2 a3 a4 a5 a6 a7 a8 a9 a10) call icall n (aJ Tryz.f60 0) (AT i0 b1 l2 i3 i4 l5 i6 i7 i8 i9 i10 i11 l12 l13 i14 i15)=(L60 call n) i0 b1 l2 i3 i4 l5 i6 i7 i8 i9 i10 i11 l12 l13 i14 i15)
 |0=>fun i0 b1 l2 i3 i4 l5 i6 i7 i8 i9 i10 i11 l12 l13 i14 i15=>rfl
 |n+1=>by
  have ih:=R60 call icall a0 a1 a2 a3 a4 a5 a6 a7 a8 a9 a10 n
  exact fun i0 b1 l2 i3 i4 l5 i6 i7 i8 i9 i10 i11 l12 l13 i14 i15=>(MQ call icall (RN 60 Tryz.f60 (O60 a0 a1 a2 a3 a4 a5 a6 a7 a8 a9 a10) call icall n) a0 a1 a2 a3 a4 a5 a6 a7 a8 a9 a10 i0 b1 l2 i3 i4 l5 i6 i7 i8 i9 i10 i11 l12 l13 i14 i15).trans (by rw[show(fun i0 b1 l2 i3 i4 l5 i6 i7 i8 i9 i10 i11 l12 l13 i14 i15=>RN 60 Tryz.f60 (O60 a0 a1 a2 a3 a4 a5 a6 a7 a8 a9 a10) call icall n (aJ Tryz.f60 0) (AT i0 b1 l2 i3 i4 l5 i6 i7 i8 i9 i10 i11 l12 l13 i14 i15))=(L60 call n)from(funext fun i0=>funext fun b1=>funext fun l2=>funext fun i3=>funext fun i4=>funext fun l5=>funext fun i6=>funext fun i7=>funext fun i8=>funext fun i9=>funext fun i10=>funext fun i11=>funext fun l12=>funext fun l13=>funext fun i14=>funext fun i15=>ih i0 b1 l2 i3 i4 l5 i6 i7 i8 i9 i10 i11 l12 l13 i14 i15)];rfl)
theorem C60 (k:Nat) (a0:List V) (a1:Int) (a2:Int) (a3:Int) (a4:Int) (a5:Int) (a6:Int) (a7:List V) (a8:List V) (a9:Int) (a10:Int) (a11:Int) (a12:Bool):aA cfg (k+1) 60 (A60 a11 a12) (O60 a0 a1 a2 a3 a4 a5 a6 a7 a8 a9 a10)=T60 (aA cfg k) (L60 (aA cfg k) k) a0 a1 a2 a3 a4 a5 a6 a7 a8 a9 a10 a11 a12:=by
 have ih:=R60 (aA cfg k) (aE cfg (aA cfg k) 20) a0 a1 a2 a3 a4 a5 a6 a7 a8 a9 a10 k
 refine(show aA cfg (k+1) 60 (A60 a11 a12) (O60 a0 a1 a2 a3 a4 a5 a6 a7 a8 a9 a10)=GO 60 Tryz.f60 (A60 a11 a12) (O60 a0 a1 a2 a3 a4 a5 a6 a7 a8 a9 a10) (aA cfg k) (aE cfg (aA cfg k) 20) (RN 60 Tryz.f60 (O60 a0 a1 a2 a3 a4 a5 a6 a7 a8 a9 a10) (aA cfg k) (aE cfg (aA cfg k) 20) k)by kernel_rfl).trans ((E60 _ _ _ a0 a1 a2 a3 a4 a5 a6 a7 a8 a9 a10 a11 a12).trans ?_)
 rw[show(fun i0 b1 l2 i3 i4 l5 i6 i7 i8 i9 i10 i11 l12 l13 i14 i15=>RN 60 Tryz.f60 (O60 a0 a1 a2 a3 a4 a5 a6 a7 a8 a9 a10) (aA cfg k) (aE cfg (aA cfg k) 20) k (aJ Tryz.f60 0) (AT i0 b1 l2 i3 i4 l5 i6 i7 i8 i9 i10 i11 l12 l13 i14 i15))=(L60 (aA cfg k) k)from(funext fun i0=>funext fun b1=>funext fun l2=>funext fun i3=>funext fun i4=>funext fun l5=>funext fun i6=>funext fun i7=>funext fun i8=>funext fun i9=>funext fun i10=>funext fun i11=>funext fun l12=>funext fun l13=>funext fun i14=>funext fun i15=>ih i0 b1 l2 i3 i4 l5 i6 i7 i8 i9 i10 i11 l12 l13 i14 i15)]
theorem M60 (a0:List V) (a1:Int) (a2:Int) (a3:Int) (a4:Int) (a5:Int) (a6:Int) (a7:List V) (a8:List V) (a9:Int) (a10:Int) (a11:Int) (a12:Bool) {r:V×List Ob} (h:Evt (fun k n=>T60 (aA cfg k) (L60 (aA cfg k) n) a0 a1 a2 a3 a4 a5 a6 a7 a8 a9 a10 a11 a12) r):Ret 60 [V.ref 0 0,V.ref 1 0,V.int IntKind.i64 a11,V.bool a12] [Ob.cells [V.lst 5 false a0,V.int IntKind.i64 a1],Ob.cells [V.int IntKind.i64 a2,V.int IntKind.i64 a3,V.int IntKind.i64 a4,V.int IntKind.i64 a5,V.int IntKind.i64 a6,V.lst 36 true a7,V.lst 32 false a8,V.int IntKind.i64 a9,V.int IntKind.i64 a10]] r:=aT (g:=fun k n=>T60 (aA cfg k) (L60 (aA cfg k) n) a0 a1 a2 a3 a4 a5 a6 a7 a8 a9 a10 a11 a12) (fun k=>C60 k a0 a1 a2 a3 a4 a5 a6 a7 a8 a9 a10 a11 a12) h
theorem JQ (i0:Int) (b1:Bool) (l2:List V) (i3:Int) (i4:Int) (l5:List V) (i6:Int) (i7:Int) (i8:Int) (i9:Int) (i10:Int) (i11:Int) (l12:List V) (l13:List V) (i14:Int) (i15:Int) {r:V×List Ob} (h:Evt (fun k n=>AS (aA cfg k) (L60 (aA cfg k) n) i0 b1 l2 i3 i4 l5 i6 i7 i8 i9 i10 i11 l12 l13 i14 i15) r):Evt (fun k n=>(L60 (aA cfg k) n) i0 b1 l2 i3 i4 l5 i6 i7 i8 i9 i10 i11 l12 l13 i14 i15) r:=aX (fun k n=>rfl) h
def T61 (call:FuncId→Fun) (a0:List V) (a1:Int) (a2:List V):Option (V×List Ob):=
 Option.bind (call 33 [(V.lst 91 false a2),(V.str [99,111,110,116,101,110,116,45,116,114,97,110,115,102,101,114,45,101,110,99,111,100,105,110,103])] []) fun z0=>
 if(!(getB (headD (tail (getT z0.1)) V.bot)))=true then
 some ((V.bool true),[(Ob.cells [(V.lst 5 false a0),(V.int .i64 a1)])])
 else
 Option.bind (call 70 [(V.lst 5 false a0),(V.agg [(V.str (getS (headD (V.cells (headD (getT z0.1) V.bot)) V.bot))),(V.int .i64 (getI (headD (tail (V.cells (headD (getT z0.1) V.bot))) V.bot))),(V.int .i64 (getI (headD (tail (tail (V.cells (headD (getT z0.1) V.bot)))) V.bot))),(V.int .i64 (getI (headD (tail (tail (tail (V.cells (headD (getT z0.1) V.bot))))) V.bot)))])] []) fun z1=>
 Option.bind (call 73 [(V.str (getS z1.1))] []) fun z2=>
 if(sEq (getS z2.1) [55,98,105,116])=true then
 some ((V.bool true),[(Ob.cells [(V.lst 5 false a0),(V.int .i64 a1)])])
 else
 if(sEq (getS z2.1) [56,98,105,116])=true then
 some ((V.bool true),[(Ob.cells [(V.lst 5 false a0),(V.int .i64 a1)])])
 else
 if(sEq (getS z2.1) [98,105,110,97,114,121])=true then
 some ((V.bool true),[(Ob.cells [(V.lst 5 false a0),(V.int .i64 a1)])])
 else
 some ((V.bool false),[(Ob.cells [(V.lst 5 false a0),(V.int .i64 a1)])])
def O61 (a0:List V) (a1:Int):List Ob:=[Ob.cells [V.lst 5 false a0,V.int IntKind.i64 a1]]
def A61 (a2:List V):List V:=[V.ref 0 0,V.lst 91 false a2]
theorem E61 (a0:List V) (a1:Int) (a2:List V):GO 61 Tryz.f61 (A61 a2) (O61 a0 a1) call icall again=T61 call a0 a1 a2:=by kernel_rfl
theorem C61 (k:Nat) (a0:List V) (a1:Int) (a2:List V):aA cfg (k+1) 61 (A61 a2) (O61 a0 a1)=T61 (aA cfg k) a0 a1 a2:=
 (show aA cfg (k+1) 61 (A61 a2) (O61 a0 a1)=GO 61 Tryz.f61 (A61 a2) (O61 a0 a1) (aA cfg k) (aE cfg (aA cfg k) 20) (RN 61 Tryz.f61 (O61 a0 a1) (aA cfg k) (aE cfg (aA cfg k) 20) k)by kernel_rfl).trans (E61 _ _ _ a0 a1 a2)
theorem M61 (a0:List V) (a1:Int) (a2:List V) {r:V×List Ob} (h:Evt (fun k n=>T61 (aA cfg k) a0 a1 a2) r):Ret 61 [V.ref 0 0,V.lst 91 false a2] [Ob.cells [V.lst 5 false a0,V.int IntKind.i64 a1]] r:=aT (g:=fun k n=>T61 (aA cfg k) a0 a1 a2) (fun k=>C61 k a0 a1 a2) h
def T31 (call:FuncId→Fun) (a0:List V) (a1:Int) (a2:Int) (a3:Int) (a4:Int) (a5:Bool):Option (V×List Ob):=
 Option.bind (call 32 [(V.lst 5 false a0),(V.agg [(V.int .i64 a2),(V.int .i64 a3)])] []) fun z0=>
 if(a4==(32:Int))=true then
 some ((V.agg [(V.int .i64 0),(V.int .i64 a2),(V.int .i64 (getI (headD (tail (getT z0.1)) V.bot))),(V.int .i64 (getI (headD (tail (getT z0.1)) V.bot))),(V.int .i64 a3),(V.lst 36 false []),(V.lst 32 false []),(V.int .i64 0),(V.int .i64 0)]),[(Ob.cells [(V.lst 5 false a0),(V.int .i64 a1)])])
 else
 Option.bind (call 57 [(V.ref 0 0),(V.lst 91 false (getL (headD (getT z0.1) V.bot))),(V.bool a5)] [(Ob.cells [(V.lst 5 false a0),(V.int .i64 a1)])]) fun z1=>
 Option.bind (call 58 [(V.agg [(V.str (getS (headD (V.cells z1.1) V.bot))),(V.str (getS (headD (tail (V.cells z1.1)) V.bot))),(V.lst 176 false (getL (headD (tail (tail (V.cells z1.1))) V.bot)))]),(V.str [98,111,117,110,100,97,114,121])] []) fun z2=>
 Option.bind (if(sEq (getS (headD (V.cells z1.1) V.bot)) [109,117,108,116,105,112,97,114,116])=true then
 if(!(sEq (getS (headD (getT z2.1) V.bot)) []))=true then
 some (decide (((length (getS (headD (getT z2.1) V.bot)):Nat):Int)≤(70:Int)))
 else
 some false
 else
 some false) fun y3=>
 if y3=true then
 Option.bind (call 59 [(V.ref 0 0),(V.agg [(V.int .i64 (getI (headD (tail (getT z0.1)) V.bot))),(V.int .i64 a3)]),(V.str (getS (headD (getT z2.1) V.bot)))] [(Ob.cells [(V.lst 5 false (getL (headD (Ob.getC (headD z1.2 Ob.dead)) V.bot))),(V.int .i64 (getI (headD (tail (Ob.getC (headD z1.2 Ob.dead))) V.bot)))])]) fun z4=>
 Option.bind (if(getB (headD (tail (tail (getT z4.1))) V.bot))=true then
 some (decide ((IntKind.wrap .i64 ((getI (headD (tail (Ob.getC (headD z4.2 Ob.dead))) V.bot))+((length (getL (headD (getT z4.1) V.bot)):Nat):Int)))≤(1000:Int)))
 else
 some false) fun y5=>
 if y5=true then
 Option.bind (call 60 [(V.ref 0 0),(V.ref 1 0),(V.int .i64 (IntKind.wrap .i64 (a4+(1:Int)))),(V.bool (sEq (getS (headD (tail (V.cells z1.1)) V.bot)) [100,105,103,101,115,116]))] [(Ob.cells [(V.lst 5 false (getL (headD (Ob.getC (headD z4.2 Ob.dead)) V.bot))),(V.int .i64 (IntKind.wrap .i64 ((getI (headD (tail (Ob.getC (headD z4.2 Ob.dead))) V.bot))+((length (getL (headD (getT z4.1) V.bot)):Nat):Int))))]),(Ob.cells [(V.int .i64 1),(V.int .i64 a2),(V.int .i64 (getI (headD (tail (getT z0.1)) V.bot))),(V.int .i64 (getI (headD (tail (getT z0.1)) V.bot))),(V.int .i64 a3),(V.lst 36 true []),(V.lst 32 false (getL (headD (getT z4.1) V.bot))),(V.int .i64 (getI (headD (V.cells (headD (tail (getT z4.1)) V.bot)) V.bot))),(V.int .i64 (getI (headD (tail (V.cells (headD (tail (getT z4.1)) V.bot))) V.bot)))])]) fun z6=>
 some ((V.agg [(V.int .i64 (getI (headD (Ob.getC (headD (tail z6.2) Ob.dead)) V.bot))),(V.int .i64 (getI (headD (tail (Ob.getC (headD (tail z6.2) Ob.dead))) V.bot))),(V.int .i64 (getI (headD (tail (tail (Ob.getC (headD (tail z6.2) Ob.dead)))) V.bot))),(V.int .i64 (getI (headD (tail (tail (tail (Ob.getC (headD (tail z6.2) Ob.dead))))) V.bot))),(V.int .i64 (getI (headD (tail (tail (tail (tail (Ob.getC (headD (tail z6.2) Ob.dead)))))) V.bot))),(V.lst 36 false (getL (headD (tail (tail (tail (tail (tail (Ob.getC (headD (tail z6.2) Ob.dead))))))) V.bot))),(V.lst 32 false (getL (headD (tail (tail (tail (tail (tail (tail (Ob.getC (headD (tail z6.2) Ob.dead)))))))) V.bot))),(V.int .i64 (getI (headD (tail (tail (tail (tail (tail (tail (tail (Ob.getC (headD (tail z6.2) Ob.dead))))))))) V.bot))),(V.int .i64 (getI (headD (tail (tail (tail (tail (tail (tail (tail (tail (Ob.getC (headD (tail z6.2) Ob.dead)))))))))) V.bot)))]),[(Ob.cells [(V.lst 5 false (getL (headD (Ob.getC (headD z6.2 Ob.dead)) V.bot))),(V.int .i64 (getI (headD (tail (Ob.getC (headD z6.2 Ob.dead))) V.bot)))])])
 else
 some ((V.agg [(V.int .i64 0),(V.int .i64 a2),(V.int .i64 (getI (headD (tail (getT z0.1)) V.bot))),(V.int .i64 (getI (headD (tail (getT z0.1)) V.bot))),(V.int .i64 a3),(V.lst 36 false []),(V.lst 32 false []),(V.int .i64 0),(V.int .i64 0)]),[(Ob.cells [(V.lst 5 false (getL (headD (Ob.getC (headD z4.2 Ob.dead)) V.bot))),(V.int .i64 (getI (headD (tail (Ob.getC (headD z4.2 Ob.dead))) V.bot)))])])
 else
 if(sEq (getS (headD (V.cells z1.1) V.bot)) [109,101,115,115,97,103,101])=true then
 if(sEq (getS (headD (tail (V.cells z1.1)) V.bot)) [114,102,99,56,50,50])=true then
 Option.bind (call 61 [(V.ref 0 0),(V.lst 91 false (getL (headD (getT z0.1) V.bot)))] [(Ob.cells [(V.lst 5 false (getL (headD (Ob.getC (headD z1.2 Ob.dead)) V.bot))),(V.int .i64 (getI (headD (tail (Ob.getC (headD z1.2 Ob.dead))) V.bot)))])]) fun z4=>
 if(getB z4.1)=true then
 if(decide ((getI (headD (tail (Ob.getC (headD z4.2 Ob.dead))) V.bot))<(1000:Int)))=true then
 Option.bind (call 31 [(V.ref 0 0),(V.agg [(V.int .i64 (getI (headD (tail (getT z0.1)) V.bot))),(V.int .i64 a3)]),(V.int .i64 (IntKind.wrap .i64 (a4+(1:Int)))),(V.bool false)] [(Ob.cells [(V.lst 5 false (getL (headD (Ob.getC (headD z4.2 Ob.dead)) V.bot))),(V.int .i64 (IntKind.wrap .i64 ((getI (headD (tail (Ob.getC (headD z4.2 Ob.dead))) V.bot))+(1:Int))))])]) fun z5=>
 some ((V.agg [(V.int .i64 2),(V.int .i64 a2),(V.int .i64 (getI (headD (tail (getT z0.1)) V.bot))),(V.int .i64 (getI (headD (tail (getT z0.1)) V.bot))),(V.int .i64 a3),(V.lst 36 false [(V.agg [(V.int .i64 (getI (headD (V.cells z5.1) V.bot))),(V.int .i64 (getI (headD (tail (V.cells z5.1)) V.bot))),(V.int .i64 (getI (headD (tail (tail (V.cells z5.1))) V.bot))),(V.int .i64 (getI (headD (tail (tail (tail (V.cells z5.1)))) V.bot))),(V.int .i64 (getI (headD (tail (tail (tail (tail (V.cells z5.1))))) V.bot))),(V.lst 36 false (getL (headD (tail (tail (tail (tail (tail (V.cells z5.1)))))) V.bot))),(V.lst 32 false (getL (headD (tail (tail (tail (tail (tail (tail (V.cells z5.1))))))) V.bot))),(V.int .i64 (getI (headD (tail (tail (tail (tail (tail (tail (tail (V.cells z5.1)))))))) V.bot))),(V.int .i64 (getI (headD (tail (tail (tail (tail (tail (tail (tail (tail (V.cells z5.1))))))))) V.bot)))])]),(V.lst 32 false []),(V.int .i64 0),(V.int .i64 0)]),[(Ob.cells [(V.lst 5 false (getL (headD (Ob.getC (headD z5.2 Ob.dead)) V.bot))),(V.int .i64 (getI (headD (tail (Ob.getC (headD z5.2 Ob.dead))) V.bot)))])])
 else
 some ((V.agg [(V.int .i64 0),(V.int .i64 a2),(V.int .i64 (getI (headD (tail (getT z0.1)) V.bot))),(V.int .i64 (getI (headD (tail (getT z0.1)) V.bot))),(V.int .i64 a3),(V.lst 36 false []),(V.lst 32 false []),(V.int .i64 0),(V.int .i64 0)]),[(Ob.cells [(V.lst 5 false (getL (headD (Ob.getC (headD z4.2 Ob.dead)) V.bot))),(V.int .i64 (getI (headD (tail (Ob.getC (headD z4.2 Ob.dead))) V.bot)))])])
 else
 some ((V.agg [(V.int .i64 0),(V.int .i64 a2),(V.int .i64 (getI (headD (tail (getT z0.1)) V.bot))),(V.int .i64 (getI (headD (tail (getT z0.1)) V.bot))),(V.int .i64 a3),(V.lst 36 false []),(V.lst 32 false []),(V.int .i64 0),(V.int .i64 0)]),[(Ob.cells [(V.lst 5 false (getL (headD (Ob.getC (headD z4.2 Ob.dead)) V.bot))),(V.int .i64 (getI (headD (tail (Ob.getC (headD z4.2 Ob.dead))) V.bot)))])])
 else
 some ((V.agg [(V.int .i64 0),(V.int .i64 a2),(V.int .i64 (getI (headD (tail (getT z0.1)) V.bot))),(V.int .i64 (getI (headD (tail (getT z0.1)) V.bot))),(V.int .i64 a3),(V.lst 36 false []),(V.lst 32 false []),(V.int .i64 0),(V.int .i64 0)]),[(Ob.cells [(V.lst 5 false (getL (headD (Ob.getC (headD z1.2 Ob.dead)) V.bot))),(V.int .i64 (getI (headD (tail (Ob.getC (headD z1.2 Ob.dead))) V.bot)))])])
 else
 some ((V.agg [(V.int .i64 0),(V.int .i64 a2),(V.int .i64 (getI (headD (tail (getT z0.1)) V.bot))),(V.int .i64 (getI (headD (tail (getT z0.1)) V.bot))),(V.int .i64 a3),(V.lst 36 false []),(V.lst 32 false []),(V.int .i64 0),(V.int .i64 0)]),[(Ob.cells [(V.lst 5 false (getL (headD (Ob.getC (headD z1.2 Ob.dead)) V.bot))),(V.int .i64 (getI (headD (tail (Ob.getC (headD z1.2 Ob.dead))) V.bot)))])])
def O31 (a0:List V) (a1:Int):List Ob:=[Ob.cells [V.lst 5 false a0,V.int IntKind.i64 a1]]
def A31 (a2:Int) (a3:Int) (a4:Int) (a5:Bool):List V:=[V.ref 0 0,V.agg [V.int IntKind.i64 a2,V.int IntKind.i64 a3],V.int IntKind.i64 a4,V.bool a5]
theorem E31 (a0:List V) (a1:Int) (a2:Int) (a3:Int) (a4:Int) (a5:Bool):GO 31 Tryz.f31 (A31 a2 a3 a4 a5) (O31 a0 a1) call icall again=T31 call a0 a1 a2 a3 a4 a5:=by kernel_rfl
theorem C31 (k:Nat) (a0:List V) (a1:Int) (a2:Int) (a3:Int) (a4:Int) (a5:Bool):aA cfg (k+1) 31 (A31 a2 a3 a4 a5) (O31 a0 a1)=T31 (aA cfg k) a0 a1 a2 a3 a4 a5:=
 (show aA cfg (k+1) 31 (A31 a2 a3 a4 a5) (O31 a0 a1)=GO 31 Tryz.f31 (A31 a2 a3 a4 a5) (O31 a0 a1) (aA cfg k) (aE cfg (aA cfg k) 20) (RN 31 Tryz.f31 (O31 a0 a1) (aA cfg k) (aE cfg (aA cfg k) 20) k)by kernel_rfl).trans (E31 _ _ _ a0 a1 a2 a3 a4 a5)
theorem M31 (a0:List V) (a1:Int) (a2:Int) (a3:Int) (a4:Int) (a5:Bool) {r:V×List Ob} (h:Evt (fun k n=>T31 (aA cfg k) a0 a1 a2 a3 a4 a5) r):Ret 31 [V.ref 0 0,V.agg [V.int IntKind.i64 a2,V.int IntKind.i64 a3],V.int IntKind.i64 a4,V.bool a5] [Ob.cells [V.lst 5 false a0,V.int IntKind.i64 a1]] r:=aT (g:=fun k n=>T31 (aA cfg k) a0 a1 a2 a3 a4 a5) (fun k=>C31 k a0 a1 a2 a3 a4 a5) h
def T14 (call:FuncId→Fun) (a0:List V):Option (V×List Ob):=
 if(decide (((length a0:Nat):Int)>(67108864:Int)))=true then
 some ((V.tup [(V.agg [(V.int .i64 0),(V.int .i64 0),(V.int .i64 0),(V.int .i64 0),(V.int .i64 0),(V.lst 36 false []),(V.lst 32 false []),(V.int .i64 0),(V.int .i64 0)]),(V.int .i64 13)]),[])
 else
 Option.bind (call 31 [(V.ref 0 0),(V.agg [(V.int .i64 0),(V.int .i64 ((length a0:Nat):Int))]),(V.int .i64 0),(V.bool false)] [(Ob.cells [(V.lst 5 false a0),(V.int .i64 1)])]) fun z0=>
 some ((V.tup [(V.agg [(V.int .i64 (getI (headD (V.cells z0.1) V.bot))),(V.int .i64 (getI (headD (tail (V.cells z0.1)) V.bot))),(V.int .i64 (getI (headD (tail (tail (V.cells z0.1))) V.bot))),(V.int .i64 (getI (headD (tail (tail (tail (V.cells z0.1)))) V.bot))),(V.int .i64 (getI (headD (tail (tail (tail (tail (V.cells z0.1))))) V.bot))),(V.lst 36 false (getL (headD (tail (tail (tail (tail (tail (V.cells z0.1)))))) V.bot))),(V.lst 32 false (getL (headD (tail (tail (tail (tail (tail (tail (V.cells z0.1))))))) V.bot))),(V.int .i64 (getI (headD (tail (tail (tail (tail (tail (tail (tail (V.cells z0.1)))))))) V.bot))),(V.int .i64 (getI (headD (tail (tail (tail (tail (tail (tail (tail (tail (V.cells z0.1))))))))) V.bot)))]),(V.int .i64 0)]),[])
def A14 (a0:List V):List V:=[V.lst 5 false a0]
theorem E14 (a0:List V):GO 14 Tryz.f14 (A14 a0) [] call icall again=T14 call a0:=by kernel_rfl
theorem C14 (k:Nat) (a0:List V):aA cfg (k+1) 14 (A14 a0) []=T14 (aA cfg k) a0:=
 (show aA cfg (k+1) 14 (A14 a0) []=GO 14 Tryz.f14 (A14 a0) [] (aA cfg k) (aE cfg (aA cfg k) 20) (RN 14 Tryz.f14 [] (aA cfg k) (aE cfg (aA cfg k) 20) k)by kernel_rfl).trans (E14 _ _ _ a0)
theorem M14 (a0:List V) {r:V×List Ob} (h:Evt (fun k n=>T14 (aA cfg k) a0) r):Ret 14 [V.lst 5 false a0] [] r:=aT (g:=fun k n=>T14 (aA cfg k) a0) (fun k=>C14 k a0) h
end Go.Proofs.YtdoaoaicdimbeaaGreatDoor
end
section
namespace Go.Proofs.YtdoaoaicdimbeaaGreatDoor
open Go.Ev Go
def qQ (s:Bs):Bool:=trimF s==[]
def qR (text bd:Bs):Bool×Bool:=
 if text.length<2+bd.length∨text.take (2+bd.length)≠[45,45]++bd then(false,false)else
 if qQ (text.drop (2+bd.length))then(true,false)else
 if 2≤(text.drop (2+bd.length)).length∧(text.drop (2+bd.length)).take 2=[45,45]∧qQ ((text.drop (2+bd.length)).drop 2)=true then(true,true)else(false,false)
theorem Hq (s:Bs) (hs:s.length≤1000000):Ret 135 [.str s] [] (.bool (qQ s),[]):=by
 refine OP s ?_
 simp only[Hj]
 refine aD (Ho s (by omega)) ?_
 exact aG _
theorem KO (text bd:Bs) (ht:text.length≤1000000) (hb:bd.length≤1000000):Ret 100 [.str text, .str bd] [] (.tup [.bool (qR text bd).1, .bool (qR text bd).2],[]):=by
 refine OM text bd ?_
 have hw:IntKind.wrap .i64 ((2:Int)+(bd.length:Int))=((2+bd.length:Nat):Int):=by rw[wrap64 (by omega) (by omega)];omega
 have h0:(0:Int)≤((2+bd.length:Nat):Int):=by omega
 have hc:cI [45,45] bd=true:=gC (by simp;omega)
 simp only[Hi,hw]
 unfold qR
 by_cases h1:text.length<2+bd.length
 ·have h1' :(text.length:Int)<((2+bd.length:Nat):Int):=by omega
  simp only[h1',decide_true,Bool.true_eq_false,if_false,cY,if_true,h1,true_or]
  exact aG _
 ·have h1' :¬((text.length:Int)<((2+bd.length:Nat):Int)):=by omega
  have h2:((2+bd.length:Nat):Int)≤(text.length:Int):=by omega
  simp only[h1',decide_false,if_true,aI h0,aI h2,aI (show(0:Int)≤0 by omega),cG hc,Int.toNat_zero,Int.toNat_natCast,List.drop_zero,cY,h1,false_or]
  by_cases h3:text.take (2+bd.length)=[45,45]++bd
  ·have h3' :sEq (text.take (2+bd.length)) ([45,45]++bd)=true:=by simp[sEq,h3]
   simp only[h3',Bool.not_true,Bool.false_eq_true,if_false]
   simp only[h3,ne_eq,not_true_eq_false,if_false]
   have hr:(text.drop (2+bd.length)).length≤1000000:=by simp;omega
   obtain⟨rest,hrest⟩:∃rest,text.drop (2+bd.length)=rest:=⟨_,rfl⟩
   simp only[hrest]at hr ⊢
   refine aD (Hq rest hr) ?_
   simp only[V.getB]
   by_cases h4:qQ rest=true
   ·simp only[h4,if_true];exact aG _
   ·have h4' :qQ rest=false:=by simpa using h4
    simp only[h4',Bool.false_eq_true,if_false]
    by_cases h5:2≤rest.length
    ·have h5' :((rest.length:Int)≥(2:Int)):=by omega
     have h5'' :((2:Int)≤(rest.length:Int)):=by omega
     simp only[h5',decide_true,if_true,aI (show(0:Int)≤2 by omega),aI h5'',aI (show(0:Int)≤0 by omega),Int.toNat_zero,List.drop_zero,h5,true_and,show Int.toNat 2=2 from rfl,cS]
     by_cases h6:rest.take 2=[45,45]
     ·have h6' :sEq (rest.take 2) [45,45]=true:=by simp[sEq,h6]
      simp only[h6',if_true,h6,true_and]
      refine aD (Hq (rest.drop 2) (by simp;omega)) ?_
      simp only[V.getB]
      by_cases h7:qQ (rest.drop 2)=true
      ·simp only[h7,if_true];exact aG _
      ·have h7' :qQ (rest.drop 2)=false:=by simpa using h7
       simp only[h7',Bool.false_eq_true,if_false];exact aG _
     ·have h6' :sEq (rest.take 2) [45,45]=false:=by simp[sEq,h6]
      simp only[h6',Bool.false_eq_true,if_false,h6,false_and];exact aG _
    ·have h5' :¬((rest.length:Int)≥(2:Int)):=by omega
     simp only[h5',decide_false,Bool.false_eq_true,if_false,h5,false_and];exact aG _
  ·have h3' :sEq (text.take (2+bd.length)) ([45,45]++bd)=false:=beq_eq_false_iff_ne.2 h3
   simp only[h3',Bool.not_false,if_true]
   simp only[h3,ne_eq,not_false_eq_true,if_true]
   exact aG _
end Go.Proofs.YtdoaoaicdimbeaaGreatDoor
end
section
namespace Go.Proofs.YtdoaoaicdimbeaaGreatDoor
open Go.Ev Go
def mP (b bd:Bs):List Ln→List (Nat×Nat)→Nat→List (Nat×Nat)×Option (Nat×Nat)
 |[],out,_=>(out,none)
 |l::r,out,from_=>
  if(qR (bM b l) bd).1=false then mP b bd r out l.2.1
  else if(qR (bM b l) bd).2 then(out,some (from_,l.2.2))else mP b bd r (out++[(from_,l.2.2)]) l.2.2
def iT (b:Bs) (fr to:Nat) (bd:Bs):List (Nat×Nat)×(Nat×Nat):=((mP b bd (aS fr to b) [] fr).1,(mP b bd (aS fr to b) [] fr).2.getD (to,to))
def rQ (b:Bs) (n:Int):List Ob:=[.cells [.lst 5 false (ofBytes b), .int .i64 n]]
theorem Ed (b bd:Bs) (hb:b.length≤1000000) (hbd:bd.length≤1000000) (nn:Int) (l:List Ln) (hl:l.length≤1000000) (c d e f:Int) (fr to:Nat):∀(n i:Nat) (out:List (Nat×Nat)) (from_:Nat),l.length - i=n→i≤l.length→out.length≤i→
  Evt (fun k j=>L59 (aA cfg k) j bd (out.map cutV) (from_:Nat) (l.map lnV) (l.length:Nat) (i:Nat) (ofBytes b) nn c d e f (to:Nat) (to:Nat))
   (.tup [.lst 32 false ((mP b bd (l.drop i) out from_).1.map cutV),cutV ((mP b bd (l.drop i) out from_).2.getD (to,to)), .bool (decide (0<(mP b bd (l.drop i) out from_).1.length))],rQ b nn)
 |0,i,out,from_,h,hi,ho=>by
  refine JP bd (out.map cutV) (from_:Nat) (l.map lnV) (l.length:Nat) (i:Nat) (ofBytes b) nn c d e f (to:Nat) (to:Nat) ?_
  have h1:¬((i:Int)<(l.length:Int)):=by omega
  have h2:decide ((((out.map cutV).length:Nat):Int)>(0:Int))=decide (0<out.length):=by simp
  rw[List.drop_eq_nil_of_le (by omega)]
  simp only[C4,h1,decide_false,Bool.false_eq_true,if_false,mP,h2]
  exact aG _
 |n+1,i,out,from_,h,hi,ho=>by
  have hlt:i<l.length:=by omega
  refine JP bd (out.map cutV) (from_:Nat) (l.map lnV) (l.length:Nat) (i:Nat) (ofBytes b) nn c d e f (to:Nat) (to:Nat) ?_
  have h1:((i:Int)<(l.length:Int)):=by omega
  have h2:(0:Int)≤(i:Int):=by omega
  have hw:IntKind.wrap .i64 ((i:Int)+1)=((i+1:Nat):Int):=by rw[wrap64 (by omega) (by omega)];omega
  have hd:l.drop i=l[i]::l.drop (i+1):=List.drop_eq_getElem_cons hlt
  have htl:=yH b l[i]
  have h57:Ret 64 [.lst 5 false (ofBytes b), .agg [.int .i64 (l[i].1:Nat), .int .i64 (l[i].2.1:Nat), .int .i64 (l[i].2.2:Nat)]] [] (.str (bM b l[i]),[]):=Hl b l[i]
  rw[hd,mP]
  simp only[C4,h1,decide_true,if_true,aI h2,List.length_map,cS,Int.toNat_natCast,oW hlt,lnV,V.cells,List.headD_cons,List.tail_cons,V.getI,hw]
  refine aD h57 ?_
  simp only[V.getS]
  refine aD (KO (bM b l[i]) bd (by omega) hbd) ?_
  simp only[V.getT,List.headD_cons,List.tail_cons,V.getB]
  cases hd1:(qR (bM b l[i]) bd).1 with
  |false=>
   simp only[Bool.not_false,if_true]
   exact Ed b bd hb hbd nn l hl c d e f fr to n (i+1) out l[i].2.1 (by omega) (by omega) (by omega)
  |true=>
   simp only[Bool.not_true,Bool.false_eq_true,if_false,Bool.true_eq_false]
   cases hd2:(qR (bM b l[i]) bd).2 with
   |true=>
    have h3:decide (((out.length:Nat):Int)>(0:Int))=decide (0<out.length):=by simp
    simp only[if_true,h3]
    exact aG _
   |false=>
    have hap:bO (out.map cutV) [V.agg [.int .i64 (from_:Nat), .int .i64 (l[i].2.2:Nat)]] 17=true:=iZ (by simp;omega)
    simp only[Bool.false_eq_true,if_false,cG hap]
    have:=Ed b bd hb hbd nn l hl c d e f fr to n (i+1) (out++[(from_,l[i].2.2)]) l[i].2.2 (by omega) (by omega) (by simp;omega)
    simp only[List.map_append,List.map_cons,List.map_nil,cutV]at this
    exact this
theorem MR (b bd:Bs) (hb:b.length≤1000000) (hbd:bd.length≤1000000) (nn:Int) (fr to:Nat):
  Ret 59 [.ref 0 0, .agg [.int .i64 (fr:Nat), .int .i64 (to:Nat)], .str bd] (rQ b nn)
   (.tup [.lst 32 false ((iT b fr to bd).1.map cutV),cutV (iT b fr to bd).2, .bool (decide (0<(iT b fr to bd).1.length))],rQ b nn):=by
 refine M59 (ofBytes b) nn (fr:Nat) (to:Nat) bd ?_
 simp only[T59]
 refine aD (Hk b hb (fr:Nat) (to:Nat)) ?_
 have h1:=dC fr to b
 simp only[V.getL,List.length_map]
 exact Ed b bd hb hbd nn (aS fr to b) (by omega) (fr:Nat) (to:Nat) 0 0 fr to (aS fr to b).length 0 [] fr (by omega) (by omega) (by simp)
def ctB:Bs:=[99,111,110,116,101,110,116,45,116,121,112,101]
def IX:Bs:=[99,111,110,116,101,110,116,45,116,114,97,110,115,102,101,114,45,101,110,99,111,100,105,110,103]
def rR (b:Bs) (l:List Fd) (digest:Bool):Bs×Bs×Ps:=
 match tR (aW b l ctB) true with
 |some p=>p
 |none=>if digest then([109,101,115,115,97,103,101],[114,102,99,56,50,50],[])else([116,101,120,116],[112,108,97,105,110],[])
theorem MS (b:Bs) (hb:b.length≤1000000) (l:List Fd) (hl:l.length≤1000000) (hv:∀f∈l,f.1.length≤1000000) (digest:Bool) (nn:Int):
  Ret 57 [.ref 0 0, .lst 91 false (l.map fdV), .bool digest] (rQ b nn)
   (.agg [.str (rR b l digest).1, .str (rR b l digest).2.1, .lst 176 false ((rR b l digest).2.2.map pV)],rQ b nn):=by
 refine M57 (ofBytes b) nn (l.map fdV) digest ?_
 simp only[T57]
 refine aD (nU b hb l hl hv ctB (by simp[ctB])) ?_
 have hle:=tX b l ctB
 simp only[V.getS]
 refine aD (MB (aW b l ctB) (by omega) true) ?_
 unfold rR
 cases tR (aW b l ctB) true with
 |some p=>
  obtain⟨t,u,ps⟩:=p
  simp only[yA,V.getT,List.tail_cons,List.headD_cons,V.getB,if_true,V.cells,V.getS,V.getL]
  exact aG _
 |none=>
  simp only[yA,V.getT,List.tail_cons,List.headD_cons,V.getB,Bool.false_eq_true,if_false]
  cases digest with
  |true=>simp only[if_true];exact aG _
  |false=>simp only[Bool.false_eq_true,if_false];exact aG _
def C5 (b:Bs) (l:List Fd):Bool:=
 match dP l IX with
 |none=>true
 |some f=>low (gV b f)==[55,98,105,116]||(low (gV b f)==[56,98,105,116]||low (gV b f)==[98,105,110,97,114,121])
theorem MU (b:Bs) (hb:b.length≤1000000) (l:List Fd) (hl:l.length≤1000000) (hv:∀f∈l,f.1.length≤1000000) (nn:Int):
  Ret 61 [.ref 0 0, .lst 91 false (l.map fdV)] (rQ b nn) (.bool (C5 b l),rQ b nn):=by
 refine M61 (ofBytes b) nn (l.map fdV) ?_
 simp only[T61]
 refine aD (AN l hl hv IX (by simp[IX])) ?_
 unfold C5
 cases dP l IX with
 |none=>
  simp only[qP,V.getT,List.tail_cons,List.headD_cons,V.getB,Bool.not_false,if_true]
  exact aG _
 |some f=>
  have h66:Ret 70 [.lst 5 false (ofBytes b), .agg [.str f.1, .int .i64 f.2.1, .int .i64 f.2.2.1, .int .i64 f.2.2.2]] [] (.str (gV b f),[]):=JO b hb f
  have hle:=C3 b f
  simp only[qP,V.getT,List.tail_cons,List.headD_cons,V.getB,Bool.not_true,Bool.false_eq_true,if_false,fdV,V.cells,V.getS,V.getI]
  refine aD h66 ?_
  simp only[V.getS]
  refine aD (Az (gV b f) (by omega)) ?_
  simp only[V.getS,sEq]
  unfold low
  by_cases h1:((gV b f).map dN==[55,98,105,116])=true
  ·simp only[h1,if_true,Bool.true_or];exact aG _
  ·have h1' :((gV b f).map dN==[55,98,105,116])=false:=Bool.eq_false_iff.2 h1
   simp only[h1',Bool.false_eq_true,if_false,Bool.false_or]
   by_cases h2:((gV b f).map dN==[56,98,105,116])=true
   ·simp only[h2,if_true,Bool.true_or];exact aG _
   ·have h2' :((gV b f).map dN==[56,98,105,116])=false:=Bool.eq_false_iff.2 h2
    simp only[h2',Bool.false_eq_true,if_false,Bool.false_or]
    by_cases h3:((gV b f).map dN==[98,105,110,97,114,121])=true
    ·simp only[h3,if_true];exact aG _
    ·have h3' :((gV b f).map dN==[98,105,110,97,114,121])=false:=Bool.eq_false_iff.2 h3
     simp only[h3',Bool.false_eq_true,if_false];exact aG _
end Go.Proofs.YtdoaoaicdimbeaaGreatDoor
end
section
namespace Go.Proofs.YtdoaoaicdimbeaaGreatDoor
open Go.Ev Go
def vA (fr at_ to:Nat):Pt:= .mk 0 (fr,at_) (at_,to) [] [] (0,0)
def bdB:Bs:=[98,111,117,110,100,97,114,121]
def mpB:Bs:=[109,117,108,116,105,112,97,114,116]
def KP:Bs:=[109,101,115,115,97,103,101]
def KQ:Bs:=[114,102,99,56,50,50]
def dgB:Bs:=[100,105,103,101,115,116]
def EG (fin:Nat):List (Nat×Nat)→Nat
 |[]=>fin
 |d::_=>d.1
def kD (ent:Nat→Nat→Nat→Pt×Nat) (fin:Nat):List (Nat×Nat)→Nat→List Pt×Nat
 |[],n=>([],n)
 |c::r,n=>
  ((ent c.2 (max (EG fin r) c.2) n).1::(kD ent fin r (ent c.2 (max (EG fin r) c.2) n).2).1,(kD ent fin r (ent c.2 (max (EG fin r) c.2) n).2).2)
def iE (b:Bs):Nat→Nat→Nat→Bool→Nat→Pt×Nat
 |0,fr,to,_,n=>(vA fr (gJ b fr to).2.toNat to,n)
 |d+1,fr,to,dg,n=>
  let at_:=(gJ b fr to).2.toNat
  let v:=rR b (gJ b fr to).1 dg
  let bd:=(getF v.2.2 bdB).getD []
  if v.1=mpB∧bd≠[]∧bd.length≤70 then
   let c:=iT b at_ to bd
   if 0<c.1.length∧n+c.1.length≤1000 then
    let q:=kD (fun fr to n=>iE b d fr to (v.2.1==dgB) n) c.2.1 c.1 (n+c.1.length)
    (.mk 1 (fr,at_) (at_,to) q.1 c.1 c.2,q.2)
   else(vA fr at_ to,n)
  else if v.1=KP∧v.2.1=KQ∧C5 b (gJ b fr to).1=true∧n<1000 then
   let k:=iE b d at_ to false (n+1)
   (.mk 2 (fr,at_) (at_,to) [k.1] [] (0,0),k.2)
  else(vA fr at_ to,n)
def IY (m:Nat) (f:Fd):Prop:=f.1.length≤m
theorem C6 {s:Bs} {p:Bs×Nat} (h:eE s=some p):p.1.length≤s.length:=by
 unfold eE at h
 split at h
 ·cases h
 ·split at h
  ·cases h;simp only[List.length_take];omega
  ·cases h
theorem Hr (b:Bs) (st:List Fd×Bool) (x:Ln) (h:∀f∈st.1,IY b.length f):(∀f∈(fQ b st x).1,IY b.length f)∧(fQ b st x).1.length≤st.1.length+1:=by
 unfold fQ
 split
 ·split
  ·refine⟨fun f hf=>?_,by simp only[mH];omega⟩
   unfold uZ at hf
   split at hf
   ·rename_i g hg
    rcases List.mem_or_eq_of_mem_set hf with hf|rfl
    ·exact h f hf
    ·exact h g (List.mem_of_getElem? hg)
   ·exact h f hf
  ·exact⟨h,by omega⟩
 ·split
  ·exact⟨h,by simp⟩
  ·rename_i p hp
   refine⟨fun f hf=>?_,by simp⟩
   rw[List.mem_append]at hf
   rcases hf with hf|hf
   ·exact h f hf
   ·simp at hf;subst hf
    exact Nat.le_trans (C6 hp) (yH b x)
theorem yL (b:Bs):∀(l:List Ln) (st:List Fd×Bool),(∀f∈st.1,IY b.length f)→(∀f∈(l.foldl (fQ b) st).1,IY b.length f)∧(l.foldl (fQ b) st).1.length≤st.1.length+l.length
 |[],st,h=>⟨h,by simp⟩
 |x::r,st,h=>by
  obtain⟨h1,h2⟩:=Hr b st x h
  obtain⟨h3,h4⟩:=yL b r (fQ b st x) h1
  exact⟨h3,by simp only[List.foldl_cons,List.length_cons]at h4 ⊢;omega⟩
theorem C7 (b:Bs) (fr to:Int):(∀f∈(gJ b fr to).1,f.1.length≤b.length)∧(gJ b fr to).1.length≤b.length:=by
 have hl:=dC fr to b
 unfold gJ
 split
 ·simp
 ·split
  ·rename_i k hk
   obtain⟨h1,h2⟩:=yL b ((aS fr to b).take k) ([],false) (by simp)
   exact⟨h1,by simp at h2 ⊢;omega⟩
  ·obtain⟨h1,h2⟩:=yL b (aS fr to b) ([],false) (by simp)
   exact⟨h1,by simp at h2 ⊢;omega⟩
theorem C9 (b:Bs) (fr to:Nat):(((gJ b fr to).2.toNat:Nat):Int)=(gJ b fr to).2:=by
 unfold gJ
 split
 ·simp
 ·split<;>simp
end Go.Proofs.YtdoaoaicdimbeaaGreatDoor
end
section
namespace Go.Proofs.YtdoaoaicdimbeaaGreatDoor
open Go.Ev Go
theorem yM (l:Ps) (m:Nat):∀(q:Ps) (seen:List Bs),(∀p∈q,p.1.length≤m)→(pD l seen q).length≤q.length∧∀p∈pD l seen q,p.1.length≤m
 |[],seen,_=>by simp[pD]
 |p::r,seen,h=>by
  have hp:=h p (by simp)
  have hb:=CQ p.1
  have ih:=fun seen=>yM l m r seen fun p hp=>h p (by simp[hp])
  unfold pD
  split
  ·obtain⟨h1,h2⟩:=ih seen
   exact⟨by simp;omega,h2⟩
  ·split
   ·obtain⟨h1,h2⟩:=ih (dE p.1::seen)
    refine⟨by simp;omega,fun x hx=>?_⟩
    rcases List.mem_cons.1 hx with rfl|hx
    ·simp only;omega
    ·exact h2 x hx
   ·obtain⟨h1,h2⟩:=ih (dE p.1::seen)
    exact⟨by simp;omega,h2⟩
theorem BD {s:Bs} {two:Bool} {t u:Bs} {ps:Ps} (h:tR s two=some (t,u,ps)):ps.length≤s.length∧∀p∈ps,p.1.length≤s.length:=by
 have key:∀q:Bs,q.length≤s.length→(pD (cP q) [] (cP q)).length≤s.length∧∀p∈pD (cP q) [] (cP q),p.1.length≤s.length:=by
  intro q hq
  obtain⟨g1,g2⟩:=rO q.length q (Nat.le_refl _)
  obtain⟨h1,h2⟩:=yM (cP q) s.length (cP q) [] fun p hp=>by have:=g2 p hp;omega
  exact⟨by omega,h2⟩
 have h0:=nS s
 have h1:=kM (cN s)
 unfold tR at h
 split at h
 ·cases h
 ·split at h
  ·split at h
   ·cases h
   ·rename_i s2 hs2
    split at h
    ·cases h
    ·cases h
     have h2:=iQ hs2
     have h3:=kM s2
     exact key _ (by omega)
  ·cases h
   exact key _ (by omega)
theorem Da (b:Bs) (l:List Fd) (dg:Bool):(rR b l dg).2.2.length≤b.length∧∀p∈(rR b l dg).2.2,p.1.length≤b.length:=by
 have hv:=tX b l ctB
 unfold rR
 split
 ·rename_i p hp
  obtain⟨t,u,ps⟩:=p
  obtain⟨h1,h2⟩:=BD hp
  exact⟨by simp only;omega,fun p hp=>by have:=h2 p hp;omega⟩
 ·split<;>simp
end Go.Proofs.YtdoaoaicdimbeaaGreatDoor
end
section
namespace Go.Proofs.YtdoaoaicdimbeaaGreatDoor
open Go.Ev Go
theorem EH {ent:Nat→Nat→Nat→Pt×Nat} (h:∀fr to n,n≤1000→(ent fr to n).2≤1000) (fin:Nat):∀(cs:List (Nat×Nat)) (n:Nat),n≤1000→(kD ent fin cs n).2≤1000
 |[],n,hn=>hn
 |c::r,n,hn=>by
  unfold kD
  exact EH h fin r _ (h _ _ _ hn)
theorem Ee (b:Bs):∀(d fr to:Nat) (dg:Bool) (n:Nat),n≤1000→(iE b d fr to dg n).2≤1000
 |0,fr,to,dg,n,hn=>by simpa[iE]using hn
 |d+1,fr,to,dg,n,hn=>by
  unfold iE
  simp only
  split
  ·split
   ·rename_i h
    exact EH (fun fr to n hn=>Ee b d fr to _ n hn) _ _ _ h.2
   ·exact hn
  ·split
   ·rename_i h
    exact Ee b d _ _ _ _ (by have:=h.2.2.2;omega)
   ·exact hn
def tY (b:Bs) (d:Nat):Prop:=∀(fr to n:Nat) (dg:Bool),n≤1000→
 Ret 31 [.ref 0 0, .agg [.int .i64 (fr:Nat), .int .i64 (to:Nat)], .int .i64 ((32 - d:Nat):Int), .bool dg] (rQ b (n:Nat)) (partV (iE b d fr to dg n).1,rQ b ((iE b d fr to dg n).2:Nat))
def Ht (k h1 h2 b1 b2:Int) (kids:List V) (cs:List (Nat×Nat)) (e1 e2:Int):Ob:=
 .cells [.int .i64 k, .int .i64 h1, .int .i64 h2, .int .i64 b1, .int .i64 b2, .lst 36 true kids, .lst 32 false (cs.map cutV), .int .i64 e1, .int .i64 e2]
theorem yN {l:List (Nat×Nat)} {i:Nat} (h:i<l.length):(l.map cutV).getD i .bot=cutV l[i]:=by simp[List.getD,h]
theorem rS (p:Pt):V.agg [V.int .i64 (V.getI (List.headD (V.cells (partV p)) V.bot)),V.int .i64 (V.getI (List.headD (List.tail (V.cells (partV p))) V.bot)),V.int .i64 (V.getI (List.headD (List.tail (List.tail (V.cells (partV p)))) V.bot)),
  V.int .i64 (V.getI (List.headD (List.tail (List.tail (List.tail (V.cells (partV p))))) V.bot)),V.int .i64 (V.getI (List.headD (List.tail (List.tail (List.tail (List.tail (V.cells (partV p)))))) V.bot)),
  V.lst 36 false (V.getL (List.headD (List.tail (List.tail (List.tail (List.tail (List.tail (V.cells (partV p))))))) V.bot)),V.lst 32 false (V.getL (List.headD (List.tail (List.tail (List.tail (List.tail (List.tail (List.tail (V.cells (partV p)))))))) V.bot)),
  V.int .i64 (V.getI (List.headD (List.tail (List.tail (List.tail (List.tail (List.tail (List.tail (List.tail (V.cells (partV p))))))))) V.bot)),V.int .i64 (V.getI (List.headD (List.tail (List.tail (List.tail (List.tail (List.tail (List.tail (List.tail (List.tail (V.cells (partV p)))))))))) V.bot))]=partV p:=by
 cases p;rw[partV];rfl
theorem EI (x y:Nat):(if((y:Nat):Int)>((x:Nat):Int)then((y:Nat):Int)else((x:Nat):Int))=((max x y:Nat):Int):=by
 split<;>omega
theorem Hu (b:Bs) (d:Nat) (he:tY b d) (dg:Bool) (cs:List (Nat×Nat)) (hcs:cs.length≤1000) (h1 h2 b1 b2:Int) (e1 e2:Nat):∀(m i:Nat) (kids:List Pt) (n:Nat),cs.length - i=m→i≤cs.length→kids.length=i→n≤1000→
  Evt (fun k j=>L60 (aA cfg k) j ((32 - d:Nat):Int) dg (cs.map cutV) (cs.length:Nat) (i:Nat) (ofBytes b) (n:Nat) 1 h1 h2 b1 b2 (kids.map partV) (cs.map cutV) (e1:Nat) (e2:Nat))
   (.tup [],[.cells [.lst 5 false (ofBytes b), .int .i64 ((kD (fun fr to n=>iE b d fr to dg n) e1 (cs.drop i) n).2:Nat)],Ht 1 h1 h2 b1 b2 ((kids++(kD (fun fr to n=>iE b d fr to dg n) e1 (cs.drop i) n).1).map partV) cs (e1:Nat) (e2:Nat)])
 |0,i,kids,n,h,hi,hk,hn=>by
  refine JQ ((32 - d:Nat):Int) dg (cs.map cutV) (cs.length:Nat) (i:Nat) (ofBytes b) (n:Nat) 1 h1 h2 b1 b2 (kids.map partV) (cs.map cutV) (e1:Nat) (e2:Nat) ?_
  have g1:¬((i:Int)<(cs.length:Int)):=by omega
  rw[List.drop_eq_nil_of_le (by omega)]
  simp only[AS,g1,decide_false,Bool.false_eq_true,if_false,kD,List.append_nil,Ht]
  exact aG _
 |m+1,i,kids,n,h,hi,hk,hn=>by
  have hlt:i<cs.length:=by omega
  refine JQ ((32 - d:Nat):Int) dg (cs.map cutV) (cs.length:Nat) (i:Nat) (ofBytes b) (n:Nat) 1 h1 h2 b1 b2 (kids.map partV) (cs.map cutV) (e1:Nat) (e2:Nat) ?_
  have g1:((i:Int)<(cs.length:Int)):=by omega
  have g2:(0:Int)≤(i:Int):=by omega
  have hw:IntKind.wrap .i64 ((i:Int)+1)=((i+1:Nat):Int):=by rw[wrap64 (by omega) (by omega)];omega
  have hd:cs.drop i=cs[i]::cs.drop (i+1):=List.drop_eq_getElem_cons hlt
  have hap:∀v:V,bO (kids.map partV) [v] 105=true:=fun v=>iZ (by simp;omega)
  have hkl:((((kids.map partV).length:Nat):Int)==(((kids.map partV).length:Nat):Int))=true:=by simp
  rw[hd]
  have fin:∀x:Nat,EG e1 (cs.drop (i+1))=x→
    Evt (fun k j=>Option.bind (aA cfg k 31 [.ref 0 0, .agg [.int .i64 (cs[i].2:Nat), .int .i64 ((max x cs[i].2:Nat):Int)], .int .i64 ((32 - d:Nat):Int), .bool dg] (rQ b (n:Nat))) fun z0=>
     L60 (aA cfg k) j ((32 - d:Nat):Int) dg (cs.map cutV) (cs.length:Nat) ((i+1:Nat):Int) ((V.getL (List.headD (Ob.getC (List.headD z0.2 Ob.dead)) V.bot))) ((V.getI (List.headD (List.tail (Ob.getC (List.headD z0.2 Ob.dead))) V.bot))) 1 h1 h2 b1 b2 (kids.map partV++[V.agg [V.int .i64 (V.getI (List.headD (V.cells z0.1) V.bot)),V.int .i64 (V.getI (List.headD (List.tail (V.cells z0.1)) V.bot)),V.int .i64 (V.getI (List.headD (List.tail (List.tail (V.cells z0.1))) V.bot)),V.int .i64 (V.getI (List.headD (List.tail (List.tail (List.tail (V.cells z0.1)))) V.bot)),V.int .i64 (V.getI (List.headD (List.tail (List.tail (List.tail (List.tail (V.cells z0.1))))) V.bot)),V.lst 36 false (V.getL (List.headD (List.tail (List.tail (List.tail (List.tail (List.tail (V.cells z0.1)))))) V.bot)),V.lst 32 false (V.getL (List.headD (List.tail (List.tail (List.tail (List.tail (List.tail (List.tail (V.cells z0.1))))))) V.bot)),V.int .i64 (V.getI (List.headD (List.tail (List.tail (List.tail (List.tail (List.tail (List.tail (List.tail (V.cells z0.1)))))))) V.bot)),V.int .i64 (V.getI (List.headD (List.tail (List.tail (List.tail (List.tail (List.tail (List.tail (List.tail (List.tail (V.cells z0.1))))))))) V.bot))]]) (cs.map cutV) (e1:Nat) (e2:Nat))
    (.tup [],[.cells [.lst 5 false (ofBytes b), .int .i64 ((kD (fun fr to n=>iE b d fr to dg n) e1 (cs[i]::cs.drop (i+1)) n).2:Nat)],Ht 1 h1 h2 b1 b2 ((kids++(kD (fun fr to n=>iE b d fr to dg n) e1 (cs[i]::cs.drop (i+1)) n).1).map partV) cs (e1:Nat) (e2:Nat)]):=by
   intro x hx
   refine aD (he cs[i].2 (max x cs[i].2) n dg hn) ?_
   have:=Hu b d he dg cs hcs h1 h2 b1 b2 e1 e2 m (i+1) (kids++[(iE b d cs[i].2 (max x cs[i].2) dg n).1]) (iE b d cs[i].2 (max x cs[i].2) dg n).2 (by omega) (by omega) (by simp[hk]) (Ee b d _ _ _ _ hn)
   unfold kD
   rw[hx]
   simp only[rS]
   simp only[List.map_append,List.map_cons,List.map_nil,List.append_assoc,List.singleton_append]at this ⊢
   exact this
  by_cases hn1:i+1<cs.length
  ·have q1:(((i+1:Nat):Int)<(cs.length:Int)):=by omega
   have q2:(0:Int)≤((i+1:Nat):Int):=by omega
   simp only[AS,g1,decide_true,if_true,aI g2,List.length_map,cS,hw,q1,aI q2,Int.toNat_natCast,yN hlt,yN hn1,cutV,V.cells,List.headD_cons,List.tail_cons,V.getI,EI,beq_self_eq_true,cG (hap _)]
   exact fin cs[i+1].1 (by rw[List.drop_eq_getElem_cons hn1];rfl)
  ·have q1:¬(((i+1:Nat):Int)<(cs.length:Int)):=by omega
   simp only[AS,g1,decide_true,decide_false,Bool.false_eq_true,if_false,if_true,aI g2,List.length_map,cS,hw,q1,Int.toNat_natCast,yN hlt,cutV,V.cells,List.headD_cons,List.tail_cons,V.getI,EI,beq_self_eq_true,cG (hap _)]
   exact fin e1 (by rw[List.drop_eq_nil_of_le (by omega)];rfl)
end Go.Proofs.YtdoaoaicdimbeaaGreatDoor
end
section
namespace Go.Proofs.YtdoaoaicdimbeaaGreatDoor
open Go.Ev Go
theorem MV (b:Bs) (d:Nat) (he:tY b d) (dg:Bool) (cs:List (Nat×Nat)) (hcs:cs.length≤1000) (h1 h2 b1 b2:Int) (e1 e2:Nat) (n:Nat) (hn:n≤1000):
  Ret 60 [.ref 0 0, .ref 1 0, .int .i64 ((32 - d:Nat):Int), .bool dg] [.cells [.lst 5 false (ofBytes b), .int .i64 (n:Nat)],Ht 1 h1 h2 b1 b2 [] cs (e1:Nat) (e2:Nat)]
   (.tup [],[.cells [.lst 5 false (ofBytes b), .int .i64 ((kD (fun fr to n=>iE b d fr to dg n) e1 cs n).2:Nat)],Ht 1 h1 h2 b1 b2 ((kD (fun fr to n=>iE b d fr to dg n) e1 cs n).1.map partV) cs (e1:Nat) (e2:Nat)]):=by
 refine M60 (ofBytes b) (n:Nat) 1 h1 h2 b1 b2 [] (cs.map cutV) (e1:Nat) (e2:Nat) ((32 - d:Nat):Int) dg ?_
 simp only[T60,List.length_map]
 have:=Hu b d he dg cs hcs h1 h2 b1 b2 e1 e2 cs.length 0 [] n (by omega) (by omega) rfl hn
 simpa using this
theorem MW (b:Bs) (hb:b.length≤100000):tY b 0:=by
 intro fr to n dg hn
 refine M31 (ofBytes b) (n:Nat) (fr:Nat) (to:Nat) ((32 - 0:Nat):Int) dg ?_
 simp only[T31]
 refine aD (Hm b (by omega) (fr:Nat) (to:Nat)) ?_
 have h1:((((32 - 0:Nat):Int))==(32:Int))=true:=rfl
 simp only[h1,if_true,V.getT,List.headD_cons,List.tail_cons,V.getI]
 rw[←C9]
 exact aG _
theorem mI (b bd:Bs):∀(l:List Ln) (out:List (Nat×Nat)) (fr:Nat),(mP b bd l out fr).1.length≤out.length+l.length
 |[],out,fr=>by simp[mP]
 |x::r,out,fr=>by
  unfold mP
  split
  ·have:=mI b bd r out x.2.1;simp only[List.length_cons];omega
  ·split
   ·simp
   ·have:=mI b bd r (out++[(fr,x.2.2)]) x.2.2;simp only[List.length_append,List.length_cons,List.length_nil]at this ⊢;omega
theorem BE (b:Bs) (fr to:Nat) (bd:Bs):(iT b fr to bd).1.length≤b.length:=by
 have h1:=dC fr to b
 have h2:=mI b bd (aS fr to b) [] fr
 unfold iT;simp at h2;simp only;omega
theorem gK (k:IntKind) (z:Int):(V.int k z).getI=z:=rfl
theorem bQ (t:TypeId) (o:Bool) (l:List V):(V.lst t o l).getL=l:=rfl
theorem bK (x:Bool):(V.bool x).getB=x:=rfl
theorem dZ (x:Bs):(V.str x).getS=x:=rfl
theorem fD (l:List V):(V.tup l).getT=l:=rfl
theorem Fv (l:List V):(V.agg l).cells=l:=rfl
theorem KR (fr at_ to:Nat):partV (vA fr at_ to)= .agg [.int .i64 0, .int .i64 (fr:Nat), .int .i64 (at_:Nat), .int .i64 (at_:Nat), .int .i64 (to:Nat), .lst 36 false [], .lst 32 false [], .int .i64 0, .int .i64 0]:=by
 unfold vA;rw[partV];rfl
theorem rT {α β:Type} {o:Option β} {v:β} {F:Nat→Nat→β→Option α} {r:α} (h:o=some v) (h2:Evt (fun k n=>F k n v) r):Evt (fun k n=>Option.bind o (F k n)) r:=by subst h;exact h2
theorem MX (b:Bs) (hb:b.length≤100000) (d:Nat) (hd:d+1≤32) (he:tY b d):tY b (d+1):=by
 intro fr to n dg hn
 refine M31 (ofBytes b) (n:Nat) (fr:Nat) (to:Nat) ((32 - (d+1):Nat):Int) dg ?_
 simp only[T31]
 refine aD (Hm b (by omega) (fr:Nat) (to:Nat)) ?_
 obtain⟨k1,k2⟩:=C7 b (fr:Nat) (to:Nat)
 have h1:((((32 - (d+1):Nat):Int))==(32:Int))=false:=beq_eq_false_iff_ne.2 (by omega)
 have hw:IntKind.wrap .i64 (((32 - (d+1):Nat):Int)+1)=((32 - d:Nat):Int):=by rw[wrap64 (by omega) (by omega)];omega
 simp only[h1,Bool.false_eq_true,if_false,fD,List.headD_cons,List.tail_cons,gK,bQ,hw]
 rw[←C9]
 generalize hat:(gJ b (fr:Nat) (to:Nat)).2.toNat=at_
 generalize hfl:(gJ b (fr:Nat) (to:Nat)).1=l at k1 k2
 refine aD (MS b (by omega) l (by omega) (fun f hf=>by have:=k1 f hf;omega) dg (n:Nat)) ?_
 obtain⟨m1,m2⟩:=Da b l dg
 generalize hv:rR b l dg=v at m1 m2
 obtain⟨t,u,ps⟩:=v
 simp only at m1 m2
 simp only[Fv,dZ,bQ,List.headD_cons,List.tail_cons]
 refine aD (MC t u ps (by omega) (fun p hp=>by have:=m2 p hp;omega) bdB (by simp[bdB])) ?_
 simp only[fD,dZ,List.headD_cons]
 have hent:iE b (d+1) fr to dg n=(if t=mpB∧(getF ps bdB).getD []≠[]∧((getF ps bdB).getD []).length≤70 then
   if 0<(iT b at_ to ((getF ps bdB).getD [])).1.length∧n+(iT b at_ to ((getF ps bdB).getD [])).1.length≤1000 then
    (Pt.mk 1 (fr,at_) (at_,to) (kD (fun fr to n=>iE b d fr to (u==dgB) n) (iT b at_ to ((getF ps bdB).getD [])).2.1 (iT b at_ to ((getF ps bdB).getD [])).1 (n+(iT b at_ to ((getF ps bdB).getD [])).1.length)).1 (iT b at_ to ((getF ps bdB).getD [])).1 (iT b at_ to ((getF ps bdB).getD [])).2,
     (kD (fun fr to n=>iE b d fr to (u==dgB) n) (iT b at_ to ((getF ps bdB).getD [])).2.1 (iT b at_ to ((getF ps bdB).getD [])).1 (n+(iT b at_ to ((getF ps bdB).getD [])).1.length)).2)
   else(vA fr at_ to,n)
  else if t=KP∧u=KQ∧C5 b l=true∧n<1000 then(Pt.mk 2 (fr,at_) (at_,to) [(iE b d at_ to false (n+1)).1] [] (0,0),(iE b d at_ to false (n+1)).2)
  else(vA fr at_ to,n)):=by
  rw[iE]
  simp only[hat,hfl,hv]
 rw[hent]
 generalize hbd:(getF ps bdB).getD []=bd
 have hsq:∀x y:Bs,sEq x y=decide (x=y):=fun x y=>by
  by_cases h:x=y
  ·subst h;simp[sEq]
  ·simp[sEq,h]
 have leaf:∀x:Int,x=(n:Int)→Evt (fun _ _=>some (V.agg [.int .i64 0, .int .i64 (fr:Nat), .int .i64 (at_:Nat), .int .i64 (at_:Nat), .int .i64 (to:Nat), .lst 36 false [], .lst 32 false [], .int .i64 0, .int .i64 0],
   [Ob.cells [.lst 5 false (ofBytes b), .int .i64 x]])) (partV (vA fr at_ to),rQ b (n:Nat)):=by
  intro x hx
  subst hx
  rw[KR]
  exact aG _
 have hy3:(if sEq t [109,117,108,116,105,112,97,114,116]=true then(if(!(sEq bd []))=true then some (decide (((bd.length:Nat):Int)≤(70:Int)))else some false)else some false)=some (decide (t=mpB∧bd≠[]∧bd.length≤70)):=by
  have e1:sEq t [109,117,108,116,105,112,97,114,116]=decide (t=mpB):=hsq t mpB
  rw[e1,hsq bd []]
  by_cases c1:t=mpB
  ·by_cases c2:bd=[]
   ·simp[c1,c2]
   ·by_cases c3:bd.length≤70
    ·have:((bd.length:Nat):Int)≤70:=by omega
     simp[c1,c2,c3,this]
    ·have:¬(((bd.length:Nat):Int)≤70):=by omega
     simp[c1,c2,c3,this]
  ·simp[c1]
 refine rT hy3 ?_
 by_cases hc:t=mpB∧bd≠[]∧bd.length≤70
 ·rw[if_pos hc]
  simp only[decide_eq_true hc,if_true]
  refine aD (MR b bd (by omega) (by have:=hc.2.2;omega) (n:Nat) at_ to) ?_
  have hcl:=BE b at_ to bd
  generalize hcu:iT b at_ to bd=cu at hcl
  obtain⟨cs,e1,e2⟩:=cu
  simp only at hcl
  have hwn:IntKind.wrap .i64 ((n:Int)+((cs.length:Nat):Int))=((n+cs.length:Nat):Int):=by rw[wrap64 (by omega) (by omega)];omega
  simp only[V.getT,List.headD_cons,List.tail_cons,V.getB,V.getL,rQ,Ob.getC,V.getI,cutV,V.cells,List.length_map,hwn]
  have hy5:(if decide (0<cs.length)=true then some (decide (((n+cs.length:Nat):Int)≤(1000:Int)))else some false)=some (decide (0<cs.length∧n+cs.length≤1000)):=by
   by_cases c1:0<cs.length
   ·by_cases c2:n+cs.length≤1000
    ·have:((n+cs.length:Nat):Int)≤1000:=by omega
     simp only[c1,c2,this,decide_true,if_true,and_self]
    ·have:¬(((n+cs.length:Nat):Int)≤1000):=by omega
     simp only[c1,c2,this,decide_true,decide_false,if_true,and_false]
   ·simp only[c1,decide_false,Bool.false_eq_true,if_false,false_and]
  refine rT hy5 ?_
  by_cases hc2:0<cs.length∧n+cs.length≤1000
  ·rw[if_pos hc2]
   simp only[decide_eq_true hc2,if_true]
   refine aD (MV b d he (u==dgB) cs (by omega) (fr:Nat) (at_:Nat) (at_:Nat) (to:Nat) e1 e2 (n+cs.length) hc2.2) ?_
   rw[partV,tB]
   exact aG _
  ·rw[if_neg hc2]
   simp only[decide_eq_false hc2,Bool.false_eq_true,if_false]
   exact leaf _ rfl
 ·rw[if_neg hc]
  simp only[decide_eq_false hc,Bool.false_eq_true,if_false]
  by_cases t1:t=KP
  ·by_cases t2:u=KQ
   ·have s1:sEq t [109,101,115,115,97,103,101]=true:=by rw[hsq];exact decide_eq_true t1
    have s2:sEq u [114,102,99,56,50,50]=true:=by rw[hsq];exact decide_eq_true t2
    simp only[s1,s2,if_true]
    refine aD (MU b (by omega) l (by omega) (fun f hf=>by have:=k1 f hf;omega) (n:Nat)) ?_
    simp only[bK,rQ,Ob.getC,List.headD_cons,List.tail_cons,gK,bQ]
    by_cases t3:C5 b l=true
    ·by_cases t4:n<1000
     ·have t4' :((n:Nat):Int)<1000:=by omega
      have hwn:IntKind.wrap .i64 ((n:Int)+1)=((n+1:Nat):Int):=by rw[wrap64 (by omega) (by omega)];omega
      rw[if_pos ⟨t1,t2,t3,t4⟩]
      simp only[t3,if_true,t4',decide_true,hwn]
      refine aD (he at_ to (n+1) false (by omega)) ?_
      simp only[rS]
      rw[partV,tA,tA]
      exact aG _
     ·have t4' :¬(((n:Nat):Int)<1000):=by omega
      rw[if_neg (fun h=>t4 h.2.2.2)]
      simp only[t3,if_true,t4',decide_false,Bool.false_eq_true,if_false]
      exact leaf _ rfl
    ·rw[if_neg (fun h=>t3 h.2.2.1)]
     simp only[t3,Bool.false_eq_true,if_false]
     exact leaf _ rfl
   ·rw[if_neg (fun h=>t2 h.2.1)]
    have s1:sEq t [109,101,115,115,97,103,101]=true:=by rw[hsq];exact decide_eq_true t1
    have s2:sEq u [114,102,99,56,50,50]=false:=by rw[hsq];exact decide_eq_false t2
    simp only[s1,s2,if_true,Bool.false_eq_true,if_false]
    exact leaf _ rfl
  ·rw[if_neg (fun h=>t1 h.1)]
   have s1:sEq t [109,101,115,115,97,103,101]=false:=by rw[hsq];exact decide_eq_false t1
   simp only[s1,Bool.false_eq_true,if_false]
   exact leaf _ rfl
theorem EJ (b:Bs) (hb:b.length≤100000):∀d,d≤32→tY b d
 |0,_=>MW b hb
 |d+1,h=>MX b hb d h (EJ b hb d (by omega))
end Go.Proofs.YtdoaoaicdimbeaaGreatDoor
end
section
namespace Go.Proofs.YtdoaoaicdimbeaaGreatDoor
open Go.Ev Go
theorem MY (b:Bs) (hb:b.length≤100000):
  Ret 14 [.lst 5 false (ofBytes b)] [] (.tup [partV (iE b 32 0 b.length false 1).1, .int .i64 0],[]):=by
 refine M14 (ofBytes b) ?_
 have h1:¬(((b.length:Nat):Int)>67108864):=by omega
 simp only[T14,cD,h1,decide_false,Bool.false_eq_true,if_false]
 have he:Ret 31 [.ref 0 0, .agg [.int .i64 (0:Int), .int .i64 (b.length:Nat)], .int .i64 (0:Int), .bool false] [.cells [.lst 5 false (ofBytes b), .int .i64 (1:Int)]] (partV (iE b 32 0 b.length false 1).1,rQ b ((iE b 32 0 b.length false 1).2:Nat)):=
  EJ b hb 32 (by omega) 0 b.length 1 false (by omega)
 refine aD he ?_
 simp only[rS]
 exact aG _
end Go.Proofs.YtdoaoaicdimbeaaGreatDoor
end
section
namespace Go.Proofs.YtdoaoaicdimbeaaGreatDoor
open Go.Ev Go
open List (headD tail getD length drop take)
open V (getI getL getT getS getB)
set_option maxRecDepth 100000
variable (call : FuncId → Fun) (icall : aQ (V × List Ob)) (again : List It → St → Option (V × List Ob))
end Go.Proofs.YtdoaoaicdimbeaaGreatDoor
end
section
namespace Go.Proofs.YtdoaoaicdimbeaaGreatDoor
open Go.Ev Go
end Go.Proofs.YtdoaoaicdimbeaaGreatDoor
end
section
namespace Go.Proofs.YtdoaoaicdimbeaaGreatDoor
open Go.Ev Go
open List (headD tail getD length drop take)
open V (getI getL getT getS getB)
set_option maxRecDepth 100000
variable (call : FuncId → Fun) (icall : aQ (V × List Ob)) (again : List It → St → Option (V × List Ob))
end Go.Proofs.YtdoaoaicdimbeaaGreatDoor
end
section
namespace Go.Proofs.YtdoaoaicdimbeaaGreatDoor
open Go.Ev Go
end Go.Proofs.YtdoaoaicdimbeaaGreatDoor
end
section
namespace Go.Proofs.YtdoaoaicdimbeaaGreatDoor
open Go.Ev Go
def Pt.kd:Pt→Nat| .mk k _ _ _ _ _=>k
def Pt.hd:Pt→Nat×Nat| .mk _ h _ _ _ _=>h
def Pt.bd:Pt→Nat×Nat| .mk _ _ b _ _ _=>b
def Pt.ks:Pt→List Pt| .mk _ _ _ l _ _=>l
def Pt.cs:Pt→List (Nat×Nat)| .mk _ _ _ _ c _=>c
def Pt.en:Pt→Nat×Nat| .mk _ _ _ _ _ e=>e
theorem yO (p:Pt):V.agg [.int .i64 (p.kd:Nat), .int .i64 (p.hd.1:Nat), .int .i64 (p.hd.2:Nat), .int .i64 (p.bd.1:Nat), .int .i64 (p.bd.2:Nat), .lst 36 false (p.ks.map partV), .lst 32 false (p.cs.map cutV), .int .i64 (p.en.1:Nat), .int .i64 (p.en.2:Nat)]=partV p:=by
 cases p;rw[partV,tB];rfl
theorem Ef (p:Pt):V.cells (partV p)=[.int .i64 (p.kd:Nat), .int .i64 (p.hd.1:Nat), .int .i64 (p.hd.2:Nat), .int .i64 (p.bd.1:Nat), .int .i64 (p.bd.2:Nat), .lst 36 false (p.ks.map partV), .lst 32 false (p.cs.map cutV), .int .i64 (p.en.1:Nat), .int .i64 (p.en.2:Nat)]:=by
 rw[←yO];rfl
end Go.Proofs.YtdoaoaicdimbeaaGreatDoor
end
section
namespace Go.Proofs.YtdoaoaicdimbeaaGreatDoor
open Go.Ev Go
theorem Db {x y:Bs} (h:x=y):sEq x y=true:=by subst h;simp[sEq]
theorem Hv {x y:Bs} (h:¬x=y):sEq x y=false:=by simp[sEq,h]
def hdL (b:Bs) (p:Pt):List Fd:=(gJ b (p.hd.1:Nat) (p.hd.2:Nat)).1
end Go.Proofs.YtdoaoaicdimbeaaGreatDoor
end
section
namespace Go.Proofs.YtdoaoaicdimbeaaGreatDoor
open Go.Ev Go
open List (headD tail getD length drop take)
open V (getI getL getT getS getB)
set_option maxRecDepth 100000
variable (call : FuncId → Fun) (icall : aQ (V × List Ob)) (again : List It → St → Option (V × List Ob))
def yP (call:FuncId→Fun) (ag0:List UInt8→Int→Int→Option (V×List Ob)) (s0:List UInt8) (i1:Int) (i2:Int):Option (V×List Ob):=
 if(decide (i2<((length s0:Nat):Int)))=true then
 chk (decide (0≤i2)) (chk (decide (i2<((length s0:Nat):Int))) (if(((UInt8.toNat (getD s0 (Int.toNat i2) 0):Nat):Int)==(92:Int))=true then
 (ag0 (s0) (i1) ((IntKind.wrap .i64 ((IntKind.wrap .i64 (i2+(1:Int)))+(1:Int)))))
 else
 if(((UInt8.toNat (getD s0 (Int.toNat i2) 0):Nat):Int)==(40:Int))=true then
 (ag0 (s0) ((IntKind.wrap .i64 (i1+(1:Int)))) ((IntKind.wrap .i64 (i2+(1:Int)))))
 else
 if(((UInt8.toNat (getD s0 (Int.toNat i2) 0):Nat):Int)==(41:Int))=true then
 if((IntKind.wrap .i64 (i1 - (1:Int)))==(0:Int))=true then
 some ((V.int .i64 (IntKind.wrap .i64 (i2+(1:Int)))),[])
 else
 (ag0 (s0) ((IntKind.wrap .i64 (i1 - (1:Int)))) ((IntKind.wrap .i64 (i2+(1:Int)))))
 else
 (ag0 (s0) (i1) ((IntKind.wrap .i64 (i2+(1:Int)))))))
 else
 some ((V.int .i64 ((length s0:Nat):Int)),[])
def Hw (call:FuncId→Fun) (ag0:List UInt8→Int→Int→Option (V×List Ob)) (a0:List UInt8):Option (V×List Ob):=
 (ag0 (a0) ((0:Int)) ((0:Int)))
def IZ (a0:List UInt8):List V:=[V.str a0]
def tZ (s0:List UInt8) (i1:Int) (i2:Int):St:=⟨[(V.str s0),V.bot,V.bot,(V.int IntKind.i64 i1),(V.int IntKind.i64 i2)]++List.replicate 27 V.bot,[]⟩
theorem KT (s0:List UInt8) (i1:Int) (i2:Int):
 RM 137 Tryz.f137 [] call icall again (aJ Tryz.f137 0) (tZ s0 i1 i2)=yP call (fun s0 i1 i2=>again (aJ Tryz.f137 0) (tZ s0 i1 i2)) s0 i1 i2:=by kernel_rfl
theorem OR (a0:List UInt8):GO 137 Tryz.f137 (IZ a0) [] call icall again=Hw call (fun s0 i1 i2=>again (aJ Tryz.f137 0) (tZ s0 i1 i2)) a0:=by kernel_rfl
def zM (call:FuncId→Fun):Nat→(List UInt8→Int→Int→Option (V×List Ob))
 |0=>fun _ _ _=>none
 |n+1=>yP call (zM call n)
theorem MZ (call:FuncId→Fun) (icall:aQ (V×List Ob)):∀n,(∀(s0:List UInt8) (i1:Int) (i2:Int),RN 137 Tryz.f137 [] call icall n (aJ Tryz.f137 0) (tZ s0 i1 i2)=(zM call n) s0 i1 i2)
 |0=>fun s0 i1 i2=>rfl
 |n+1=>by
  have ih:=MZ call icall n
  exact fun s0 i1 i2=>(KT call icall (RN 137 Tryz.f137 [] call icall n) s0 i1 i2).trans (by rw[show(fun s0 i1 i2=>RN 137 Tryz.f137 [] call icall n (aJ Tryz.f137 0) (tZ s0 i1 i2))=(zM call n)from(funext fun s0=>funext fun i1=>funext fun i2=>ih s0 i1 i2)];rfl)
theorem OS (k:Nat) (a0:List UInt8):aA cfg (k+1) 137 (IZ a0) []=Hw (aA cfg k) (zM (aA cfg k) k) a0:=by
 have ih:=MZ (aA cfg k) (aE cfg (aA cfg k) 20) k
 refine(show aA cfg (k+1) 137 (IZ a0) []=GO 137 Tryz.f137 (IZ a0) [] (aA cfg k) (aE cfg (aA cfg k) 20) (RN 137 Tryz.f137 [] (aA cfg k) (aE cfg (aA cfg k) 20) k)by kernel_rfl).trans ((OR _ _ _ a0).trans ?_)
 rw[show(fun s0 i1 i2=>RN 137 Tryz.f137 [] (aA cfg k) (aE cfg (aA cfg k) 20) k (aJ Tryz.f137 0) (tZ s0 i1 i2))=(zM (aA cfg k) k)from(funext fun s0=>funext fun i1=>funext fun i2=>ih s0 i1 i2)]
theorem OT (a0:List UInt8) {r:V×List Ob} (h:Evt (fun k n=>Hw (aA cfg k) (zM (aA cfg k) n) a0) r):Ret 137 [V.str a0] [] r:=aT (g:=fun k n=>Hw (aA cfg k) (zM (aA cfg k) n) a0) (fun k=>OS k a0) h
theorem KU (s0:List UInt8) (i1:Int) (i2:Int) {r:V×List Ob} (h:Evt (fun k n=>yP (aA cfg k) (zM (aA cfg k) n) s0 i1 i2) r):Evt (fun k n=>(zM (aA cfg k) n) s0 i1 i2) r:=aX (fun k n=>rfl) h
def yQ (call:FuncId→Fun) (ag0:List UInt8→Option (V×List Ob)) (s0:List UInt8):Option (V×List Ob):=
 if(!(sEq s0 []))=true then
 chk (decide (0≤(0:Int))) (chk (decide ((0:Int)<((length s0:Nat):Int))) (Option.bind (call 104 [(V.int .u8 ((UInt8.toNat (getD s0 (Int.toNat (0:Int)) 0):Nat):Int))] []) fun z0=>
 if(getB z0.1)=true then
 chk (decide (0≤(1:Int))) (chk (decide ((1:Int)≤((length s0:Nat):Int))) ((ag0 ((drop (Int.toNat (1:Int)) s0)))))
 else
 if(((UInt8.toNat (getD s0 (Int.toNat (0:Int)) 0):Nat):Int)==(40:Int))=true then
 Option.bind (call 137 [(V.str s0)] []) fun z1=>
 chk (decide (0≤(getI z1.1))) (chk (decide ((getI z1.1)≤((length s0:Nat):Int))) ((ag0 ((drop (Int.toNat (getI z1.1)) s0)))))
 else
 some ((V.str s0),[])))
 else
 some ((V.str s0),[])
def Hx (call:FuncId→Fun) (ag0:List UInt8→Option (V×List Ob)) (a0:List UInt8):Option (V×List Ob):=
 (ag0 (a0))
def I0 (a0:List UInt8):List V:=[V.str a0]
def uA (s0:List UInt8):St:=⟨[(V.str s0)]++List.replicate 21 V.bot,[]⟩
theorem KV (s0:List UInt8):
 RM 106 Tryz.f106 [] call icall again (aJ Tryz.f106 0) (uA s0)=yQ call (fun s0=>again (aJ Tryz.f106 0) (uA s0)) s0:=by kernel_rfl
theorem OU (a0:List UInt8):GO 106 Tryz.f106 (I0 a0) [] call icall again=Hx call (fun s0=>again (aJ Tryz.f106 0) (uA s0)) a0:=by kernel_rfl
def zN (call:FuncId→Fun):Nat→(List UInt8→Option (V×List Ob))
 |0=>fun _=>none
 |n+1=>yQ call (zN call n)
theorem M1 (call:FuncId→Fun) (icall:aQ (V×List Ob)):∀n,(∀(s0:List UInt8),RN 106 Tryz.f106 [] call icall n (aJ Tryz.f106 0) (uA s0)=(zN call n) s0)
 |0=>fun s0=>rfl
 |n+1=>by
  have ih:=M1 call icall n
  exact fun s0=>(KV call icall (RN 106 Tryz.f106 [] call icall n) s0).trans (by rw[show(fun s0=>RN 106 Tryz.f106 [] call icall n (aJ Tryz.f106 0) (uA s0))=(zN call n)from(funext fun s0=>ih s0)];rfl)
theorem OV (k:Nat) (a0:List UInt8):aA cfg (k+1) 106 (I0 a0) []=Hx (aA cfg k) (zN (aA cfg k) k) a0:=by
 have ih:=M1 (aA cfg k) (aE cfg (aA cfg k) 20) k
 refine(show aA cfg (k+1) 106 (I0 a0) []=GO 106 Tryz.f106 (I0 a0) [] (aA cfg k) (aE cfg (aA cfg k) 20) (RN 106 Tryz.f106 [] (aA cfg k) (aE cfg (aA cfg k) 20) k)by kernel_rfl).trans ((OU _ _ _ a0).trans ?_)
 rw[show(fun s0=>RN 106 Tryz.f106 [] (aA cfg k) (aE cfg (aA cfg k) 20) k (aJ Tryz.f106 0) (uA s0))=(zN (aA cfg k) k)from(funext fun s0=>ih s0)]
theorem OW (a0:List UInt8) {r:V×List Ob} (h:Evt (fun k n=>Hx (aA cfg k) (zN (aA cfg k) n) a0) r):Ret 106 [V.str a0] [] r:=aT (g:=fun k n=>Hx (aA cfg k) (zN (aA cfg k) n) a0) (fun k=>OV k a0) h
theorem KW (s0:List UInt8) {r:V×List Ob} (h:Evt (fun k n=>yQ (aA cfg k) (zN (aA cfg k) n) s0) r):Evt (fun k n=>(zN (aA cfg k) n) s0) r:=aX (fun k n=>rfl) h
def yR (call:FuncId→Fun) (ag0:List UInt8→List V→Int→Option (V×List Ob)) (s0:List UInt8) (l1:List V) (i2:Int):Option (V×List Ob):=
 if(decide (i2<((length s0:Nat):Int)))=true then
 chk (decide (0≤i2)) (chk (decide (i2<((length s0:Nat):Int))) (if(((UInt8.toNat (getD s0 (Int.toNat i2) 0):Nat):Int)==(34:Int))=true then
 chk (decide (0≤(IntKind.wrap .i64 (i2+(1:Int))))) (chk (decide ((IntKind.wrap .i64 (i2+(1:Int)))≤((length s0:Nat):Int))) (some ((V.tup [(V.str (bytesOf l1)),(V.str (drop (Int.toNat (IntKind.wrap .i64 (i2+(1:Int)))) s0)),(V.bool true)]),[])))
 else
 if(((UInt8.toNat (getD s0 (Int.toNat i2) 0):Nat):Int)==(92:Int))=true then
 if(decide ((IntKind.wrap .i64 (i2+(1:Int)))<((length s0:Nat):Int)))=true then
 chk (decide (0≤(IntKind.wrap .i64 (i2+(1:Int))))) (chk (decide ((IntKind.wrap .i64 (i2+(1:Int)))<((length s0:Nat):Int))) (chk (bO l1 [(V.int .u8 ((UInt8.toNat (getD s0 (Int.toNat (IntKind.wrap .i64 (i2+(1:Int)))) 0):Nat):Int))] 2) ((ag0 (s0) ((l1++[(V.int .u8 ((UInt8.toNat (getD s0 (Int.toNat (IntKind.wrap .i64 (i2+(1:Int)))) 0):Nat):Int))])) ((IntKind.wrap .i64 ((IntKind.wrap .i64 (i2+(1:Int)))+(1:Int))))))))
 else
 (ag0 (s0) (l1) ((IntKind.wrap .i64 ((IntKind.wrap .i64 (i2+(1:Int)))+(1:Int)))))
 else
 chk (bO l1 [(V.int .u8 ((UInt8.toNat (getD s0 (Int.toNat i2) 0):Nat):Int))] 2) ((ag0 (s0) ((l1++[(V.int .u8 ((UInt8.toNat (getD s0 (Int.toNat i2) 0):Nat):Int))])) ((IntKind.wrap .i64 (i2+(1:Int))))))))
 else
 some ((V.tup [(V.str []),(V.str []),(V.bool false)]),[])
def Hy (call:FuncId→Fun) (ag0:List UInt8→List V→Int→Option (V×List Ob)) (a0:List UInt8):Option (V×List Ob):=
 (ag0 (a0) ([]) ((1:Int)))
def I1 (a0:List UInt8):List V:=[V.str a0]
def uB (s0:List UInt8) (l1:List V) (i2:Int):St:=⟨[(V.str s0),V.bot,V.bot,V.bot,V.bot,(V.lst 5 true l1),(V.int IntKind.i64 i2)]++List.replicate 37 V.bot,[]⟩
theorem KX (s0:List UInt8) (l1:List V) (i2:Int):
 RM 107 Tryz.f107 [] call icall again (aJ Tryz.f107 0) (uB s0 l1 i2)=yR call (fun s0 l1 i2=>again (aJ Tryz.f107 0) (uB s0 l1 i2)) s0 l1 i2:=by kernel_rfl
theorem OX (a0:List UInt8):GO 107 Tryz.f107 (I1 a0) [] call icall again=Hy call (fun s0 l1 i2=>again (aJ Tryz.f107 0) (uB s0 l1 i2)) a0:=by kernel_rfl
def zO (call:FuncId→Fun):Nat→(List UInt8→List V→Int→Option (V×List Ob))
 |0=>fun _ _ _=>none
 |n+1=>yR call (zO call n)
theorem M3 (call:FuncId→Fun) (icall:aQ (V×List Ob)):∀n,(∀(s0:List UInt8) (l1:List V) (i2:Int),RN 107 Tryz.f107 [] call icall n (aJ Tryz.f107 0) (uB s0 l1 i2)=(zO call n) s0 l1 i2)
 |0=>fun s0 l1 i2=>rfl
 |n+1=>by
  have ih:=M3 call icall n
  exact fun s0 l1 i2=>(KX call icall (RN 107 Tryz.f107 [] call icall n) s0 l1 i2).trans (by rw[show(fun s0 l1 i2=>RN 107 Tryz.f107 [] call icall n (aJ Tryz.f107 0) (uB s0 l1 i2))=(zO call n)from(funext fun s0=>funext fun l1=>funext fun i2=>ih s0 l1 i2)];rfl)
theorem OY (k:Nat) (a0:List UInt8):aA cfg (k+1) 107 (I1 a0) []=Hy (aA cfg k) (zO (aA cfg k) k) a0:=by
 have ih:=M3 (aA cfg k) (aE cfg (aA cfg k) 20) k
 refine(show aA cfg (k+1) 107 (I1 a0) []=GO 107 Tryz.f107 (I1 a0) [] (aA cfg k) (aE cfg (aA cfg k) 20) (RN 107 Tryz.f107 [] (aA cfg k) (aE cfg (aA cfg k) 20) k)by kernel_rfl).trans ((OX _ _ _ a0).trans ?_)
 rw[show(fun s0 l1 i2=>RN 107 Tryz.f107 [] (aA cfg k) (aE cfg (aA cfg k) 20) k (aJ Tryz.f107 0) (uB s0 l1 i2))=(zO (aA cfg k) k)from(funext fun s0=>funext fun l1=>funext fun i2=>ih s0 l1 i2)]
theorem OZ (a0:List UInt8) {r:V×List Ob} (h:Evt (fun k n=>Hy (aA cfg k) (zO (aA cfg k) n) a0) r):Ret 107 [V.str a0] [] r:=aT (g:=fun k n=>Hy (aA cfg k) (zO (aA cfg k) n) a0) (fun k=>OY k a0) h
theorem KY (s0:List UInt8) (l1:List V) (i2:Int) {r:V×List Ob} (h:Evt (fun k n=>yR (aA cfg k) (zO (aA cfg k) n) s0 l1 i2) r):Evt (fun k n=>(zO (aA cfg k) n) s0 l1 i2) r:=aX (fun k n=>rfl) h
def yS (call:FuncId→Fun) (ag0:List UInt8→Int→Option (V×List Ob)) (s0:List UInt8) (i1:Int):Option (V×List Ob):=
 if(decide (i1<((length s0:Nat):Int)))=true then
 chk (decide (0≤i1)) (chk (decide (i1<((length s0:Nat):Int))) (if(decide (((UInt8.toNat (getD s0 (Int.toNat i1) 0):Nat):Int)≤(32:Int)))=false then
 if(((UInt8.toNat (getD s0 (Int.toNat i1) 0):Nat):Int)==(127:Int))=false then
 Option.bind (call 89 [(V.str [60,62,58,59,44,64,40,41,34]),(V.int .u8 ((UInt8.toNat (getD s0 (Int.toNat i1) 0):Nat):Int))] []) fun z0=>
 if(decide ((getI z0.1)≥(0:Int)))=true then
 chk (decide (0≤i1)) (chk (decide (i1≤((length s0:Nat):Int))) (chk (decide (0≤(0:Int))) (chk (decide ((0:Int)≤i1)) (chk (decide (0≤i1)) (chk (decide (i1≤((length s0:Nat):Int))) (some ((V.tup [(V.str (drop (Int.toNat (0:Int)) (take (Int.toNat i1) s0))),(V.str (drop (Int.toNat i1) s0))]),[])))))))
 else
 if(((UInt8.toNat (getD s0 (Int.toNat i1) 0):Nat):Int)==(91:Int))=true then
 chk (decide (0≤i1)) (chk (decide (i1≤((length s0:Nat):Int))) (Option.bind (call 89 [(V.str (drop (Int.toNat i1) s0)),(V.int .u8 93)] []) fun z1=>
 if(decide ((getI z1.1)<(0:Int)))=true then
 some ((V.tup [(V.str []),(V.str s0)]),[])
 else
 (ag0 (s0) ((IntKind.wrap .i64 (i1+(IntKind.wrap .i64 ((getI z1.1)+(1:Int)))))))))
 else
 (ag0 (s0) ((IntKind.wrap .i64 (i1+(1:Int)))))
 else
 chk (decide (0≤i1)) (chk (decide (i1≤((length s0:Nat):Int))) (chk (decide (0≤(0:Int))) (chk (decide ((0:Int)≤i1)) (chk (decide (0≤i1)) (chk (decide (i1≤((length s0:Nat):Int))) (some ((V.tup [(V.str (drop (Int.toNat (0:Int)) (take (Int.toNat i1) s0))),(V.str (drop (Int.toNat i1) s0))]),[])))))))
 else
 chk (decide (0≤i1)) (chk (decide (i1≤((length s0:Nat):Int))) (chk (decide (0≤(0:Int))) (chk (decide ((0:Int)≤i1)) (chk (decide (0≤i1)) (chk (decide (i1≤((length s0:Nat):Int))) (some ((V.tup [(V.str (drop (Int.toNat (0:Int)) (take (Int.toNat i1) s0))),(V.str (drop (Int.toNat i1) s0))]),[])))))))))
 else
 chk (decide (0≤i1)) (chk (decide (i1≤((length s0:Nat):Int))) (chk (decide (0≤(0:Int))) (chk (decide ((0:Int)≤i1)) (chk (decide (0≤i1)) (chk (decide (i1≤((length s0:Nat):Int))) (some ((V.tup [(V.str (drop (Int.toNat (0:Int)) (take (Int.toNat i1) s0))),(V.str (drop (Int.toNat i1) s0))]),[])))))))
def Hz (call:FuncId→Fun) (ag0:List UInt8→Int→Option (V×List Ob)) (a0:List UInt8):Option (V×List Ob):=
 (ag0 (a0) ((0:Int)))
def I2 (a0:List UInt8):List V:=[V.str a0]
def uC (s0:List UInt8) (i1:Int):St:=⟨[(V.str s0),V.bot,V.bot,V.bot,(V.int IntKind.i64 i1)]++List.replicate 43 V.bot,[]⟩
theorem KZ (s0:List UInt8) (i1:Int):
 RM 108 Tryz.f108 [] call icall again (aJ Tryz.f108 0) (uC s0 i1)=yS call (fun s0 i1=>again (aJ Tryz.f108 0) (uC s0 i1)) s0 i1:=by kernel_rfl
theorem O0 (a0:List UInt8):GO 108 Tryz.f108 (I2 a0) [] call icall again=Hz call (fun s0 i1=>again (aJ Tryz.f108 0) (uC s0 i1)) a0:=by kernel_rfl
def zP (call:FuncId→Fun):Nat→(List UInt8→Int→Option (V×List Ob))
 |0=>fun _ _=>none
 |n+1=>yS call (zP call n)
theorem M5 (call:FuncId→Fun) (icall:aQ (V×List Ob)):∀n,(∀(s0:List UInt8) (i1:Int),RN 108 Tryz.f108 [] call icall n (aJ Tryz.f108 0) (uC s0 i1)=(zP call n) s0 i1)
 |0=>fun s0 i1=>rfl
 |n+1=>by
  have ih:=M5 call icall n
  exact fun s0 i1=>(KZ call icall (RN 108 Tryz.f108 [] call icall n) s0 i1).trans (by rw[show(fun s0 i1=>RN 108 Tryz.f108 [] call icall n (aJ Tryz.f108 0) (uC s0 i1))=(zP call n)from(funext fun s0=>funext fun i1=>ih s0 i1)];rfl)
theorem O1 (k:Nat) (a0:List UInt8):aA cfg (k+1) 108 (I2 a0) []=Hz (aA cfg k) (zP (aA cfg k) k) a0:=by
 have ih:=M5 (aA cfg k) (aE cfg (aA cfg k) 20) k
 refine(show aA cfg (k+1) 108 (I2 a0) []=GO 108 Tryz.f108 (I2 a0) [] (aA cfg k) (aE cfg (aA cfg k) 20) (RN 108 Tryz.f108 [] (aA cfg k) (aE cfg (aA cfg k) 20) k)by kernel_rfl).trans ((O0 _ _ _ a0).trans ?_)
 rw[show(fun s0 i1=>RN 108 Tryz.f108 [] (aA cfg k) (aE cfg (aA cfg k) 20) k (aJ Tryz.f108 0) (uC s0 i1))=(zP (aA cfg k) k)from(funext fun s0=>funext fun i1=>ih s0 i1)]
theorem O2 (a0:List UInt8) {r:V×List Ob} (h:Evt (fun k n=>Hz (aA cfg k) (zP (aA cfg k) n) a0) r):Ret 108 [V.str a0] [] r:=aT (g:=fun k n=>Hz (aA cfg k) (zP (aA cfg k) n) a0) (fun k=>O1 k a0) h
theorem K0 (s0:List UInt8) (i1:Int) {r:V×List Ob} (h:Evt (fun k n=>yS (aA cfg k) (zP (aA cfg k) n) s0 i1) r):Evt (fun k n=>(zP (aA cfg k) n) s0 i1) r:=aX (fun k n=>rfl) h
def Dc (call:FuncId→Fun) (ag0:List UInt8→List V→Option (V×List Ob)) (s0:List UInt8) (l1:List V):Option (V×List Ob):=
 if(!(sEq s0 []))=true then
 chk (decide (0≤(0:Int))) (chk (decide ((0:Int)<((length s0:Nat):Int))) (Option.bind (call 89 [(V.str [60,62,58,59,44,64]),(V.int .u8 ((UInt8.toNat (getD s0 (Int.toNat (0:Int)) 0):Nat):Int))] []) fun z0=>
 if(decide ((getI z0.1)≥(0:Int)))=true then
 chk (decide (0≤(0:Int))) (chk (decide ((0:Int)<((length s0:Nat):Int))) (chk (bO l1 [(V.ifc 182 (V.int .u8 ((UInt8.toNat (getD s0 (Int.toNat (0:Int)) 0):Nat):Int)))] 17) (chk (decide (0≤(1:Int))) (chk (decide ((1:Int)≤((length s0:Nat):Int))) (Option.bind (call 106 [(V.str (drop (Int.toNat (1:Int)) s0))] []) fun z1=>
 (ag0 ((getS z1.1)) ((l1++[(V.ifc 182 (V.int .u8 ((UInt8.toNat (getD s0 (Int.toNat (0:Int)) 0):Nat):Int)))]))))))))
 else
 chk (decide (0≤(0:Int))) (chk (decide ((0:Int)<((length s0:Nat):Int))) (if(((UInt8.toNat (getD s0 (Int.toNat (0:Int)) 0):Nat):Int)==(34:Int))=true then
 Option.bind (call 107 [(V.str s0)] []) fun z1=>
 if(!(getB (headD (tail (tail (getT z1.1))) V.bot)))=true then
 some ((V.tup [(V.lst 213 false []),(V.bool false)]),[])
 else
 chk (bO l1 [(V.ifc 183 (V.str (getS (headD (getT z1.1) V.bot))))] 17) (Option.bind (call 106 [(V.str (getS (headD (tail (getT z1.1)) V.bot)))] []) fun z2=>
 (ag0 ((getS z2.1)) ((l1++[(V.ifc 183 (V.str (getS (headD (getT z1.1) V.bot))))]))))
 else
 Option.bind (call 108 [(V.str s0)] []) fun z1=>
 if(sEq (getS (headD (getT z1.1) V.bot)) [])=true then
 some ((V.tup [(V.lst 213 false []),(V.bool false)]),[])
 else
 chk (bO l1 [(V.ifc 183 (V.str (getS (headD (getT z1.1) V.bot))))] 17) (Option.bind (call 106 [(V.str (getS (headD (tail (getT z1.1)) V.bot)))] []) fun z2=>
 (ag0 ((getS z2.1)) ((l1++[(V.ifc 183 (V.str (getS (headD (getT z1.1) V.bot))))]))))))))
 else
 some ((V.tup [(V.lst 213 false l1),(V.bool true)]),[])
def T71 (call:FuncId→Fun) (ag0:List UInt8→List V→Option (V×List Ob)) (a0:List UInt8):Option (V×List Ob):=
 Option.bind (call 106 [(V.str a0)] []) fun z0=>
 (ag0 ((getS z0.1)) ([]))
def A71 (a0:List UInt8):List V:=[V.str a0]
def AU (s0:List UInt8) (l1:List V):St:=⟨[(V.str s0),V.bot,V.bot,V.bot,(V.lst 213 true l1)]++List.replicate 56 V.bot,[]⟩
theorem M6 (s0:List UInt8) (l1:List V):
 RM 71 Tryz.f71 [] call icall again (aJ Tryz.f71 0) (AU s0 l1)=Dc call (fun s0 l1=>again (aJ Tryz.f71 0) (AU s0 l1)) s0 l1:=by kernel_rfl
theorem E71 (a0:List UInt8):GO 71 Tryz.f71 (A71 a0) [] call icall again=T71 call (fun s0 l1=>again (aJ Tryz.f71 0) (AU s0 l1)) a0:=by kernel_rfl
def L71 (call:FuncId→Fun):Nat→(List UInt8→List V→Option (V×List Ob))
 |0=>fun _ _=>none
 |n+1=>Dc call (L71 call n)
theorem R71 (call:FuncId→Fun) (icall:aQ (V×List Ob)):∀n,(∀(s0:List UInt8) (l1:List V),RN 71 Tryz.f71 [] call icall n (aJ Tryz.f71 0) (AU s0 l1)=(L71 call n) s0 l1)
 |0=>fun s0 l1=>rfl
 |n+1=>by
  have ih:=R71 call icall n
  exact fun s0 l1=>(M6 call icall (RN 71 Tryz.f71 [] call icall n) s0 l1).trans (by rw[show(fun s0 l1=>RN 71 Tryz.f71 [] call icall n (aJ Tryz.f71 0) (AU s0 l1))=(L71 call n)from(funext fun s0=>funext fun l1=>ih s0 l1)];rfl)
theorem C71 (k:Nat) (a0:List UInt8):aA cfg (k+1) 71 (A71 a0) []=T71 (aA cfg k) (L71 (aA cfg k) k) a0:=by
 have ih:=R71 (aA cfg k) (aE cfg (aA cfg k) 20) k
 refine(show aA cfg (k+1) 71 (A71 a0) []=GO 71 Tryz.f71 (A71 a0) [] (aA cfg k) (aE cfg (aA cfg k) 20) (RN 71 Tryz.f71 [] (aA cfg k) (aE cfg (aA cfg k) 20) k)by kernel_rfl).trans ((E71 _ _ _ a0).trans ?_)
 rw[show(fun s0 l1=>RN 71 Tryz.f71 [] (aA cfg k) (aE cfg (aA cfg k) 20) k (aJ Tryz.f71 0) (AU s0 l1))=(L71 (aA cfg k) k)from(funext fun s0=>funext fun l1=>ih s0 l1)]
theorem M71 (a0:List UInt8) {r:V×List Ob} (h:Evt (fun k n=>T71 (aA cfg k) (L71 (aA cfg k) n) a0) r):Ret 71 [V.str a0] [] r:=aT (g:=fun k n=>T71 (aA cfg k) (L71 (aA cfg k) n) a0) (fun k=>C71 k a0) h
theorem M7 (s0:List UInt8) (l1:List V) {r:V×List Ob} (h:Evt (fun k n=>Dc (aA cfg k) (L71 (aA cfg k) n) s0 l1) r):Evt (fun k n=>(L71 (aA cfg k) n) s0 l1) r:=aX (fun k n=>rfl) h
noncomputable def Fw (call:FuncId→Fun) (a0:List V) (a1:List V) (a2:Int):Option (V×List Ob):=
 if(((length a0:Nat):Int)==(0:Int))=true then
  some ((V.bool false),[(Ob.cells [(V.lst 213 false a0),(V.lst 26 true a1)])])
 else
  chk (decide (0≤(0:Int))) (chk (decide ((0:Int)<((length a0:Nat):Int))) (if((V.ifT (getD a0 (Int.toNat (0:Int)) V.bot))==(182:Go.TypeId))=true then
   chk (bU cfg 182 (V.ifV (getD a0 (Int.toNat (0:Int)) V.bot))) (if((getI (V.ifV (getD a0 (Int.toNat (0:Int)) V.bot)))==a2)=true then
    chk (decide (0≤(1:Int))) (chk (decide ((1:Int)≤((length a0:Nat):Int))) (some ((V.bool true),[(Ob.cells [(V.lst 213 false (drop (Int.toNat (1:Int)) a0)),(V.lst 26 true a1)])])))
   else
    some ((V.bool false),[(Ob.cells [(V.lst 213 false a0),(V.lst 26 true a1)])]))
  else
   some ((V.bool false),[(Ob.cells [(V.lst 213 false a0),(V.lst 26 true a1)])])))
def HA (a0:List V) (a1:List V):List Ob:=[Ob.cells [V.lst 213 false a0,V.lst 26 true a1]]
def I3 (a2:Int):List V:=[V.ref 0 0,V.int IntKind.u8 a2]
theorem O3 (a0:List V) (a1:List V) (a2:Int):GO 110 Tryz.f110 (I3 a2) (HA a0 a1) call icall again=Fw call a0 a1 a2:=by kernel_rfl
theorem O4 (k:Nat) (a0:List V) (a1:List V) (a2:Int):aA cfg (k+1) 110 (I3 a2) (HA a0 a1)=Fw (aA cfg k) a0 a1 a2:=
 (show aA cfg (k+1) 110 (I3 a2) (HA a0 a1)=GO 110 Tryz.f110 (I3 a2) (HA a0 a1) (aA cfg k) (aE cfg (aA cfg k) 20) (RN 110 Tryz.f110 (HA a0 a1) (aA cfg k) (aE cfg (aA cfg k) 20) k)by kernel_rfl).trans (O3 _ _ _ a0 a1 a2)
theorem O5 (a0:List V) (a1:List V) (a2:Int) {r:V×List Ob} (h:Evt (fun k n=>Fw (aA cfg k) a0 a1 a2) r):Ret 110 [V.ref 0 0,V.int IntKind.u8 a2] [Ob.cells [V.lst 213 false a0,V.lst 26 true a1]] r:=aT (g:=fun k n=>Fw (aA cfg k) a0 a1 a2) (fun k=>O4 k a0 a1 a2) h
noncomputable def yT (call:FuncId→Fun) (ag0:List V→List V→List V→Option (V×List Ob)) (l0:List V) (l1:List V) (l2:List V):Option (V×List Ob):=
 if(decide (((length l1:Nat):Int)>(0:Int)))=true then
  chk (decide (0≤(0:Int))) (chk (decide ((0:Int)<((length l1:Nat):Int))) (if((V.ifT (getD l1 (Int.toNat (0:Int)) V.bot))==(183:Go.TypeId))=true then
   chk (bU cfg 183 (V.ifV (getD l1 (Int.toNat (0:Int)) V.bot))) (chk (bO l0 [(V.str (getS (V.ifV (getD l1 (Int.toNat (0:Int)) V.bot))))] 17) (chk (decide (0≤(1:Int))) (chk (decide ((1:Int)≤((length l1:Nat):Int))) ((ag0 ((l0++[(V.str (getS (V.ifV (getD l1 (Int.toNat (0:Int)) V.bot))))])) ((drop (Int.toNat (1:Int)) l1)) (l2))))))
  else
   some ((V.lst 9 false l0),[(Ob.cells [(V.lst 213 false l1),(V.lst 26 true l2)])])))
 else
  some ((V.lst 9 false l0),[(Ob.cells [(V.lst 213 false l1),(V.lst 26 true l2)])])
noncomputable def HB (call:FuncId→Fun) (ag0:List V→List V→List V→Option (V×List Ob)) (a0:List V) (a1:List V):Option (V×List Ob):=
 (ag0 ([]) (a0) (a1))
def zQ (a0:List V) (a1:List V):List Ob:=[Ob.cells [V.lst 213 false a0,V.lst 26 true a1]]
def I4:List V:=[V.ref 0 0]
def uD (l0:List V) (l1:List V) (l2:List V):St:=⟨[(V.ref 0 0),V.bot,V.bot,(V.lst 9 true l0)]++List.replicate 31 V.bot,[(Ob.cells [(V.lst 213 false l1),(V.lst 26 true l2)])]⟩
theorem K3 (a0:List V) (a1:List V) (l0:List V) (l1:List V) (l2:List V):
 RM 138 Tryz.f138 (zQ a0 a1) call icall again (aJ Tryz.f138 0) (uD l0 l1 l2)=yT call (fun l0 l1 l2=>again (aJ Tryz.f138 0) (uD l0 l1 l2)) l0 l1 l2:=by kernel_rfl
theorem O6 (a0:List V) (a1:List V):GO 138 Tryz.f138 I4 (zQ a0 a1) call icall again=HB call (fun l0 l1 l2=>again (aJ Tryz.f138 0) (uD l0 l1 l2)) a0 a1:=by kernel_rfl
noncomputable def zR (call:FuncId→Fun):Nat→(List V→List V→List V→Option (V×List Ob))
 |0=>fun _ _ _=>none
 |n+1=>yT call (zR call n)
theorem M8 (call:FuncId→Fun) (icall:aQ (V×List Ob)) (a0:List V) (a1:List V):∀n,(∀(l0:List V) (l1:List V) (l2:List V),RN 138 Tryz.f138 (zQ a0 a1) call icall n (aJ Tryz.f138 0) (uD l0 l1 l2)=(zR call n) l0 l1 l2)
 |0=>fun l0 l1 l2=>rfl
 |n+1=>by
  have ih:=M8 call icall a0 a1 n
  exact fun l0 l1 l2=>(K3 call icall (RN 138 Tryz.f138 (zQ a0 a1) call icall n) a0 a1 l0 l1 l2).trans (by rw[show(fun l0 l1 l2=>RN 138 Tryz.f138 (zQ a0 a1) call icall n (aJ Tryz.f138 0) (uD l0 l1 l2))=(zR call n)from(funext fun l0=>funext fun l1=>funext fun l2=>ih l0 l1 l2)];rfl)
theorem O7 (k:Nat) (a0:List V) (a1:List V):aA cfg (k+1) 138 I4 (zQ a0 a1)=HB (aA cfg k) (zR (aA cfg k) k) a0 a1:=by
 have ih:=M8 (aA cfg k) (aE cfg (aA cfg k) 20) a0 a1 k
 refine(show aA cfg (k+1) 138 I4 (zQ a0 a1)=GO 138 Tryz.f138 I4 (zQ a0 a1) (aA cfg k) (aE cfg (aA cfg k) 20) (RN 138 Tryz.f138 (zQ a0 a1) (aA cfg k) (aE cfg (aA cfg k) 20) k)by kernel_rfl).trans ((O6 _ _ _ a0 a1).trans ?_)
 rw[show(fun l0 l1 l2=>RN 138 Tryz.f138 (zQ a0 a1) (aA cfg k) (aE cfg (aA cfg k) 20) k (aJ Tryz.f138 0) (uD l0 l1 l2))=(zR (aA cfg k) k)from(funext fun l0=>funext fun l1=>funext fun l2=>ih l0 l1 l2)]
theorem O8 (a0:List V) (a1:List V) {r:V×List Ob} (h:Evt (fun k n=>HB (aA cfg k) (zR (aA cfg k) n) a0 a1) r):Ret 138 [V.ref 0 0] [Ob.cells [V.lst 213 false a0,V.lst 26 true a1]] r:=aT (g:=fun k n=>HB (aA cfg k) (zR (aA cfg k) n) a0 a1) (fun k=>O7 k a0 a1) h
theorem HD (l0:List V) (l1:List V) (l2:List V) {r:V×List Ob} (h:Evt (fun k n=>yT (aA cfg k) (zR (aA cfg k) n) l0 l1 l2) r):Evt (fun k n=>(zR (aA cfg k) n) l0 l1 l2) r:=aX (fun k n=>rfl) h
noncomputable def HE (call:FuncId→Fun) (a0:List V) (a1:List V):Option (V×List Ob):=
 Option.bind (call 110 [(V.ref 0 0),(V.int .u8 (64:Int))] [(Ob.cells [(V.lst 213 false a0),(V.lst 26 true a1)])]) fun z0=>
 if(!(getB z0.1))=true then
  some ((V.tup [(V.str []),(V.bool true)]),[(Ob.cells [(V.lst 213 false (getL (headD (Ob.getC (headD z0.2 Ob.dead)) V.bot))),(V.lst 26 true (getL (headD (tail (Ob.getC (headD z0.2 Ob.dead))) V.bot)))])])
 else
  if(((length (getL (headD (Ob.getC (headD z0.2 Ob.dead)) V.bot)):Nat):Int)==(0:Int))=true then
   some ((V.tup [(V.str []),(V.bool false)]),[(Ob.cells [(V.lst 213 false (getL (headD (Ob.getC (headD z0.2 Ob.dead)) V.bot))),(V.lst 26 true (getL (headD (tail (Ob.getC (headD z0.2 Ob.dead))) V.bot)))])])
  else
   chk (decide (0≤(0:Int))) (chk (decide ((0:Int)<((length (getL (headD (Ob.getC (headD z0.2 Ob.dead)) V.bot)):Nat):Int))) (if((V.ifT (getD (getL (headD (Ob.getC (headD z0.2 Ob.dead)) V.bot)) (Int.toNat (0:Int)) V.bot))==(183:Go.TypeId))=true then
    chk (bU cfg 183 (V.ifV (getD (getL (headD (Ob.getC (headD z0.2 Ob.dead)) V.bot)) (Int.toNat (0:Int)) V.bot))) (chk (decide (0≤(1:Int))) (chk (decide ((1:Int)≤((length (getL (headD (Ob.getC (headD z0.2 Ob.dead)) V.bot)):Nat):Int))) (some ((V.tup [(V.str (getS (V.ifV (getD (getL (headD (Ob.getC (headD z0.2 Ob.dead)) V.bot)) (Int.toNat (0:Int)) V.bot)))),(V.bool true)]),[(Ob.cells [(V.lst 213 false (drop (Int.toNat (1:Int)) (getL (headD (Ob.getC (headD z0.2 Ob.dead)) V.bot)))),(V.lst 26 true (getL (headD (tail (Ob.getC (headD z0.2 Ob.dead))) V.bot)))])]))))
   else
    some ((V.tup [(V.str []),(V.bool false)]),[(Ob.cells [(V.lst 213 false (getL (headD (Ob.getC (headD z0.2 Ob.dead)) V.bot))),(V.lst 26 true (getL (headD (tail (Ob.getC (headD z0.2 Ob.dead))) V.bot)))])])))
def HG (a0:List V) (a1:List V):List Ob:=[Ob.cells [V.lst 213 false a0,V.lst 26 true a1]]
def I5:List V:=[V.ref 0 0]
theorem O9 (a0:List V) (a1:List V):GO 140 Tryz.f140 I5 (HG a0 a1) call icall again=HE call a0 a1:=by kernel_rfl
theorem Pa (k:Nat) (a0:List V) (a1:List V):aA cfg (k+1) 140 I5 (HG a0 a1)=HE (aA cfg k) a0 a1:=
 (show aA cfg (k+1) 140 I5 (HG a0 a1)=GO 140 Tryz.f140 I5 (HG a0 a1) (aA cfg k) (aE cfg (aA cfg k) 20) (RN 140 Tryz.f140 (HG a0 a1) (aA cfg k) (aE cfg (aA cfg k) 20) k)by kernel_rfl).trans (O9 _ _ _ a0 a1)
theorem Pb (a0:List V) (a1:List V) {r:V×List Ob} (h:Evt (fun k n=>HE (aA cfg k) a0 a1) r):Ret 140 [V.ref 0 0] [Ob.cells [V.lst 213 false a0,V.lst 26 true a1]] r:=aT (g:=fun k n=>HE (aA cfg k) a0 a1) (fun k=>Pa k a0 a1) h
def yU (call:FuncId→Fun) (ag0:Bool→List V→List V→Option (V×List Ob)) (b0:Bool) (l1:List V) (l2:List V):Option (V×List Ob):=
 if(decide (((length l1:Nat):Int)>(0:Int)))=true then
 chk (decide (0≤(0:Int))) (chk (decide ((0:Int)<((length l1:Nat):Int))) (if((V.ifT (getD l1 (Int.toNat (0:Int)) V.bot))==(182:Go.TypeId))=true then
 chk (CSh.fits (CSh.int .u8) (V.ifV (getD l1 (Int.toNat (0:Int)) V.bot))) (if((getI (V.ifV (getD l1 (Int.toNat (0:Int)) V.bot)))==(64:Int))=true then
 Option.bind (call 140 [(V.ref 0 0)] [(Ob.cells [(V.lst 213 false l1),(V.lst 26 true l2)])]) fun z0=>
 if(!(getB (headD (tail (getT z0.1)) V.bot)))=true then
 some ((V.bool false),[(Ob.cells [(V.lst 213 false (getL (headD (Ob.getC (headD z0.2 Ob.dead)) V.bot))),(V.lst 26 true (getL (headD (tail (Ob.getC (headD z0.2 Ob.dead))) V.bot)))])])
 else
 Option.bind (call 110 [(V.ref 0 0),(V.int .u8 44)] [(Ob.cells [(V.lst 213 false (getL (headD (Ob.getC (headD z0.2 Ob.dead)) V.bot))),(V.lst 26 true (getL (headD (tail (Ob.getC (headD z0.2 Ob.dead))) V.bot)))])]) fun z1=>
 (ag0 (true) ((getL (headD (Ob.getC (headD z1.2 Ob.dead)) V.bot))) ((getL (headD (tail (Ob.getC (headD z1.2 Ob.dead))) V.bot))))
 else
 if(!b0)=false then
 Option.bind (call 110 [(V.ref 0 0),(V.int .u8 58)] [(Ob.cells [(V.lst 213 false l1),(V.lst 26 true l2)])]) fun z0=>
 some ((V.bool (getB z0.1)),[(Ob.cells [(V.lst 213 false (getL (headD (Ob.getC (headD z0.2 Ob.dead)) V.bot))),(V.lst 26 true (getL (headD (tail (Ob.getC (headD z0.2 Ob.dead))) V.bot)))])])
 else
 some ((V.bool true),[(Ob.cells [(V.lst 213 false l1),(V.lst 26 true l2)])]))
 else
 if(!b0)=false then
 Option.bind (call 110 [(V.ref 0 0),(V.int .u8 58)] [(Ob.cells [(V.lst 213 false l1),(V.lst 26 true l2)])]) fun z0=>
 some ((V.bool (getB z0.1)),[(Ob.cells [(V.lst 213 false (getL (headD (Ob.getC (headD z0.2 Ob.dead)) V.bot))),(V.lst 26 true (getL (headD (tail (Ob.getC (headD z0.2 Ob.dead))) V.bot)))])])
 else
 some ((V.bool true),[(Ob.cells [(V.lst 213 false l1),(V.lst 26 true l2)])])))
 else
 if(!b0)=false then
 Option.bind (call 110 [(V.ref 0 0),(V.int .u8 58)] [(Ob.cells [(V.lst 213 false l1),(V.lst 26 true l2)])]) fun z0=>
 some ((V.bool (getB z0.1)),[(Ob.cells [(V.lst 213 false (getL (headD (Ob.getC (headD z0.2 Ob.dead)) V.bot))),(V.lst 26 true (getL (headD (tail (Ob.getC (headD z0.2 Ob.dead))) V.bot)))])])
 else
 some ((V.bool true),[(Ob.cells [(V.lst 213 false l1),(V.lst 26 true l2)])])
def HH (call:FuncId→Fun) (ag0:Bool→List V→List V→Option (V×List Ob)) (a0:List V) (a1:List V):Option (V×List Ob):=
 (ag0 (false) (a0) (a1))
def zS (a0:List V) (a1:List V):List Ob:=[Ob.cells [V.lst 213 false a0,V.lst 26 true a1]]
def I6:List V:=[V.ref 0 0]
def uE (b0:Bool) (l1:List V) (l2:List V):St:=⟨[(V.ref 0 0),V.bot,V.bot,(V.bool b0)]++List.replicate 33 V.bot,[(Ob.cells [(V.lst 213 false l1),(V.lst 26 true l2)])]⟩
theorem K4 (a0:List V) (a1:List V) (b0:Bool) (l1:List V) (l2:List V):
 RM 160 Tryz.f160 (zS a0 a1) call icall again (aJ Tryz.f160 0) (uE b0 l1 l2)=yU call (fun b0 l1 l2=>again (aJ Tryz.f160 0) (uE b0 l1 l2)) b0 l1 l2:=by kernel_rfl
theorem Pd (a0:List V) (a1:List V):GO 160 Tryz.f160 I6 (zS a0 a1) call icall again=HH call (fun b0 l1 l2=>again (aJ Tryz.f160 0) (uE b0 l1 l2)) a0 a1:=by kernel_rfl
def zT (call:FuncId→Fun):Nat→(Bool→List V→List V→Option (V×List Ob))
 |0=>fun _ _ _=>none
 |n+1=>yU call (zT call n)
theorem M9 (call:FuncId→Fun) (icall:aQ (V×List Ob)) (a0:List V) (a1:List V):∀n,(∀(b0:Bool) (l1:List V) (l2:List V),RN 160 Tryz.f160 (zS a0 a1) call icall n (aJ Tryz.f160 0) (uE b0 l1 l2)=(zT call n) b0 l1 l2)
 |0=>fun b0 l1 l2=>rfl
 |n+1=>by
  have ih:=M9 call icall a0 a1 n
  exact fun b0 l1 l2=>(K4 call icall (RN 160 Tryz.f160 (zS a0 a1) call icall n) a0 a1 b0 l1 l2).trans (by rw[show(fun b0 l1 l2=>RN 160 Tryz.f160 (zS a0 a1) call icall n (aJ Tryz.f160 0) (uE b0 l1 l2))=(zT call n)from(funext fun b0=>funext fun l1=>funext fun l2=>ih b0 l1 l2)];rfl)
theorem Pe (k:Nat) (a0:List V) (a1:List V):aA cfg (k+1) 160 I6 (zS a0 a1)=HH (aA cfg k) (zT (aA cfg k) k) a0 a1:=by
 have ih:=M9 (aA cfg k) (aE cfg (aA cfg k) 20) a0 a1 k
 refine(show aA cfg (k+1) 160 I6 (zS a0 a1)=GO 160 Tryz.f160 I6 (zS a0 a1) (aA cfg k) (aE cfg (aA cfg k) 20) (RN 160 Tryz.f160 (zS a0 a1) (aA cfg k) (aE cfg (aA cfg k) 20) k)by kernel_rfl).trans ((Pd _ _ _ a0 a1).trans ?_)
 rw[show(fun b0 l1 l2=>RN 160 Tryz.f160 (zS a0 a1) (aA cfg k) (aE cfg (aA cfg k) 20) k (aJ Tryz.f160 0) (uE b0 l1 l2))=(zT (aA cfg k) k)from(funext fun b0=>funext fun l1=>funext fun l2=>ih b0 l1 l2)]
theorem Pf (a0:List V) (a1:List V) {r:V×List Ob} (h:Evt (fun k n=>HH (aA cfg k) (zT (aA cfg k) n) a0 a1) r):Ret 160 [V.ref 0 0] [Ob.cells [V.lst 213 false a0,V.lst 26 true a1]] r:=aT (g:=fun k n=>HH (aA cfg k) (zT (aA cfg k) n) a0 a1) (fun k=>Pe k a0 a1) h
theorem K5 (b0:Bool) (l1:List V) (l2:List V) {r:V×List Ob} (h:Evt (fun k n=>yU (aA cfg k) (zT (aA cfg k) n) b0 l1 l2) r):Evt (fun k n=>(zT (aA cfg k) n) b0 l1 l2) r:=aX (fun k n=>rfl) h
def HI (call:FuncId→Fun) (a0:List V) (a1:List V) (a2:List V):Option (V×List Ob):=
 Option.bind (call 160 [(V.ref 0 0)] [(Ob.cells [(V.lst 213 false a0),(V.lst 26 true a1)])]) fun z0=>
 if(!(getB z0.1))=true then
 some ((V.bool false),[(Ob.cells [(V.lst 213 false (getL (headD (Ob.getC (headD z0.2 Ob.dead)) V.bot))),(V.lst 26 true (getL (headD (tail (Ob.getC (headD z0.2 Ob.dead))) V.bot)))])])
 else
 Option.bind (call 138 [(V.ref 0 0)] [(Ob.cells [(V.lst 213 false (getL (headD (Ob.getC (headD z0.2 Ob.dead)) V.bot))),(V.lst 26 true (getL (headD (tail (Ob.getC (headD z0.2 Ob.dead))) V.bot)))])]) fun z1=>
 Option.bind (call 140 [(V.ref 0 0)] [(Ob.cells [(V.lst 213 false (getL (headD (Ob.getC (headD z1.2 Ob.dead)) V.bot))),(V.lst 26 true (getL (headD (tail (Ob.getC (headD z1.2 Ob.dead))) V.bot)))])]) fun z2=>
 if(!(getB (headD (tail (getT z2.1)) V.bot)))=false then
 if(((length (getL z1.1):Nat):Int)==(0:Int))=false then
 Option.bind (call 110 [(V.ref 0 0),(V.int .u8 62)] [(Ob.cells [(V.lst 213 false (getL (headD (Ob.getC (headD z2.2 Ob.dead)) V.bot))),(V.lst 26 true (getL (headD (tail (Ob.getC (headD z2.2 Ob.dead))) V.bot)))])]) fun z3=>
 if(!(getB z3.1))=true then
 some ((V.bool false),[(Ob.cells [(V.lst 213 false (getL (headD (Ob.getC (headD z3.2 Ob.dead)) V.bot))),(V.lst 26 true (getL (headD (tail (Ob.getC (headD z3.2 Ob.dead))) V.bot)))])])
 else
 Option.bind (call 85 [(V.lst 9 false a2),(V.str [32])] []) fun z4=>
 Option.bind (call 85 [(V.lst 9 false (getL z1.1)),(V.str [])] []) fun z5=>
 chk (bO (getL (headD (tail (Ob.getC (headD z3.2 Ob.dead))) V.bot)) [(V.agg [(V.int .i64 0),(V.str (getS z4.1)),(V.str (getS z5.1)),(V.str (getS (headD (getT z2.1) V.bot)))])] 57) (some ((V.bool true),[(Ob.cells [(V.lst 213 false (getL (headD (Ob.getC (headD z3.2 Ob.dead)) V.bot))),(V.lst 26 true ((getL (headD (tail (Ob.getC (headD z3.2 Ob.dead))) V.bot))++[(V.agg [(V.int .i64 0),(V.str (getS z4.1)),(V.str (getS z5.1)),(V.str (getS (headD (getT z2.1) V.bot)))])]))])]))
 else
 some ((V.bool false),[(Ob.cells [(V.lst 213 false (getL (headD (Ob.getC (headD z2.2 Ob.dead)) V.bot))),(V.lst 26 true (getL (headD (tail (Ob.getC (headD z2.2 Ob.dead))) V.bot)))])])
 else
 some ((V.bool false),[(Ob.cells [(V.lst 213 false (getL (headD (Ob.getC (headD z2.2 Ob.dead)) V.bot))),(V.lst 26 true (getL (headD (tail (Ob.getC (headD z2.2 Ob.dead))) V.bot)))])])
def HJ (a0:List V) (a1:List V):List Ob:=[Ob.cells [V.lst 213 false a0,V.lst 26 true a1]]
def I7 (a2:List V):List V:=[V.ref 0 0,V.lst 9 false a2]
theorem Pg (a0:List V) (a1:List V) (a2:List V):GO 139 Tryz.f139 (I7 a2) (HJ a0 a1) call icall again=HI call a0 a1 a2:=by kernel_rfl
theorem Ph (k:Nat) (a0:List V) (a1:List V) (a2:List V):aA cfg (k+1) 139 (I7 a2) (HJ a0 a1)=HI (aA cfg k) a0 a1 a2:=
 (show aA cfg (k+1) 139 (I7 a2) (HJ a0 a1)=GO 139 Tryz.f139 (I7 a2) (HJ a0 a1) (aA cfg k) (aE cfg (aA cfg k) 20) (RN 139 Tryz.f139 (HJ a0 a1) (aA cfg k) (aE cfg (aA cfg k) 20) k)by kernel_rfl).trans (Pg _ _ _ a0 a1 a2)
theorem Pi (a0:List V) (a1:List V) (a2:List V) {r:V×List Ob} (h:Evt (fun k n=>HI (aA cfg k) a0 a1 a2) r):Ret 139 [V.ref 0 0,V.lst 9 false a2] [Ob.cells [V.lst 213 false a0,V.lst 26 true a1]] r:=aT (g:=fun k n=>HI (aA cfg k) a0 a1 a2) (fun k=>Ph k a0 a1 a2) h
def HK (call:FuncId→Fun) (a0:List V) (a1:List V) (a2:Bool):Option (V×List Ob):=
 Option.bind (call 138 [(V.ref 0 0)] [(Ob.cells [(V.lst 213 false a0),(V.lst 26 true a1)])]) fun z0=>
 Option.bind (call 110 [(V.ref 0 0),(V.int .u8 60)] [(Ob.cells [(V.lst 213 false (getL (headD (Ob.getC (headD z0.2 Ob.dead)) V.bot))),(V.lst 26 true (getL (headD (tail (Ob.getC (headD z0.2 Ob.dead))) V.bot)))])]) fun z1=>
 if(getB z1.1)=true then
 Option.bind (call 139 [(V.ref 0 0),(V.lst 9 false (getL z0.1))] [(Ob.cells [(V.lst 213 false (getL (headD (Ob.getC (headD z1.2 Ob.dead)) V.bot))),(V.lst 26 true (getL (headD (tail (Ob.getC (headD z1.2 Ob.dead))) V.bot)))])]) fun z2=>
 some ((V.bool (getB z2.1)),[(Ob.cells [(V.lst 213 false (getL (headD (Ob.getC (headD z2.2 Ob.dead)) V.bot))),(V.lst 26 true (getL (headD (tail (Ob.getC (headD z2.2 Ob.dead))) V.bot)))])])
 else
 if(!a2)=true then
 Option.bind (call 110 [(V.ref 0 0),(V.int .u8 58)] [(Ob.cells [(V.lst 213 false (getL (headD (Ob.getC (headD z1.2 Ob.dead)) V.bot))),(V.lst 26 true (getL (headD (tail (Ob.getC (headD z1.2 Ob.dead))) V.bot)))])]) fun z2=>
 if(getB z2.1)=true then
 Option.bind (call 85 [(V.lst 9 false (getL z0.1)),(V.str [32])] []) fun z3=>
 chk (bO (getL (headD (tail (Ob.getC (headD z2.2 Ob.dead))) V.bot)) [(V.agg [(V.int .i64 1),(V.str (getS z3.1)),(V.str []),(V.str [])])] 57) (Option.bind (call 72 [(V.ref 0 0),(V.bool true)] [(Ob.cells [(V.lst 213 false (getL (headD (Ob.getC (headD z2.2 Ob.dead)) V.bot))),(V.lst 26 true ((getL (headD (tail (Ob.getC (headD z2.2 Ob.dead))) V.bot))++[(V.agg [(V.int .i64 1),(V.str (getS z3.1)),(V.str []),(V.str [])])]))])]) fun z4=>
 if(!(getB z4.1))=false then
 Option.bind (call 110 [(V.ref 0 0),(V.int .u8 59)] [(Ob.cells [(V.lst 213 false (getL (headD (Ob.getC (headD z4.2 Ob.dead)) V.bot))),(V.lst 26 true (getL (headD (tail (Ob.getC (headD z4.2 Ob.dead))) V.bot)))])]) fun z5=>
 if(!(getB z5.1))=true then
 some ((V.bool false),[(Ob.cells [(V.lst 213 false (getL (headD (Ob.getC (headD z5.2 Ob.dead)) V.bot))),(V.lst 26 true (getL (headD (tail (Ob.getC (headD z5.2 Ob.dead))) V.bot)))])])
 else
 chk (bO (getL (headD (tail (Ob.getC (headD z5.2 Ob.dead))) V.bot)) [(V.agg [(V.int .i64 2),(V.str []),(V.str []),(V.str [])])] 57) (some ((V.bool true),[(Ob.cells [(V.lst 213 false (getL (headD (Ob.getC (headD z5.2 Ob.dead)) V.bot))),(V.lst 26 true ((getL (headD (tail (Ob.getC (headD z5.2 Ob.dead))) V.bot))++[(V.agg [(V.int .i64 2),(V.str []),(V.str []),(V.str [])])]))])]))
 else
 some ((V.bool false),[(Ob.cells [(V.lst 213 false (getL (headD (Ob.getC (headD z4.2 Ob.dead)) V.bot))),(V.lst 26 true (getL (headD (tail (Ob.getC (headD z4.2 Ob.dead))) V.bot)))])]))
 else
 if(((length (getL z0.1):Nat):Int)==(0:Int))=true then
 some ((V.bool true),[(Ob.cells [(V.lst 213 false (getL (headD (Ob.getC (headD z2.2 Ob.dead)) V.bot))),(V.lst 26 true (getL (headD (tail (Ob.getC (headD z2.2 Ob.dead))) V.bot)))])])
 else
 Option.bind (call 140 [(V.ref 0 0)] [(Ob.cells [(V.lst 213 false (getL (headD (Ob.getC (headD z2.2 Ob.dead)) V.bot))),(V.lst 26 true (getL (headD (tail (Ob.getC (headD z2.2 Ob.dead))) V.bot)))])]) fun z3=>
 Option.bind (call 85 [(V.lst 9 false (getL z0.1)),(V.str [])] []) fun z4=>
 chk (bO (getL (headD (tail (Ob.getC (headD z3.2 Ob.dead))) V.bot)) [(V.agg [(V.int .i64 0),(V.str []),(V.str (getS z4.1)),(V.str (getS (headD (getT z3.1) V.bot)))])] 57) (some ((V.bool (getB (headD (tail (getT z3.1)) V.bot))),[(Ob.cells [(V.lst 213 false (getL (headD (Ob.getC (headD z3.2 Ob.dead)) V.bot))),(V.lst 26 true ((getL (headD (tail (Ob.getC (headD z3.2 Ob.dead))) V.bot))++[(V.agg [(V.int .i64 0),(V.str []),(V.str (getS z4.1)),(V.str (getS (headD (getT z3.1) V.bot)))])]))])]))
 else
 if(((length (getL z0.1):Nat):Int)==(0:Int))=true then
 some ((V.bool true),[(Ob.cells [(V.lst 213 false (getL (headD (Ob.getC (headD z1.2 Ob.dead)) V.bot))),(V.lst 26 true (getL (headD (tail (Ob.getC (headD z1.2 Ob.dead))) V.bot)))])])
 else
 Option.bind (call 140 [(V.ref 0 0)] [(Ob.cells [(V.lst 213 false (getL (headD (Ob.getC (headD z1.2 Ob.dead)) V.bot))),(V.lst 26 true (getL (headD (tail (Ob.getC (headD z1.2 Ob.dead))) V.bot)))])]) fun z2=>
 Option.bind (call 85 [(V.lst 9 false (getL z0.1)),(V.str [])] []) fun z3=>
 chk (bO (getL (headD (tail (Ob.getC (headD z2.2 Ob.dead))) V.bot)) [(V.agg [(V.int .i64 0),(V.str []),(V.str (getS z3.1)),(V.str (getS (headD (getT z2.1) V.bot)))])] 57) (some ((V.bool (getB (headD (tail (getT z2.1)) V.bot))),[(Ob.cells [(V.lst 213 false (getL (headD (Ob.getC (headD z2.2 Ob.dead)) V.bot))),(V.lst 26 true ((getL (headD (tail (Ob.getC (headD z2.2 Ob.dead))) V.bot))++[(V.agg [(V.int .i64 0),(V.str []),(V.str (getS z3.1)),(V.str (getS (headD (getT z2.1) V.bot)))])]))])]))
def HL (a0:List V) (a1:List V):List Ob:=[Ob.cells [V.lst 213 false a0,V.lst 26 true a1]]
def I8 (a2:Bool):List V:=[V.ref 0 0,V.bool a2]
theorem Pj (a0:List V) (a1:List V) (a2:Bool):GO 109 Tryz.f109 (I8 a2) (HL a0 a1) call icall again=HK call a0 a1 a2:=by kernel_rfl
theorem Pk (k:Nat) (a0:List V) (a1:List V) (a2:Bool):aA cfg (k+1) 109 (I8 a2) (HL a0 a1)=HK (aA cfg k) a0 a1 a2:=
 (show aA cfg (k+1) 109 (I8 a2) (HL a0 a1)=GO 109 Tryz.f109 (I8 a2) (HL a0 a1) (aA cfg k) (aE cfg (aA cfg k) 20) (RN 109 Tryz.f109 (HL a0 a1) (aA cfg k) (aE cfg (aA cfg k) 20) k)by kernel_rfl).trans (Pj _ _ _ a0 a1 a2)
theorem Pl (a0:List V) (a1:List V) (a2:Bool) {r:V×List Ob} (h:Evt (fun k n=>HK (aA cfg k) a0 a1 a2) r):Ret 109 [V.ref 0 0,V.bool a2] [Ob.cells [V.lst 213 false a0,V.lst 26 true a1]] r:=aT (g:=fun k n=>HK (aA cfg k) a0 a1 a2) (fun k=>Pk k a0 a1 a2) h
def EK (call:FuncId→Fun) (ag0:Bool→List V→List V→Option (V×List Ob)) (b0:Bool) (l1:List V) (l2:List V):Option (V×List Ob):=
 Option.bind (call 109 [(V.ref 0 0),(V.bool b0)] [(Ob.cells [(V.lst 213 false l1),(V.lst 26 true l2)])]) fun z0=>
 if(!(getB z0.1))=true then
 some ((V.bool false),[(Ob.cells [(V.lst 213 false (getL (headD (Ob.getC (headD z0.2 Ob.dead)) V.bot))),(V.lst 26 true (getL (headD (tail (Ob.getC (headD z0.2 Ob.dead))) V.bot)))])])
 else
 Option.bind (call 110 [(V.ref 0 0),(V.int .u8 44)] [(Ob.cells [(V.lst 213 false (getL (headD (Ob.getC (headD z0.2 Ob.dead)) V.bot))),(V.lst 26 true (getL (headD (tail (Ob.getC (headD z0.2 Ob.dead))) V.bot)))])]) fun z1=>
 if(!(getB z1.1))=true then
 some ((V.bool true),[(Ob.cells [(V.lst 213 false (getL (headD (Ob.getC (headD z1.2 Ob.dead)) V.bot))),(V.lst 26 true (getL (headD (tail (Ob.getC (headD z1.2 Ob.dead))) V.bot)))])])
 else
 (ag0 (b0) ((getL (headD (Ob.getC (headD z1.2 Ob.dead)) V.bot))) ((getL (headD (tail (Ob.getC (headD z1.2 Ob.dead))) V.bot))))
def T72 (call:FuncId→Fun) (ag0:Bool→List V→List V→Option (V×List Ob)) (a0:List V) (a1:List V) (a2:Bool):Option (V×List Ob):=
 (ag0 (a2) (a0) (a1))
def O72 (a0:List V) (a1:List V):List Ob:=[Ob.cells [V.lst 213 false a0,V.lst 26 true a1]]
def A72 (a2:Bool):List V:=[V.ref 0 0,V.bool a2]
def AV (b0:Bool) (l1:List V) (l2:List V):St:=⟨[(V.ref 0 0),(V.bool b0)]++List.replicate 10 V.bot,[(Ob.cells [(V.lst 213 false l1),(V.lst 26 true l2)])]⟩
theorem Na (a0:List V) (a1:List V) (b0:Bool) (l1:List V) (l2:List V):
 RM 72 Tryz.f72 (O72 a0 a1) call icall again (aJ Tryz.f72 0) (AV b0 l1 l2)=EK call (fun b0 l1 l2=>again (aJ Tryz.f72 0) (AV b0 l1 l2)) b0 l1 l2:=by kernel_rfl
theorem E72 (a0:List V) (a1:List V) (a2:Bool):GO 72 Tryz.f72 (A72 a2) (O72 a0 a1) call icall again=T72 call (fun b0 l1 l2=>again (aJ Tryz.f72 0) (AV b0 l1 l2)) a0 a1 a2:=by kernel_rfl
def L72 (call:FuncId→Fun):Nat→(Bool→List V→List V→Option (V×List Ob))
 |0=>fun _ _ _=>none
 |n+1=>EK call (L72 call n)
theorem R72 (call:FuncId→Fun) (icall:aQ (V×List Ob)) (a0:List V) (a1:List V):∀n,(∀(b0:Bool) (l1:List V) (l2:List V),RN 72 Tryz.f72 (O72 a0 a1) call icall n (aJ Tryz.f72 0) (AV b0 l1 l2)=(L72 call n) b0 l1 l2)
 |0=>fun b0 l1 l2=>rfl
 |n+1=>by
  have ih:=R72 call icall a0 a1 n
  exact fun b0 l1 l2=>(Na call icall (RN 72 Tryz.f72 (O72 a0 a1) call icall n) a0 a1 b0 l1 l2).trans (by rw[show(fun b0 l1 l2=>RN 72 Tryz.f72 (O72 a0 a1) call icall n (aJ Tryz.f72 0) (AV b0 l1 l2))=(L72 call n)from(funext fun b0=>funext fun l1=>funext fun l2=>ih b0 l1 l2)];rfl)
theorem C72 (k:Nat) (a0:List V) (a1:List V) (a2:Bool):aA cfg (k+1) 72 (A72 a2) (O72 a0 a1)=T72 (aA cfg k) (L72 (aA cfg k) k) a0 a1 a2:=by
 have ih:=R72 (aA cfg k) (aE cfg (aA cfg k) 20) a0 a1 k
 refine(show aA cfg (k+1) 72 (A72 a2) (O72 a0 a1)=GO 72 Tryz.f72 (A72 a2) (O72 a0 a1) (aA cfg k) (aE cfg (aA cfg k) 20) (RN 72 Tryz.f72 (O72 a0 a1) (aA cfg k) (aE cfg (aA cfg k) 20) k)by kernel_rfl).trans ((E72 _ _ _ a0 a1 a2).trans ?_)
 rw[show(fun b0 l1 l2=>RN 72 Tryz.f72 (O72 a0 a1) (aA cfg k) (aE cfg (aA cfg k) 20) k (aJ Tryz.f72 0) (AV b0 l1 l2))=(L72 (aA cfg k) k)from(funext fun b0=>funext fun l1=>funext fun l2=>ih b0 l1 l2)]
theorem M72 (a0:List V) (a1:List V) (a2:Bool) {r:V×List Ob} (h:Evt (fun k n=>T72 (aA cfg k) (L72 (aA cfg k) n) a0 a1 a2) r):Ret 72 [V.ref 0 0,V.bool a2] [Ob.cells [V.lst 213 false a0,V.lst 26 true a1]] r:=aT (g:=fun k n=>T72 (aA cfg k) (L72 (aA cfg k) n) a0 a1 a2) (fun k=>C72 k a0 a1 a2) h
theorem Nb (b0:Bool) (l1:List V) (l2:List V) {r:V×List Ob} (h:Evt (fun k n=>EK (aA cfg k) (L72 (aA cfg k) n) b0 l1 l2) r):Evt (fun k n=>(L72 (aA cfg k) n) b0 l1 l2) r:=aX (fun k n=>rfl) h
def T35 (call:FuncId→Fun) (a0:List UInt8):Option (V×List Ob):=
 Option.bind (call 71 [(V.str a0)] []) fun z0=>
 if(!(getB (headD (tail (getT z0.1)) V.bot)))=false then
 Option.bind (call 72 [(V.ref 0 0),(V.bool false)] [(Ob.cells [(V.lst 213 false (getL (headD (getT z0.1) V.bot))),(V.lst 26 true [])])]) fun z1=>
 if(!(getB z1.1))=false then
 if(decide (((length (getL (headD (Ob.getC (headD z1.2 Ob.dead)) V.bot)):Nat):Int)>(0:Int)))=true then
 some ((V.tup [(V.lst 26 false []),(V.bool false)]),[])
 else
 some ((V.tup [(V.lst 26 false (getL (headD (tail (Ob.getC (headD z1.2 Ob.dead))) V.bot))),(V.bool true)]),[])
 else
 some ((V.tup [(V.lst 26 false []),(V.bool false)]),[])
 else
 some ((V.tup [(V.lst 26 false []),(V.bool false)]),[])
def A35 (a0:List UInt8):List V:=[V.str a0]
theorem E35 (a0:List UInt8):GO 35 Tryz.f35 (A35 a0) [] call icall again=T35 call a0:=by kernel_rfl
theorem C35 (k:Nat) (a0:List UInt8):aA cfg (k+1) 35 (A35 a0) []=T35 (aA cfg k) a0:=
 (show aA cfg (k+1) 35 (A35 a0) []=GO 35 Tryz.f35 (A35 a0) [] (aA cfg k) (aE cfg (aA cfg k) 20) (RN 35 Tryz.f35 [] (aA cfg k) (aE cfg (aA cfg k) 20) k)by kernel_rfl).trans (E35 _ _ _ a0)
theorem M35 (a0:List UInt8) {r:V×List Ob} (h:Evt (fun k n=>T35 (aA cfg k) a0) r):Ret 35 [V.str a0] [] r:=aT (g:=fun k n=>T35 (aA cfg k) a0) (fun k=>C35 k a0) h
end Go.Proofs.YtdoaoaicdimbeaaGreatDoor
end
section
namespace Go.Proofs.YtdoaoaicdimbeaaGreatDoor
open Go.Ev Go
def EvE {α:Type} (g:Nat→Nat→Option α) (P:α→Prop):Prop:=∃r,Evt g r∧P r
def mJ (f:FuncId) (args:List V) (objs:List Ob) (P:V×List Ob→Prop):Prop:=∃r,Ret f args objs r∧P r
theorem aU {α:Type} {P:α→Prop} {r:α} (h:P r):EvE (fun _ _=>some r) P:=⟨r,aG r,h⟩
theorem gP {α:Type} {f:FuncId} {args:List V} {objs:List Ob} {p:V×List Ob} {F:Nat→Nat→V×List Ob→Option α} {P:α→Prop} (h:Ret f args objs p) (h2:EvE (fun k n=>F k n p) P):
  EvE (fun k n=>Option.bind (aA cfg k f args objs) (F k n)) P:=by
 obtain⟨r,e,hp⟩:=h2
 exact⟨r,aD h e,hp⟩
theorem bA {α:Type} {f:FuncId} {args:List V} {objs:List Ob} {Q:V×List Ob→Prop} {F:Nat→Nat→V×List Ob→Option α} {P:α→Prop} (h:mJ f args objs Q) (h2:∀p,Q p→EvE (fun k n=>F k n p) P):
  EvE (fun k n=>Option.bind (aA cfg k f args objs) (F k n)) P:=by
 obtain⟨p,e,hp⟩:=h
 exact gP e (h2 p hp)
theorem bZ {α:Type} {c:Prop} [Decidable c] {a b:Nat→Nat→Option α} {P:α→Prop} (h1:c→EvE a P) (h2:¬c→EvE b P):EvE (fun k n=>if c then a k n else b k n) P:=by
 by_cases h:c
 ·simp only[if_pos h];exact h1 h
 ·simp only[if_neg h];exact h2 h
theorem rU {α:Type} {g g' :Nat→Nat→Option α} {P:α→Prop} (m:∀r,Evt g' r→Evt g r) (h:EvE g' P):EvE g P:=by
 obtain⟨r,e,hp⟩:=h
 exact⟨r,m r e,hp⟩
theorem iF {f:FuncId} {args:List V} {objs:List Ob} {g:Nat→Nat→Option (V×List Ob)} {P:V×List Ob→Prop} (m:∀r,Evt g r→Ret f args objs r) (h:EvE g P):mJ f args objs P:=by
 obtain⟨r,e,hp⟩:=h
 exact⟨r,m r e,hp⟩
theorem rV {α:Type} {g:Nat→Nat→Option α} {P Q:α→Prop} (h:EvE g P) (hq:∀r,P r→Q r):EvE g Q:=by
 obtain⟨r,e,hp⟩:=h
 exact⟨r,e,hq r hp⟩
theorem BF (s:Bs) (c:UInt8):Ret 89 [.str s, .int .u8 (c.toNat:Nat)] [] (.int .i64 (Lib.indexByte s c),[]):=
 gB (h:=Fl) (by kernel_rfl) (by
  have:=c.toNat_lt
  have h:UInt8.ofNat c.toNat=c:=by simp
  simp only[Fl,Int.toNat_natCast,h]
  rw[if_pos ⟨by omega,by omega⟩])
theorem K6 {s:Bs} {c:UInt8}:Lib.indexByte s c<s.length:=by
 by_cases h:Lib.indexByte s c= -1
 ·omega
 ·have:=Lib.indexByte_ge s c
  obtain⟨k,hk⟩:∃k:Nat,Lib.indexByte s c=k:=⟨(Lib.indexByte s c).toNat,by omega⟩
  obtain⟨k1,_⟩:=Lib.indexByte_some hk
  obtain⟨h1,_⟩:=List.getElem?_eq_some_iff.1 k1
  omega
theorem I9 (s:Bs) (hs:s.length≤1000000) (h0:1≤s.length):∀(m i:Nat) (d:Int),s.length+1 - i=m→i≤s.length+1→
  EvE (fun k j=>zM (aA cfg k) j s d (i:Nat)) (fun r=>∃n:Nat,r=(.int .i64 (n:Nat),[])∧1≤n∧n≤s.length):=by
 intro m
 induction m using Nat.strongRecOn with
 |_ m ih=>
  intro i d h hi
  refine rU (fun _ h=>KU s d (i:Nat) h) ?_
  by_cases hlt:i<s.length
  ·have h1:((i:Int)<(s.length:Int)):=by omega
   have h2:(0:Int)≤(i:Nat):=by omega
   have hw:IntKind.wrap .i64 (((i:Nat):Int)+1)=((i+1:Nat):Int):=by rw[wrap64 (by omega) (by omega)];omega
   have hw2:IntKind.wrap .i64 (((i+1:Nat):Int)+1)=((i+2:Nat):Int):=by rw[wrap64 (by omega) (by omega)];omega
   simp only[yP,h1,decide_true,if_true,aI h2,cS,Int.toNat_natCast,getD_at hlt,hw,hw2]
   refine bZ (fun _=>?_) (fun _=>?_)
   ·exact ih _ (by omega) (i+2) d rfl (by omega)
   ·refine bZ (fun _=>?_) (fun _=>?_)
    ·exact ih _ (by omega) (i+1) _ rfl (by omega)
    ·refine bZ (fun _=>?_) (fun _=>?_)
     ·refine bZ (fun _=>?_) (fun _=>?_)
      ·exact aU ⟨i+1,rfl,by omega,by omega⟩
      ·exact ih _ (by omega) (i+1) _ rfl (by omega)
     ·exact ih _ (by omega) (i+1) _ rfl (by omega)
  ·have h1:¬((i:Int)<(s.length:Int)):=by omega
   simp only[yP,h1,decide_false,Bool.false_eq_true,if_false]
   exact aU ⟨s.length,rfl,by omega,by omega⟩
theorem Ja (s:Bs) (hs:s.length≤1000000) (h0:1≤s.length):mJ 137 [.str s] [] (fun r=>∃n:Nat,r=(.int .i64 (n:Nat),[])∧1≤n∧n≤s.length):=by
 refine iF (fun _ h=>OT s h) ?_
 simp only[Hw]
 exact I9 s hs h0 _ 0 0 rfl (by omega)
theorem Jb:∀(m:Nat) (s:Bs),s.length=m→s.length≤1000000→
  EvE (fun k j=>zN (aA cfg k) j s) (fun r=>∃t:Bs,r=(.str t,[])∧t.length≤s.length):=by
 intro m
 induction m using Nat.strongRecOn with
 |_ m ih=>
  intro s h hs
  refine rU (fun _ h=>KW s h) ?_
  cases s with
  |nil=>
   simp only[yQ,Db rfl,Bool.not_true,Bool.false_eq_true,if_false]
   exact aU ⟨_,rfl,Nat.le_refl _⟩
  |cons c t=>
   have e0:sEq (c::t) []=false:=Hv (by simp)
   have h1:(0:Int)<(((c::t).length:Nat):Int):=by simp only[List.length_cons];omega
   have h3:(1:Int)≤(((c::t).length:Nat):Int):=by simp only[List.length_cons];omega
   have g0:(c::t).getD (Int.toNat 0) 0=c:=rfl
   have d1:(c::t).drop (Int.toNat 1)=t:=rfl
   simp only[List.length_cons]at h hs
   simp only[yQ,e0,Bool.not_false,if_true,aI (show(0:Int)≤0 by omega),aI h1,aI h3,aI (show(0:Int)≤1 by omega),g0,d1]
   refine gP (qN c) ?_
   simp only[bK]
   refine bZ (fun _=>?_) (fun _=>?_)
   ·refine rV (ih _ (by omega) t rfl (by omega)) ?_
    rintro r ⟨t',rfl,hl⟩
    exact⟨t',rfl,by simp;omega⟩
   ·refine bZ (fun _=>?_) (fun _=>?_)
    ·refine bA (Ja (c::t) (by simp;omega) (by simp)) ?_
     rintro _ ⟨n,rfl,n1,n2⟩
     have q1:(0:Int)≤(n:Nat):=by omega
     have q2:((n:Nat):Int)≤(((c::t).length:Nat):Int):=by omega
     dsimp+instances only[gK]
     simp only[aI q1,aI q2,Int.toNat_natCast]
     have hd:((c::t).drop n).length=(c::t).length - n:=List.length_drop
     simp only[List.length_cons]at hd n2
     refine rV (ih _ (by omega) ((c::t).drop n) rfl (by omega)) ?_
     rintro r ⟨t',rfl,hl⟩
     exact⟨t',rfl,by simp;omega⟩
    ·exact aU ⟨_,rfl,Nat.le_refl _⟩
theorem vM (s:Bs) (hs:s.length≤1000000):mJ 106 [.str s] [] (fun r=>∃t:Bs,r=(.str t,[])∧t.length≤s.length):=by
 refine iF (fun _ h=>OW s h) ?_
 simp only[Hx]
 exact Jb _ s rfl hs
def Nc (s:Bs) (r:V×List Ob):Prop:=∃(w t:Bs) (is:Bool),r=(.tup [.str w, .str t, .bool is],[])∧(is=true→w.length+t.length+2≤s.length)
theorem Jc (s:Bs) (hs:s.length≤1000000):∀(m i:Nat) (u:Bs),s.length+1 - i=m→i≤s.length+1→1≤i→u.length+1≤i→
  EvE (fun k j=>zO (aA cfg k) j s (ofBytes u) (i:Nat)) (Nc s):=by
 intro m
 induction m using Nat.strongRecOn with
 |_ m ih=>
  intro i u h hi h0 hu
  refine rU (fun _ h=>KY s (ofBytes u) (i:Nat) h) ?_
  by_cases hlt:i<s.length
  ·have h1:((i:Int)<(s.length:Int)):=by omega
   have h2:(0:Int)≤(i:Nat):=by omega
   have hw:IntKind.wrap .i64 (((i:Nat):Int)+1)=((i+1:Nat):Int):=by rw[wrap64 (by omega) (by omega)];omega
   have hw2:IntKind.wrap .i64 (((i+1:Nat):Int)+1)=((i+2:Nat):Int):=by rw[wrap64 (by omega) (by omega)];omega
   have h3:(0:Int)≤((i+1:Nat):Int):=by omega
   have h4:((i+1:Nat):Int)≤(s.length:Int):=by omega
   have ap:∀c:UInt8,bO (ofBytes u) [.int .u8 ((c.toNat:Nat):Int)] 2=true:=fun c=>iZ (by rw[cD];simp only[List.length_cons,List.length_nil];omega)
   simp only[yR,h1,decide_true,if_true,aI h2,cS,Int.toNat_natCast,getD_at hlt,hw,hw2,aI h3,aI h4,cG (ap _),gG,dL]
   refine bZ (fun _=>?_) (fun _=>?_)
   ·refine aU ⟨u,s.drop (i+1),true,rfl,fun _=>?_⟩
    rw[List.length_drop];omega
   ·refine bZ (fun _=>?_) (fun _=>?_)
    ·by_cases h5:i+1<s.length
     ·have h6:((i+1:Nat):Int)<(s.length:Int):=by omega
      simp only[h6,decide_true,if_true,cS]
      exact ih _ (by omega) (i+2) _ rfl (by omega) (by omega) (by simp;omega)
     ·have h6:¬((i+1:Nat):Int)<(s.length:Int):=by omega
      simp only[h6,decide_false,Bool.false_eq_true,if_false]
      exact ih _ (by omega) (i+2) _ rfl (by omega) (by omega) (by omega)
    ·exact ih _ (by omega) (i+1) _ rfl (by omega) (by omega) (by simp;omega)
  ·have h1:¬((i:Int)<(s.length:Int)):=by omega
   simp only[yR,h1,decide_false,Bool.false_eq_true,if_false]
   exact aU ⟨[],[],false,rfl,by simp⟩
theorem Jd (s:Bs) (hs:s.length≤1000000):mJ 107 [.str s] [] (Nc s):=by
 refine iF (fun _ h=>OZ s h) ?_
 simp only[Hy]
 exact Jc s hs _ 1 [] rfl (by omega) (by omega) (by simp)
def K7 (s:Bs) (r:V×List Ob):Prop:=∃(w t:Bs),r=(.tup [.str w, .str t],[])∧w.length+t.length≤s.length
theorem Je (s:Bs) (hs:s.length≤1000000):∀(m i:Nat),s.length - i=m→i≤s.length→
  EvE (fun k j=>zP (aA cfg k) j s (i:Nat)) (K7 s):=by
 intro m
 induction m using Nat.strongRecOn with
 |_ m ih=>
  intro i h hi
  refine rU (fun _ h=>K0 s (i:Nat) h) ?_
  have h2:(0:Int)≤(i:Nat):=by omega
  have h3:((i:Nat):Int)≤(s.length:Int):=by omega
  have done:EvE (fun _ _=>some ((V.tup [(V.str (List.drop (Int.toNat (0:Int)) (List.take i s))),(V.str (List.drop i s))]),([]:List Ob))) (K7 s):=by
   refine aU ⟨_,_,rfl,?_⟩
   rw[List.length_drop,List.length_drop,List.length_take];omega
  by_cases hlt:i<s.length
  ·have h1:((i:Int)<(s.length:Int)):=by omega
   have hw:IntKind.wrap .i64 (((i:Nat):Int)+1)=((i+1:Nat):Int):=by rw[wrap64 (by omega) (by omega)];omega
   simp only[yS,h1,decide_true,if_true,aI h2,cS,Int.toNat_natCast,getD_at hlt,hw,aI h3,aI (show(0:Int)≤0 by omega)]
   refine bZ (fun _=>?_) (fun _=>?_)
   ·refine bZ (fun _=>?_) (fun _=>?_)
    ·refine gP (BF _ _) ?_
     simp only[gK]
     refine bZ (fun _=>?_) (fun _=>?_)
     ·exact done
     ·refine bZ (fun _=>?_) (fun _=>?_)
      ·refine gP (BF (s.drop i) 93) ?_
       simp only[gK]
       have hge:=Lib.indexByte_ge (s.drop i) 93
       have hlt2:=K6 (s:=s.drop i) (c:=93)
       rw[List.length_drop]at hlt2
       by_cases hn:Lib.indexByte (s.drop i) 93<0
       ·simp only[hn,decide_true,if_true]
        exact aU ⟨[],s,rfl,by simp⟩
       ·obtain⟨k,hk⟩:∃k:Nat,Lib.indexByte (s.drop i) 93=k:=⟨(Lib.indexByte (s.drop i) 93).toNat,by omega⟩
        rw[hk]at hlt2 hn ⊢
        have w1:IntKind.wrap .i64 (((k:Nat):Int)+1)=((k+1:Nat):Int):=by rw[wrap64 (by omega) (by omega)];omega
        have w2:IntKind.wrap .i64 (((i:Nat):Int)+((k+1:Nat):Int))=((i+(k+1):Nat):Int):=by rw[wrap64 (by omega) (by omega)];omega
        simp only[hn,decide_false,Bool.false_eq_true,if_false,w1,w2]
        exact ih _ (by omega) (i+(k+1)) rfl (by omega)
      ·exact ih _ (by omega) (i+1) rfl (by omega)
    ·exact done
   ·exact done
  ·have h1:¬((i:Int)<(s.length:Int)):=by omega
   simp only[yS,h1,decide_false,Bool.false_eq_true,if_false,aI h2,aI h3,aI (show(0:Int)≤0 by omega),Int.toNat_natCast]
   exact done
theorem Jf (s:Bs) (hs:s.length≤1000000):mJ 108 [.str s] [] (K7 s):=by
 refine iF (fun _ h=>O2 s h) ?_
 simp only[Hz]
 exact Je s hs _ 0 rfl (by omega)
inductive Pc|w (s:Bs)|g (c:UInt8)
def pcV:Pc→V
 | .w s=> .ifc 183 (.str s)
 | .g c=> .ifc 182 (.int .u8 (c.toNat:Nat))
def pw1:Pc→Nat
 | .w s=>s.length+1
 | .g _=>1
def pw (l:List Pc):Nat:=(l.map pw1).sum
theorem iI (p:Pc) (l:List Pc):pw (p::l)=pw1 p+pw l:=by simp[pw]
theorem Eg (l m:List Pc):pw (l++m)=pw l+pw m:=by simp[pw]
theorem HM:∀l:List Pc,l.length≤pw l
 |[]=>by simp
 |p::r=>by
  have:=HM r
  have:1≤pw1 p:=by cases p<;>simp[pw1]
  rw[iI,List.length_cons];omega
def Pm (s:Bs) (r:V×List Ob):Prop:=∃(l:List Pc) (ok:Bool),r=(.tup [.lst 213 false (l.map pcV), .bool ok],[])∧pw l≤2*s.length
theorem K8 (n:Nat) (hn:n≤1000000):∀(m:Nat) (s:Bs) (l:List Pc),s.length=m→pw l+2*s.length≤2*n→
  EvE (fun k j=>L71 (aA cfg k) j s (l.map pcV)) (fun r=>∃(l:List Pc) (ok:Bool),r=(.tup [.lst 213 false (l.map pcV), .bool ok],[])∧pw l≤2*n):=by
 intro m
 induction m using Nat.strongRecOn with
 |_ m ih=>
  intro s l h hp
  have hl:=HM l
  have ap:∀v:V,bO (l.map pcV) [v] 17=true:=fun v=>iZ (by simp only[List.length_map,List.length_cons,List.length_nil];omega)
  refine rU (fun _ h=>M7 s (l.map pcV) h) ?_
  cases s with
  |nil=>
   simp only[Dc,Db rfl,Bool.not_true,Bool.false_eq_true,if_false]
   exact aU ⟨l,true,rfl,by simp only[List.length_nil]at hp;omega⟩
  |cons c t=>
   have e0:sEq (c::t) []=false:=Hv (by simp)
   have h1:(0:Int)<(((c::t).length:Nat):Int):=by simp only[List.length_cons];omega
   have h3:(1:Int)≤(((c::t).length:Nat):Int):=by simp only[List.length_cons];omega
   have g0:(c::t).getD (Int.toNat 0) 0=c:=rfl
   have d1:(c::t).drop (Int.toNat 1)=t:=rfl
   have aw:∀w:Bs,l.map pcV++[.ifc 183 (.str w)]=(l++[Pc.w w]).map pcV:=fun w=>by simp[pcV]
   have ag:l.map pcV++[.ifc 182 (.int .u8 ((c.toNat:Nat):Int))]=(l++[Pc.g c]).map pcV:=by simp[pcV]
   simp only[Dc,e0,Bool.not_false,if_true,aI (show(0:Int)≤0 by omega),aI h1,aI h3,aI (show(0:Int)≤1 by omega),g0,d1,cG (ap _),ag]
   simp only[List.length_cons]at h hp
   refine gP (BF _ _) ?_
   simp only[gK]
   refine bZ (fun _=>?_) (fun _=>?_)
   ·refine bA (vM t (by omega)) ?_
    rintro _ ⟨t',rfl,ht⟩
    simp only[dZ]
    exact ih _ (by omega) t' _ rfl (by rw[Eg,iI];simp only[pw1,pw,List.map_nil,List.sum_nil]at hp ⊢;omega)
   ·refine bZ (fun _=>?_) (fun _=>?_)
    ·refine bA (Jd (c::t) (by simp;omega)) ?_
     rintro _ ⟨w,u,is,rfl,hq⟩
     simp only[fD,List.headD_cons,List.tail_cons,bK,dZ,aw]
     cases is with
     |false=>
      simp only[Bool.not_false,if_true]
      exact aU ⟨[],false,rfl,by simp[pw]⟩
     |true=>
      have hq:=hq rfl
      simp only[List.length_cons]at hq
      simp only[Bool.not_true,Bool.false_eq_true,if_false]
      refine bA (vM u (by omega)) ?_
      rintro _ ⟨t',rfl,ht⟩
      simp only[dZ]
      exact ih _ (by omega) t' _ rfl (by rw[Eg,iI];simp only[pw1,pw,List.map_nil,List.sum_nil]at hp ⊢;omega)
    ·refine bA (Jf (c::t) (by simp;omega)) ?_
     rintro _ ⟨w,u,rfl,hq⟩
     simp only[List.length_cons]at hq
     simp only[fD,List.headD_cons,List.tail_cons,dZ,aw]
     by_cases hw:w=[]
     ·simp only[Db hw,if_true]
      exact aU ⟨[],false,rfl,by simp[pw]⟩
     ·have:=List.length_pos_iff.2 hw
      simp only[Hv hw,Bool.false_eq_true,if_false]
      refine bA (vM u (by omega)) ?_
      rintro _ ⟨t',rfl,ht⟩
      simp only[dZ]
      exact ih _ (by omega) t' _ rfl (by rw[Eg,iI];simp only[pw1,pw,List.map_nil,List.sum_nil]at hp ⊢;omega)
theorem K9 (s:Bs) (hs:s.length≤1000000):mJ 71 [.str s] [] (Pm s):=by
 refine iF (fun _ h=>M71 s h) ?_
 simp only[T71]
 refine bA (vM s hs) ?_
 rintro _ ⟨t,rfl,ht⟩
 simp only[dZ]
 exact K8 s.length hs _ t [] rfl (by simp only[pw,List.map_nil,List.sum_nil];omega)
end Go.Proofs.YtdoaoaicdimbeaaGreatDoor
end
