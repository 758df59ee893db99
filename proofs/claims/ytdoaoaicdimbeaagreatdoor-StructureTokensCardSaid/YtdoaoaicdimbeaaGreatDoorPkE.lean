/- Lemmas for the claim, merged: the plain reading of the program's functions, its soundness, and what they compute. -/
import Derived.Test.YtdoaoaicdimbeaaGreatDoorPkD
import Derived.KernelRfl
set_option linter.all false
set_option linter.unusedVariables false
set_option linter.unusedSimpArgs false
section
namespace Go.Proofs.YtdoaoaicdimbeaaGreatDoor
open Go.Ev Go
def cR (b:UInt8):Bs→Option (Bs×Bs)
 |[]=>none
 |c::r=>if c=b then some ([],r)else(cR b r).map fun p=>(c::p.1,p.2)
theorem fY {b:UInt8}:∀{s t r:Bs},cR b s=some (t,r)→s=t++b::r
 |[],_,_,h=>by simp[cR]at h
 |c::s,t,r,h=>by
  unfold cR at h
  split at h
  ·rename_i e;cases h;simp[e]
  ·simp at h
   obtain⟨a,ha,rfl⟩:=h
   rw[fY ha];rfl
theorem kN (b:UInt8):∀s:Bs,Lib.indexByte s b=match cR b s with|some p=>(p.1.length:Int)|none=> -1
 |[]=>rfl
 |c::s=>by
  unfold Lib.indexByte cR
  rw[kN b s]
  by_cases h:c=b
  ·simp[h]
  ·have h' :(c==b)=false:=by simpa using h
   simp only[h',Bool.false_eq_true,if_false,h]
   cases cR b s with
   |none=>rfl
   |some p=>
    have:((p.1.length:Int)== -1)=false:=by simp
    simp[this]
def dS (s:Bs):Bs:=match cR 42 s with|some p=>p.1|none=>s
theorem ED (s:Bs):(dS s).length≤s.length:=by
 unfold dS
 cases h:cR 42 s with
 |none=>simp
 |some p=>have:=congrArg List.length (fY h);simp at this ⊢;omega
theorem JL (s:Bs) (b:UInt8):Ret 168 [.str s, .str [b]] [] (.int .i64 (Lib.indexByte s b),[]):=eD (h:=Lp) rfl rfl
theorem OR (s:Bs) (hs:s.length≤1000000):∃r b,Ret 155 [.str s, .str [42]] [] (.tup [.str (dS s), .str r, .bool b],[]):=by
 unfold dS
 cases h:cR 42 s with
 |none=>
  refine⟨[],false,QE s [42] ?_⟩
  simp only[H8]
  refine aB (JL s 42) ?_
  rw[kN,h]
  simp only[V.getI,show¬((-1:Int)≥0)by omega,decide_false,Bool.false_eq_true,if_false]
  exact aD _
 |some p=>
  have hl:=congrArg List.length (fY h)
  simp at hl
  have hw:IntKind.wrap .i64 ((p.1.length:Int)+((([42]:Bs).length:Nat):Int))=((p.1.length+1:Nat):Int):=by
   rw[show((([42]:Bs).length:Nat):Int)=1 from rfl,wrap64 (by omega) (by omega)];omega
  have g0:(p.1.length:Int)≥0:=by omega
  have g1:(p.1.length:Int)≤(s.length:Int):=by omega
  have g2:((p.1.length+1:Nat):Int)≤(s.length:Int):=by omega
  have g3:(0:Int)≤((p.1.length+1:Nat):Int):=by omega
  refine⟨s.drop (p.1.length+1),true,QE s [42] ?_⟩
  simp only[H8]
  obtain⟨x,hx⟩:∃x:Int,x=(p.1.length:Int):=⟨_,rfl⟩
  have h51:Ret 168 [.str s, .str [42]] [] (.int .i64 x,[]):=by
   have:=JL s 42
   rw[kN,h]at this
   rw[hx];exact this
  refine aB h51 ?_
  have e1:(s.take p.1.length)=p.1:=by
   have:=fY h
   conv=>lhs;rw[this]
   simp
  rw[←hx]at hw g0 g1
  show Evt (fun _ _=>if decide (x≥0)=true then
    chk (decide (0≤x)) (chk (decide (x≤((List.length s:Nat):Int))) (chk (decide ((0:Int)≤0)) (chk (decide (0≤x)) (chk (decide (0≤(IntKind.wrap IntKind.i64 (x+((List.length ([42]:Bs):Nat):Int))))) (chk (decide ((IntKind.wrap IntKind.i64 (x+((List.length ([42]:Bs):Nat):Int)))≤((List.length s:Nat):Int))) (some ((V.tup [(V.str (List.drop (Int.toNat (0:Int)) (List.take (Int.toNat x) s))),(V.str (List.drop (Int.toNat (IntKind.wrap IntKind.i64 (x+((List.length ([42]:Bs):Nat):Int)))) s)),(V.bool true)]),[])))))))
   else some ((V.tup [(V.str s),(V.str []),(V.bool false)]),[])) _
  rw[hw]
  have hxn:x.toNat=p.1.length:=by omega
  simp only[g0,decide_true,if_true,ge_iff_le.1 g0,cA,aH g1,aH g2,aH g3,aH (Int.le_refl 0),hxn,Int.toNat_natCast,Int.toNat_zero,List.drop_zero,e1]
  exact aD _
theorem OS (s:Bs) (hs:s.length≤1000000):∃r b,Ret 133 [.str s, .str [42]] [] (.tup [.str (dS s), .str r, .bool b],[]):=by
 obtain⟨r,b,h⟩:=OR s hs
 refine⟨r,b,Sx s [42] ?_⟩
 simp only[Jl]
 exact aB h (aD _)
def qD (s:Bs):Bs:=match cR 39 s with
 |none=>s
 |some p=>match cR 39 p.2 with|none=>s|some q=>q.2
theorem tZ (s:Bs):(qD s).length≤s.length:=by
 unfold qD
 cases h:cR 39 s with
 |none=>simp
 |some p=>
  have h1:=congrArg List.length (fY h)
  dsimp only
  cases h' :cR 39 p.2 with
  |none=>simp
  |some q=>have h2:=congrArg List.length (fY h');simp at h1 h2 ⊢;omega
theorem qE (b:UInt8) (k:Nat) (s:Bs):sU b (k+1) s=match cR b s with|none=>[s]|some p=>p.1::sU b k p.2:=by
 rw[sU,kN]
 cases h:cR b s with
 |none=>simp
 |some p=>
  have e:=fY h
  have h1:¬((p.1.length:Int)= -1):=by omega
  simp only[h1,if_false,Int.toNat_natCast]
  have e1:s.take p.1.length=p.1:=by
   conv=>lhs;rw[e]
   simp
  have e2:s.drop (p.1.length+1)=p.2:=by
   conv=>lhs;rw[e]
   simp
  rw[e1,e2]
theorem JM (s:Bs) (hs:s.length≤1000000):Ret 158 [.str s] [] (.str (qD s),[]):=by
 have h53:Ret 170 [.str s, .str [39], .int .i64 (3:Int)] [] (.lst 9 false ((sU 39 (min (Int.toNat 3) (s.length+1) - 1) s).map V.str),[]):=by
  refine eD (h:=zW) rfl ?_
  have:s.length<4294967281:=by omega
  simp[zW,this]
 refine Td s ?_
 simp only[JA]
 refine aB h53 ?_
 simp only[V.getL,List.length_map]
 generalize hk:sU 39 (min (Int.toNat 3) (s.length+1) - 1) s=ps
 have hmain:(ps.length<3∧qD s=s)∨(∃a b,ps=[a,b,qD s]):=by
  unfold qD
  by_cases h2:2≤s.length
  ·have:min (Int.toNat 3) (s.length+1) - 1=2:=by simp;omega
   rw[this,qE]at hk
   cases h:cR 39 s with
   |none=>rw[h]at hk;left;subst hk;simp
   |some p=>
    rw[h]at hk
    simp only[qE]at hk
    cases h' :cR 39 p.2 with
    |none=>rw[h']at hk;left;subst hk;exact⟨by simp,by simp only[h']⟩
    |some q=>rw[h']at hk;right;subst hk;exact⟨p.1,q.1,by simp[h',sU]⟩
  ·left
   have hsm:(match cR 39 s with|none=>s|some p=>match cR 39 p.2 with|none=>s|some q=>q.2)=s:=by
    cases h:cR 39 s with
    |none=>rfl
    |some p=>
     have h1:=congrArg List.length (fY h)
     dsimp only
     cases h' :cR 39 p.2 with
     |none=>rfl
     |some q=>have h3:=congrArg List.length (fY h');simp at h1 h3;omega
   refine⟨?_,hsm⟩
   have:min (Int.toNat 3) (s.length+1) - 1≤1:=by simp;omega
   have hk2:∀k,k≤1→(sU 39 k s).length<3:=by
    intro k hk
    match k,hk with
    |0,_=>simp[sU]
    |1,_=>rw[qE];cases cR 39 s<;>simp[sU]
   rw[←hk];exact hk2 _ this
 rcases hmain with⟨h1,h2⟩|⟨a,b,h⟩
 ·have g:(ps.length:Int)<3:=by omega
  simp only[g,decide_true,if_true,h2]
  exact aD _
 ·subst h
  simp only[List.length_cons,List.length_nil,show¬(((0+1+1+1:Nat):Int)<3)by omega,decide_false,Bool.false_eq_true,if_false]
  generalize qD s=x
  exact aD _
def bR (n:Nat):Bs:=if n<10 then[UInt8.ofNat (48+n)]else bR (n / 10)++[UInt8.ofNat (48+n % 10)]
termination_by n
theorem dT {n:Nat} (h:n<10):bR n=[UInt8.ofNat (48+n)]:=by rw[bR,if_pos h]
theorem jV {n:Nat} (h:¬n<10):bR n=bR (n / 10)++[UInt8.ofNat (48+n % 10)]:=by rw[bR,if_neg h]
theorem lW:∀n:Nat,(bR n).length≤n+1:=by
 intro n
 induction n using Nat.strongRecOn with
 |_ n ih=>
  by_cases h:n<10
  ·rw[dT h];simp
  ·rw[jV h]
   have:=ih (n / 10) (by omega)
   simp;omega
theorem QM:∀d:Fin 10,(Utf8.encode (IntKind.wrap .i32 (IntKind.wrap .i64 (48+(d.val:Int))))).data.toList=[UInt8.ofNat (48+d.val)]:=by decide+kernel
theorem OT:∀(n:Nat) (out:Bs),0<n→n+out.length≤2000000000→Evt (fun k m=>L47 (aA cfg k) m (n:Int) out false) (.str (bR n++out),[]):=by
 intro n
 induction n using Nat.strongRecOn with
 |_ n ih=>
  intro out hn hb
  refine Nz (n:Int) out false ?_
  have h1:((n:Int) != 0)=true:=by simp;omega
  have h2:((10:Int) != 0)=true:=by decide
  have ht:Int.tmod (n:Int) 10=((n % 10:Nat):Int):=by rw[Int.tmod_eq_emod_of_nonneg (by omega)];omega
  have hq:IntKind.wrap .i64 (Int.tdiv (n:Int) 10)=((n / 10:Nat):Int):=by
   rw[Int.tdiv_eq_ediv_of_nonneg (by omega),wrap64 (by omega) (by omega)];omega
  have hm:IntKind.wrap .i64 (0 - ((n % 10:Nat):Int))= -((n % 10:Nat):Int):=by rw[wrap64 (by omega) (by omega)];omega
  have hng:¬(-((n % 10:Nat):Int)>((n % 10:Nat):Int)):=by omega
  have he:=QM ⟨n % 10,by omega⟩
  simp only at he
  have hc:bO [UInt8.ofNat (48+n % 10)] out=true:=fD (by simp;omega)
  simp only[EB,h1,if_true,h2,cA,ht,hq,hm,hng,if_false,he,bL hc]
  by_cases hs:n<10
  ·have e:n / 10=0:=by omega
   have e' :n % 10=n:=by omega
   rw[e,e',dT hs]
   refine Nz ((0:Nat):Int) _ false ?_
   have h0:((((0:Nat):Int)) != 0)=false:=by decide
   simp only[EB,h0,Bool.false_eq_true,if_false]
   exact aD _
  ·rw[jV hs]
   have:=ih (n / 10) (by omega) ([UInt8.ofNat (48+n % 10)]++out) (by omega) (by simp;omega)
   simpa using this
theorem EE (n:Nat) (hn:n≤1000000001):Ret 47 [.int .i64 (n:Int)] [] (.str (bR n),[]):=by
 refine M47 (n:Int) ?_
 simp only[T47]
 by_cases h:n=0
 ·subst h
  have h0:((((0:Nat):Int))==0)=true:=by decide
  simp only[h0,if_true,dT (show 0<10 by omega)]
  exact aD _
 ·have h0:((n:Int)==0)=false:=by simp;omega
  have h1:¬((n:Int)<0):=by omega
  simp only[h0,Bool.false_eq_true,if_false,h1,decide_false]
  have:=OT n [] (by omega) (by simp;omega)
  simpa using this
end Go.Proofs.YtdoaoaicdimbeaaGreatDoor
end
section
namespace Go.Proofs.YtdoaoaicdimbeaaGreatDoor
open Go.Ev Go
theorem gW:∀{l:Ps} {name v:Bs},iD l name=some v→∃p∈l,p.1=name∧p.2=v
 |[],_,_,h=>by simp[iD]at h
 |p::l,name,v,h=>by
  unfold iD at h
  split at h
  ·rename_i e;cases h;exact⟨p,by simp,e,rfl⟩
  ·obtain⟨q,hq,h1⟩:=gW h
   exact⟨q,by simp[hq],h1⟩
def jW (l:Ps) (base:Bs) (n:Nat):Option Bs:=
 match iD l ((base++[42])++bR n)with
 |some v=>some v
 |none=>match iD l (((base++[42])++bR n)++[42])with
  |some v=>some (dH (if n=0 then qD v else v))
  |none=>none
def joinL (l:Ps) (base:Bs):Nat→Nat→Bs
 |0,_=>[]
 |f+1,n=>match jW l base n with|none=>[]|some v=>v++joinL l base f (n+1)
def QN (ds:Bs):Nat:=ds.foldl (fun a d=>10*a+(d.toNat - 48)) 0
theorem kT {d:Nat} (h:d<10):(UInt8.ofNat (48+d)).toNat=48+d:=by simp;omega
theorem wE:∀n:Nat,QN (bR n)=n:=by
 intro n
 induction n using Nat.strongRecOn with
 |_ n ih=>
  by_cases h:n<10
  ·rw[dT h]
   show 10*0+((UInt8.ofNat (48+n)).toNat - 48)=n
   rw[kT h];omega
  ·rw[jV h]
   have:=ih (n / 10) (by omega)
   unfold QN at this ⊢
   rw[List.foldl_append,this]
   show 10* (n / 10)+((UInt8.ofNat (48+n % 10)).toNat - 48)=n
   rw[kT (by omega)];omega
theorem H9:∀n:Nat,∀d∈bR n,d≠42:=by
 intro n
 have key:∀m,m<10→UInt8.ofNat (48+m)≠42:=fun m hm e=>by
  have:=congrArg UInt8.toNat e
  rw[kT hm]at this
  simp at this;omega
 induction n using Nat.strongRecOn with
 |_ n ih=>
  by_cases h:n<10
  ·rw[dT h]
   intro d hd
   rw[List.mem_singleton]at hd;subst hd;exact key n h
  ·rw[jV h]
   intro d hd
   rw[List.mem_append]at hd
   rcases hd with hd|hd
   ·exact ih (n / 10) (by omega) d hd
   ·rw[List.mem_singleton]at hd;subst hd;exact key _ (by omega)
theorem Ao (n:Nat) (e:Bs) (he:e=[]∨e=[42]):(bR n++e).filter (· != 42)=bR n:=by
 rw[List.filter_append]
 have h1:(bR n).filter (· != 42)=bR n:=List.filter_eq_self.2 fun d hd=>by simpa using H9 n d hd
 rw[h1]
 rcases he with rfl|rfl<;>simp
def kF (base:Bs) (p:Bs×Bs) (n:Nat):Bool:=p.1==(base++[42])++bR n||p.1==((base++[42])++bR n)++[42]
theorem Gb {base:Bs} {p:Bs×Bs} {n m:Nat} (h:kF base p n=true) (h' :kF base p m=true):n=m:=by
 have key:∀k,kF base p k=true→∃e,(e=[]∨e=[42])∧p.1=(base++[42])++(bR k++e):=by
  intro k hk
  simp only[kF,Bool.or_eq_true,beq_iff_eq]at hk
  rcases hk with hk|hk
  ·exact⟨[], .inl rfl,by rw[hk];simp⟩
  ·exact⟨[42], .inr rfl,by rw[hk];simp⟩
 obtain⟨e1,he1,h1⟩:=key n h
 obtain⟨e2,he2,h2⟩:=key m h'
 have:=List.append_cancel_left (h1.symm.trans h2)
 have h3:=congrArg (List.filter (· != 42)) this
 rw[Ao n e1 he1,Ao m e2 he2]at h3
 rw[←wE n,←wE m,h3]
theorem qF {l:Ps} {base:Bs} {n:Nat} {v:Bs} (h:jW l base n=some v):∃p∈l,kF base p n=true∧v.length≤p.2.length:=by
 unfold jW at h
 split at h
 ·rename_i u hu
  cases h
  obtain⟨p,hp,h1,h2⟩:=gW hu
  exact⟨p,hp,by simp[kF,h1],by rw[h2];exact Nat.le_refl _⟩
 ·split at h
  ·rename_i u hu
   cases h
   obtain⟨p,hp,h1,h2⟩:=gW hu
   refine⟨p,hp,by simp[kF,h1],?_⟩
   rw[h2]
   split
   ·exact Nat.le_trans (An _) (tZ _)
   ·exact An _
  ·cases h
theorem uA {α:Type} (q:α→Bool):∀S:List α,S.length=(S.filter q).length+(S.filter fun x=> !q x).length
 |[]=>rfl
 |x::S=>by
  have:=uA q S
  cases h:q x<;>simp[h]<;>omega
theorem Ia {α:Type}:∀{S:List α},S.Nodup→(∀x∈S,∀y∈S,x=y)→S.length≤1
 |[],_,_=>by simp
 |[x],_,_=>by simp
 |x::y::S,h,h' =>by
  have:=h' x (by simp) y (by simp)
  subst this
  simp at h
theorem JO (base:Bs):∀(l:Ps) (S:List Nat),S.Nodup→(∀n∈S,∃p∈l,kF base p n=true)→S.length≤l.length
 |[],S,_,h=>by
  cases S with
  |nil=>simp
  |cons n S=>obtain⟨p,hp,_⟩:=h n (by simp);simp at hp
 |p::l,S,hn,h=>by
  have h1:=uA (fun n=>kF base p n) S
  have h2:(S.filter fun n=>kF base p n).length≤1:=Ia (hn.filter _) fun x hx y hy=>by
   rw[List.mem_filter]at hx hy
   exact Gb hx.2 hy.2
  have h3:=JO base l (S.filter fun n=> !kF base p n) (hn.filter _) fun n hnm=>by
   rw[List.mem_filter]at hnm
   obtain⟨q,hq,hm⟩:=h n hnm.1
   rw[List.mem_cons]at hq
   rcases hq with rfl|hq
   ·rw[hm]at hnm;simp at hnm
   ·exact⟨q,hq,hm⟩
  rw[List.length_cons];omega
theorem Gc (l:Ps) (base:Bs):∃m,m≤l.length∧jW l base m=none:=by
 apply Classical.byContradiction
 intro hno
 have:∀n∈List.range (l.length+1),∃p∈l,kF base p n=true:=by
  intro n hn
  rw[List.mem_range]at hn
  cases h:jW l base n with
  |none=>exact absurd ⟨n,by omega,h⟩ hno
  |some v=>obtain⟨p,hp,hm,_⟩:=qF h;exact⟨p,hp,hm⟩
 have:=JO base l _ List.nodup_range this
 simp at this;omega
theorem GU (l:Ps) (base:Bs) (hl:l.length≤1000000) (hv:∀p∈l,p.2.length≤1000000) (hb:base.length≤1000000):∀(f n:Nat) (out:Bs),n+f≤1000001→out.length≤n*1000000→
  (∃m,n≤m∧m<n+f∧jW l base m=none)→
  Evt (fun k j=>Ac (aA cfg k) j (l.map pV) base out (n:Int)) (.tup [.str (out++joinL l base f n), .bool (decide (0<n)||(jW l base n).isSome)],[])
 |0,n,out,_,_,⟨m,h1,h2,_⟩=>by omega
 |f+1,n,out,hf,ho,⟨m,h1,h2,h3⟩=>by
  refine OG (l.map pV) base out (n:Int) ?_
  have hd:=lW n
  have c1:bO base [42]=true:=fD (by simp;omega)
  have c2:bO (base++[42]) (bR n)=true:=fD (by simp;omega)
  have c3:bO ((base++[42])++bR n) [42]=true:=fD (by simp;omega)
  have hw:IntKind.wrap .i64 ((n:Int)+1)=((n+1:Nat):Int):=by rw[wrap64 (by omega) (by omega)];omega
  have next:∀v,jW l base n=some v→bO out v=true∧Evt (fun k j=>Ac (aA cfg k) j (l.map pV) base (out++v) ((n+1:Nat):Int)) (.tup [.str (out++joinL l base (f+1) n), .bool (decide (0<n)||(jW l base n).isSome)],[]):=by
   intro v hj
   obtain⟨p,hp,_,hle⟩:=qF hj
   have:=hv p hp
   refine⟨fD (by omega),?_⟩
   have hne:n≠m:=fun e=>by rw[e,h3]at hj;cases hj
   have:=GU l base hl hv hb f (n+1) (out++v) (by omega) (by simp;omega) ⟨m,by omega,by omega,h3⟩
   rw[joinL,hj]
   simpa using this
  simp only[Db,bL c1]
  refine aB (EE n (by omega)) ?_
  simp only[V.getS,bL c2]
  refine aB (Dj l hl _) ?_
  simp only[V.getT,List.tail_cons,List.headD_cons,V.getB,V.getS]
  cases hj1:iD l ((base++[42])++bR n)with
  |some v=>
   have hj:jW l base n=some v:=by unfold jW;rw[hj1]
   obtain⟨hc,hn⟩:=next v hj
   simp only[Option.isSome_some,Bool.not_true,Bool.false_eq_true,if_false,Option.getD_some,bL hc,hw]
   exact hn
  |none=>
   simp only[Option.isSome_none,Bool.not_false,if_true,bL c3]
   refine aB (Dj l hl _) ?_
   simp only[V.getT,List.tail_cons,List.headD_cons,V.getB,V.getS]
   cases hj2:iD l (((base++[42])++bR n)++[42])with
   |none=>
    have hj:jW l base n=none:=by unfold jW;rw[hj1];dsimp only;rw[hj2]
    simp only[Option.isSome_none,Bool.not_false,if_true]
    rw[joinL,hj]
    have:(decide ((n:Int)>0))=(decide (0<n)||(none:Option Bs).isSome):=by simp
    rw[this]
    simp only[List.append_nil]
    exact aD _
   |some v=>
    have hj:jW l base n=some (dH (if n=0 then qD v else v)):=by unfold jW;rw[hj1];dsimp only;rw[hj2]
    obtain⟨hc,hn⟩:=next _ hj
    obtain⟨p,hp,_,rfl⟩:=gW hj2
    have hvl:=hv p hp
    simp only[Option.isSome_some,Bool.not_true,Bool.false_eq_true,if_false,Option.getD_some]
    by_cases h0:n=0
    ·have hb0:((n:Int)==0)=true:=by simp[h0]
     simp only[hb0,if_true]
     refine aB (JM p.2 hvl) ?_
     simp only[V.getS]
     refine aB (Ga _ (Nat.le_trans (tZ _) hvl)) ?_
     rw[if_pos h0]at hc hn
     simp only[V.getS,bL hc,hw]
     exact hn
    ·have hb0:((n:Int)==0)=false:=by simp[h0]
     simp only[hb0,Bool.false_eq_true,if_false]
     refine aB (Ga _ hvl) ?_
     rw[if_neg h0]at hc hn
     simp only[V.getS,bL hc,hw]
     exact hn
def EF (l:Ps) (base:Bs):Option Bs:=if(jW l base 0).isSome then some (joinL l base (l.length+1) 0)else none
theorem OU (l:Ps) (base:Bs) (hl:l.length≤1000000) (hv:∀p∈l,p.2.length≤1000000) (hb:base.length≤1000000):
  Ret 159 [.lst 176 false (l.map pV), .str base] [] (.tup [.str ((EF l base).getD []), .bool (EF l base).isSome],[]):=by
 refine Tg (l.map pV) base ?_
 simp only[JB]
 obtain⟨m,h1,h2⟩:=Gc l base
 have:=GU l base hl hv hb (l.length+1) 0 [] (by omega) (by simp) ⟨m,by omega,by omega,h2⟩
 unfold EF
 cases hj:jW l base 0 with
 |none=>rw[hj]at this;simpa[joinL,hj]using this
 |some v=>rw[hj]at this;simpa[hj]using this
def Ap (l:Ps) (base:Bs):Option Bs:=
 match iD l base with
 |some v=>some v
 |none=>match iD l (base++[42])with
  |some v=>some (dH (qD v))
  |none=>EF l base
theorem OV (l:Ps) (base:Bs) (hl:l.length≤1000000) (hv:∀p∈l,p.2.length≤1000000) (hb:base.length≤1000000):
  Ret 134 [.lst 176 false (l.map pV), .str base] [] (.tup [.str ((Ap l base).getD []), .bool (Ap l base).isSome],[]):=by
 refine SB (l.map pV) base ?_
 have c1:bO base [42]=true:=fD (by simp;omega)
 simp only[Jm]
 refine aB (Dj l hl base) ?_
 simp only[V.getT,List.tail_cons,List.headD_cons,V.getB,V.getS]
 unfold Ap
 cases h1:iD l base with
 |some v=>
  simp only[Option.isSome_some,if_true,Option.getD_some]
  exact aD _
 |none=>
  simp only[Option.isSome_none,Bool.false_eq_true,if_false,bL c1]
  refine aB (Dj l hl _) ?_
  simp only[V.getT,List.tail_cons,List.headD_cons,V.getB,V.getS]
  cases h2:iD l (base++[42])with
  |some v=>
   obtain⟨p,hp,_,rfl⟩:=gW h2
   simp only[Option.isSome_some,if_true,Option.getD_some]
   refine aB (JM _ (hv p hp)) ?_
   simp only[V.getS]
   refine aB (Ga _ (Nat.le_trans (tZ _) (hv p hp))) ?_
   exact aD _
  |none=>
   simp only[Option.isSome_none,Bool.false_eq_true,if_false]
   refine aB (OU l base hl hv hb) ?_
   exact aD _
end Go.Proofs.YtdoaoaicdimbeaaGreatDoor
end
section
namespace Go.Proofs.YtdoaoaicdimbeaaGreatDoor
open Go.Ev Go
theorem oK:∀(n:Nat) (s:Bs),s.length≤n→(cQ s).length≤s.length∧∀p∈cQ s,p.1.length≤s.length∧p.2.length≤s.length:=by
 intro n
 induction n with
 |zero=>
  intro s h
  have:s=[]:=List.eq_nil_of_length_eq_zero (by omega)
  subst this
  have hb:iO 59 []=none:=by simp[iO,rE]
  rw[rF];simp[hb]
 |succ n ih=>
  intro s h
  rw[rF]
  cases h1:iO 59 s with
  |none=>simp
  |some s1=>
   have g1:=iP h1
   have g2:=jL s1
   dsimp only
   split
   ·simp
   ·cases h2:iO 61 (tokF s1).2 with
    |none=>simp
    |some s3=>
     have g3:=iP h2
     dsimp only
     cases h3:Dh s3 with
     |none=>simp
     |some p=>
      obtain⟨v,s4⟩:=p
      have g4:=Di h3
      obtain⟨e1,e2⟩:=ih s4 (by omega)
      dsimp only
      refine⟨by rw[List.length_cons];omega,fun p hp=>?_⟩
      rw[List.mem_cons]at hp
      rcases hp with rfl|hp
      ·simp only[List.length_map];omega
      ·have:=e2 p hp;omega
theorem uB (a b:Bs):(Sc.str a).same (.str b)=(a==b):=rfl
theorem EG (x y:Bs):∀m:List (Sc×Sc),Sc.getB (kB (.str x) (rM (.str y) (.bool true) m))=(x==y||Sc.getB (kB (.str x) m))
 |[]=>by
  simp only[rM,kB,uB]
  by_cases h:x=y
  ·simp[h,Sc.getB]
  ·simp[h,Sc.getB]
 |(k,u)::m=>by
  have ih:=EG x y m
  simp only[rM]
  cases hk:(Sc.str y).same k
  ·simp only[Bool.false_eq_true,if_false,kB]
   cases hx:(Sc.str x).same k
   ·simp only[Bool.false_eq_true,if_false];exact ih
   ·simp only[if_true]
    have:(x==y)=false:=by
     cases k with
     |str b=>
      rw[uB]at hk hx
      have e:=eq_of_beq hx
      subst e
      cases hxy:(x==y)with
      |false=>rfl
      |true=>have e:=eq_of_beq hxy;subst e;simp at hk
     |_=>cases hx
    rw[this,Bool.false_or]
  ·simp only[if_true,kB]
   cases k with
   |str b=>
    rw[uB]at hk
    have e:=eq_of_beq hk
    subst e
    simp only[uB]
    by_cases h:x=y
    ·simp[h,Sc.getB]
    ·simp[h]
   |_=>cases hk
def nF (l:Ps):List Bs→Ps→Ps
 |_,[]=>[]
 |seen,p::r=>
  if dS p.1=[]∨dS p.1∈seen then nF l seen r
  else match Ap l (dS p.1)with
   |some x=>(dS p.1,x)::nF l (dS p.1::seen) r
   |none=>nF l (dS p.1::seen) r
theorem OW (l:Ps) (hl:l.length≤1000000) (hv:∀p∈l,p.1.length≤1000000∧p.2.length≤1000000) (s4 s5 s7 t u:Bs) (l6:List V):∀(n i:Nat) (out:Ps) (seen:List Bs) (m:List (Sc×Sc)),
  l.length - i≤n→out.length≤i→(∀x,Sc.getB (kB (.str x) m)=decide (x∈seen))→
  Evt (fun k j=>L99 (aA cfg k) j (l.map pV) (l.map pV) (l.length:Nat) (i:Nat) s4 s5 l6 s7 t u (out.map pV) m) (.tup [.agg [.str t, .str u, .lst 176 false ((out++nF l seen (l.drop i)).map pV)], .bool true],[]):=by
 have fin:∀(i:Nat) (out:Ps) (seen:List Bs) (m:List (Sc×Sc)),l.length≤i→
   Evt (fun k j=>L99 (aA cfg k) j (l.map pV) (l.map pV) (l.length:Nat) (i:Nat) s4 s5 l6 s7 t u (out.map pV) m) (.tup [.agg [.str t, .str u, .lst 176 false ((out++nF l seen (l.drop i)).map pV)], .bool true],[]):=by
  intro i out seen m h
  refine Ny (l.map pV) (l.map pV) (l.length:Nat) (i:Nat) s4 s5 l6 s7 t u (out.map pV) m ?_
  have h1:¬((i:Int)<(l.length:Int)):=by omega
  rw[List.drop_eq_nil_of_le h]
  simp only[EA,h1,decide_false,Bool.false_eq_true,if_false,nF,List.append_nil]
  exact aD _
 intro n
 induction n with
 |zero=>intro i out seen m h _ _;exact fin i out seen m (by omega)
 |succ n ih=>
  intro i out seen m h ho hm
  by_cases hlt:i<l.length
  ·refine Ny (l.map pV) (l.map pV) (l.length:Nat) (i:Nat) s4 s5 l6 s7 t u (out.map pV) m ?_
   have h1:((i:Int)<(l.length:Int)):=by omega
   have h2:(0:Int)≤(i:Int):=by omega
   have hw:IntKind.wrap .i64 ((i:Int)+1)=((i+1:Nat):Int):=by rw[wrap64 (by omega) (by omega)];omega
   have hd:l.drop i=l[i]::l.drop (i+1):=List.drop_eq_getElem_cons hlt
   have hpv:=hv l[i] (List.getElem_mem hlt)
   have hvv:∀p∈l,p.2.length≤1000000:=fun p hp=>(hv p hp).2
   obtain⟨r,b,h21⟩:=OS l[i].1 hpv.1
   rw[hd,nF]
   simp only[EA,h1,decide_true,if_true,aH h2,List.length_map,cA,Int.toNat_natCast,yC hlt,pV,V.cells,List.headD_cons,List.tail_cons,V.getS]
   refine aB h21 ?_
   simp only[V.getT,V.getS,List.headD_cons,hm,sEq,hw]
   have hskip:(if(dS l[i].1==[])=false then some (decide (dS l[i].1∈seen))else some true)=some (decide (dS l[i].1=[]∨dS l[i].1∈seen)):=by
    by_cases e:dS l[i].1=[]
    ·simp[e]
    ·have:(dS l[i].1==[])=false:=by simpa using e
     simp[e]
   rw[hskip]
   simp only[cV]
   by_cases hs:dS l[i].1=[]∨dS l[i].1∈seen
   ·simp only[hs,decide_true,if_true]
    exact ih (i+1) out seen m (by omega) (by omega) hm
   ·simp only[hs,decide_false,Bool.false_eq_true,if_false]
    refine aB (OV l (dS l[i].1) hl hvv (Nat.le_trans (ED _) hpv.1)) ?_
    have hm' :∀x,Sc.getB (kB (.str x) (rM (.str (dS l[i].1)) (.bool true) m))=decide (x∈dS l[i].1::seen):=by
     intro x
     rw[EG,hm]
     by_cases e:x=dS l[i].1
     ·simp[e]
     ·have:(x==dS l[i].1)=false:=by simpa using e
      rw[this];simp[e]
    simp only[V.getT,V.getB,V.getS,List.headD_cons,List.tail_cons]
    cases ht:Ap l (dS l[i].1)with
    |none=>
     simp only[Option.isSome_none,Bool.false_eq_true,if_false]
     exact ih (i+1) out (dS l[i].1::seen) _ (by omega) (by omega) hm'
    |some x=>
     have hap:aW (out.map pV) [V.agg [V.str (dS l[i].1),V.str x]] 33=true:=dM (by simp;omega)
     simp only[Option.isSome_some,if_true,Option.getD_some]
     simp only[bL hap]
     have:=ih (i+1) (out++[(dS l[i].1,x)]) (dS l[i].1::seen) _ (by omega) (by simp;omega) hm'
     simpa[pV]using this
  ·exact fin i out seen m (by omega)
def dY (s:Bs) (two:Bool):Option (Bs×Bs×Ps):=
 if(tokF (dA s)).1=[]then none
 else if two then match iO 47 (tokF (dA s)).2 with
  |none=>none
  |some s2=>if(tokF s2).1=[]then none else some ((tokF (dA s)).1.map dR,(tokF s2).1.map dR,nF (cQ (tokF s2).2) [] (cQ (tokF s2).2))
 else some ((tokF (dA s)).1.map dR,[],nF (cQ (tokF (dA s)).2) [] (cQ (tokF (dA s)).2))
def mK:Option (Bs×Bs×Ps)→V
 |none=> .tup [.agg [.str [], .str [], .lst 176 false []], .bool false]
 |some (t,u,ps)=> .tup [.agg [.str t, .str u, .lst 176 false (ps.map pV)], .bool true]
theorem B2 (s:Bs) (hs:s.length≤1000000) (rest t u s4 s5:Bs) (l6:List V):
  Evt (fun k j=>L99 (aA cfg k) j ((cQ s).map pV) ((cQ s).map pV) ((((cQ s).map pV).length:Nat):Int) (0:Int) s4 s5 l6 rest t u [] []) (mK (some (t,u,nF (cQ s) [] (cQ s))),[]):=by
 obtain⟨g1,g2⟩:=oK s.length s (Nat.le_refl _)
 have:=OW (cQ s) (by omega) (fun p hp=>by have:=g2 p hp;omega) s4 s5 rest t u l6 (cQ s).length 0 [] [] [] (by omega) (by simp) (fun x=>by simp[kB,Sc.getB])
 rw[List.length_map]
 simpa[mK]using this
theorem NB (s:Bs) (hs:s.length≤1000000) (two:Bool):Ret 99 [.str s, .bool two] [] (mK (dY s two),[]):=by
 refine M99 s two ?_
 have h0:=nE s
 have h1:=jL (dA s)
 simp only[T99]
 refine aB (F8 s hs) ?_
 simp only[List.headD_cons,Ob.getC,V.getS]
 refine aB (De (dA s) (by omega)) ?_
 simp only[V.getS]
 refine aB (Ak _ (by omega)) ?_
 simp only[V.getS,List.headD_cons,Ob.getC,sEq]
 unfold dY
 by_cases ht:(tokF (dA s)).1=[]
 ·simp only[ht,List.map_nil,beq_self_eq_true,if_true]
  exact aD _
 ·have hb:(((tokF (dA s)).1.map dR)==[])=false:=by simp[ht]
  simp only[hb,Bool.false_eq_true,if_false,ht]
  cases two with
  |false=>
   simp only[Bool.false_eq_true,if_false]
   obtain⟨rest,h20⟩:=JI (tokF (dA s)).2 (by omega)
   refine aB h20 ?_
   simp only[V.getL,List.headD_cons,Ob.getC,V.getS]
   exact B2 _ (by omega) _ _ _ _ _ _
  |true=>
   simp only[if_true]
   refine aB (Am (tokF (dA s)).2 (by omega) 47 (by decide)) ?_
   simp only[V.getB,List.headD_cons,Ob.getC,V.getS]
   cases h2:iO 47 (tokF (dA s)).2 with
   |none=>
    simp only[Option.isSome_none,Bool.not_false,if_true]
    exact aD _
   |some s2=>
    have g2:=iP h2
    have g3:=jL s2
    simp only[Option.isSome_some,Bool.not_true,Bool.false_eq_true,if_false,tY,h2]
    refine aB (De s2 (by omega)) ?_
    simp only[V.getS,List.headD_cons,Ob.getC]
    refine aB (Ak _ (by omega)) ?_
    simp only[V.getS]
    by_cases hu:(tokF s2).1=[]
    ·simp only[hu,List.map_nil,beq_self_eq_true,if_true]
     exact aD _
    ·have hb2:(((tokF s2).1.map dR)==[])=false:=by simp[hu]
     simp only[hb2,Bool.false_eq_true,if_false,hu]
     obtain⟨rest,h20⟩:=JI (tokF s2).2 (by omega)
     refine aB h20 ?_
     simp only[V.getL,List.headD_cons,Ob.getC,V.getS]
     exact B2 _ (by omega) _ _ _ _ _ _
def getF:Ps→Bs→Option Bs
 |[],_=>none
 |p::r,name=>if p.1.map dR=name.map dR then some p.2 else getF r name
theorem OX (name:Bs) (hn:name.length≤1000000) (l:Ps) (hl:l.length≤1000000) (hv:∀p∈l,p.1.length≤1000000):∀(n i:Nat),l.length - i≤n→
  Evt (fun k n=>L58 (aA cfg k) n name (l.map pV) (l.length:Nat) (i:Nat)) (.tup [.str ((getF (l.drop i) name).getD []), .bool (getF (l.drop i) name).isSome],[]):=by
 have fin:∀i:Nat,l.length≤i→Evt (fun k n=>L58 (aA cfg k) n name (l.map pV) (l.length:Nat) (i:Nat)) (.tup [.str ((getF (l.drop i) name).getD []), .bool (getF (l.drop i) name).isSome],[]):=by
  intro i h
  refine Nx name (l.map pV) (l.length:Nat) (i:Nat) ?_
  have h1:¬((i:Int)<(l.length:Int)):=by omega
  rw[List.drop_eq_nil_of_le h]
  simp only[Ez,h1,decide_false,Bool.false_eq_true,if_false,getF]
  exact aD _
 intro n
 induction n with
 |zero=>intro i h;exact fin i (by omega)
 |succ n ih=>
  intro i h
  by_cases hlt:i<l.length
  ·refine Nx name (l.map pV) (l.length:Nat) (i:Nat) ?_
   have h1:((i:Int)<(l.length:Int)):=by omega
   have h2:(0:Int)≤(i:Int):=by omega
   have hw:IntKind.wrap .i64 ((i:Int)+1)=((i+1:Nat):Int):=by rw[wrap64 (by omega) (by omega)];omega
   have hd:l.drop i=l[i]::l.drop (i+1):=List.drop_eq_getElem_cons hlt
   have hpv:=hv l[i] (List.getElem_mem hlt)
   rw[hd,getF]
   simp only[Ez,h1,decide_true,if_true,aH h2,List.length_map,cA,Int.toNat_natCast,yC hlt,pV,V.cells,List.headD_cons,List.tail_cons,V.getS,hw]
   refine aB (NA l[i].1 name (by omega) (by omega)) ?_
   simp only[V.getB]
   by_cases he:l[i].1.map dR=name.map dR
   ·simp only[he,beq_self_eq_true,if_true]
    exact aD _
   ·have:(l[i].1.map dR==name.map dR)=false:=by simpa using he
    simp only[this,Bool.false_eq_true,if_false,he]
    exact ih (i+1) (by omega)
  ·exact fin i (by omega)
theorem QO (t u:Bs) (l:Ps) (hl:l.length≤1000000) (hv:∀p∈l,p.1.length≤1000000) (name:Bs) (hn:name.length≤1000000):
  Ret 58 [.agg [.str t, .str u, .lst 176 false (l.map pV)], .str name] [] (.tup [.str ((getF l name).getD []), .bool (getF l name).isSome],[]):=by
 refine M58 t u (l.map pV) name ?_
 simp only[T58,List.length_map]
 exact OX name hn l hl hv l.length 0 (by omega)
end Go.Proofs.YtdoaoaicdimbeaaGreatDoor
end
section
namespace Go.Proofs.YtdoaoaicdimbeaaGreatDoor
open Go.Ev Go
open List (headD tail getD length drop take)
open V (getI getL getT getS getB)
set_option maxRecDepth 100000
variable (call : FuncId → Fun) (icall : aO (V × List Ob)) (again : List It → St → Option (V × List Ob))
def T63 (call:FuncId→Fun) (a0:List V):Option (V×List Ob):=
 Option.bind (call 102 [(V.lst 134 false a0),(V.clo (Fn.func 103) [] [])] []) fun z0=>
 some ((V.int .i64 (getI z0.1)),[])
def A63 (a0:List V):List V:=[V.lst 134 false a0]
theorem E63 (a0:List V):GO 63 Tryz.f63 (A63 a0) [] call icall again=T63 call a0:=by kernel_rfl
theorem C63 (k:Nat) (a0:List V):aA cfg (k+1) 63 (A63 a0) []=T63 (aA cfg k) a0:=
 (show aA cfg (k+1) 63 (A63 a0) []=GO 63 Tryz.f63 (A63 a0) [] (aA cfg k) (aE cfg (aA cfg k) 20) (RN 63 Tryz.f63 [] (aA cfg k) (aE cfg (aA cfg k) 20) k)by kernel_rfl).trans (E63 _ _ _ a0)
theorem M63 (a0:List V) {r:V×List Ob} (h:Evt (fun k n=>T63 (aA cfg k) a0) r):Ret 63 [V.lst 134 false a0] [] r:=aK (g:=fun k n=>T63 (aA cfg k) a0) (fun k=>C63 k a0) h
def T64 (call:FuncId→Fun) (a0:List V) (a1:Int) (a2:Int) (a3:Int):Option (V×List Ob):=
 Option.bind (call 74 [(V.agg [(V.int .i64 a1),(V.int .i64 a2)]),(V.int .i64 ((length a0:Nat):Int))] []) fun z0=>
 if(!(getB z0.1))=true then
 some ((V.str []),[])
 else
 chk (decide (0≤a2)) (chk (decide (a2≤((length a0:Nat):Int))) (chk (decide (0≤a1)) (chk (decide (a1≤a2)) (some ((V.str (bytesOf (drop (Int.toNat a1) (take (Int.toNat a2) a0)))),[])))))
def A64 (a0:List V) (a1:Int) (a2:Int) (a3:Int):List V:=[V.lst 5 false a0,V.agg [V.int IntKind.i64 a1,V.int IntKind.i64 a2,V.int IntKind.i64 a3]]
theorem E64 (a0:List V) (a1:Int) (a2:Int) (a3:Int):GO 64 Tryz.f64 (A64 a0 a1 a2 a3) [] call icall again=T64 call a0 a1 a2 a3:=by kernel_rfl
theorem C64 (k:Nat) (a0:List V) (a1:Int) (a2:Int) (a3:Int):aA cfg (k+1) 64 (A64 a0 a1 a2 a3) []=T64 (aA cfg k) a0 a1 a2 a3:=
 (show aA cfg (k+1) 64 (A64 a0 a1 a2 a3) []=GO 64 Tryz.f64 (A64 a0 a1 a2 a3) [] (aA cfg k) (aE cfg (aA cfg k) 20) (RN 64 Tryz.f64 [] (aA cfg k) (aE cfg (aA cfg k) 20) k)by kernel_rfl).trans (E64 _ _ _ a0 a1 a2 a3)
theorem M64 (a0:List V) (a1:Int) (a2:Int) (a3:Int) {r:V×List Ob} (h:Evt (fun k n=>T64 (aA cfg k) a0 a1 a2 a3) r):Ret 64 [V.lst 5 false a0,V.agg [V.int IntKind.i64 a1,V.int IntKind.i64 a2,V.int IntKind.i64 a3]] [] r:=aK (g:=fun k n=>T64 (aA cfg k) a0 a1 a2 a3) (fun k=>C64 k a0 a1 a2 a3) h
def T65 (call:FuncId→Fun) (a0:List UInt8):Option (V×List Ob):=
 if(!(sEq a0 []))=true then
 chk (decide (0≤(0:Int))) (chk (decide ((0:Int)<((length a0:Nat):Int))) (Option.bind (call 104 [(V.int .u8 ((UInt8.toNat (getD a0 (Int.toNat (0:Int)) 0):Nat):Int))] []) fun z0=>
 some ((V.bool (getB z0.1)),[])))
 else
 some ((V.bool false),[])
def A65 (a0:List UInt8):List V:=[V.str a0]
theorem E65 (a0:List UInt8):GO 65 Tryz.f65 (A65 a0) [] call icall again=T65 call a0:=by kernel_rfl
theorem C65 (k:Nat) (a0:List UInt8):aA cfg (k+1) 65 (A65 a0) []=T65 (aA cfg k) a0:=
 (show aA cfg (k+1) 65 (A65 a0) []=GO 65 Tryz.f65 (A65 a0) [] (aA cfg k) (aE cfg (aA cfg k) 20) (RN 65 Tryz.f65 [] (aA cfg k) (aE cfg (aA cfg k) 20) k)by kernel_rfl).trans (E65 _ _ _ a0)
theorem M65 (a0:List UInt8) {r:V×List Ob} (h:Evt (fun k n=>T65 (aA cfg k) a0) r):Ret 65 [V.str a0] [] r:=aK (g:=fun k n=>T65 (aA cfg k) a0) (fun k=>C65 k a0) h
def B5 (call:FuncId→Fun) (ag0:List UInt8→Int→Int→Option (V×List Ob)) (ag1:List UInt8→Int→Int→Int→Int→Option (V×List Ob)) (s0:List UInt8) (i1:Int) (i2:Int):Option (V×List Ob):=
 if(decide (i2>(0:Int)))=true then
 chk (decide (0≤(IntKind.wrap .i64 (i2 - (1:Int))))) (chk (decide ((IntKind.wrap .i64 (i2 - (1:Int)))<((length s0:Nat):Int))) (Option.bind (call 104 [(V.int .u8 ((UInt8.toNat (getD s0 (Int.toNat (IntKind.wrap .i64 (i2 - (1:Int)))) 0):Nat):Int))] []) fun z0=>
 if(getB z0.1)=true then
 (ag0 (s0) (i1) ((IntKind.wrap .i64 (i2 - (1:Int)))))
 else
 (ag1 (s0) (i1) (i2) (i2) ((0:Int)))))
 else
 (ag1 (s0) (i1) (i2) (i2) ((0:Int)))
def B6 (call:FuncId→Fun) (ag0:List UInt8→Int→Int→Option (V×List Ob)) (ag1:List UInt8→Int→Int→Int→Int→Option (V×List Ob)) (s0:List UInt8) (i1:Int) (i2:Int) (i3:Int) (i4:Int):Option (V×List Ob):=
 if(decide (i4<i3))=true then
 Option.bind (chk (decide (0≤i4)) (chk (decide (i4<((length s0:Nat):Int))) (if(decide (((UInt8.toNat (getD s0 (Int.toNat i4) 0):Nat):Int)<(33:Int)))=false then
 chk (decide (0≤i4)) (chk (decide (i4<((length s0:Nat):Int))) (some (decide (((UInt8.toNat (getD s0 (Int.toNat i4) 0):Nat):Int)>(126:Int)))))
 else
 some true))) fun y0=>
 if y0=true then
 some ((V.tup [(V.str []),(V.int .i64 0),(V.bool false)]),[])
 else
 (ag1 (s0) (i1) (i2) (i3) ((IntKind.wrap .i64 (i4+(1:Int)))))
 else
 chk (decide (0≤i2)) (chk (decide (i2≤((length s0:Nat):Int))) (chk (decide (0≤(0:Int))) (chk (decide ((0:Int)≤i2)) (some ((V.tup [(V.str (drop (Int.toNat (0:Int)) (take (Int.toNat i2) s0))),(V.int .i64 (IntKind.wrap .i64 (i1+(1:Int)))),(V.bool (decide (i2>(0:Int))))]),[])))))
def T66 (call:FuncId→Fun) (ag0:List UInt8→Int→Int→Option (V×List Ob)) (ag1:List UInt8→Int→Int→Int→Int→Option (V×List Ob)) (a0:List UInt8):Option (V×List Ob):=
 Option.bind (call 89 [(V.str a0),(V.int .u8 58)] []) fun z0=>
 if(decide ((getI z0.1)<(0:Int)))=true then
 some ((V.tup [(V.str []),(V.int .i64 0),(V.bool false)]),[])
 else
 (ag0 (a0) ((getI z0.1)) ((getI z0.1)))
def A66 (a0:List UInt8):List V:=[V.str a0]
def xM (s0:List UInt8) (i1:Int) (i2:Int):St:=⟨[(V.str s0),V.bot,V.bot,V.bot,V.bot,(V.int IntKind.i64 i1),(V.int IntKind.i64 i2)]++List.replicate 39 V.bot,[]⟩
def xN (s0:List UInt8) (i1:Int) (i2:Int) (i3:Int) (i4:Int):St:=⟨[(V.str s0),V.bot,V.bot,V.bot,V.bot,(V.int IntKind.i64 i1),(V.int IntKind.i64 i2),V.bot,V.bot,V.bot,V.bot,V.bot,V.bot,V.bot,V.bot,V.bot,V.bot,V.bot,V.bot,V.bot,V.bot,V.bot,V.bot,V.bot,(V.int IntKind.i64 i3),(V.int IntKind.i64 i4)]++List.replicate 20 V.bot,[]⟩
theorem QP (s0:List UInt8) (i1:Int) (i2:Int):
 RM 66 Tryz.f66 [] call icall again (aJ Tryz.f66 0) (xM s0 i1 i2)=B5 call (fun s0 i1 i2=>again (aJ Tryz.f66 0) (xM s0 i1 i2)) (fun s0 i1 i2 i3 i4=>again (aJ Tryz.f66 1) (xN s0 i1 i2 i3 i4)) s0 i1 i2:=by kernel_rfl
theorem QQ (s0:List UInt8) (i1:Int) (i2:Int) (i3:Int) (i4:Int):
 RM 66 Tryz.f66 [] call icall again (aJ Tryz.f66 1) (xN s0 i1 i2 i3 i4)=B6 call (fun s0 i1 i2=>again (aJ Tryz.f66 0) (xM s0 i1 i2)) (fun s0 i1 i2 i3 i4=>again (aJ Tryz.f66 1) (xN s0 i1 i2 i3 i4)) s0 i1 i2 i3 i4:=by kernel_rfl
theorem E66 (a0:List UInt8):GO 66 Tryz.f66 (A66 a0) [] call icall again=T66 call (fun s0 i1 i2=>again (aJ Tryz.f66 0) (xM s0 i1 i2)) (fun s0 i1 i2 i3 i4=>again (aJ Tryz.f66 1) (xN s0 i1 i2 i3 i4)) a0:=by kernel_rfl
def L66 (call:FuncId→Fun):Nat→(List UInt8→Int→Int→Option (V×List Ob))×(List UInt8→Int→Int→Int→Int→Option (V×List Ob))
 |0=>⟨fun _ _ _=>none,fun _ _ _ _ _=>none⟩
 |n+1=>⟨B5 call (L66 call n).1 (L66 call n).2,B6 call (L66 call n).1 (L66 call n).2⟩
theorem R66 (call:FuncId→Fun) (icall:aO (V×List Ob)):∀n,(∀(s0:List UInt8) (i1:Int) (i2:Int),RN 66 Tryz.f66 [] call icall n (aJ Tryz.f66 0) (xM s0 i1 i2)=(L66 call n).1 s0 i1 i2)∧(∀(s0:List UInt8) (i1:Int) (i2:Int) (i3:Int) (i4:Int),RN 66 Tryz.f66 [] call icall n (aJ Tryz.f66 1) (xN s0 i1 i2 i3 i4)=(L66 call n).2 s0 i1 i2 i3 i4)
 |0=>⟨fun s0 i1 i2=>rfl,fun s0 i1 i2 i3 i4=>rfl⟩
 |n+1=>by
  have ih:=R66 call icall n
  exact⟨fun s0 i1 i2=>(QP call icall (RN 66 Tryz.f66 [] call icall n) s0 i1 i2).trans (by rw[show(fun s0 i1 i2=>RN 66 Tryz.f66 [] call icall n (aJ Tryz.f66 0) (xM s0 i1 i2))=(L66 call n).1 from(funext fun s0=>funext fun i1=>funext fun i2=>ih.1 s0 i1 i2),show(fun s0 i1 i2 i3 i4=>RN 66 Tryz.f66 [] call icall n (aJ Tryz.f66 1) (xN s0 i1 i2 i3 i4))=(L66 call n).2 from(funext fun s0=>funext fun i1=>funext fun i2=>funext fun i3=>funext fun i4=>ih.2 s0 i1 i2 i3 i4)];rfl),
   fun s0 i1 i2 i3 i4=>(QQ call icall (RN 66 Tryz.f66 [] call icall n) s0 i1 i2 i3 i4).trans (by rw[show(fun s0 i1 i2=>RN 66 Tryz.f66 [] call icall n (aJ Tryz.f66 0) (xM s0 i1 i2))=(L66 call n).1 from(funext fun s0=>funext fun i1=>funext fun i2=>ih.1 s0 i1 i2),show(fun s0 i1 i2 i3 i4=>RN 66 Tryz.f66 [] call icall n (aJ Tryz.f66 1) (xN s0 i1 i2 i3 i4))=(L66 call n).2 from(funext fun s0=>funext fun i1=>funext fun i2=>funext fun i3=>funext fun i4=>ih.2 s0 i1 i2 i3 i4)];rfl)⟩
theorem C66 (k:Nat) (a0:List UInt8):aA cfg (k+1) 66 (A66 a0) []=T66 (aA cfg k) (L66 (aA cfg k) k).1 (L66 (aA cfg k) k).2 a0:=by
 have ih:=R66 (aA cfg k) (aE cfg (aA cfg k) 20) k
 refine(show aA cfg (k+1) 66 (A66 a0) []=GO 66 Tryz.f66 (A66 a0) [] (aA cfg k) (aE cfg (aA cfg k) 20) (RN 66 Tryz.f66 [] (aA cfg k) (aE cfg (aA cfg k) 20) k)by kernel_rfl).trans ((E66 _ _ _ a0).trans ?_)
 rw[show(fun s0 i1 i2=>RN 66 Tryz.f66 [] (aA cfg k) (aE cfg (aA cfg k) 20) k (aJ Tryz.f66 0) (xM s0 i1 i2))=(L66 (aA cfg k) k).1 from(funext fun s0=>funext fun i1=>funext fun i2=>ih.1 s0 i1 i2),show(fun s0 i1 i2 i3 i4=>RN 66 Tryz.f66 [] (aA cfg k) (aE cfg (aA cfg k) 20) k (aJ Tryz.f66 1) (xN s0 i1 i2 i3 i4))=(L66 (aA cfg k) k).2 from(funext fun s0=>funext fun i1=>funext fun i2=>funext fun i3=>funext fun i4=>ih.2 s0 i1 i2 i3 i4)]
theorem M66 (a0:List UInt8) {r:V×List Ob} (h:Evt (fun k n=>T66 (aA cfg k) (L66 (aA cfg k) n).1 (L66 (aA cfg k) n).2 a0) r):Ret 66 [V.str a0] [] r:=aK (g:=fun k n=>T66 (aA cfg k) (L66 (aA cfg k) n).1 (L66 (aA cfg k) n).2 a0) (fun k=>C66 k a0) h
theorem JP (s0:List UInt8) (i1:Int) (i2:Int) {r:V×List Ob} (h:Evt (fun k n=>B5 (aA cfg k) (L66 (aA cfg k) n).1 (L66 (aA cfg k) n).2 s0 i1 i2) r):Evt (fun k n=>(L66 (aA cfg k) n).1 s0 i1 i2) r:=aY (fun k n=>rfl) h
theorem JQ (s0:List UInt8) (i1:Int) (i2:Int) (i3:Int) (i4:Int) {r:V×List Ob} (h:Evt (fun k n=>B6 (aA cfg k) (L66 (aA cfg k) n).1 (L66 (aA cfg k) n).2 s0 i1 i2 i3 i4) r):Evt (fun k n=>(L66 (aA cfg k) n).2 s0 i1 i2 i3 i4) r:=aY (fun k n=>rfl) h
def T74 (call:FuncId→Fun) (a0:Int) (a1:Int) (a2:Int):Option (V×List Ob):=
 Option.bind (if(decide (a0≥(0:Int)))=true then
 if(decide (a0≤a1))=true then
 some (decide (a1≤a2))
 else
 some false
 else
 some false) fun y0=>
 some ((V.bool y0),[])
def A74 (a0:Int) (a1:Int) (a2:Int):List V:=[V.agg [V.int IntKind.i64 a0,V.int IntKind.i64 a1],V.int IntKind.i64 a2]
theorem E74 (a0:Int) (a1:Int) (a2:Int):GO 74 Tryz.f74 (A74 a0 a1 a2) [] call icall again=T74 call a0 a1 a2:=by kernel_rfl
theorem C74 (k:Nat) (a0:Int) (a1:Int) (a2:Int):aA cfg (k+1) 74 (A74 a0 a1 a2) []=T74 (aA cfg k) a0 a1 a2:=
 (show aA cfg (k+1) 74 (A74 a0 a1 a2) []=GO 74 Tryz.f74 (A74 a0 a1 a2) [] (aA cfg k) (aE cfg (aA cfg k) 20) (RN 74 Tryz.f74 [] (aA cfg k) (aE cfg (aA cfg k) 20) k)by kernel_rfl).trans (E74 _ _ _ a0 a1 a2)
theorem M74 (a0:Int) (a1:Int) (a2:Int) {r:V×List Ob} (h:Evt (fun k n=>T74 (aA cfg k) a0 a1 a2) r):Ret 74 [V.agg [V.int IntKind.i64 a0,V.int IntKind.i64 a1],V.int IntKind.i64 a2] [] r:=aK (g:=fun k n=>T74 (aA cfg k) a0 a1 a2) (fun k=>C74 k a0 a1 a2) h
def Aq (call:FuncId→Fun) (ag0:List V→Int→Int→Option (V×List Ob)) (l0:List V) (i1:Int) (i2:Int):Option (V×List Ob):=
 if(decide (i2<i1))=true then
 chk (decide (0≤i2)) (chk (decide (i2<((length l0:Nat):Int))) (Option.bind (call 103 [(V.agg [(V.int .i64 (getI (headD (V.cells (getD l0 (Int.toNat i2) V.bot)) V.bot))),(V.int .i64 (getI (headD (tail (V.cells (getD l0 (Int.toNat i2) V.bot))) V.bot))),(V.int .i64 (getI (headD (tail (tail (V.cells (getD l0 (Int.toNat i2) V.bot)))) V.bot)))])] []) fun z0=>
 if(getB z0.1)=true then
 some ((V.int .i64 i2),[])
 else
 (ag0 (l0) (i1) ((IntKind.wrap .i64 (i2+(1:Int)))))))
 else
 some ((V.int .i64 (-1:Int)),[])
def JR (call:FuncId→Fun) (ag0:List V→Int→Int→Option (V×List Ob)) (a0:List V):Option (V×List Ob):=
 (ag0 (a0) (((length a0:Nat):Int)) ((0:Int)))
def LZ (a0:List V):List V:=[V.lst 134 false a0,V.clo (Fn.func 103) [] []]
def wF (l0:List V) (i1:Int) (i2:Int):St:=⟨[(V.lst 134 false l0),(V.clo (Fn.func 103) [] []),V.bot,V.bot,V.bot,V.bot,V.bot,(V.int IntKind.i64 i1),(V.int IntKind.i64 i2)]++List.replicate 10 V.bot,[]⟩
theorem OY (l0:List V) (i1:Int) (i2:Int):
 RM 102 Tryz.f102 [] call icall again (aJ Tryz.f102 0) (wF l0 i1 i2)=Aq call (fun l0 i1 i2=>again (aJ Tryz.f102 0) (wF l0 i1 i2)) l0 i1 i2:=by kernel_rfl
theorem Tw (a0:List V):GO 102 Tryz.f102 (LZ a0) [] call icall again=JR call (fun l0 i1 i2=>again (aJ Tryz.f102 0) (wF l0 i1 i2)) a0:=by kernel_rfl
def Ar (call:FuncId→Fun):Nat→(List V→Int→Int→Option (V×List Ob))
 |0=>fun _ _ _=>none
 |n+1=>Aq call (Ar call n)
theorem QR (call:FuncId→Fun) (icall:aO (V×List Ob)):∀n,(∀(l0:List V) (i1:Int) (i2:Int),RN 102 Tryz.f102 [] call icall n (aJ Tryz.f102 0) (wF l0 i1 i2)=(Ar call n) l0 i1 i2)
 |0=>fun l0 i1 i2=>rfl
 |n+1=>by
  have ih:=QR call icall n
  exact fun l0 i1 i2=>(OY call icall (RN 102 Tryz.f102 [] call icall n) l0 i1 i2).trans (by rw[show(fun l0 i1 i2=>RN 102 Tryz.f102 [] call icall n (aJ Tryz.f102 0) (wF l0 i1 i2))=(Ar call n)from(funext fun l0=>funext fun i1=>funext fun i2=>ih l0 i1 i2)];rfl)
theorem Tz (k:Nat) (a0:List V):aA cfg (k+1) 102 (LZ a0) []=JR (aA cfg k) (Ar (aA cfg k) k) a0:=by
 have ih:=QR (aA cfg k) (aE cfg (aA cfg k) 20) k
 refine(show aA cfg (k+1) 102 (LZ a0) []=GO 102 Tryz.f102 (LZ a0) [] (aA cfg k) (aE cfg (aA cfg k) 20) (RN 102 Tryz.f102 [] (aA cfg k) (aE cfg (aA cfg k) 20) k)by kernel_rfl).trans ((Tw _ _ _ a0).trans ?_)
 rw[show(fun l0 i1 i2=>RN 102 Tryz.f102 [] (aA cfg k) (aE cfg (aA cfg k) 20) k (aJ Tryz.f102 0) (wF l0 i1 i2))=(Ar (aA cfg k) k)from(funext fun l0=>funext fun i1=>funext fun i2=>ih l0 i1 i2)]
theorem TA (a0:List V) {r:V×List Ob} (h:Evt (fun k n=>JR (aA cfg k) (Ar (aA cfg k) n) a0) r):Ret 102 [V.lst 134 false a0,V.clo (Fn.func 103) [] []] [] r:=aK (g:=fun k n=>JR (aA cfg k) (Ar (aA cfg k) n) a0) (fun k=>Tz k a0) h
theorem JS (l0:List V) (i1:Int) (i2:Int) {r:V×List Ob} (h:Evt (fun k n=>Aq (aA cfg k) (Ar (aA cfg k) n) l0 i1 i2) r):Evt (fun k n=>(Ar (aA cfg k) n) l0 i1 i2) r:=aY (fun k n=>rfl) h
def JU (call:FuncId→Fun) (a0:Int) (a1:Int) (a2:Int):Option (V×List Ob):=
 some ((V.bool (a0==a1)),[])
def L0 (a0:Int) (a1:Int) (a2:Int):List V:=[V.agg [V.int IntKind.i64 a0,V.int IntKind.i64 a1,V.int IntKind.i64 a2]]
theorem TB (a0:Int) (a1:Int) (a2:Int):GO 103 Tryz.f103 (L0 a0 a1 a2) [] call icall again=JU call a0 a1 a2:=by kernel_rfl
theorem TD (k:Nat) (a0:Int) (a1:Int) (a2:Int):aA cfg (k+1) 103 (L0 a0 a1 a2) []=JU (aA cfg k) a0 a1 a2:=
 (show aA cfg (k+1) 103 (L0 a0 a1 a2) []=GO 103 Tryz.f103 (L0 a0 a1 a2) [] (aA cfg k) (aE cfg (aA cfg k) 20) (RN 103 Tryz.f103 [] (aA cfg k) (aE cfg (aA cfg k) 20) k)by kernel_rfl).trans (TB _ _ _ a0 a1 a2)
theorem TE (a0:Int) (a1:Int) (a2:Int) {r:V×List Ob} (h:Evt (fun k n=>JU (aA cfg k) a0 a1 a2) r):Ret 103 [V.agg [V.int IntKind.i64 a0,V.int IntKind.i64 a1,V.int IntKind.i64 a2]] [] r:=aK (g:=fun k n=>JU (aA cfg k) a0 a1 a2) (fun k=>TD k a0 a1 a2) h
def EH (call:FuncId→Fun) (ag0:List V→Int→Int→List UInt8→Option (V×List Ob)) (l0:List V) (i1:Int) (i2:Int) (s3:List UInt8):Option (V×List Ob):=
 if(decide (i2<i1))=true then
 chk (decide (0≤i2)) (chk (decide (i2<((length l0:Nat):Int))) (Option.bind (call 68 [(V.agg [(V.str (getS (headD (V.cells (getD l0 (Int.toNat i2) V.bot)) V.bot))),(V.int .i64 (getI (headD (tail (V.cells (getD l0 (Int.toNat i2) V.bot))) V.bot))),(V.int .i64 (getI (headD (tail (tail (V.cells (getD l0 (Int.toNat i2) V.bot)))) V.bot))),(V.int .i64 (getI (headD (tail (tail (tail (V.cells (getD l0 (Int.toNat i2) V.bot))))) V.bot)))]),(V.ref 0 0)] [(Ob.cells [(V.str s3)])]) fun z0=>
 if(getB z0.1)=true then
 some ((V.int .i64 i2),[(Ob.cells [(V.str (getS (headD (Ob.getC (headD z0.2 Ob.dead)) V.bot)))])])
 else
 (ag0 (l0) (i1) ((IntKind.wrap .i64 (i2+(1:Int)))) ((getS (headD (Ob.getC (headD z0.2 Ob.dead)) V.bot))))))
 else
 some ((V.int .i64 (-1:Int)),[(Ob.cells [(V.str s3)])])
def T67 (call:FuncId→Fun) (ag0:List V→Int→Int→List UInt8→Option (V×List Ob)) (a0:List V) (a1:List UInt8):Option (V×List Ob):=
 (ag0 (a0) (((length a0:Nat):Int)) ((0:Int)) (a1))
def O67 (a1:List UInt8):List Ob:=[Ob.cells [V.str a1]]
def A67 (a0:List V):List V:=[V.lst 91 false a0,V.clo (Fn.func 68) [] [V.ref 0 0]]
def B7 (l0:List V) (i1:Int) (i2:Int) (s3:List UInt8):St:=⟨[(V.lst 91 false l0),(V.clo (Fn.func 68) [] [(V.ref 0 0)]),V.bot,V.bot,V.bot,V.bot,V.bot,(V.int IntKind.i64 i1),(V.int IntKind.i64 i2)]++List.replicate 10 V.bot,[(Ob.cells [(V.str s3)])]⟩
theorem QS (a1:List UInt8) (l0:List V) (i1:Int) (i2:Int) (s3:List UInt8):
 RM 67 Tryz.f67 (O67 a1) call icall again (aJ Tryz.f67 0) (B7 l0 i1 i2 s3)=EH call (fun l0 i1 i2 s3=>again (aJ Tryz.f67 0) (B7 l0 i1 i2 s3)) l0 i1 i2 s3:=by kernel_rfl
theorem E67 (a0:List V) (a1:List UInt8):GO 67 Tryz.f67 (A67 a0) (O67 a1) call icall again=T67 call (fun l0 i1 i2 s3=>again (aJ Tryz.f67 0) (B7 l0 i1 i2 s3)) a0 a1:=by kernel_rfl
def L67 (call:FuncId→Fun):Nat→(List V→Int→Int→List UInt8→Option (V×List Ob))
 |0=>fun _ _ _ _=>none
 |n+1=>EH call (L67 call n)
theorem R67 (call:FuncId→Fun) (icall:aO (V×List Ob)) (a1:List UInt8):∀n,(∀(l0:List V) (i1:Int) (i2:Int) (s3:List UInt8),RN 67 Tryz.f67 (O67 a1) call icall n (aJ Tryz.f67 0) (B7 l0 i1 i2 s3)=(L67 call n) l0 i1 i2 s3)
 |0=>fun l0 i1 i2 s3=>rfl
 |n+1=>by
  have ih:=R67 call icall a1 n
  exact fun l0 i1 i2 s3=>(QS call icall (RN 67 Tryz.f67 (O67 a1) call icall n) a1 l0 i1 i2 s3).trans (by rw[show(fun l0 i1 i2 s3=>RN 67 Tryz.f67 (O67 a1) call icall n (aJ Tryz.f67 0) (B7 l0 i1 i2 s3))=(L67 call n)from(funext fun l0=>funext fun i1=>funext fun i2=>funext fun s3=>ih l0 i1 i2 s3)];rfl)
theorem C67 (k:Nat) (a0:List V) (a1:List UInt8):aA cfg (k+1) 67 (A67 a0) (O67 a1)=T67 (aA cfg k) (L67 (aA cfg k) k) a0 a1:=by
 have ih:=R67 (aA cfg k) (aE cfg (aA cfg k) 20) a1 k
 refine(show aA cfg (k+1) 67 (A67 a0) (O67 a1)=GO 67 Tryz.f67 (A67 a0) (O67 a1) (aA cfg k) (aE cfg (aA cfg k) 20) (RN 67 Tryz.f67 (O67 a1) (aA cfg k) (aE cfg (aA cfg k) 20) k)by kernel_rfl).trans ((E67 _ _ _ a0 a1).trans ?_)
 rw[show(fun l0 i1 i2 s3=>RN 67 Tryz.f67 (O67 a1) (aA cfg k) (aE cfg (aA cfg k) 20) k (aJ Tryz.f67 0) (B7 l0 i1 i2 s3))=(L67 (aA cfg k) k)from(funext fun l0=>funext fun i1=>funext fun i2=>funext fun s3=>ih l0 i1 i2 s3)]
theorem M67 (a0:List V) (a1:List UInt8) {r:V×List Ob} (h:Evt (fun k n=>T67 (aA cfg k) (L67 (aA cfg k) n) a0 a1) r):Ret 67 [V.lst 91 false a0,V.clo (Fn.func 68) [] [V.ref 0 0]] [Ob.cells [V.str a1]] r:=aK (g:=fun k n=>T67 (aA cfg k) (L67 (aA cfg k) n) a0 a1) (fun k=>C67 k a0 a1) h
theorem NC (l0:List V) (i1:Int) (i2:Int) (s3:List UInt8) {r:V×List Ob} (h:Evt (fun k n=>EH (aA cfg k) (L67 (aA cfg k) n) l0 i1 i2 s3) r):Evt (fun k n=>(L67 (aA cfg k) n) l0 i1 i2 s3) r:=aY (fun k n=>rfl) h
def T68 (call:FuncId→Fun) (a0:List UInt8) (a1:Int) (a2:Int) (a3:Int) (a4:List UInt8):Option (V×List Ob):=
 Option.bind (call 69 [(V.str a0),(V.str a4)] []) fun z0=>
 some ((V.bool (getB z0.1)),[(Ob.cells [(V.str a4)])])
def O68 (a4:List UInt8):List Ob:=[Ob.cells [V.str a4]]
def A68 (a0:List UInt8) (a1:Int) (a2:Int) (a3:Int):List V:=[V.agg [V.str a0,V.int IntKind.i64 a1,V.int IntKind.i64 a2,V.int IntKind.i64 a3],V.ref 0 0]
theorem E68 (a0:List UInt8) (a1:Int) (a2:Int) (a3:Int) (a4:List UInt8):GO 68 Tryz.f68 (A68 a0 a1 a2 a3) (O68 a4) call icall again=T68 call a0 a1 a2 a3 a4:=by kernel_rfl
theorem C68 (k:Nat) (a0:List UInt8) (a1:Int) (a2:Int) (a3:Int) (a4:List UInt8):aA cfg (k+1) 68 (A68 a0 a1 a2 a3) (O68 a4)=T68 (aA cfg k) a0 a1 a2 a3 a4:=
 (show aA cfg (k+1) 68 (A68 a0 a1 a2 a3) (O68 a4)=GO 68 Tryz.f68 (A68 a0 a1 a2 a3) (O68 a4) (aA cfg k) (aE cfg (aA cfg k) 20) (RN 68 Tryz.f68 (O68 a4) (aA cfg k) (aE cfg (aA cfg k) 20) k)by kernel_rfl).trans (E68 _ _ _ a0 a1 a2 a3 a4)
theorem M68 (a0:List UInt8) (a1:Int) (a2:Int) (a3:Int) (a4:List UInt8) {r:V×List Ob} (h:Evt (fun k n=>T68 (aA cfg k) a0 a1 a2 a3 a4) r):Ret 68 [V.agg [V.str a0,V.int IntKind.i64 a1,V.int IntKind.i64 a2,V.int IntKind.i64 a3],V.ref 0 0] [Ob.cells [V.str a4]] r:=aK (g:=fun k n=>T68 (aA cfg k) a0 a1 a2 a3 a4) (fun k=>C68 k a0 a1 a2 a3 a4) h
def T27 (call:FuncId→Fun) (a0:List V) (a1:List UInt8):Option (V×List Ob):=
 Option.bind (call 54 [(V.ref 0 0)] [(Ob.cells [(V.opt 0 0),(V.lst 5 true a0)])]) fun z0=>
 chk (nL (getL (headD (tail (Ob.getC (headD z0.2 Ob.dead))) V.bot)) a1 2) (some ((V.tup [(V.int .i64 ((length a1:Nat):Int)),(V.raw (Value.nilIface))]),[(Ob.cells [(V.opt 0 0),(V.lst 5 true ((getL (headD (tail (Ob.getC (headD z0.2 Ob.dead))) V.bot))++(ofBytes a1)))])]))
def O27 (a0:List V):List Ob:=[Ob.cells [V.opt 0 0,V.lst 5 true a0]]
def A27 (a1:List UInt8):List V:=[V.ref 0 0,V.str a1]
theorem E27 (a0:List V) (a1:List UInt8):GO 27 Tryz.f27 (A27 a1) (O27 a0) call icall again=T27 call a0 a1:=by kernel_rfl
theorem C27 (k:Nat) (a0:List V) (a1:List UInt8):aA cfg (k+1) 27 (A27 a1) (O27 a0)=T27 (aA cfg k) a0 a1:=
 (show aA cfg (k+1) 27 (A27 a1) (O27 a0)=GO 27 Tryz.f27 (A27 a1) (O27 a0) (aA cfg k) (aE cfg (aA cfg k) 20) (RN 27 Tryz.f27 (O27 a0) (aA cfg k) (aE cfg (aA cfg k) 20) k)by kernel_rfl).trans (E27 _ _ _ a0 a1)
theorem M27 (a0:List V) (a1:List UInt8) {r:V×List Ob} (h:Evt (fun k n=>T27 (aA cfg k) a0 a1) r):Ret 27 [V.ref 0 0,V.str a1] [Ob.cells [V.opt 0 0,V.lst 5 true a0]] r:=aK (g:=fun k n=>T27 (aA cfg k) a0 a1) (fun k=>C27 k a0 a1) h
def EI (call:FuncId→Fun) (ag0:List V→List V→Int→Int→List UInt8→Int→Int→Int→List V→Option (V×List Ob)) (l0:List V) (l1:List V) (i2:Int) (i3:Int) (s4:List UInt8) (i5:Int) (i6:Int) (i7:Int) (l8:List V):Option (V×List Ob):=
 if(decide (i3<i2))=true then
 chk (decide (0≤i3)) (chk (decide (i3<((length l1:Nat):Int))) (Option.bind (call 64 [(V.lst 5 false l0),(V.agg [(V.int .i64 (getI (headD (V.cells (getD l1 (Int.toNat i3) V.bot)) V.bot))),(V.int .i64 (getI (headD (tail (V.cells (getD l1 (Int.toNat i3) V.bot))) V.bot))),(V.int .i64 (getI (headD (tail (tail (V.cells (getD l1 (Int.toNat i3) V.bot)))) V.bot)))])] []) fun z0=>
 Option.bind (call 27 [(V.ref 0 0),(V.str (getS z0.1))] [(Ob.cells [(V.opt 0 0),(V.lst 5 true l8)])]) fun z1=>
 (ag0 (l0) (l1) (i2) ((IntKind.wrap .i64 (i3+(1:Int)))) (s4) (i5) (i6) (i7) ((getL (headD (tail (Ob.getC (headD z1.2 Ob.dead))) V.bot))))))
 else
 Option.bind (call 29 [(V.ref 0 0)] [(Ob.cells [(V.opt 0 0),(V.lst 5 true l8)])]) fun z0=>
 Option.bind (call 105 [(V.str (getS z0.1))] []) fun z1=>
 some ((V.str (getS z1.1)),[])
def T70 (call:FuncId→Fun) (ag0:List V→List V→Int→Int→List UInt8→Int→Int→Int→List V→Option (V×List Ob)) (a0:List V) (a1:List UInt8) (a2:Int) (a3:Int) (a4:Int):Option (V×List Ob):=
 Option.bind (call 62 [(V.lst 5 false a0),(V.agg [(V.int .i64 a3),(V.int .i64 a4)])] []) fun z0=>
 (ag0 (a0) ((getL z0.1)) (((length (getL z0.1):Nat):Int)) ((0:Int)) (a1) (a2) (a3) (a4) ([]))
def A70 (a0:List V) (a1:List UInt8) (a2:Int) (a3:Int) (a4:Int):List V:=[V.lst 5 false a0,V.agg [V.str a1,V.int IntKind.i64 a2,V.int IntKind.i64 a3,V.int IntKind.i64 a4]]
def B8 (l0:List V) (l1:List V) (i2:Int) (i3:Int) (s4:List UInt8) (i5:Int) (i6:Int) (i7:Int) (l8:List V):St:=⟨[(V.lst 5 false l0),V.bot,V.bot,V.bot,V.bot,(V.ref 1 0),V.bot,V.bot,V.bot,V.bot,V.bot,V.bot,V.bot,V.bot,(V.lst 134 false l1),(V.int IntKind.i64 i2),(V.int IntKind.i64 i3)]++List.replicate 10 V.bot,[(Ob.cells [(V.str s4),(V.int IntKind.i64 i5),(V.int IntKind.i64 i6),(V.int IntKind.i64 i7)]),(Ob.cells [(V.opt 1 0),(V.lst 5 true l8)])]⟩
theorem QT (l0:List V) (l1:List V) (i2:Int) (i3:Int) (s4:List UInt8) (i5:Int) (i6:Int) (i7:Int) (l8:List V):
 RM 70 Tryz.f70 [] call icall again (aJ Tryz.f70 0) (B8 l0 l1 i2 i3 s4 i5 i6 i7 l8)=EI call (fun l0 l1 i2 i3 s4 i5 i6 i7 l8=>again (aJ Tryz.f70 0) (B8 l0 l1 i2 i3 s4 i5 i6 i7 l8)) l0 l1 i2 i3 s4 i5 i6 i7 l8:=by kernel_rfl
theorem E70 (a0:List V) (a1:List UInt8) (a2:Int) (a3:Int) (a4:Int):GO 70 Tryz.f70 (A70 a0 a1 a2 a3 a4) [] call icall again=T70 call (fun l0 l1 i2 i3 s4 i5 i6 i7 l8=>again (aJ Tryz.f70 0) (B8 l0 l1 i2 i3 s4 i5 i6 i7 l8)) a0 a1 a2 a3 a4:=by kernel_rfl
def L70 (call:FuncId→Fun):Nat→(List V→List V→Int→Int→List UInt8→Int→Int→Int→List V→Option (V×List Ob))
 |0=>fun _ _ _ _ _ _ _ _ _=>none
 |n+1=>EI call (L70 call n)
theorem R70 (call:FuncId→Fun) (icall:aO (V×List Ob)):∀n,(∀(l0:List V) (l1:List V) (i2:Int) (i3:Int) (s4:List UInt8) (i5:Int) (i6:Int) (i7:Int) (l8:List V),RN 70 Tryz.f70 [] call icall n (aJ Tryz.f70 0) (B8 l0 l1 i2 i3 s4 i5 i6 i7 l8)=(L70 call n) l0 l1 i2 i3 s4 i5 i6 i7 l8)
 |0=>fun l0 l1 i2 i3 s4 i5 i6 i7 l8=>rfl
 |n+1=>by
  have ih:=R70 call icall n
  exact fun l0 l1 i2 i3 s4 i5 i6 i7 l8=>(QT call icall (RN 70 Tryz.f70 [] call icall n) l0 l1 i2 i3 s4 i5 i6 i7 l8).trans (by rw[show(fun l0 l1 i2 i3 s4 i5 i6 i7 l8=>RN 70 Tryz.f70 [] call icall n (aJ Tryz.f70 0) (B8 l0 l1 i2 i3 s4 i5 i6 i7 l8))=(L70 call n)from(funext fun l0=>funext fun l1=>funext fun i2=>funext fun i3=>funext fun s4=>funext fun i5=>funext fun i6=>funext fun i7=>funext fun l8=>ih l0 l1 i2 i3 s4 i5 i6 i7 l8)];rfl)
theorem C70 (k:Nat) (a0:List V) (a1:List UInt8) (a2:Int) (a3:Int) (a4:Int):aA cfg (k+1) 70 (A70 a0 a1 a2 a3 a4) []=T70 (aA cfg k) (L70 (aA cfg k) k) a0 a1 a2 a3 a4:=by
 have ih:=R70 (aA cfg k) (aE cfg (aA cfg k) 20) k
 refine(show aA cfg (k+1) 70 (A70 a0 a1 a2 a3 a4) []=GO 70 Tryz.f70 (A70 a0 a1 a2 a3 a4) [] (aA cfg k) (aE cfg (aA cfg k) 20) (RN 70 Tryz.f70 [] (aA cfg k) (aE cfg (aA cfg k) 20) k)by kernel_rfl).trans ((E70 _ _ _ a0 a1 a2 a3 a4).trans ?_)
 rw[show(fun l0 l1 i2 i3 s4 i5 i6 i7 l8=>RN 70 Tryz.f70 [] (aA cfg k) (aE cfg (aA cfg k) 20) k (aJ Tryz.f70 0) (B8 l0 l1 i2 i3 s4 i5 i6 i7 l8))=(L70 (aA cfg k) k)from(funext fun l0=>funext fun l1=>funext fun i2=>funext fun i3=>funext fun s4=>funext fun i5=>funext fun i6=>funext fun i7=>funext fun l8=>ih l0 l1 i2 i3 s4 i5 i6 i7 l8)]
theorem M70 (a0:List V) (a1:List UInt8) (a2:Int) (a3:Int) (a4:Int) {r:V×List Ob} (h:Evt (fun k n=>T70 (aA cfg k) (L70 (aA cfg k) n) a0 a1 a2 a3 a4) r):Ret 70 [V.lst 5 false a0,V.agg [V.str a1,V.int IntKind.i64 a2,V.int IntKind.i64 a3,V.int IntKind.i64 a4]] [] r:=aK (g:=fun k n=>T70 (aA cfg k) (L70 (aA cfg k) n) a0 a1 a2 a3 a4) (fun k=>C70 k a0 a1 a2 a3 a4) h
theorem ND (l0:List V) (l1:List V) (i2:Int) (i3:Int) (s4:List UInt8) (i5:Int) (i6:Int) (i7:Int) (l8:List V) {r:V×List Ob} (h:Evt (fun k n=>EI (aA cfg k) (L70 (aA cfg k) n) l0 l1 i2 i3 s4 i5 i6 i7 l8) r):Evt (fun k n=>(L70 (aA cfg k) n) l0 l1 i2 i3 s4 i5 i6 i7 l8) r:=aY (fun k n=>rfl) h
def T33 (call:FuncId→Fun) (a0:List V) (a1:List UInt8):Option (V×List Ob):=
 Option.bind (call 67 [(V.lst 91 false a0),(V.clo (Fn.func 68) [] [(V.ref 0 0)])] [(Ob.cells [(V.str a1)])]) fun z0=>
 if(decide ((getI z0.1)<(0:Int)))=true then
 some ((V.tup [(V.agg [(V.str []),(V.int .i64 0),(V.int .i64 0),(V.int .i64 0)]),(V.bool false)]),[])
 else
 chk (decide (0≤(getI z0.1))) (chk (decide ((getI z0.1)<((length a0:Nat):Int))) (some ((V.tup [(V.agg [(V.str (getS (headD (V.cells (getD a0 (Int.toNat (getI z0.1)) V.bot)) V.bot))),(V.int .i64 (getI (headD (tail (V.cells (getD a0 (Int.toNat (getI z0.1)) V.bot))) V.bot))),(V.int .i64 (getI (headD (tail (tail (V.cells (getD a0 (Int.toNat (getI z0.1)) V.bot)))) V.bot))),(V.int .i64 (getI (headD (tail (tail (tail (V.cells (getD a0 (Int.toNat (getI z0.1)) V.bot))))) V.bot)))]),(V.bool true)]),[])))
def A33 (a0:List V) (a1:List UInt8):List V:=[V.lst 91 false a0,V.str a1]
theorem E33 (a0:List V) (a1:List UInt8):GO 33 Tryz.f33 (A33 a0 a1) [] call icall again=T33 call a0 a1:=by kernel_rfl
theorem C33 (k:Nat) (a0:List V) (a1:List UInt8):aA cfg (k+1) 33 (A33 a0 a1) []=T33 (aA cfg k) a0 a1:=
 (show aA cfg (k+1) 33 (A33 a0 a1) []=GO 33 Tryz.f33 (A33 a0 a1) [] (aA cfg k) (aE cfg (aA cfg k) 20) (RN 33 Tryz.f33 [] (aA cfg k) (aE cfg (aA cfg k) 20) k)by kernel_rfl).trans (E33 _ _ _ a0 a1)
theorem M33 (a0:List V) (a1:List UInt8) {r:V×List Ob} (h:Evt (fun k n=>T33 (aA cfg k) a0 a1) r):Ret 33 [V.lst 91 false a0,V.str a1] [] r:=aK (g:=fun k n=>T33 (aA cfg k) a0 a1) (fun k=>C33 k a0 a1) h
def T34 (call:FuncId→Fun) (a0:List V) (a1:List V) (a2:List UInt8):Option (V×List Ob):=
 Option.bind (call 33 [(V.lst 91 false a1),(V.str a2)] []) fun z0=>
 if(!(getB (headD (tail (getT z0.1)) V.bot)))=true then
 some ((V.str []),[])
 else
 Option.bind (call 70 [(V.lst 5 false a0),(V.agg [(V.str (getS (headD (V.cells (headD (getT z0.1) V.bot)) V.bot))),(V.int .i64 (getI (headD (tail (V.cells (headD (getT z0.1) V.bot))) V.bot))),(V.int .i64 (getI (headD (tail (tail (V.cells (headD (getT z0.1) V.bot)))) V.bot))),(V.int .i64 (getI (headD (tail (tail (tail (V.cells (headD (getT z0.1) V.bot))))) V.bot)))])] []) fun z1=>
 some ((V.str (getS z1.1)),[])
def A34 (a0:List V) (a1:List V) (a2:List UInt8):List V:=[V.lst 5 false a0,V.lst 91 false a1,V.str a2]
theorem E34 (a0:List V) (a1:List V) (a2:List UInt8):GO 34 Tryz.f34 (A34 a0 a1 a2) [] call icall again=T34 call a0 a1 a2:=by kernel_rfl
theorem C34 (k:Nat) (a0:List V) (a1:List V) (a2:List UInt8):aA cfg (k+1) 34 (A34 a0 a1 a2) []=T34 (aA cfg k) a0 a1 a2:=
 (show aA cfg (k+1) 34 (A34 a0 a1 a2) []=GO 34 Tryz.f34 (A34 a0 a1 a2) [] (aA cfg k) (aE cfg (aA cfg k) 20) (RN 34 Tryz.f34 [] (aA cfg k) (aE cfg (aA cfg k) 20) k)by kernel_rfl).trans (E34 _ _ _ a0 a1 a2)
theorem M34 (a0:List V) (a1:List V) (a2:List UInt8) {r:V×List Ob} (h:Evt (fun k n=>T34 (aA cfg k) a0 a1 a2) r):Ret 34 [V.lst 5 false a0,V.lst 91 false a1,V.str a2] [] r:=aK (g:=fun k n=>T34 (aA cfg k) a0 a1 a2) (fun k=>C34 k a0 a1 a2) h
def EJ (call:FuncId→Fun) (ag0:List V→Int→List V→Bool→List V→Int→Int→Option (V×List Ob)) (l0:List V) (i1:Int) (o2:List V) (b3:Bool) (l4:List V) (i5:Int) (i6:Int):Option (V×List Ob):=
 if(decide (i6<i5))=true then
 chk (decide (0≤i6)) (chk (decide (i6<((length l4:Nat):Int))) (Option.bind (call 64 [(V.lst 5 false l0),(V.agg [(V.int .i64 (getI (headD (V.cells (getD l4 (Int.toNat i6) V.bot)) V.bot))),(V.int .i64 (getI (headD (tail (V.cells (getD l4 (Int.toNat i6) V.bot))) V.bot))),(V.int .i64 (getI (headD (tail (tail (V.cells (getD l4 (Int.toNat i6) V.bot)))) V.bot)))])] []) fun z0=>
 Option.bind (call 65 [(V.str (getS z0.1))] []) fun z1=>
 if(getB z1.1)=true then
 if b3=true then
 chk (decide (0≤(IntKind.wrap .i64 (((length o2:Nat):Int) - (1:Int))))) (chk (decide ((IntKind.wrap .i64 (((length o2:Nat):Int) - (1:Int)))<((length o2:Nat):Int))) ((ag0 (l0) (i1) ((List.set o2 (Int.toNat (IntKind.wrap .i64 (((length o2:Nat):Int) - (1:Int)))) (V.agg [(V.str (getS (headD (V.cells (getD o2 (Int.toNat (IntKind.wrap .i64 (((length o2:Nat):Int) - (1:Int)))) V.bot)) V.bot))),(V.int .i64 (getI (headD (tail (V.cells (getD o2 (Int.toNat (IntKind.wrap .i64 (((length o2:Nat):Int) - (1:Int)))) V.bot))) V.bot))),(V.int .i64 (getI (headD (tail (tail (V.cells (getD o2 (Int.toNat (IntKind.wrap .i64 (((length o2:Nat):Int) - (1:Int)))) V.bot)))) V.bot))),(V.int .i64 (getI (headD (tail (tail (V.cells (getD l4 (Int.toNat i6) V.bot)))) V.bot)))]))) (b3) (l4) (i5) ((IntKind.wrap .i64 (i6+(1:Int)))))))
 else
 (ag0 (l0) (i1) (o2) (b3) (l4) (i5) ((IntKind.wrap .i64 (i6+(1:Int)))))
 else
 Option.bind (call 66 [(V.str (getS z0.1))] []) fun z2=>
 if(getB (headD (tail (tail (getT z2.1))) V.bot))=true then
 chk (aW o2 [(V.agg [(V.str (getS (headD (getT z2.1) V.bot))),(V.int .i64 (getI (headD (V.cells (getD l4 (Int.toNat i6) V.bot)) V.bot))),(V.int .i64 (IntKind.wrap .i64 ((getI (headD (V.cells (getD l4 (Int.toNat i6) V.bot)) V.bot))+(getI (headD (tail (getT z2.1)) V.bot))))),(V.int .i64 (getI (headD (tail (tail (V.cells (getD l4 (Int.toNat i6) V.bot)))) V.bot)))])] 41) ((ag0 (l0) (i1) ((o2++[(V.agg [(V.str (getS (headD (getT z2.1) V.bot))),(V.int .i64 (getI (headD (V.cells (getD l4 (Int.toNat i6) V.bot)) V.bot))),(V.int .i64 (IntKind.wrap .i64 ((getI (headD (V.cells (getD l4 (Int.toNat i6) V.bot)) V.bot))+(getI (headD (tail (getT z2.1)) V.bot))))),(V.int .i64 (getI (headD (tail (tail (V.cells (getD l4 (Int.toNat i6) V.bot)))) V.bot)))])])) ((getB (headD (tail (tail (getT z2.1))) V.bot))) (l4) (i5) ((IntKind.wrap .i64 (i6+(1:Int))))))
 else
 (ag0 (l0) (i1) (o2) ((getB (headD (tail (tail (getT z2.1))) V.bot))) (l4) (i5) ((IntKind.wrap .i64 (i6+(1:Int)))))))
 else
 some ((V.tup [(V.lst 91 false o2),(V.int .i64 i1)]),[])
def T32 (call:FuncId→Fun) (ag0:List V→Int→List V→Bool→List V→Int→Int→Option (V×List Ob)) (a0:List V) (a1:Int) (a2:Int):Option (V×List Ob):=
 Option.bind (call 62 [(V.lst 5 false a0),(V.agg [(V.int .i64 a1),(V.int .i64 a2)])] []) fun z0=>
 if(((length (getL z0.1):Nat):Int)==(0:Int))=true then
 some ((V.tup [(V.lst 91 false []),(V.int .i64 a1)]),[])
 else
 chk (decide (0≤(IntKind.wrap .i64 (((length (getL z0.1):Nat):Int) - (1:Int))))) (chk (decide ((IntKind.wrap .i64 (((length (getL z0.1):Nat):Int) - (1:Int)))<((length (getL z0.1):Nat):Int))) (Option.bind (call 63 [(V.lst 134 false (getL z0.1))] []) fun z1=>
 if(decide ((getI z1.1)≥(0:Int)))=true then
 chk (decide (0≤(getI z1.1))) (chk (decide ((getI z1.1)<((length (getL z0.1):Nat):Int))) (chk (decide (0≤(getI z1.1))) (chk (decide ((getI z1.1)≤((length (getL z0.1):Nat):Int))) (chk (decide (0≤(0:Int))) (chk (decide ((0:Int)≤(getI z1.1))) ((ag0 (a0) ((getI (headD (tail (tail (V.cells (getD (getL z0.1) (Int.toNat (getI z1.1)) V.bot)))) V.bot))) ([]) (false) ((drop (Int.toNat (0:Int)) (take (Int.toNat (getI z1.1)) (getL z0.1)))) (((length (drop (Int.toNat (0:Int)) (take (Int.toNat (getI z1.1)) (getL z0.1))):Nat):Int)) ((0:Int)))))))))
 else
 (ag0 (a0) ((getI (headD (tail (tail (V.cells (getD (getL z0.1) (Int.toNat (IntKind.wrap .i64 (((length (getL z0.1):Nat):Int) - (1:Int)))) V.bot)))) V.bot))) ([]) (false) ((getL z0.1)) (((length (getL z0.1):Nat):Int)) ((0:Int)))))
def A32 (a0:List V) (a1:Int) (a2:Int):List V:=[V.lst 5 false a0,V.agg [V.int IntKind.i64 a1,V.int IntKind.i64 a2]]
def B9 (l0:List V) (i1:Int) (o2:List V) (b3:Bool) (l4:List V) (i5:Int) (i6:Int):St:=⟨[(V.lst 5 false l0),V.bot,V.bot,V.bot,V.bot,V.bot,V.bot,(V.int IntKind.i64 i1),V.bot,(V.own 91 o2),(V.bool b3),V.bot,V.bot,V.bot,V.bot,V.bot,V.bot,V.bot,V.bot,V.bot,V.bot,V.bot,V.bot,V.bot,V.bot,V.bot,V.bot,V.bot,V.bot,V.bot,V.bot,V.bot,V.bot,V.bot,V.bot,V.bot,V.bot,V.bot,V.bot,V.bot,V.bot,V.bot,V.bot,V.bot,(V.lst 134 false l4),(V.int IntKind.i64 i5),(V.int IntKind.i64 i6)]++List.replicate 41 V.bot,[]⟩
theorem QU (l0:List V) (i1:Int) (o2:List V) (b3:Bool) (l4:List V) (i5:Int) (i6:Int):
 RM 32 Tryz.f32 [] call icall again (aJ Tryz.f32 0) (B9 l0 i1 o2 b3 l4 i5 i6)=EJ call (fun l0 i1 o2 b3 l4 i5 i6=>again (aJ Tryz.f32 0) (B9 l0 i1 o2 b3 l4 i5 i6)) l0 i1 o2 b3 l4 i5 i6:=by kernel_rfl
theorem E32 (a0:List V) (a1:Int) (a2:Int):GO 32 Tryz.f32 (A32 a0 a1 a2) [] call icall again=T32 call (fun l0 i1 o2 b3 l4 i5 i6=>again (aJ Tryz.f32 0) (B9 l0 i1 o2 b3 l4 i5 i6)) a0 a1 a2:=by kernel_rfl
def L32 (call:FuncId→Fun):Nat→(List V→Int→List V→Bool→List V→Int→Int→Option (V×List Ob))
 |0=>fun _ _ _ _ _ _ _=>none
 |n+1=>EJ call (L32 call n)
theorem R32 (call:FuncId→Fun) (icall:aO (V×List Ob)):∀n,(∀(l0:List V) (i1:Int) (o2:List V) (b3:Bool) (l4:List V) (i5:Int) (i6:Int),RN 32 Tryz.f32 [] call icall n (aJ Tryz.f32 0) (B9 l0 i1 o2 b3 l4 i5 i6)=(L32 call n) l0 i1 o2 b3 l4 i5 i6)
 |0=>fun l0 i1 o2 b3 l4 i5 i6=>rfl
 |n+1=>by
  have ih:=R32 call icall n
  exact fun l0 i1 o2 b3 l4 i5 i6=>(QU call icall (RN 32 Tryz.f32 [] call icall n) l0 i1 o2 b3 l4 i5 i6).trans (by rw[show(fun l0 i1 o2 b3 l4 i5 i6=>RN 32 Tryz.f32 [] call icall n (aJ Tryz.f32 0) (B9 l0 i1 o2 b3 l4 i5 i6))=(L32 call n)from(funext fun l0=>funext fun i1=>funext fun o2=>funext fun b3=>funext fun l4=>funext fun i5=>funext fun i6=>ih l0 i1 o2 b3 l4 i5 i6)];rfl)
theorem C32 (k:Nat) (a0:List V) (a1:Int) (a2:Int):aA cfg (k+1) 32 (A32 a0 a1 a2) []=T32 (aA cfg k) (L32 (aA cfg k) k) a0 a1 a2:=by
 have ih:=R32 (aA cfg k) (aE cfg (aA cfg k) 20) k
 refine(show aA cfg (k+1) 32 (A32 a0 a1 a2) []=GO 32 Tryz.f32 (A32 a0 a1 a2) [] (aA cfg k) (aE cfg (aA cfg k) 20) (RN 32 Tryz.f32 [] (aA cfg k) (aE cfg (aA cfg k) 20) k)by kernel_rfl).trans ((E32 _ _ _ a0 a1 a2).trans ?_)
 rw[show(fun l0 i1 o2 b3 l4 i5 i6=>RN 32 Tryz.f32 [] (aA cfg k) (aE cfg (aA cfg k) 20) k (aJ Tryz.f32 0) (B9 l0 i1 o2 b3 l4 i5 i6))=(L32 (aA cfg k) k)from(funext fun l0=>funext fun i1=>funext fun o2=>funext fun b3=>funext fun l4=>funext fun i5=>funext fun i6=>ih l0 i1 o2 b3 l4 i5 i6)]
theorem M32 (a0:List V) (a1:Int) (a2:Int) {r:V×List Ob} (h:Evt (fun k n=>T32 (aA cfg k) (L32 (aA cfg k) n) a0 a1 a2) r):Ret 32 [V.lst 5 false a0,V.agg [V.int IntKind.i64 a1,V.int IntKind.i64 a2]] [] r:=aK (g:=fun k n=>T32 (aA cfg k) (L32 (aA cfg k) n) a0 a1 a2) (fun k=>C32 k a0 a1 a2) h
theorem NE (l0:List V) (i1:Int) (o2:List V) (b3:Bool) (l4:List V) (i5:Int) (i6:Int) {r:V×List Ob} (h:Evt (fun k n=>EJ (aA cfg k) (L32 (aA cfg k) n) l0 i1 o2 b3 l4 i5 i6) r):Evt (fun k n=>(L32 (aA cfg k) n) l0 i1 o2 b3 l4 i5 i6) r:=aY (fun k n=>rfl) h
def JV (call:FuncId→Fun) (a0:List UInt8) (a1:List UInt8):Option (V×List Ob):=
 Option.bind (if(decide (((length a0:Nat):Int)<(IntKind.wrap .i64 ((2:Int)+((length a1:Nat):Int)))))=false then
 chk (decide (0≤(IntKind.wrap .i64 ((2:Int)+((length a1:Nat):Int))))) (chk (decide ((IntKind.wrap .i64 ((2:Int)+((length a1:Nat):Int)))≤((length a0:Nat):Int))) (chk (decide (0≤(0:Int))) (chk (decide ((0:Int)≤(IntKind.wrap .i64 ((2:Int)+((length a1:Nat):Int))))) (chk (bO [45,45] a1) (some (!(sEq (drop (Int.toNat (0:Int)) (take (Int.toNat (IntKind.wrap .i64 ((2:Int)+((length a1:Nat):Int)))) a0)) ([45,45]++a1))))))))
 else
 some true) fun y0=>
 if y0=true then
 some ((V.tup [(V.bool false),(V.bool false)]),[])
 else
 chk (decide (0≤(IntKind.wrap .i64 ((2:Int)+((length a1:Nat):Int))))) (chk (decide ((IntKind.wrap .i64 ((2:Int)+((length a1:Nat):Int)))≤((length a0:Nat):Int))) (Option.bind (call 135 [(V.str (drop (Int.toNat (IntKind.wrap .i64 ((2:Int)+((length a1:Nat):Int)))) a0))] []) fun z1=>
 if(getB z1.1)=true then
 some ((V.tup [(V.bool true),(V.bool false)]),[])
 else
 if(decide (((length (drop (Int.toNat (IntKind.wrap .i64 ((2:Int)+((length a1:Nat):Int)))) a0):Nat):Int)≥(2:Int)))=true then
 chk (decide (0≤(2:Int))) (chk (decide ((2:Int)≤((length (drop (Int.toNat (IntKind.wrap .i64 ((2:Int)+((length a1:Nat):Int)))) a0):Nat):Int))) (chk (decide (0≤(0:Int))) (chk (decide ((0:Int)≤(2:Int))) (if(sEq (drop (Int.toNat (0:Int)) (take (Int.toNat (2:Int)) (drop (Int.toNat (IntKind.wrap .i64 ((2:Int)+((length a1:Nat):Int)))) a0))) [45,45])=true then
 chk (decide (0≤(2:Int))) (chk (decide ((2:Int)≤((length (drop (Int.toNat (IntKind.wrap .i64 ((2:Int)+((length a1:Nat):Int)))) a0):Nat):Int))) (Option.bind (call 135 [(V.str (drop (Int.toNat (2:Int)) (drop (Int.toNat (IntKind.wrap .i64 ((2:Int)+((length a1:Nat):Int)))) a0)))] []) fun z2=>
 if(getB z2.1)=true then
 some ((V.tup [(V.bool true),(V.bool true)]),[])
 else
 some ((V.tup [(V.bool false),(V.bool false)]),[])))
 else
 some ((V.tup [(V.bool false),(V.bool false)]),[])))))
 else
 some ((V.tup [(V.bool false),(V.bool false)]),[])))
def L1 (a0:List UInt8) (a1:List UInt8):List V:=[V.str a0,V.str a1]
theorem TF (a0:List UInt8) (a1:List UInt8):GO 100 Tryz.f100 (L1 a0 a1) [] call icall again=JV call a0 a1:=by kernel_rfl
theorem TG (k:Nat) (a0:List UInt8) (a1:List UInt8):aA cfg (k+1) 100 (L1 a0 a1) []=JV (aA cfg k) a0 a1:=
 (show aA cfg (k+1) 100 (L1 a0 a1) []=GO 100 Tryz.f100 (L1 a0 a1) [] (aA cfg k) (aE cfg (aA cfg k) 20) (RN 100 Tryz.f100 [] (aA cfg k) (aE cfg (aA cfg k) 20) k)by kernel_rfl).trans (TF _ _ _ a0 a1)
theorem TI (a0:List UInt8) (a1:List UInt8) {r:V×List Ob} (h:Evt (fun k n=>JV (aA cfg k) a0 a1) r):Ret 100 [V.str a0,V.str a1] [] r:=aK (g:=fun k n=>JV (aA cfg k) a0 a1) (fun k=>TG k a0 a1) h
def JW (call:FuncId→Fun) (a0:List UInt8):Option (V×List Ob):=
 Option.bind (call 105 [(V.str a0)] []) fun z0=>
 some ((V.bool (sEq (getS z0.1) [])),[])
def L2 (a0:List UInt8):List V:=[V.str a0]
theorem TJ (a0:List UInt8):GO 135 Tryz.f135 (L2 a0) [] call icall again=JW call a0:=by kernel_rfl
theorem TK (k:Nat) (a0:List UInt8):aA cfg (k+1) 135 (L2 a0) []=JW (aA cfg k) a0:=
 (show aA cfg (k+1) 135 (L2 a0) []=GO 135 Tryz.f135 (L2 a0) [] (aA cfg k) (aE cfg (aA cfg k) 20) (RN 135 Tryz.f135 [] (aA cfg k) (aE cfg (aA cfg k) 20) k)by kernel_rfl).trans (TJ _ _ _ a0)
theorem TL (a0:List UInt8) {r:V×List Ob} (h:Evt (fun k n=>JW (aA cfg k) a0) r):Ret 135 [V.str a0] [] r:=aK (g:=fun k n=>JW (aA cfg k) a0) (fun k=>TK k a0) h
end Go.Proofs.YtdoaoaicdimbeaaGreatDoor
end
section
namespace Go.Proofs.YtdoaoaicdimbeaaGreatDoor
open Go.Ev Go
abbrev Ln:=Nat×Nat×Nat
def Ib (b:Bs) (fr to:Nat):Bs:=(b.take to).drop fr
def cB (b:Bs) (l:Ln):Bs:=if l.1≤l.2.1∧l.2.1≤b.length then Ib b l.1 l.2.1 else[]
theorem jM (b:Bs):(ofBytes b).all sB=true:=by
 simp only[List.all_eq_true,ofBytes,List.mem_map]
 rintro v ⟨c,_,rfl⟩
 have:=c.toNat_lt
 simp[sB];omega
theorem JX (b:Bs) (hb:b.length≤1000000) (fr to:Int):
  Ret 62 [.lst 5 false (ofBytes b), .agg [.int .i64 fr, .int .i64 to]] [] (.lst 134 false ((aV fr to b).map lnV),[]):=by
 refine eD (h:=ofF) (by kernel_rfl) ?_
 have h1:=jM b
 have h2:(ofBytes b).length<1099511627776:=by rw[bB];omega
 simp only[ofF,h1,h2,decide_true,Bool.and_self,if_true,bT]
theorem QV (a b n:Int):Ret 74 [.agg [.int .i64 a, .int .i64 b], .int .i64 n] [] (.bool (decide (0≤a∧a≤b∧b≤n)),[]):=by
 refine M74 a b n ?_
 simp only[T74]
 by_cases h1:a≥0
 ·by_cases h2:a≤b
  ·have e:decide (0≤a∧a≤b∧b≤n)=decide (b≤n):=by simp[h1,h2]
   rw[e]
   simp only[h1,h2,decide_true,if_true,cV]
   exact aD _
  ·have e:decide (0≤a∧a≤b∧b≤n)=false:=by simp[h2]
   rw[e]
   simp only[h1,h2,decide_true,decide_false,if_true,Bool.false_eq_true,if_false,cV]
   exact aD _
 ·have e:decide (0≤a∧a≤b∧b≤n)=false:=by simp;omega
  rw[e]
  simp only[h1,decide_false,Bool.false_eq_true,if_false,cV]
  exact aD _
theorem TM (b:Bs) (fr to:Nat):bytesOf (List.drop fr (List.take to (ofBytes b)))=Ib b fr to:=by
 unfold ofBytes Ib
 rw[←List.map_take,←List.map_drop]
 exact bT _
theorem JY (b:Bs) (l:Ln):Ret 64 [.lst 5 false (ofBytes b),lnV l] [] (.str (cB b l),[]):=by
 obtain⟨p,q,r⟩:=l
 refine M64 (ofBytes b) p q r ?_
 simp only[T64,bB]
 refine aB (QV p q (b.length:Nat)) ?_
 simp only[V.getB]
 by_cases h:p≤q∧q≤b.length
 ·have h1:(0:Int)≤(p:Int)∧(p:Int)≤(q:Int)∧(q:Int)≤(b.length:Int):=by omega
  have e:cB b (p,q,r)=Ib b p q:=if_pos h
  simp only[h1,and_self,decide_true,Bool.not_true,Bool.false_eq_true,if_false,cA,Int.toNat_natCast,TM,e,aH (show(0:Int)≤(q:Int)by omega)]
  exact aD _
 ·have h1:¬((0:Int)≤(p:Int)∧(p:Int)≤(q:Int)∧(q:Int)≤(b.length:Int)):=by omega
  have e:cB b (p,q,r)=[]:=if_neg h
  simp only[h1,decide_false,Bool.not_false,if_true,e]
  exact aD _
def Ca:Bs→Bool
 |[]=>false
 |c::_=>jF c
theorem QW (s:Bs):Ret 65 [.str s] [] (.bool (Ca s),[]):=by
 refine M65 s ?_
 simp only[T65]
 cases s with
 |nil=>simp only[sEq,beq_self_eq_true,Bool.not_true,Bool.false_eq_true,if_false,Ca];exact aD _
 |cons c r=>
  have e:sEq (c::r) []=false:=rfl
  have h1:(0:Int)<(((c::r).length:Nat):Int):=by simp
  simp only[e,Bool.not_false,if_true,aH h1,aH (show(0:Int)≤0 by omega),Int.toNat_zero,List.getD_cons_zero,Ca]
  refine aB (sX c) ?_
  exact aD _
def iQ:List Ln→Option Nat
 |[]=>none
 |l::r=>if l.1=l.2.1 then some 0 else(iQ r).map (· +1)
theorem rG {l:List Ln} {i:Nat} (h:i<l.length):(l.map lnV).getD i .bot=lnV l[i]:=by simp[List.getD,h]
theorem OZ (l:Ln):Ret 103 [lnV l] [] (.bool (decide (l.1=l.2.1)),[]):=by
 obtain⟨p,q,r⟩:=l
 refine TE p q r ?_
 simp only[JU]
 have e:(((p:Nat):Int)==((q:Nat):Int))=decide (p=q):=by
  by_cases h:p=q
  ·subst h;simp
  ·have:¬((p:Int)=(q:Int)):=by omega
   simp[h,this]
 rw[e]
 exact aD _
def sY:Option Nat→Int
 |none=> -1
 |some k=>k
theorem L6 (l:List Ln) (hl:l.length≤1000000):∀(n i:Nat),l.length - i≤n→i≤l.length→
  Evt (fun k n=>Ar (aA cfg k) n (l.map lnV) (l.length:Nat) (i:Nat)) (.int .i64 (sY ((iQ (l.drop i)).map (· +i))),[]):=by
 have fin:∀i:Nat,i=l.length→Evt (fun k n=>Ar (aA cfg k) n (l.map lnV) (l.length:Nat) (i:Nat)) (.int .i64 (sY ((iQ (l.drop i)).map (· +i))),[]):=by
  intro i h
  refine JS (l.map lnV) (l.length:Nat) (i:Nat) ?_
  have h1:¬((i:Int)<(l.length:Int)):=by omega
  rw[List.drop_eq_nil_of_le (by omega)]
  simp only[Aq,h1,decide_false,Bool.false_eq_true,if_false,iQ,Option.map_none,sY]
  exact aD _
 intro n
 induction n with
 |zero=>intro i h hi;exact fin i (by omega)
 |succ n ih=>
  intro i h hi
  by_cases hlt:i<l.length
  ·refine JS (l.map lnV) (l.length:Nat) (i:Nat) ?_
   have h1:((i:Int)<(l.length:Int)):=by omega
   have h2:(0:Int)≤(i:Int):=by omega
   have hw:IntKind.wrap .i64 ((i:Int)+1)=((i+1:Nat):Int):=by rw[wrap64 (by omega) (by omega)];omega
   have hd:l.drop i=l[i]::l.drop (i+1):=List.drop_eq_getElem_cons hlt
   simp only[Aq,h1,decide_true,if_true,aH h2,List.length_map,cA,Int.toNat_natCast,rG hlt,lnV,V.cells,List.headD_cons,List.tail_cons,V.getI,hw]
   refine aB (OZ l[i]) ?_
   simp only[V.getB,decide_eq_true_eq]
   rw[hd,iQ]
   by_cases hn:l[i].1=l[i].2.1
   ·simp only[hn,if_true,Option.map_some,Nat.zero_add,sY]
    exact aD _
   ·simp only[hn,if_false]
    have:=ih (i+1) (by omega) (by omega)
    have e:((iQ (l.drop (i+1))).map (· +1)).map (· +i)=(iQ (l.drop (i+1))).map (· +(i+1)):=by
     rw[Option.map_map];congr 1;funext x;simp only[Function.comp];omega
    rw[e]
    exact this
  ·exact fin i (by omega)
theorem QX (l:List Ln) (hl:l.length≤1000000):Ret 63 [.lst 134 false (l.map lnV)] [] (.int .i64 (sY (iQ l)),[]):=by
 refine M63 (l.map lnV) ?_
 simp only[T63]
 have h76:Ret 102 [.lst 134 false (l.map lnV), .clo (Fn.func 103) [] []] [] (.int .i64 (sY (iQ l)),[]):=by
  refine TA (l.map lnV) ?_
  simp only[JR,List.length_map]
  have:=L6 l hl l.length 0 (by omega) (by omega)
  simpa using this
 refine aB h76 ?_
 exact aD _
end Go.Proofs.YtdoaoaicdimbeaaGreatDoor
end
section
namespace Go.Proofs.YtdoaoaicdimbeaaGreatDoor
open Go.Ev Go
def As (c:UInt8):Bool:=33≤c&&c≤126
def lX (s:Bs):Nat→Nat
 |0=>0
 |n+1=>if jF (s.getD n 0)then lX s n else n+1
theorem Au (s:Bs):∀n,lX s n≤n
 |0=>Nat.le_refl _
 |n+1=>by
  unfold lX
  split
  ·have:=Au s n;omega
  ·exact Nat.le_refl _
def fS (s:Bs):Option (Bs×Nat):=
 if Lib.indexByte s 58<0 then none else
 if(s.take (lX s (Lib.indexByte s 58).toNat)).all As&&decide (0<lX s (Lib.indexByte s 58).toNat)then some (s.take (lX s (Lib.indexByte s 58).toNat),(Lib.indexByte s 58).toNat+1)else none
def Gd (s:Bs) (r:V×List Ob):Prop:=∃u m,r=(.tup [.str u, .int .i64 m, .bool (fS s).isSome],[])∧∀p,fS s=some p→u=p.1∧m=p.2
theorem L8 (c:UInt8):(((c.toNat:Nat):Int)<33∨((c.toNat:Nat):Int)>126)↔As c=false:=by
 have h1:=rD 33 c
 have h2:=rD c 126
 have e33:((UInt8.toNat 33:Nat):Int)=33:=rfl
 have e126:((UInt8.toNat 126:Nat):Int)=126:=rfl
 rw[e33]at h1
 rw[e126]at h2
 simp only[As,Bool.and_eq_false_iff,decide_eq_false_iff_not]
 rw[←h1,←h2]
 omega
theorem Av (s:Bs) (hs:s.length≤1000000) (k n:Nat) (hk:Lib.indexByte s 58=k) (hks:k<s.length) (hn:n=lX s k):∀(m i:Nat),n - i=m→i≤n→(s.take i).all As=true→
  ∃r,Gd s r∧Evt (fun q j=>(L66 (aA cfg q) j).2 s (k:Nat) (n:Nat) (n:Nat) (i:Nat)) r
 |0,i,h,hi,ha=>by
  have hin:i=n:=by omega
  subst hin
  have hnk:=Au s k
  refine⟨_,⟨s.take i,(k:Int)+1,rfl,fun p hp=>?_⟩,JQ s (k:Nat) (i:Nat) (i:Nat) (i:Nat) ?_⟩
  ·have h0:¬((k:Int)<0):=by omega
   unfold fS at hp
   rw[hk,if_neg h0,Int.toNat_natCast,←hn,ha]at hp
   split at hp
   ·cases hp;exact⟨rfl,by omega⟩
   ·cases hp
  ·have h1:¬((i:Int)<(i:Int)):=by omega
   have h2:(0:Int)≤(i:Int):=by omega
   have h3:(i:Int)≤(s.length:Int):=by omega
   have hw:IntKind.wrap .i64 ((k:Int)+1)=(k:Int)+1:=wrap64 (by omega) (by omega)
   have he:(fS s).isSome=decide ((i:Int)>0):=by
    have h0:¬((k:Int)<0):=by omega
    unfold fS
    rw[hk,if_neg h0,Int.toNat_natCast,←hn,ha]
    by_cases hi0:0<i
    ·have:(i:Int)>0:=by omega
     simp[hi0,this]
    ·have:¬((i:Int)>0):=by omega
     simp[hi0,this]
   rw[he]
   simp only[B6,h1,decide_false,Bool.false_eq_true,if_false,aH h2,aH h3,aH (show(0:Int)≤0 by omega),Int.toNat_zero,List.drop_zero,Int.toNat_natCast,hw]
   exact aD _
 |m+1,i,h,hi,ha=>by
  have hnk:=Au s k
  have his:i<s.length:=by omega
  have h1:((i:Int)<(n:Int)):=by omega
  have h2:(0:Int)≤(i:Int):=by omega
  have h3:(i:Int)<(s.length:Int):=by omega
  have hw:IntKind.wrap .i64 ((i:Int)+1)=((i+1:Nat):Int):=by rw[wrap64 (by omega) (by omega)];omega
  have hy:(chk (decide ((0:Int)≤(i:Int))) (chk (decide ((i:Int)<(s.length:Int))) (if(decide (((s[i].toNat:Nat):Int)<(33:Int)))=false then
    chk (decide ((0:Int)≤(i:Int))) (chk (decide ((i:Int)<(s.length:Int))) (some (decide (((s[i].toNat:Nat):Int)>(126:Int)))))
   else some true)))=some (!As s[i]):=by
   rw[aH h2,aH h3]
   have hv:=L8 s[i]
   by_cases c1:((s[i].toNat:Nat):Int)<33
   ·simp[c1,hv.1 (.inl c1)]
   ·by_cases c2:((s[i].toNat:Nat):Int)>126
    ·simp only[c1,c2,decide_false,decide_true,if_true,aH h2,aH h3,hv.1 (.inr c2),Bool.not_false]
    ·have:As s[i]=true:=by
      cases hvv:As s[i]with
      |true=>rfl
      |false=>rcases hv.2 hvv with h|h;exact absurd h c1;exact absurd h c2
     simp only[c1,c2,decide_false,if_true,aH h2,aH h3,this,Bool.not_true]
  by_cases hv:As s[i]=true
  ·obtain⟨r,hr1,hr2⟩:=Av s hs k n hk hks hn m (i+1) (by omega) (by omega) (by
    rw[List.take_add_one,List.all_append,ha,List.getElem?_eq_getElem his];simp[hv])
   refine⟨r,hr1,JQ s (k:Nat) (n:Nat) (n:Nat) (i:Nat) ?_⟩
   simp only[B6,h1,decide_true,if_true,Int.toNat_natCast,getD_at his,hw]
   simp only[hy,cV,hv,Bool.not_true,Bool.false_eq_true,if_false]
   exact hr2
  ·have hv' :As s[i]=false:=by simpa using hv
   refine⟨_,⟨[],0,rfl,fun p hp=>?_⟩,JQ s (k:Nat) (n:Nat) (n:Nat) (i:Nat) ?_⟩
   ·exfalso
    have h0:¬((k:Int)<0):=by omega
    unfold fS at hp
    rw[hk,if_neg h0,Int.toNat_natCast,←hn]at hp
    have:(s.take n).all As=false:=by
     rw[List.all_eq_false]
     exact⟨s[i],List.mem_take_iff_getElem.2 ⟨i,by omega,rfl⟩,by simp[hv']⟩
    rw[this]at hp
    simp at hp
   ·have he:(fS s).isSome=false:=by
     have h0:¬((k:Int)<0):=by omega
     have:(s.take n).all As=false:=by
      rw[List.all_eq_false]
      exact⟨s[i],List.mem_take_iff_getElem.2 ⟨i,by omega,rfl⟩,by simp[hv']⟩
     unfold fS
     rw[hk,if_neg h0,Int.toNat_natCast,←hn,this]
     simp
    rw[he]
    simp only[B6,h1,decide_true,if_true,Int.toNat_natCast,getD_at his]
    simp only[hy,cV,hv',Bool.not_false,if_true]
    exact aD _
theorem EK (s:Bs) (hs:s.length≤1000000) (k:Nat) (hk:Lib.indexByte s 58=k) (hks:k<s.length):∀n:Nat,n≤k→lX s n=lX s k→
  ∃r,Gd s r∧Evt (fun q j=>(L66 (aA cfg q) j).1 s (k:Nat) (n:Nat)) r
 |0,hn,hb=>by
  obtain⟨r,hr1,hr2⟩:=Av s hs k 0 hk hks hb 0 0 rfl (Nat.le_refl _) rfl
  refine⟨r,hr1,JP s (k:Nat) (0:Nat) ?_⟩
  have h1:¬(((0:Nat):Int)>0):=by omega
  simp only[B5,h1,decide_false,Bool.false_eq_true,if_false]
  exact hr2
 |n+1,hn,hb=>by
  have hlt:n<s.length:=by omega
  have h1:(((n+1:Nat):Int)>0):=by omega
  have hw:IntKind.wrap .i64 (((n+1:Nat):Int) - 1)=(n:Int):=by rw[wrap64 (by omega) (by omega)];omega
  have h2:(0:Int)≤(n:Int):=by omega
  have h3:(n:Int)<(s.length:Int):=by omega
  by_cases hbl:jF s[n]=true
  ·have hb' :lX s n=lX s k:=by
    rw[←hb];conv=>rhs;unfold lX
    rw[getD_at hlt,hbl];rfl
   obtain⟨r,hr1,hr2⟩:=EK s hs k hk hks n (by omega) hb'
   refine⟨r,hr1,JP s (k:Nat) ((n+1:Nat):Int) ?_⟩
   simp only[B5,h1,decide_true,if_true,hw,aH h2,aH h3,Int.toNat_natCast,getD_at hlt]
   refine aB (sX s[n]) ?_
   simp only[V.getB,hbl,if_true]
   exact hr2
  ·have hbl' :jF s[n]=false:=by simpa using hbl
   have hb' :n+1=lX s k:=by
    rw[←hb];unfold lX
    rw[getD_at hlt,hbl'];rfl
   obtain⟨r,hr1,hr2⟩:=Av s hs k (n+1) hk hks hb' (n+1) 0 (by omega) (by omega) rfl
   refine⟨r,hr1,JP s (k:Nat) ((n+1:Nat):Int) ?_⟩
   simp only[B5,h1,decide_true,if_true,hw,aH h2,aH h3,Int.toNat_natCast,getD_at hlt]
   refine aB (sX s[n]) ?_
   simp only[V.getB,hbl',Bool.false_eq_true,if_false]
   exact hr2
theorem QY (s:Bs) (hs:s.length≤1000000):∃r,Gd s r∧Ret 66 [.str s] [] r:=by
 have h79:Ret 89 [.str s, .int .u8 58] [] (.int .i64 (Lib.indexByte s 58),[]):=eD (h:=Ey) (by kernel_rfl) rfl
 by_cases h:Lib.indexByte s 58<0
 ·refine⟨_,⟨[],0,rfl,fun p hp=>?_⟩,M66 s ?_⟩
  ·unfold fS at hp
   rw[if_pos h]at hp;cases hp
  ·have he:(fS s).isSome=false:=by unfold fS;rw[if_pos h];rfl
   rw[he]
   simp only[T66]
   refine aB h79 ?_
   simp only[V.getI,h,decide_true,if_true]
   exact aD _
 ·obtain⟨k,hk⟩:∃k:Nat,Lib.indexByte s 58=k:=⟨(Lib.indexByte s 58).toNat,by omega⟩
  have hks:k<s.length:=(List.getElem?_eq_some_iff.1 (Lib.indexByte_some hk).1).1
  obtain⟨r,hr1,hr2⟩:=EK s hs k hk hks k (Nat.le_refl _) rfl
  refine⟨r,hr1,M66 s ?_⟩
  simp only[T66]
  refine aB h79 ?_
  simp only[V.getI,h,decide_false,Bool.false_eq_true,if_false]
  rw[hk]
  exact hr2
end Go.Proofs.YtdoaoaicdimbeaaGreatDoor
end
section
namespace Go.Proofs.YtdoaoaicdimbeaaGreatDoor
open Go.Ev Go
abbrev Fd:=Bs×Nat×Nat×Nat
def fdV (f:Fd):V:= .agg [.str f.1, .int .i64 f.2.1, .int .i64 f.2.2.1, .int .i64 f.2.2.2]
def xO (l:List Fd) (to:Nat):List Fd:=match l[l.length - 1]? with|some f=>l.set (l.length - 1) (f.1,f.2.1,f.2.2.1,to)|none=>l
def jX (b:Bs) (st:List Fd×Bool) (x:Ln):List Fd×Bool:=
 if Ca (cB b x)then(if st.2 then(xO st.1 x.2.2,true)else st)
 else match fS (cB b x)with
  |none=>(st.1,false)
  |some p=>(st.1++[(p.1,x.1,x.1+p.2,x.2.2)],true)
def eE (b:Bs) (fr to:Int):List Fd×Int:=
 if aV fr to b=[]then([],fr)else
 match iQ (aV fr to b)with
  |some k=>((((aV fr to b).take k).foldl (jX b) ([],false)).1,((aV fr to b).getD k (0,0,0)).2.2)
  |none=>(((aV fr to b).foldl (jX b) ([],false)).1,((aV fr to b).getD ((aV fr to b).length - 1) (0,0,0)).2.2)
theorem mL:∀(n a:Nat) (s:Bs),∀x∈eW n a s,a≤x.1∧x.1≤x.2.1∧x.2.1≤x.2.2∧x.2.2≤a+s.length
 |0,a,s,x,hx=>by cases hx
 |n+1,a,s,x,hx=>by
  unfold eW at hx
  split at hx
  ·cases hx
  ·rename_i hs
   split at hx
   ·simp at hx;subst hx;simp
   ·rename_i hk
    obtain⟨k,hk'⟩:∃k:Nat,Lib.indexByte s 10=k:=⟨(Lib.indexByte s 10).toNat,by omega⟩
    have hks:k<s.length:=(List.getElem?_eq_some_iff.1 (Lib.indexByte_some hk').1).1
    rw[hk']at hx
    simp only[Int.toNat_natCast]at hx
    rcases List.mem_cons.1 hx with rfl|hx
    ·simp only
     split<;>omega
    ·have:=mL n _ _ x hx
     rw[List.length_drop]at this
     omega
theorem Aw {fr to:Int} {b:Bs}:∀x∈aV fr to b,x.1≤x.2.1∧x.2.1≤x.2.2∧x.2.2≤b.length:=by
 intro x hx
 unfold aV at hx
 split at hx
 ·rename_i h
  have:=mL _ _ _ x hx
  simp at this
  omega
 ·cases hx
theorem wG:∀{l:List Ln} {k:Nat},iQ l=some k→k<l.length
 |[],k,h=>by cases h
 |x::r,k,h=>by
  unfold iQ at h
  split at h
  ·cases h;simp
  ·obtain⟨j,h1,rfl⟩:=Option.map_eq_some_iff.1 h
   have:=wG h1
   simp;omega
theorem Ic {s:Bs} {p:Bs×Nat} (h:fS s=some p):p.2≤s.length:=by
 unfold fS at h
 split at h
 ·cases h
 ·rename_i hk
  obtain⟨k,hk'⟩:∃k:Nat,Lib.indexByte s 58=k:=⟨(Lib.indexByte s 58).toNat,by omega⟩
  have hks:k<s.length:=(List.getElem?_eq_some_iff.1 (Lib.indexByte_some hk').1).1
  rw[hk']at h
  simp only[Int.toNat_natCast]at h
  split at h
  ·cases h;simp only;omega
  ·cases h
theorem Ax (b:Bs) (l:Ln):(cB b l).length≤b.length:=by
 unfold cB Ib
 split
 ·simp;omega
 ·simp
theorem oL (l:List Fd) (to:Nat):(xO l to).length=l.length:=by
 unfold xO;split<;>simp
theorem Dk {l:List Fd} {i:Nat} (h:i<l.length):(l.map fdV).getD i .bot=fdV l[i]:=by simp[List.getD,h]
theorem wH (b:Bs) (hb:b.length≤1000000) (at_:Int) (l:List Ln) (hl:l.length≤1000000) (hx:∀x∈l,x.1≤1000000):∀(n i:Nat) (out:List Fd) (on:Bool),l.length - i=n→i≤l.length→out.length≤i→(on=true→out≠[])→
  Evt (fun k n=>L32 (aA cfg k) n (ofBytes b) at_ (out.map fdV) on (l.map lnV) (l.length:Nat) (i:Nat)) (.tup [.lst 91 false (((l.drop i).foldl (jX b) (out,on)).1.map fdV), .int .i64 at_],[])
 |0,i,out,on,h,hi,ho,hon=>by
  refine NE (ofBytes b) at_ (out.map fdV) on (l.map lnV) (l.length:Nat) (i:Nat) ?_
  have h1:¬((i:Int)<(l.length:Int)):=by omega
  rw[List.drop_eq_nil_of_le (by omega)]
  simp only[EJ,h1,decide_false,Bool.false_eq_true,if_false,List.foldl_nil]
  exact aD _
 |n+1,i,out,on,h,hi,ho,hon=>by
  have hlt:i<l.length:=by omega
  refine NE (ofBytes b) at_ (out.map fdV) on (l.map lnV) (l.length:Nat) (i:Nat) ?_
  have h1:((i:Int)<(l.length:Int)):=by omega
  have h2:(0:Int)≤(i:Int):=by omega
  have hw:IntKind.wrap .i64 ((i:Int)+1)=((i+1:Nat):Int):=by rw[wrap64 (by omega) (by omega)];omega
  have hd:l.drop i=l[i]::l.drop (i+1):=List.drop_eq_getElem_cons hlt
  have hxi:=hx l[i] (List.getElem_mem hlt)
  have htl:=Ax b l[i]
  have h57:Ret 64 [.lst 5 false (ofBytes b), .agg [.int .i64 (l[i].1:Nat), .int .i64 (l[i].2.1:Nat), .int .i64 (l[i].2.2:Nat)]] [] (.str (cB b l[i]),[]):=JY b l[i]
  rw[hd,List.foldl_cons]
  simp only[EJ,h1,decide_true,if_true,aH h2,List.length_map,Int.toNat_natCast,rG hlt,lnV,V.cells,List.headD_cons,List.tail_cons,V.getI,hw]
  refine aB h57 ?_
  simp only[V.getS]
  refine aB (QW (cB b l[i])) ?_
  simp only[V.getB]
  by_cases hg:Ca (cB b l[i])=true
  ·simp only[hg,if_true]
   cases on with
   |true=>
    have hne:=hon rfl
    have hpos:0<out.length:=List.length_pos_iff.2 hne
    have hw2:IntKind.wrap .i64 ((out.length:Int) - 1)=((out.length - 1:Nat):Int):=by rw[wrap64 (by omega) (by omega)];omega
    have h3:(0:Int)≤((out.length - 1:Nat):Int):=by omega
    have h4:((out.length - 1:Nat):Int)<(out.length:Int):=by omega
    have hol:out.length - 1<out.length:=by omega
    have hst:jX b (out,true) l[i]=(xO out l[i].2.2,true):=by unfold jX;rw[hg];rfl
    have hset:(out.map fdV).set (out.length - 1) (.agg [.str out[out.length - 1].1, .int .i64 (out[out.length - 1].2.1:Nat), .int .i64 (out[out.length - 1].2.2.1:Nat), .int .i64 (l[i].2.2:Nat)])=(xO out l[i].2.2).map fdV:=by
     unfold xO
     rw[List.getElem?_eq_getElem hol]
     simp only[List.map_set]
     rfl
    rw[hst]
    simp only[if_true,hw2,aH h3,aH h4,Int.toNat_natCast,Dk hol,fdV,V.cells,List.headD_cons,List.tail_cons,V.getS,V.getI]
    rw[hset]
    exact wH b hb at_ l hl hx n (i+1) (xO out l[i].2.2) true (by omega) (by omega) (by rw[oL];omega) (fun _=>by
     rw[←List.length_pos_iff,oL];exact hpos)
   |false=>
    have hst:jX b (out,false) l[i]=(out,false):=by unfold jX;rw[hg];rfl
    rw[hst]
    simp only[Bool.false_eq_true,if_false]
    exact wH b hb at_ l hl hx n (i+1) out false (by omega) (by omega) (by omega) (fun h=>by cases h)
  ·have hg' :Ca (cB b l[i])=false:=by simpa using hg
   simp only[hg',Bool.false_eq_true,if_false]
   obtain⟨r,⟨u,m,rfl,hum⟩,hr⟩:=QY (cB b l[i]) (by omega)
   refine aB hr ?_
   simp only[V.getT,List.headD_cons,List.tail_cons,V.getB,V.getS,V.getI]
   cases hn:fS (cB b l[i])with
   |none=>
    have hst:jX b (out,on) l[i]=(out,false):=by unfold jX;rw[hg',hn];rfl
    rw[hst]
    simp only[Option.isSome_none,Bool.false_eq_true,if_false]
    exact wH b hb at_ l hl hx n (i+1) out false (by omega) (by omega) (by omega) (fun h=>by cases h)
   |some p=>
    obtain⟨rfl,rfl⟩:=hum p hn
    have hpl:=Ic hn
    have hst:jX b (out,on) l[i]=(out++[(p.1,l[i].1,l[i].1+p.2,l[i].2.2)],true):=by unfold jX;rw[hg',hn];rfl
    have hw3:IntKind.wrap .i64 ((l[i].1:Int)+(p.2:Int))=((l[i].1+p.2:Nat):Int):=by rw[wrap64 (by omega) (by omega)];omega
    have hap:aW (out.map fdV) [V.agg [.str p.1, .int .i64 (l[i].1:Nat), .int .i64 ((l[i].1+p.2:Nat):Int), .int .i64 (l[i].2.2:Nat)]] 41=true:=dM (by simp;omega)
    rw[hst]
    simp only[Option.isSome_some,if_true,hw3,bL hap]
    have:=wH b hb at_ l hl hx n (i+1) (out++[(p.1,l[i].1,l[i].1+p.2,l[i].2.2)]) true (by omega) (by omega) (by simp;omega) (fun _=>by simp)
    simp only[List.map_append,List.map_cons,List.map_nil,fdV]at this
    exact this
theorem Cb (b:Bs) (hb:b.length≤1000000) (fr to:Int):
  Ret 32 [.lst 5 false (ofBytes b), .agg [.int .i64 fr, .int .i64 to]] [] (.tup [.lst 91 false ((eE b fr to).1.map fdV), .int .i64 (eE b fr to).2],[]):=by
 refine M32 (ofBytes b) fr to ?_
 simp only[T32]
 refine aB (JX b hb fr to) ?_
 have hll:=cZ fr to b
 have hbd:=Aw (fr:=fr) (to:=to) (b:=b)
 simp only[V.getL,List.length_map]
 unfold eE
 generalize aV fr to b=l at hll hbd
 by_cases hl0:l=[]
 ·subst hl0;exact aD _
 ·have hpos:0<l.length:=List.length_pos_iff.2 hl0
  have h0:((((l.length:Nat):Int))==(0:Int))=false:=beq_eq_false_iff_ne.2 (by omega)
  have hw:IntKind.wrap .i64 ((l.length:Int) - 1)=((l.length - 1:Nat):Int):=by rw[wrap64 (by omega) (by omega)];omega
  have h1:(0:Int)≤((l.length - 1:Nat):Int):=by omega
  have h2:((l.length - 1:Nat):Int)<(l.length:Int):=by omega
  rw[if_neg hl0]
  simp only[h0,Bool.false_eq_true,if_false,hw,aH h1,aH h2]
  refine aB (QX l (by omega)) ?_
  have hxs:∀y∈l,y.1≤1000000:=fun y hy=>by have:=hbd y hy;omega
  have hgi:∀z:Int,(V.int .i64 z).getI=z:=fun _=>rfl
  simp only[hgi]
  cases he:iQ l with
  |none=>
   have hoi:sY none= -1:=rfl
   have h3:¬((-1:Int)≥(0:Int)):=by omega
   have hlt:l.length - 1<l.length:=by omega
   simp only[hoi,h3,decide_false,Bool.false_eq_true,if_false,Int.toNat_natCast,rG hlt,lnV,V.cells,List.headD_cons,List.tail_cons,hgi]
   have:=wH b hb (l[l.length - 1].2.2:Nat) l (by omega) hxs l.length 0 [] false (by omega) (by omega) (by simp) (fun h=>by cases h)
   have e:l.getD (l.length - 1) (0,0,0)=l[l.length - 1]:=by simp[List.getD,hlt]
   rw[e]
   simpa using this
  |some k=>
   have hk:=wG he
   have hoi:sY (some k)=(k:Int):=rfl
   have h3:((k:Int)≥(0:Int)):=by omega
   have h5:(k:Int)<(l.length:Int):=by omega
   have h6:(k:Int)≤(l.length:Int):=by omega
   simp only[hoi]
   simp only[h3,decide_true,if_true,cA,aH h5,aH h6,aH (show(0:Int)≤0 by omega),Int.toNat_natCast,rG hk,lnV,V.cells,List.headD_cons,List.tail_cons,hgi,Int.toNat_zero,List.drop_zero]
   have e:l.getD k (0,0,0)=l[k]:=by simp[List.getD,hk]
   have htl:(l.take k).length=k:=by simp;omega
   have:=wH b hb (l[k].2.2:Nat) (l.take k) (by omega) (fun y hy=>hxs y (List.mem_of_mem_take hy)) k 0 [] false (by omega) (by omega) (by simp) (fun h=>by cases h)
   rw[e]
   rw[List.map_take]at this
   have hmin:min k l.length=k:=by omega
   simpa[htl,hmin]using this
end Go.Proofs.YtdoaoaicdimbeaaGreatDoor
end
section
namespace Go.Proofs.YtdoaoaicdimbeaaGreatDoor
open Go.Ev Go
def low (s:Bs):Bs:=s.map dR
def nG:List Fd→Bs→Option Nat
 |[],_=>none
 |f::r,name=>if low f.1=low name then some 0 else(nG r name).map (· +1)
def eX:List Fd→Bs→Option Fd
 |[],_=>none
 |f::r,name=>if low f.1=low name then some f else eX r name
theorem Ay:∀{l:List Fd} {name:Bs} {k:Nat},nG l name=some k→∃h:k<l.length,eX l name=some l[k]
 |[],_,k,h=>by cases h
 |f::r,name,k,h=>by
  unfold nG at h
  unfold eX
  split at h
  ·rename_i hc
   cases h
   exact⟨by simp,by rw[if_pos hc];rfl⟩
  ·rename_i hc
   obtain⟨j,h1,rfl⟩:=Option.map_eq_some_iff.1 h
   obtain⟨h2,h3⟩:=Ay h1
   exact⟨by simp;omega,by rw[if_neg hc,h3];rfl⟩
theorem Az:∀{l:List Fd} {name:Bs},nG l name=none→eX l name=none
 |[],_,_=>rfl
 |f::r,name,h=>by
  unfold nG at h
  unfold eX
  split at h
  ·cases h
  ·rename_i hc
   rw[if_neg hc]
   exact Az (by simpa using h)
theorem QZ (f:Fd) (name:Bs) (hf:f.1.length≤1000000) (hn:name.length≤1000000):
  Ret 68 [fdV f, .ref 0 0] [.cells [.str name]] (.bool (low f.1==low name),[.cells [.str name]]):=by
 obtain⟨a,p,q,r⟩:=f
 refine M68 a p q r name ?_
 simp only[T68]
 refine aB (NA a name (by simp only at hf;omega) (by omega)) ?_
 exact aD _
theorem O0 (name:Bs) (hn:name.length≤1000000) (l:List Fd) (hl:l.length≤1000000) (hv:∀f∈l,f.1.length≤1000000):∀(n i:Nat),l.length - i≤n→i≤l.length→
  Evt (fun k n=>L67 (aA cfg k) n (l.map fdV) (l.length:Nat) (i:Nat) name) (.int .i64 (sY ((nG (l.drop i) name).map (· +i))),[.cells [.str name]]):=by
 have fin:∀i:Nat,i=l.length→Evt (fun k n=>L67 (aA cfg k) n (l.map fdV) (l.length:Nat) (i:Nat) name) (.int .i64 (sY ((nG (l.drop i) name).map (· +i))),[.cells [.str name]]):=by
  intro i h
  refine NC (l.map fdV) (l.length:Nat) (i:Nat) name ?_
  have h1:¬((i:Int)<(l.length:Int)):=by omega
  rw[List.drop_eq_nil_of_le (by omega)]
  simp only[EH,h1,decide_false,Bool.false_eq_true,if_false,nG,Option.map_none,sY]
  exact aD _
 intro n
 induction n with
 |zero=>intro i h hi;exact fin i (by omega)
 |succ n ih=>
  intro i h hi
  by_cases hlt:i<l.length
  ·refine NC (l.map fdV) (l.length:Nat) (i:Nat) name ?_
   have h1:((i:Int)<(l.length:Int)):=by omega
   have h2:(0:Int)≤(i:Int):=by omega
   have hw:IntKind.wrap .i64 ((i:Int)+1)=((i+1:Nat):Int):=by rw[wrap64 (by omega) (by omega)];omega
   have hd:l.drop i=l[i]::l.drop (i+1):=List.drop_eq_getElem_cons hlt
   simp only[EH,h1,decide_true,if_true,aH h2,List.length_map,cA,Int.toNat_natCast,Dk hlt,fdV,V.cells,List.headD_cons,List.tail_cons,V.getI,V.getS,hw]
   refine aB (QZ l[i] name (hv _ (List.getElem_mem hlt)) hn) ?_
   simp only[V.getB,List.headD_cons,Ob.getC,V.getS]
   rw[hd,nG]
   by_cases hc:low l[i].1=low name
   ·simp only[hc,beq_self_eq_true,if_true,Option.map_some,Nat.zero_add,sY]
    exact aD _
   ·have hb:(low l[i].1==low name)=false:=by simpa using hc
    simp only[hb,hc,Bool.false_eq_true,if_false]
    have:=ih (i+1) (by omega) (by omega)
    have e:((nG (l.drop (i+1)) name).map (· +1)).map (· +i)=(nG (l.drop (i+1)) name).map (· +(i+1)):=by
     rw[Option.map_map];congr 1;funext x;simp only[Function.comp];omega
    rw[e]
    exact this
  ·exact fin i (by omega)
def qG:Option Fd→V
 |some f=> .tup [fdV f, .bool true]
 |none=> .tup [.agg [.str [], .int .i64 0, .int .i64 0, .int .i64 0], .bool false]
theorem AA (l:List Fd) (hl:l.length≤1000000) (hv:∀f∈l,f.1.length≤1000000) (name:Bs) (hn:name.length≤1000000):
  Ret 33 [.lst 91 false (l.map fdV), .str name] [] (qG (eX l name),[]):=by
 refine M33 (l.map fdV) name ?_
 simp only[T33,List.length_map]
 have h88:Ret 67 [.lst 91 false (l.map fdV), .clo (Fn.func 68) [] [.ref 0 0]] [.cells [.str name]] (.int .i64 (sY (nG l name)),[.cells [.str name]]):=by
  refine M67 (l.map fdV) name ?_
  simp only[T67,List.length_map]
  have:=O0 name hn l hl hv l.length 0 (by omega) (by omega)
  simpa using this
 refine aB h88 ?_
 have hgi:∀z:Int,(V.int .i64 z).getI=z:=fun _=>rfl
 simp only[hgi]
 cases he:nG l name with
 |none=>
  have hoi:sY none= -1:=rfl
  have h3:((-1:Int)<(0:Int)):=by omega
  rw[Az he]
  simp only[hoi,h3,decide_true,if_true]
  exact aD _
 |some k=>
  obtain⟨hk,hfd⟩:=Ay he
  have hoi:sY (some k)=(k:Int):=rfl
  have h3:¬((k:Int)<(0:Int)):=by omega
  have h4:(0:Int)≤(k:Int):=by omega
  have h5:(k:Int)<(l.length:Int):=by omega
  rw[hfd]
  simp only[hoi]
  simp only[h3,decide_false,Bool.false_eq_true,if_false,aH h4,aH h5,Int.toNat_natCast,Dk hk,fdV,V.cells,List.headD_cons,List.tail_cons,hgi,V.getS,qG]
  exact aD _
end Go.Proofs.YtdoaoaicdimbeaaGreatDoor
end
section
namespace Go.Proofs.YtdoaoaicdimbeaaGreatDoor
open Go.Ev Go
def qH:Bs→Bs
 |[]=>[]
 |c::r=>if jF c then qH r else c::r
def oM (s:Bs):Nat→Bs
 |0=>[]
 |n+1=>if jF (s.getD n 0)then oM s n else s.take (n+1)
def trimF (s:Bs):Bs:=oM (qH s) (qH s).length
theorem EL:∀s:Bs,(qH s).length≤s.length
 |[]=>Nat.le_refl _
 |c::r=>by
  unfold qH
  split
  ·have:=EL r;simp;omega
  ·exact Nat.le_refl _
theorem Cc (s:Bs):∀n,(oM s n).length≤s.length
 |0=>by simp[oM]
 |n+1=>by
  unfold oM
  split
  ·exact Cc s n
  ·simp;omega
theorem JZ (s:Bs):(trimF s).length≤s.length:=Nat.le_trans (Cc _ _) (EL s)
theorem wI (s:Bs) (hs:s.length≤9000000000000000000):∀n,n≤s.length→Evt (fun k j=>(jU (aA cfg k) j).2 (s.take n)) (.str (oM s n),[])
 |0,hn=>by
  refine JH (s.take 0) ?_
  simp only[List.take_zero,Ai,List.length_nil,oM]
  exact aD _
 |n+1,hn=>by
  refine JH (s.take (n+1)) ?_
  have hl:(s.take (n+1)).length=n+1:=by simp;omega
  have h1:(((n+1:Nat):Int)>0):=by omega
  have hw:IntKind.wrap .i64 (((n+1:Nat):Int) - 1)=(n:Int):=by rw[wrap64 (by omega) (by omega)];omega
  have h2:(0:Int)≤(n:Int):=by omega
  have h3:(n:Int)<((n+1:Nat):Int):=by omega
  have h4:(n:Int)≤((n+1:Nat):Int):=by omega
  have hlt:n<s.length:=by omega
  have hg:(s.take (n+1)).getD n 0=s[n]:=by simp[List.getD,List.getElem?_take,hlt]
  have htt:List.drop 0 (List.take n (s.take (n+1)))=s.take n:=by rw[List.drop_zero,List.take_take];congr 1;omega
  have hgs:s.getD n 0=s[n]:=getD_at hlt
  simp only[Ai,hl,h1,decide_true,if_true,hw,aH h2,aH h3,aH h4,aH (show(0:Int)≤0 by omega),Int.toNat_natCast,hg,Int.toNat_zero,htt]
  refine aB (sX s[n]) ?_
  unfold oM
  rw[hgs]
  cases hb:jF s[n]
  ·simp only[V.getB,Bool.false_eq_true,if_false];exact aD _
  ·simp only[V.getB,if_true];exact wI s hs n (by omega)
theorem Cd:∀s:Bs,s.length≤9000000000000000000→Evt (fun k j=>(jU (aA cfg k) j).1 s) (.str (trimF s),[])
 |[],hs=>by
  refine JG [] ?_
  have:=wI [] (by simp) 0 (by simp)
  simp only[Ah,List.length_nil]
  simpa[trimF,qH,oM]using this
 |c::r,hs=>by
  refine JG (c::r) ?_
  have h1:((((c::r).length:Nat):Int)>0):=by simp
  have h2:((0:Int)<(((c::r).length:Nat):Int)):=h1
  have h3:((1:Int)≤(((c::r).length:Nat):Int)):=by omega
  simp only[Ah,h1,decide_true,if_true,aH h2,aH h3,aH (show(0:Int)≤0 by omega),aH (show(0:Int)≤1 by omega),Int.toNat_zero,List.getD_cons_zero,Int.toNat_one,List.drop_one,List.tail_cons,cA]
  refine aB (sX c) ?_
  cases hb:jF c
  ·simp only[V.getB,Bool.false_eq_true,if_false]
   have:=wI (c::r) hs (c::r).length (Nat.le_refl _)
   rw[List.take_length]at this
   have e:qH (c::r)=c::r:=by unfold qH;rw[hb];rfl
   unfold trimF
   rw[e]
   exact this
  ·simp only[V.getB,if_true]
   have e:trimF (c::r)=trimF r:=by
    unfold trimF
    have:qH (c::r)=qH r:=by
     conv=>lhs;unfold qH
     rw[hb];rfl
    rw[this]
   rw[e]
   exact Cd r (by simp at hs;omega)
theorem J0 (s:Bs) (hs:s.length≤9000000000000000000):Ret 105 [.str s] [] (.str (trimF s),[]):=by
 refine Tu s ?_
 exact Cd s hs
theorem EM (o s:Bs) (h:o.length+s.length≤35000000000000):
  Ret 27 [.ref 0 0, .str s] [.cells [.opt 0 0, .lst 5 true (ofBytes o)]] (.tup [.int .i64 (s.length:Nat), .raw .nilIface],[.cells [.opt 0 0, .lst 5 true (ofBytes (o++s))]]):=by
 refine M27 (ofBytes o) s ?_
 have h108:Ret 54 [.ref 0 0] [.cells [.opt 0 0, .lst 5 true (ofBytes o)]] (.tup [],[.cells [.opt 0 0, .lst 5 true (ofBytes o)]]):=eD (h:=checkF) (by kernel_rfl) rfl
 have hap:nL (ofBytes o) s 2=true:=by simp[nL,bB];omega
 have hof:ofBytes o++ofBytes s=ofBytes (o++s):=by simp[ofBytes]
 simp only[T27]
 refine aB h108 ?_
 simp only[List.headD_cons,Ob.getC,List.tail_cons,V.getL,bL hap,hof]
 exact aD _
def lI (b:Bs) (f:Fd):Bs:=trimF ((aV f.2.2.1 f.2.2.2 b).flatMap (cB b))
theorem AB:∀(n a:Nat) (s:Bs),((eW n a s).map fun x=>x.2.1 - x.1).sum≤s.length
 |0,a,s=>by simp[eW]
 |n+1,a,s=>by
  unfold eW
  split
  ·simp
  ·split
   ·simp
   ·rename_i hk
    obtain⟨k,hk'⟩:∃k:Nat,Lib.indexByte s 10=k:=⟨(Lib.indexByte s 10).toNat,by omega⟩
    have hks:k<s.length:=(List.getElem?_eq_some_iff.1 (Lib.indexByte_some hk').1).1
    have:=AB n (a+k+1) (s.drop (k+1))
    rw[List.length_drop]at this
    rw[hk']
    simp only[Int.toNat_natCast,List.map_cons,List.sum_cons]
    split<;>omega
theorem sC (b:Bs):∀l:List Ln,(l.flatMap (cB b)).length≤(l.map fun x=>x.2.1 - x.1).sum
 |[]=>by simp
 |x::r=>by
  have:=sC b r
  have h:(cB b x).length≤x.2.1 - x.1:=by
   unfold cB Ib
   split
   ·simp;omega
   ·simp
  simp only[List.flatMap_cons,List.length_append,List.map_cons,List.sum_cons]
  omega
theorem oY (fr to:Int) (b:Bs):((aV fr to b).flatMap (cB b)).length≤b.length:=by
 refine Nat.le_trans (sC b _) ?_
 unfold aV
 split
 ·exact Nat.le_trans (AB _ _ _) (by simp;omega)
 ·simp
theorem EN (b:Bs) (f:Fd):(lI b f).length≤b.length:=Nat.le_trans (JZ _) (oY _ _ _)
theorem J1 (b:Bs) (l:List Ln) (hl:l.length≤1000000) (hb:b.length≤1000000) (hsum:(l.flatMap (cB b)).length≤1000000) (a:Bs) (p q r:Int):∀(n i:Nat),l.length - i=n→i≤l.length→
  Evt (fun k j=>L70 (aA cfg k) j (ofBytes b) (l.map lnV) (l.length:Nat) (i:Nat) a p q r (ofBytes ((l.take i).flatMap (cB b)))) (.str (trimF (l.flatMap (cB b))),[])
 |0,i,h,hi=>by
  have hil:i=l.length:=by omega
  subst hil
  rw[List.take_length]
  refine ND (ofBytes b) (l.map lnV) (l.length:Nat) (l.length:Nat) a p q r (ofBytes (l.flatMap (cB b))) ?_
  have h1:¬((l.length:Int)<(l.length:Int)):=by omega
  have h92:Ret 29 [.ref 0 0] [.cells [.opt 0 0, .lst 5 true (ofBytes (l.flatMap (cB b)))]] (.str (l.flatMap (cB b)),[.cells [.opt 0 0, .lst 5 false (ofBytes (l.flatMap (cB b)))]]):=by
   refine eD (h:=Go.Ev.textF) (by kernel_rfl) ?_
   have h2:=jM (l.flatMap (cB b))
   have h3:(ofBytes (l.flatMap (cB b))).length<1152921504606846976:=by rw[bB];omega
   simp only[Go.Ev.textF,h2,h3,decide_true,Bool.and_self,if_true,bT]
  simp only[EI,h1,decide_false,Bool.false_eq_true,if_false]
  refine aB h92 ?_
  simp only[V.getS]
  refine aB (J0 (l.flatMap (cB b)) (by omega)) ?_
  exact aD _
 |n+1,i,h,hi=>by
  have hlt:i<l.length:=by omega
  refine ND (ofBytes b) (l.map lnV) (l.length:Nat) (i:Nat) a p q r (ofBytes ((l.take i).flatMap (cB b))) ?_
  have h1:((i:Int)<(l.length:Int)):=by omega
  have h2:(0:Int)≤(i:Int):=by omega
  have hw:IntKind.wrap .i64 ((i:Int)+1)=((i+1:Nat):Int):=by rw[wrap64 (by omega) (by omega)];omega
  have h57:Ret 64 [.lst 5 false (ofBytes b), .agg [.int .i64 (l[i].1:Nat), .int .i64 (l[i].2.1:Nat), .int .i64 (l[i].2.2:Nat)]] [] (.str (cB b l[i]),[]):=JY b l[i]
  have htake:(l.take (i+1)).flatMap (cB b)=(l.take i).flatMap (cB b)++cB b l[i]:=by
   rw[List.take_add_one,List.getElem?_eq_getElem hlt,Option.toList_some,List.flatMap_append]
   simp only[List.flatMap_cons,List.flatMap_nil,List.append_nil]
  have hle:((l.take (i+1)).flatMap (cB b)).length≤1000000:=by
   have e:l.flatMap (cB b)=(l.take (i+1)).flatMap (cB b)++(l.drop (i+1)).flatMap (cB b):=by rw[←List.flatMap_append,List.take_append_drop]
   rw[e,List.length_append]at hsum;omega
  simp only[EI,h1,decide_true,if_true,aH h2,List.length_map,cA,Int.toNat_natCast,rG hlt,lnV,V.cells,List.headD_cons,List.tail_cons,V.getI,hw]
  refine aB h57 ?_
  simp only[V.getS]
  refine aB (EM ((l.take i).flatMap (cB b)) (cB b l[i]) (by rw[htake,List.length_append]at hle;omega)) ?_
  simp only[List.headD_cons,Ob.getC,List.tail_cons,V.getL]
  rw[←htake]
  exact J1 b l hl hb hsum a p q r n (i+1) (by omega) (by omega)
theorem NF (b:Bs) (hb:b.length≤1000000) (f:Fd):Ret 70 [.lst 5 false (ofBytes b),fdV f] [] (.str (lI b f),[]):=by
 obtain⟨a,p,q,r⟩:=f
 refine M70 (ofBytes b) a p q r ?_
 simp only[T70]
 refine aB (JX b hb q r) ?_
 have h1:=cZ q r b
 have h2:=oY q r b
 simp only[V.getL,List.length_map]
 have:=J1 b (aV q r b) (by omega) hb (by omega) a p q r (aV q r b).length 0 (by omega) (by omega)
 simp only[List.take_zero,List.flatMap_nil]at this
 exact this
def aT (b:Bs) (l:List Fd) (name:Bs):Bs:=match eX l name with|some f=>lI b f|none=>[]
theorem bI (b:Bs) (l:List Fd) (name:Bs):(aT b l name).length≤b.length:=by
 unfold aT
 split
 ·exact EN b _
 ·simp
theorem lY (b:Bs) (hb:b.length≤1000000) (l:List Fd) (hl:l.length≤1000000) (hv:∀f∈l,f.1.length≤1000000) (name:Bs) (hn:name.length≤1000000):
  Ret 34 [.lst 5 false (ofBytes b), .lst 91 false (l.map fdV), .str name] [] (.str (aT b l name),[]):=by
 refine M34 (ofBytes b) (l.map fdV) name ?_
 simp only[T34]
 refine aB (AA l hl hv name hn) ?_
 unfold aT
 cases eX l name with
 |none=>
  simp only[qG,V.getT,List.tail_cons,List.headD_cons,V.getB,Bool.not_false,if_true]
  exact aD _
 |some f=>
  have h66:Ret 70 [.lst 5 false (ofBytes b), .agg [.str f.1, .int .i64 f.2.1, .int .i64 f.2.2.1, .int .i64 f.2.2.2]] [] (.str (lI b f),[]):=NF b hb f
  simp only[qG,V.getT,List.tail_cons,List.headD_cons,V.getB,Bool.not_true,Bool.false_eq_true,if_false,fdV,V.cells,V.getS,V.getI]
  refine aB h66 ?_
  exact aD _
end Go.Proofs.YtdoaoaicdimbeaaGreatDoor
end
section
namespace Go.Proofs.YtdoaoaicdimbeaaGreatDoor
open Go.Ev Go
open List (headD tail getD length drop take)
open V (getI getL getT getS getB)
set_option maxRecDepth 100000
variable (call : FuncId → Fun) (icall : aO (V × List Ob)) (again : List It → St → Option (V × List Ob))
def T57 (call:FuncId→Fun) (a0:List V) (a1:Int) (a2:List V) (a3:Bool):Option (V×List Ob):=
 Option.bind (call 34 [(V.lst 5 false a0),(V.lst 91 false a2),(V.str [99,111,110,116,101,110,116,45,116,121,112,101])] []) fun z0=>
 Option.bind (call 99 [(V.str (getS z0.1)),(V.bool true)] []) fun z1=>
 if(getB (headD (tail (getT z1.1)) V.bot))=true then
 some ((V.agg [(V.str (getS (headD (V.cells (headD (getT z1.1) V.bot)) V.bot))),(V.str (getS (headD (tail (V.cells (headD (getT z1.1) V.bot))) V.bot))),(V.lst 176 false (getL (headD (tail (tail (V.cells (headD (getT z1.1) V.bot)))) V.bot)))]),[(Ob.cells [(V.lst 5 false a0),(V.int .i64 a1)])])
 else
 if a3=true then
 some ((V.agg [(V.str [109,101,115,115,97,103,101]),(V.str [114,102,99,56,50,50]),(V.lst 176 false [])]),[(Ob.cells [(V.lst 5 false a0),(V.int .i64 a1)])])
 else
 some ((V.agg [(V.str [116,101,120,116]),(V.str [112,108,97,105,110]),(V.lst 176 false [])]),[(Ob.cells [(V.lst 5 false a0),(V.int .i64 a1)])])
def O57 (a0:List V) (a1:Int):List Ob:=[Ob.cells [V.lst 5 false a0,V.int IntKind.i64 a1]]
def A57 (a2:List V) (a3:Bool):List V:=[V.ref 0 0,V.lst 91 false a2,V.bool a3]
theorem E57 (a0:List V) (a1:Int) (a2:List V) (a3:Bool):GO 57 Tryz.f57 (A57 a2 a3) (O57 a0 a1) call icall again=T57 call a0 a1 a2 a3:=by kernel_rfl
theorem C57 (k:Nat) (a0:List V) (a1:Int) (a2:List V) (a3:Bool):aA cfg (k+1) 57 (A57 a2 a3) (O57 a0 a1)=T57 (aA cfg k) a0 a1 a2 a3:=
 (show aA cfg (k+1) 57 (A57 a2 a3) (O57 a0 a1)=GO 57 Tryz.f57 (A57 a2 a3) (O57 a0 a1) (aA cfg k) (aE cfg (aA cfg k) 20) (RN 57 Tryz.f57 (O57 a0 a1) (aA cfg k) (aE cfg (aA cfg k) 20) k)by kernel_rfl).trans (E57 _ _ _ a0 a1 a2 a3)
theorem M57 (a0:List V) (a1:Int) (a2:List V) (a3:Bool) {r:V×List Ob} (h:Evt (fun k n=>T57 (aA cfg k) a0 a1 a2 a3) r):Ret 57 [V.ref 0 0,V.lst 91 false a2,V.bool a3] [Ob.cells [V.lst 5 false a0,V.int IntKind.i64 a1]] r:=aK (g:=fun k n=>T57 (aA cfg k) a0 a1 a2 a3) (fun k=>C57 k a0 a1 a2 a3) h
def EO (call:FuncId→Fun) (ag0:List UInt8→List V→Int→List V→Int→Int→List V→Int→Int→Int→Int→Int→Int→Int→Option (V×List Ob)) (s0:List UInt8) (l1:List V) (i2:Int) (l3:List V) (i4:Int) (i5:Int) (l6:List V) (i7:Int) (i8:Int) (i9:Int) (i10:Int) (i11:Int) (i12:Int) (i13:Int):Option (V×List Ob):=
 if(decide (i5<i4))=true then
 chk (decide (0≤i5)) (chk (decide (i5<((length l3:Nat):Int))) (Option.bind (call 64 [(V.lst 5 false l6),(V.agg [(V.int .i64 (getI (headD (V.cells (getD l3 (Int.toNat i5) V.bot)) V.bot))),(V.int .i64 (getI (headD (tail (V.cells (getD l3 (Int.toNat i5) V.bot))) V.bot))),(V.int .i64 (getI (headD (tail (tail (V.cells (getD l3 (Int.toNat i5) V.bot)))) V.bot)))])] []) fun z0=>
 Option.bind (call 100 [(V.str (getS z0.1)),(V.str s0)] []) fun z1=>
 if(!(getB (headD (getT z1.1) V.bot)))=true then
 (ag0 (s0) (l1) ((getI (headD (tail (V.cells (getD l3 (Int.toNat i5) V.bot))) V.bot))) (l3) (i4) ((IntKind.wrap .i64 (i5+(1:Int)))) (l6) (i7) (i8) (i9) (i10) (i11) (i12) (i13))
 else
 if(getB (headD (tail (getT z1.1)) V.bot))=true then
 some ((V.tup [(V.lst 32 false l1),(V.agg [(V.int .i64 i2),(V.int .i64 (getI (headD (tail (tail (V.cells (getD l3 (Int.toNat i5) V.bot)))) V.bot)))]),(V.bool (decide (((length l1:Nat):Int)>(0:Int))))]),[(Ob.cells [(V.lst 5 false l6),(V.int .i64 i7)])])
 else
 chk (aW l1 [(V.agg [(V.int .i64 i2),(V.int .i64 (getI (headD (tail (tail (V.cells (getD l3 (Int.toNat i5) V.bot)))) V.bot)))])] 17) ((ag0 (s0) ((l1++[(V.agg [(V.int .i64 i2),(V.int .i64 (getI (headD (tail (tail (V.cells (getD l3 (Int.toNat i5) V.bot)))) V.bot)))])])) ((getI (headD (tail (tail (V.cells (getD l3 (Int.toNat i5) V.bot)))) V.bot))) (l3) (i4) ((IntKind.wrap .i64 (i5+(1:Int)))) (l6) (i7) (i8) (i9) (i10) (i11) (i12) (i13)))))
 else
 some ((V.tup [(V.lst 32 false l1),(V.agg [(V.int .i64 i12),(V.int .i64 i13)]),(V.bool (decide (((length l1:Nat):Int)>(0:Int))))]),[(Ob.cells [(V.lst 5 false l6),(V.int .i64 i7)])])
def T59 (call:FuncId→Fun) (ag0:List UInt8→List V→Int→List V→Int→Int→List V→Int→Int→Int→Int→Int→Int→Int→Option (V×List Ob)) (a0:List V) (a1:Int) (a2:Int) (a3:Int) (a4:List UInt8):Option (V×List Ob):=
 Option.bind (call 62 [(V.lst 5 false a0),(V.agg [(V.int .i64 a2),(V.int .i64 a3)])] []) fun z0=>
 (ag0 (a4) ([]) (a2) ((getL z0.1)) (((length (getL z0.1):Nat):Int)) ((0:Int)) (a0) (a1) (a2) (a3) ((0:Int)) ((0:Int)) (a3) (a3))
def O59 (a0:List V) (a1:Int):List Ob:=[Ob.cells [V.lst 5 false a0,V.int IntKind.i64 a1]]
def A59 (a2:Int) (a3:Int) (a4:List UInt8):List V:=[V.ref 0 0,V.agg [V.int IntKind.i64 a2,V.int IntKind.i64 a3],V.str a4]
def Ce (s0:List UInt8) (l1:List V) (i2:Int) (l3:List V) (i4:Int) (i5:Int) (l6:List V) (i7:Int) (i8:Int) (i9:Int) (i10:Int) (i11:Int) (i12:Int) (i13:Int):St:=⟨[(V.ref 0 0),V.bot,(V.str s0),V.bot,V.bot,V.bot,V.bot,(V.ref 2 0),V.bot,(V.lst 32 true l1),(V.ref 3 0),(V.int IntKind.i64 i2),V.bot,V.bot,V.bot,V.bot,V.bot,V.bot,V.bot,V.bot,V.bot,V.bot,V.bot,V.bot,V.bot,V.bot,V.bot,V.bot,V.bot,(V.lst 134 false l3),(V.int IntKind.i64 i4),(V.int IntKind.i64 i5)]++List.replicate 42 V.bot,[(Ob.cells [(V.lst 5 false l6),(V.int IntKind.i64 i7)]),(Ob.cells [(V.int IntKind.i64 i8),(V.int IntKind.i64 i9)]),(Ob.cells [(V.int IntKind.i64 i10),(V.int IntKind.i64 i11)]),(Ob.cells [(V.int IntKind.i64 i12),(V.int IntKind.i64 i13)])]⟩
theorem Q0 (a0:List V) (a1:Int) (s0:List UInt8) (l1:List V) (i2:Int) (l3:List V) (i4:Int) (i5:Int) (l6:List V) (i7:Int) (i8:Int) (i9:Int) (i10:Int) (i11:Int) (i12:Int) (i13:Int):
 RM 59 Tryz.f59 (O59 a0 a1) call icall again (aJ Tryz.f59 0) (Ce s0 l1 i2 l3 i4 i5 l6 i7 i8 i9 i10 i11 i12 i13)=EO call (fun s0 l1 i2 l3 i4 i5 l6 i7 i8 i9 i10 i11 i12 i13=>again (aJ Tryz.f59 0) (Ce s0 l1 i2 l3 i4 i5 l6 i7 i8 i9 i10 i11 i12 i13)) s0 l1 i2 l3 i4 i5 l6 i7 i8 i9 i10 i11 i12 i13:=by kernel_rfl
theorem E59 (a0:List V) (a1:Int) (a2:Int) (a3:Int) (a4:List UInt8):GO 59 Tryz.f59 (A59 a2 a3 a4) (O59 a0 a1) call icall again=T59 call (fun s0 l1 i2 l3 i4 i5 l6 i7 i8 i9 i10 i11 i12 i13=>again (aJ Tryz.f59 0) (Ce s0 l1 i2 l3 i4 i5 l6 i7 i8 i9 i10 i11 i12 i13)) a0 a1 a2 a3 a4:=by kernel_rfl
def L59 (call:FuncId→Fun):Nat→(List UInt8→List V→Int→List V→Int→Int→List V→Int→Int→Int→Int→Int→Int→Int→Option (V×List Ob))
 |0=>fun _ _ _ _ _ _ _ _ _ _ _ _ _ _=>none
 |n+1=>EO call (L59 call n)
theorem R59 (call:FuncId→Fun) (icall:aO (V×List Ob)) (a0:List V) (a1:Int):∀n,(∀(s0:List UInt8) (l1:List V) (i2:Int) (l3:List V) (i4:Int) (i5:Int) (l6:List V) (i7:Int) (i8:Int) (i9:Int) (i10:Int) (i11:Int) (i12:Int) (i13:Int),RN 59 Tryz.f59 (O59 a0 a1) call icall n (aJ Tryz.f59 0) (Ce s0 l1 i2 l3 i4 i5 l6 i7 i8 i9 i10 i11 i12 i13)=(L59 call n) s0 l1 i2 l3 i4 i5 l6 i7 i8 i9 i10 i11 i12 i13)
 |0=>fun s0 l1 i2 l3 i4 i5 l6 i7 i8 i9 i10 i11 i12 i13=>rfl
 |n+1=>by
  have ih:=R59 call icall a0 a1 n
  exact fun s0 l1 i2 l3 i4 i5 l6 i7 i8 i9 i10 i11 i12 i13=>(Q0 call icall (RN 59 Tryz.f59 (O59 a0 a1) call icall n) a0 a1 s0 l1 i2 l3 i4 i5 l6 i7 i8 i9 i10 i11 i12 i13).trans (by rw[show(fun s0 l1 i2 l3 i4 i5 l6 i7 i8 i9 i10 i11 i12 i13=>RN 59 Tryz.f59 (O59 a0 a1) call icall n (aJ Tryz.f59 0) (Ce s0 l1 i2 l3 i4 i5 l6 i7 i8 i9 i10 i11 i12 i13))=(L59 call n)from(funext fun s0=>funext fun l1=>funext fun i2=>funext fun l3=>funext fun i4=>funext fun i5=>funext fun l6=>funext fun i7=>funext fun i8=>funext fun i9=>funext fun i10=>funext fun i11=>funext fun i12=>funext fun i13=>ih s0 l1 i2 l3 i4 i5 l6 i7 i8 i9 i10 i11 i12 i13)];rfl)
theorem C59 (k:Nat) (a0:List V) (a1:Int) (a2:Int) (a3:Int) (a4:List UInt8):aA cfg (k+1) 59 (A59 a2 a3 a4) (O59 a0 a1)=T59 (aA cfg k) (L59 (aA cfg k) k) a0 a1 a2 a3 a4:=by
 have ih:=R59 (aA cfg k) (aE cfg (aA cfg k) 20) a0 a1 k
 refine(show aA cfg (k+1) 59 (A59 a2 a3 a4) (O59 a0 a1)=GO 59 Tryz.f59 (A59 a2 a3 a4) (O59 a0 a1) (aA cfg k) (aE cfg (aA cfg k) 20) (RN 59 Tryz.f59 (O59 a0 a1) (aA cfg k) (aE cfg (aA cfg k) 20) k)by kernel_rfl).trans ((E59 _ _ _ a0 a1 a2 a3 a4).trans ?_)
 rw[show(fun s0 l1 i2 l3 i4 i5 l6 i7 i8 i9 i10 i11 i12 i13=>RN 59 Tryz.f59 (O59 a0 a1) (aA cfg k) (aE cfg (aA cfg k) 20) k (aJ Tryz.f59 0) (Ce s0 l1 i2 l3 i4 i5 l6 i7 i8 i9 i10 i11 i12 i13))=(L59 (aA cfg k) k)from(funext fun s0=>funext fun l1=>funext fun i2=>funext fun l3=>funext fun i4=>funext fun i5=>funext fun l6=>funext fun i7=>funext fun i8=>funext fun i9=>funext fun i10=>funext fun i11=>funext fun i12=>funext fun i13=>ih s0 l1 i2 l3 i4 i5 l6 i7 i8 i9 i10 i11 i12 i13)]
theorem M59 (a0:List V) (a1:Int) (a2:Int) (a3:Int) (a4:List UInt8) {r:V×List Ob} (h:Evt (fun k n=>T59 (aA cfg k) (L59 (aA cfg k) n) a0 a1 a2 a3 a4) r):Ret 59 [V.ref 0 0,V.agg [V.int IntKind.i64 a2,V.int IntKind.i64 a3],V.str a4] [Ob.cells [V.lst 5 false a0,V.int IntKind.i64 a1]] r:=aK (g:=fun k n=>T59 (aA cfg k) (L59 (aA cfg k) n) a0 a1 a2 a3 a4) (fun k=>C59 k a0 a1 a2 a3 a4) h
theorem NG (s0:List UInt8) (l1:List V) (i2:Int) (l3:List V) (i4:Int) (i5:Int) (l6:List V) (i7:Int) (i8:Int) (i9:Int) (i10:Int) (i11:Int) (i12:Int) (i13:Int) {r:V×List Ob} (h:Evt (fun k n=>EO (aA cfg k) (L59 (aA cfg k) n) s0 l1 i2 l3 i4 i5 l6 i7 i8 i9 i10 i11 i12 i13) r):Evt (fun k n=>(L59 (aA cfg k) n) s0 l1 i2 l3 i4 i5 l6 i7 i8 i9 i10 i11 i12 i13) r:=aY (fun k n=>rfl) h
def Cf (call:FuncId→Fun) (ag0:Int→Bool→List V→Int→Int→List V→Int→Int→Int→Int→Int→Int→List V→List V→Int→Int→Option (V×List Ob)) (i0:Int) (b1:Bool) (l2:List V) (i3:Int) (i4:Int) (l5:List V) (i6:Int) (i7:Int) (i8:Int) (i9:Int) (i10:Int) (i11:Int) (l12:List V) (l13:List V) (i14:Int) (i15:Int):Option (V×List Ob):=
 if(decide (i4<i3))=true then
 chk (decide (0≤i4)) (chk (decide (i4<((length l2:Nat):Int))) (if(decide ((IntKind.wrap .i64 (i4+(1:Int)))<((length l13:Nat):Int)))=true then
 chk (decide (0≤(IntKind.wrap .i64 (i4+(1:Int))))) (chk (decide ((IntKind.wrap .i64 (i4+(1:Int)))<((length l13:Nat):Int))) (Option.bind (call 31 [(V.ref 0 0),(V.agg [(V.int .i64 (getI (headD (tail (V.cells (getD l2 (Int.toNat i4) V.bot))) V.bot))),(V.int .i64 (if(getI (headD (tail (V.cells (getD l2 (Int.toNat i4) V.bot))) V.bot))>(getI (headD (V.cells (getD l13 (Int.toNat (IntKind.wrap .i64 (i4+(1:Int)))) V.bot)) V.bot))then(getI (headD (tail (V.cells (getD l2 (Int.toNat i4) V.bot))) V.bot))else(getI (headD (V.cells (getD l13 (Int.toNat (IntKind.wrap .i64 (i4+(1:Int)))) V.bot)) V.bot))))]),(V.int .i64 i0),(V.bool b1)] [(Ob.cells [(V.lst 5 false l5),(V.int .i64 i6)])]) fun z0=>
 chk (((length l12:Nat):Int)==((length l12:Nat):Int)) (chk (aW l12 [(V.agg [(V.int .i64 (getI (headD (V.cells z0.1) V.bot))),(V.int .i64 (getI (headD (tail (V.cells z0.1)) V.bot))),(V.int .i64 (getI (headD (tail (tail (V.cells z0.1))) V.bot))),(V.int .i64 (getI (headD (tail (tail (tail (V.cells z0.1)))) V.bot))),(V.int .i64 (getI (headD (tail (tail (tail (tail (V.cells z0.1))))) V.bot))),(V.lst 36 false (getL (headD (tail (tail (tail (tail (tail (V.cells z0.1)))))) V.bot))),(V.lst 32 false (getL (headD (tail (tail (tail (tail (tail (tail (V.cells z0.1))))))) V.bot))),(V.int .i64 (getI (headD (tail (tail (tail (tail (tail (tail (tail (V.cells z0.1)))))))) V.bot))),(V.int .i64 (getI (headD (tail (tail (tail (tail (tail (tail (tail (tail (V.cells z0.1))))))))) V.bot)))])] 105) ((ag0 (i0) (b1) (l2) (i3) ((IntKind.wrap .i64 (i4+(1:Int)))) ((getL (headD (Ob.getC (headD z0.2 Ob.dead)) V.bot))) ((getI (headD (tail (Ob.getC (headD z0.2 Ob.dead))) V.bot))) (i7) (i8) (i9) (i10) (i11) ((l12++[(V.agg [(V.int .i64 (getI (headD (V.cells z0.1) V.bot))),(V.int .i64 (getI (headD (tail (V.cells z0.1)) V.bot))),(V.int .i64 (getI (headD (tail (tail (V.cells z0.1))) V.bot))),(V.int .i64 (getI (headD (tail (tail (tail (V.cells z0.1)))) V.bot))),(V.int .i64 (getI (headD (tail (tail (tail (tail (V.cells z0.1))))) V.bot))),(V.lst 36 false (getL (headD (tail (tail (tail (tail (tail (V.cells z0.1)))))) V.bot))),(V.lst 32 false (getL (headD (tail (tail (tail (tail (tail (tail (V.cells z0.1))))))) V.bot))),(V.int .i64 (getI (headD (tail (tail (tail (tail (tail (tail (tail (V.cells z0.1)))))))) V.bot))),(V.int .i64 (getI (headD (tail (tail (tail (tail (tail (tail (tail (tail (V.cells z0.1))))))))) V.bot)))])])) (l13) (i14) (i15))))))
 else
 Option.bind (call 31 [(V.ref 0 0),(V.agg [(V.int .i64 (getI (headD (tail (V.cells (getD l2 (Int.toNat i4) V.bot))) V.bot))),(V.int .i64 (if(getI (headD (tail (V.cells (getD l2 (Int.toNat i4) V.bot))) V.bot))>i14 then(getI (headD (tail (V.cells (getD l2 (Int.toNat i4) V.bot))) V.bot))else i14))]),(V.int .i64 i0),(V.bool b1)] [(Ob.cells [(V.lst 5 false l5),(V.int .i64 i6)])]) fun z0=>
 chk (((length l12:Nat):Int)==((length l12:Nat):Int)) (chk (aW l12 [(V.agg [(V.int .i64 (getI (headD (V.cells z0.1) V.bot))),(V.int .i64 (getI (headD (tail (V.cells z0.1)) V.bot))),(V.int .i64 (getI (headD (tail (tail (V.cells z0.1))) V.bot))),(V.int .i64 (getI (headD (tail (tail (tail (V.cells z0.1)))) V.bot))),(V.int .i64 (getI (headD (tail (tail (tail (tail (V.cells z0.1))))) V.bot))),(V.lst 36 false (getL (headD (tail (tail (tail (tail (tail (V.cells z0.1)))))) V.bot))),(V.lst 32 false (getL (headD (tail (tail (tail (tail (tail (tail (V.cells z0.1))))))) V.bot))),(V.int .i64 (getI (headD (tail (tail (tail (tail (tail (tail (tail (V.cells z0.1)))))))) V.bot))),(V.int .i64 (getI (headD (tail (tail (tail (tail (tail (tail (tail (tail (V.cells z0.1))))))))) V.bot)))])] 105) ((ag0 (i0) (b1) (l2) (i3) ((IntKind.wrap .i64 (i4+(1:Int)))) ((getL (headD (Ob.getC (headD z0.2 Ob.dead)) V.bot))) ((getI (headD (tail (Ob.getC (headD z0.2 Ob.dead))) V.bot))) (i7) (i8) (i9) (i10) (i11) ((l12++[(V.agg [(V.int .i64 (getI (headD (V.cells z0.1) V.bot))),(V.int .i64 (getI (headD (tail (V.cells z0.1)) V.bot))),(V.int .i64 (getI (headD (tail (tail (V.cells z0.1))) V.bot))),(V.int .i64 (getI (headD (tail (tail (tail (V.cells z0.1)))) V.bot))),(V.int .i64 (getI (headD (tail (tail (tail (tail (V.cells z0.1))))) V.bot))),(V.lst 36 false (getL (headD (tail (tail (tail (tail (tail (V.cells z0.1)))))) V.bot))),(V.lst 32 false (getL (headD (tail (tail (tail (tail (tail (tail (V.cells z0.1))))))) V.bot))),(V.int .i64 (getI (headD (tail (tail (tail (tail (tail (tail (tail (V.cells z0.1)))))))) V.bot))),(V.int .i64 (getI (headD (tail (tail (tail (tail (tail (tail (tail (tail (V.cells z0.1))))))))) V.bot)))])])) (l13) (i14) (i15))))))
 else
 some ((V.tup []),[(Ob.cells [(V.lst 5 false l5),(V.int .i64 i6)]),(Ob.cells [(V.int .i64 i7),(V.int .i64 i8),(V.int .i64 i9),(V.int .i64 i10),(V.int .i64 i11),(V.lst 36 true l12),(V.lst 32 false l13),(V.int .i64 i14),(V.int .i64 i15)])])
def T60 (call:FuncId→Fun) (ag0:Int→Bool→List V→Int→Int→List V→Int→Int→Int→Int→Int→Int→List V→List V→Int→Int→Option (V×List Ob)) (a0:List V) (a1:Int) (a2:Int) (a3:Int) (a4:Int) (a5:Int) (a6:Int) (a7:List V) (a8:List V) (a9:Int) (a10:Int) (a11:Int) (a12:Bool):Option (V×List Ob):=
 (ag0 (a11) (a12) (a8) (((length a8:Nat):Int)) ((0:Int)) (a0) (a1) (a2) (a3) (a4) (a5) (a6) (a7) (a8) (a9) (a10))
def O60 (a0:List V) (a1:Int) (a2:Int) (a3:Int) (a4:Int) (a5:Int) (a6:Int) (a7:List V) (a8:List V) (a9:Int) (a10:Int):List Ob:=[Ob.cells [V.lst 5 false a0,V.int IntKind.i64 a1],Ob.cells [V.int IntKind.i64 a2,V.int IntKind.i64 a3,V.int IntKind.i64 a4,V.int IntKind.i64 a5,V.int IntKind.i64 a6,V.lst 36 true a7,V.lst 32 false a8,V.int IntKind.i64 a9,V.int IntKind.i64 a10]]
def A60 (a11:Int) (a12:Bool):List V:=[V.ref 0 0,V.ref 1 0,V.int IntKind.i64 a11,V.bool a12]
def Cg (i0:Int) (b1:Bool) (l2:List V) (i3:Int) (i4:Int) (l5:List V) (i6:Int) (i7:Int) (i8:Int) (i9:Int) (i10:Int) (i11:Int) (l12:List V) (l13:List V) (i14:Int) (i15:Int):St:=⟨[(V.ref 0 0),(V.ref 1 0),(V.int IntKind.i64 i0),(V.bool b1),V.bot,V.bot,V.bot,V.bot,V.bot,V.bot,V.bot,V.bot,V.bot,V.bot,(V.lst 32 false l2),(V.int IntKind.i64 i3),(V.int IntKind.i64 i4)]++List.replicate 48 V.bot,[(Ob.cells [(V.lst 5 false l5),(V.int IntKind.i64 i6)]),(Ob.cells [(V.int IntKind.i64 i7),(V.int IntKind.i64 i8),(V.int IntKind.i64 i9),(V.int IntKind.i64 i10),(V.int IntKind.i64 i11),(V.lst 36 true l12),(V.lst 32 false l13),(V.int IntKind.i64 i14),(V.int IntKind.i64 i15)])]⟩
theorem Q1 (a0:List V) (a1:Int) (a2:Int) (a3:Int) (a4:Int) (a5:Int) (a6:Int) (a7:List V) (a8:List V) (a9:Int) (a10:Int) (i0:Int) (b1:Bool) (l2:List V) (i3:Int) (i4:Int) (l5:List V) (i6:Int) (i7:Int) (i8:Int) (i9:Int) (i10:Int) (i11:Int) (l12:List V) (l13:List V) (i14:Int) (i15:Int):
 RM 60 Tryz.f60 (O60 a0 a1 a2 a3 a4 a5 a6 a7 a8 a9 a10) call icall again (aJ Tryz.f60 0) (Cg i0 b1 l2 i3 i4 l5 i6 i7 i8 i9 i10 i11 l12 l13 i14 i15)=Cf call (fun i0 b1 l2 i3 i4 l5 i6 i7 i8 i9 i10 i11 l12 l13 i14 i15=>again (aJ Tryz.f60 0) (Cg i0 b1 l2 i3 i4 l5 i6 i7 i8 i9 i10 i11 l12 l13 i14 i15)) i0 b1 l2 i3 i4 l5 i6 i7 i8 i9 i10 i11 l12 l13 i14 i15:=by kernel_rfl
theorem E60 (a0:List V) (a1:Int) (a2:Int) (a3:Int) (a4:Int) (a5:Int) (a6:Int) (a7:List V) (a8:List V) (a9:Int) (a10:Int) (a11:Int) (a12:Bool):GO 60 Tryz.f60 (A60 a11 a12) (O60 a0 a1 a2 a3 a4 a5 a6 a7 a8 a9 a10) call icall again=T60 call (fun i0 b1 l2 i3 i4 l5 i6 i7 i8 i9 i10 i11 l12 l13 i14 i15=>again (aJ Tryz.f60 0) (Cg i0 b1 l2 i3 i4 l5 i6 i7 i8 i9 i10 i11 l12 l13 i14 i15)) a0 a1 a2 a3 a4 a5 a6 a7 a8 a9 a10 a11 a12:=by kernel_rfl
def L60 (call:FuncId→Fun):Nat→(Int→Bool→List V→Int→Int→List V→Int→Int→Int→Int→Int→Int→List V→List V→Int→Int→Option (V×List Ob))
 |0=>fun _ _ _ _ _ _ _ _ _ _ _ _ _ _ _ _=>none
 |n+1=>Cf call (L60 call n)
theorem R60 (call:FuncId→Fun) (icall:aO (V×List Ob)) (a0:List V) (a1:Int) (a2:Int) (a3:Int) (a4:Int) (a5:Int) (a6:Int) (a7:List V) (a8:List V) (a9:Int) (a10:Int):∀n,(∀(i0:Int) (b1:Bool) (l2:List V) (i3:Int) (i4:Int) (l5:List V) (i6:Int) (i7:Int) (i8:Int) (i9:Int) (i10:Int) (i11:Int) (l12:List V) (l13:List V) (i14:Int) (i15:Int),RN 60 Tryz.f60 (O60 a0 a1 a2 a3 a4 a5 a6 a7 a8 a9 a10) call icall n (aJ Tryz.f60 0) (Cg i0 b1 l2 i3 i4 l5 i6 i7 i8 i9 i10 i11 l12 l13 i14 i15)=(L60 call n) i0 b1 l2 i3 i4 l5 i6 i7 i8 i9 i10 i11 l12 l13 i14 i15)
 |0=>fun i0 b1 l2 i3 i4 l5 i6 i7 i8 i9 i10 i11 l12 l13 i14 i15=>rfl
 |n+1=>by
  have ih:=R60 call icall a0 a1 a2 a3 a4 a5 a6 a7 a8 a9 a10 n
  exact fun i0 b1 l2 i3 i4 l5 i6 i7 i8 i9 i10 i11 l12 l13 i14 i15=>(Q1 call icall (RN 60 Tryz.f60 (O60 a0 a1 a2 a3 a4 a5 a6 a7 a8 a9 a10) call icall n) a0 a1 a2 a3 a4 a5 a6 a7 a8 a9 a10 i0 b1 l2 i3 i4 l5 i6 i7 i8 i9 i10 i11 l12 l13 i14 i15).trans (by rw[show(fun i0 b1 l2 i3 i4 l5 i6 i7 i8 i9 i10 i11 l12 l13 i14 i15=>RN 60 Tryz.f60 (O60 a0 a1 a2 a3 a4 a5 a6 a7 a8 a9 a10) call icall n (aJ Tryz.f60 0) (Cg i0 b1 l2 i3 i4 l5 i6 i7 i8 i9 i10 i11 l12 l13 i14 i15))=(L60 call n)from(funext fun i0=>funext fun b1=>funext fun l2=>funext fun i3=>funext fun i4=>funext fun l5=>funext fun i6=>funext fun i7=>funext fun i8=>funext fun i9=>funext fun i10=>funext fun i11=>funext fun l12=>funext fun l13=>funext fun i14=>funext fun i15=>ih i0 b1 l2 i3 i4 l5 i6 i7 i8 i9 i10 i11 l12 l13 i14 i15)];rfl)
theorem C60 (k:Nat) (a0:List V) (a1:Int) (a2:Int) (a3:Int) (a4:Int) (a5:Int) (a6:Int) (a7:List V) (a8:List V) (a9:Int) (a10:Int) (a11:Int) (a12:Bool):aA cfg (k+1) 60 (A60 a11 a12) (O60 a0 a1 a2 a3 a4 a5 a6 a7 a8 a9 a10)=T60 (aA cfg k) (L60 (aA cfg k) k) a0 a1 a2 a3 a4 a5 a6 a7 a8 a9 a10 a11 a12:=by
 have ih:=R60 (aA cfg k) (aE cfg (aA cfg k) 20) a0 a1 a2 a3 a4 a5 a6 a7 a8 a9 a10 k
 refine(show aA cfg (k+1) 60 (A60 a11 a12) (O60 a0 a1 a2 a3 a4 a5 a6 a7 a8 a9 a10)=GO 60 Tryz.f60 (A60 a11 a12) (O60 a0 a1 a2 a3 a4 a5 a6 a7 a8 a9 a10) (aA cfg k) (aE cfg (aA cfg k) 20) (RN 60 Tryz.f60 (O60 a0 a1 a2 a3 a4 a5 a6 a7 a8 a9 a10) (aA cfg k) (aE cfg (aA cfg k) 20) k)by kernel_rfl).trans ((E60 _ _ _ a0 a1 a2 a3 a4 a5 a6 a7 a8 a9 a10 a11 a12).trans ?_)
 rw[show(fun i0 b1 l2 i3 i4 l5 i6 i7 i8 i9 i10 i11 l12 l13 i14 i15=>RN 60 Tryz.f60 (O60 a0 a1 a2 a3 a4 a5 a6 a7 a8 a9 a10) (aA cfg k) (aE cfg (aA cfg k) 20) k (aJ Tryz.f60 0) (Cg i0 b1 l2 i3 i4 l5 i6 i7 i8 i9 i10 i11 l12 l13 i14 i15))=(L60 (aA cfg k) k)from(funext fun i0=>funext fun b1=>funext fun l2=>funext fun i3=>funext fun i4=>funext fun l5=>funext fun i6=>funext fun i7=>funext fun i8=>funext fun i9=>funext fun i10=>funext fun i11=>funext fun l12=>funext fun l13=>funext fun i14=>funext fun i15=>ih i0 b1 l2 i3 i4 l5 i6 i7 i8 i9 i10 i11 l12 l13 i14 i15)]
theorem M60 (a0:List V) (a1:Int) (a2:Int) (a3:Int) (a4:Int) (a5:Int) (a6:Int) (a7:List V) (a8:List V) (a9:Int) (a10:Int) (a11:Int) (a12:Bool) {r:V×List Ob} (h:Evt (fun k n=>T60 (aA cfg k) (L60 (aA cfg k) n) a0 a1 a2 a3 a4 a5 a6 a7 a8 a9 a10 a11 a12) r):Ret 60 [V.ref 0 0,V.ref 1 0,V.int IntKind.i64 a11,V.bool a12] [Ob.cells [V.lst 5 false a0,V.int IntKind.i64 a1],Ob.cells [V.int IntKind.i64 a2,V.int IntKind.i64 a3,V.int IntKind.i64 a4,V.int IntKind.i64 a5,V.int IntKind.i64 a6,V.lst 36 true a7,V.lst 32 false a8,V.int IntKind.i64 a9,V.int IntKind.i64 a10]] r:=aK (g:=fun k n=>T60 (aA cfg k) (L60 (aA cfg k) n) a0 a1 a2 a3 a4 a5 a6 a7 a8 a9 a10 a11 a12) (fun k=>C60 k a0 a1 a2 a3 a4 a5 a6 a7 a8 a9 a10 a11 a12) h
theorem NH (i0:Int) (b1:Bool) (l2:List V) (i3:Int) (i4:Int) (l5:List V) (i6:Int) (i7:Int) (i8:Int) (i9:Int) (i10:Int) (i11:Int) (l12:List V) (l13:List V) (i14:Int) (i15:Int) {r:V×List Ob} (h:Evt (fun k n=>Cf (aA cfg k) (L60 (aA cfg k) n) i0 b1 l2 i3 i4 l5 i6 i7 i8 i9 i10 i11 l12 l13 i14 i15) r):Evt (fun k n=>(L60 (aA cfg k) n) i0 b1 l2 i3 i4 l5 i6 i7 i8 i9 i10 i11 l12 l13 i14 i15) r:=aY (fun k n=>rfl) h
def T61 (call:FuncId→Fun) (a0:List V) (a1:Int) (a2:List V):Option (V×List Ob):=
 Option.bind (call 33 [(V.lst 91 false a2),(V.str [99,111,110,116,101,110,116,45,116,114,97,110,115,102,101,114,45,101,110,99,111,100,105,110,103])] []) fun z0=>
 if(!(getB (headD (tail (getT z0.1)) V.bot)))=true then
 some ((V.bool true),[(Ob.cells [(V.lst 5 false a0),(V.int .i64 a1)])])
 else
 Option.bind (call 70 [(V.lst 5 false a0),(V.agg [(V.str (getS (headD (V.cells (headD (getT z0.1) V.bot)) V.bot))),(V.int .i64 (getI (headD (tail (V.cells (headD (getT z0.1) V.bot))) V.bot))),(V.int .i64 (getI (headD (tail (tail (V.cells (headD (getT z0.1) V.bot)))) V.bot))),(V.int .i64 (getI (headD (tail (tail (tail (V.cells (headD (getT z0.1) V.bot))))) V.bot)))])] []) fun z1=>
 Option.bind (call 73 [(V.str (getS z1.1))] []) fun z2=>
 if(sEq (getS z2.1) [55,98,105,116])=true then
 some ((V.bool true),[(Ob.cells [(V.lst 5 false a0),(V.int .i64 a1)])])
 else
 if(sEq (getS z2.1) [56,98,105,116])=true then
 some ((V.bool true),[(Ob.cells [(V.lst 5 false a0),(V.int .i64 a1)])])
 else
 if(sEq (getS z2.1) [98,105,110,97,114,121])=true then
 some ((V.bool true),[(Ob.cells [(V.lst 5 false a0),(V.int .i64 a1)])])
 else
 some ((V.bool false),[(Ob.cells [(V.lst 5 false a0),(V.int .i64 a1)])])
def O61 (a0:List V) (a1:Int):List Ob:=[Ob.cells [V.lst 5 false a0,V.int IntKind.i64 a1]]
def A61 (a2:List V):List V:=[V.ref 0 0,V.lst 91 false a2]
theorem E61 (a0:List V) (a1:Int) (a2:List V):GO 61 Tryz.f61 (A61 a2) (O61 a0 a1) call icall again=T61 call a0 a1 a2:=by kernel_rfl
theorem C61 (k:Nat) (a0:List V) (a1:Int) (a2:List V):aA cfg (k+1) 61 (A61 a2) (O61 a0 a1)=T61 (aA cfg k) a0 a1 a2:=
 (show aA cfg (k+1) 61 (A61 a2) (O61 a0 a1)=GO 61 Tryz.f61 (A61 a2) (O61 a0 a1) (aA cfg k) (aE cfg (aA cfg k) 20) (RN 61 Tryz.f61 (O61 a0 a1) (aA cfg k) (aE cfg (aA cfg k) 20) k)by kernel_rfl).trans (E61 _ _ _ a0 a1 a2)
theorem M61 (a0:List V) (a1:Int) (a2:List V) {r:V×List Ob} (h:Evt (fun k n=>T61 (aA cfg k) a0 a1 a2) r):Ret 61 [V.ref 0 0,V.lst 91 false a2] [Ob.cells [V.lst 5 false a0,V.int IntKind.i64 a1]] r:=aK (g:=fun k n=>T61 (aA cfg k) a0 a1 a2) (fun k=>C61 k a0 a1 a2) h
def T31 (call:FuncId→Fun) (a0:List V) (a1:Int) (a2:Int) (a3:Int) (a4:Int) (a5:Bool):Option (V×List Ob):=
 Option.bind (call 32 [(V.lst 5 false a0),(V.agg [(V.int .i64 a2),(V.int .i64 a3)])] []) fun z0=>
 if(a4==(32:Int))=true then
 some ((V.agg [(V.int .i64 0),(V.int .i64 a2),(V.int .i64 (getI (headD (tail (getT z0.1)) V.bot))),(V.int .i64 (getI (headD (tail (getT z0.1)) V.bot))),(V.int .i64 a3),(V.lst 36 false []),(V.lst 32 false []),(V.int .i64 0),(V.int .i64 0)]),[(Ob.cells [(V.lst 5 false a0),(V.int .i64 a1)])])
 else
 Option.bind (call 57 [(V.ref 0 0),(V.lst 91 false (getL (headD (getT z0.1) V.bot))),(V.bool a5)] [(Ob.cells [(V.lst 5 false a0),(V.int .i64 a1)])]) fun z1=>
 Option.bind (call 58 [(V.agg [(V.str (getS (headD (V.cells z1.1) V.bot))),(V.str (getS (headD (tail (V.cells z1.1)) V.bot))),(V.lst 176 false (getL (headD (tail (tail (V.cells z1.1))) V.bot)))]),(V.str [98,111,117,110,100,97,114,121])] []) fun z2=>
 Option.bind (if(sEq (getS (headD (V.cells z1.1) V.bot)) [109,117,108,116,105,112,97,114,116])=true then
 if(!(sEq (getS (headD (getT z2.1) V.bot)) []))=true then
 some (decide (((length (getS (headD (getT z2.1) V.bot)):Nat):Int)≤(70:Int)))
 else
 some false
 else
 some false) fun y3=>
 if y3=true then
 Option.bind (call 59 [(V.ref 0 0),(V.agg [(V.int .i64 (getI (headD (tail (getT z0.1)) V.bot))),(V.int .i64 a3)]),(V.str (getS (headD (getT z2.1) V.bot)))] [(Ob.cells [(V.lst 5 false (getL (headD (Ob.getC (headD z1.2 Ob.dead)) V.bot))),(V.int .i64 (getI (headD (tail (Ob.getC (headD z1.2 Ob.dead))) V.bot)))])]) fun z4=>
 Option.bind (if(getB (headD (tail (tail (getT z4.1))) V.bot))=true then
 some (decide ((IntKind.wrap .i64 ((getI (headD (tail (Ob.getC (headD z4.2 Ob.dead))) V.bot))+((length (getL (headD (getT z4.1) V.bot)):Nat):Int)))≤(1000:Int)))
 else
 some false) fun y5=>
 if y5=true then
 Option.bind (call 60 [(V.ref 0 0),(V.ref 1 0),(V.int .i64 (IntKind.wrap .i64 (a4+(1:Int)))),(V.bool (sEq (getS (headD (tail (V.cells z1.1)) V.bot)) [100,105,103,101,115,116]))] [(Ob.cells [(V.lst 5 false (getL (headD (Ob.getC (headD z4.2 Ob.dead)) V.bot))),(V.int .i64 (IntKind.wrap .i64 ((getI (headD (tail (Ob.getC (headD z4.2 Ob.dead))) V.bot))+((length (getL (headD (getT z4.1) V.bot)):Nat):Int))))]),(Ob.cells [(V.int .i64 1),(V.int .i64 a2),(V.int .i64 (getI (headD (tail (getT z0.1)) V.bot))),(V.int .i64 (getI (headD (tail (getT z0.1)) V.bot))),(V.int .i64 a3),(V.lst 36 true []),(V.lst 32 false (getL (headD (getT z4.1) V.bot))),(V.int .i64 (getI (headD (V.cells (headD (tail (getT z4.1)) V.bot)) V.bot))),(V.int .i64 (getI (headD (tail (V.cells (headD (tail (getT z4.1)) V.bot))) V.bot)))])]) fun z6=>
 some ((V.agg [(V.int .i64 (getI (headD (Ob.getC (headD (tail z6.2) Ob.dead)) V.bot))),(V.int .i64 (getI (headD (tail (Ob.getC (headD (tail z6.2) Ob.dead))) V.bot))),(V.int .i64 (getI (headD (tail (tail (Ob.getC (headD (tail z6.2) Ob.dead)))) V.bot))),(V.int .i64 (getI (headD (tail (tail (tail (Ob.getC (headD (tail z6.2) Ob.dead))))) V.bot))),(V.int .i64 (getI (headD (tail (tail (tail (tail (Ob.getC (headD (tail z6.2) Ob.dead)))))) V.bot))),(V.lst 36 false (getL (headD (tail (tail (tail (tail (tail (Ob.getC (headD (tail z6.2) Ob.dead))))))) V.bot))),(V.lst 32 false (getL (headD (tail (tail (tail (tail (tail (tail (Ob.getC (headD (tail z6.2) Ob.dead)))))))) V.bot))),(V.int .i64 (getI (headD (tail (tail (tail (tail (tail (tail (tail (Ob.getC (headD (tail z6.2) Ob.dead))))))))) V.bot))),(V.int .i64 (getI (headD (tail (tail (tail (tail (tail (tail (tail (tail (Ob.getC (headD (tail z6.2) Ob.dead)))))))))) V.bot)))]),[(Ob.cells [(V.lst 5 false (getL (headD (Ob.getC (headD z6.2 Ob.dead)) V.bot))),(V.int .i64 (getI (headD (tail (Ob.getC (headD z6.2 Ob.dead))) V.bot)))])])
 else
 some ((V.agg [(V.int .i64 0),(V.int .i64 a2),(V.int .i64 (getI (headD (tail (getT z0.1)) V.bot))),(V.int .i64 (getI (headD (tail (getT z0.1)) V.bot))),(V.int .i64 a3),(V.lst 36 false []),(V.lst 32 false []),(V.int .i64 0),(V.int .i64 0)]),[(Ob.cells [(V.lst 5 false (getL (headD (Ob.getC (headD z4.2 Ob.dead)) V.bot))),(V.int .i64 (getI (headD (tail (Ob.getC (headD z4.2 Ob.dead))) V.bot)))])])
 else
 if(sEq (getS (headD (V.cells z1.1) V.bot)) [109,101,115,115,97,103,101])=true then
 if(sEq (getS (headD (tail (V.cells z1.1)) V.bot)) [114,102,99,56,50,50])=true then
 Option.bind (call 61 [(V.ref 0 0),(V.lst 91 false (getL (headD (getT z0.1) V.bot)))] [(Ob.cells [(V.lst 5 false (getL (headD (Ob.getC (headD z1.2 Ob.dead)) V.bot))),(V.int .i64 (getI (headD (tail (Ob.getC (headD z1.2 Ob.dead))) V.bot)))])]) fun z4=>
 if(getB z4.1)=true then
 if(decide ((getI (headD (tail (Ob.getC (headD z4.2 Ob.dead))) V.bot))<(1000:Int)))=true then
 Option.bind (call 31 [(V.ref 0 0),(V.agg [(V.int .i64 (getI (headD (tail (getT z0.1)) V.bot))),(V.int .i64 a3)]),(V.int .i64 (IntKind.wrap .i64 (a4+(1:Int)))),(V.bool false)] [(Ob.cells [(V.lst 5 false (getL (headD (Ob.getC (headD z4.2 Ob.dead)) V.bot))),(V.int .i64 (IntKind.wrap .i64 ((getI (headD (tail (Ob.getC (headD z4.2 Ob.dead))) V.bot))+(1:Int))))])]) fun z5=>
 some ((V.agg [(V.int .i64 2),(V.int .i64 a2),(V.int .i64 (getI (headD (tail (getT z0.1)) V.bot))),(V.int .i64 (getI (headD (tail (getT z0.1)) V.bot))),(V.int .i64 a3),(V.lst 36 false [(V.agg [(V.int .i64 (getI (headD (V.cells z5.1) V.bot))),(V.int .i64 (getI (headD (tail (V.cells z5.1)) V.bot))),(V.int .i64 (getI (headD (tail (tail (V.cells z5.1))) V.bot))),(V.int .i64 (getI (headD (tail (tail (tail (V.cells z5.1)))) V.bot))),(V.int .i64 (getI (headD (tail (tail (tail (tail (V.cells z5.1))))) V.bot))),(V.lst 36 false (getL (headD (tail (tail (tail (tail (tail (V.cells z5.1)))))) V.bot))),(V.lst 32 false (getL (headD (tail (tail (tail (tail (tail (tail (V.cells z5.1))))))) V.bot))),(V.int .i64 (getI (headD (tail (tail (tail (tail (tail (tail (tail (V.cells z5.1)))))))) V.bot))),(V.int .i64 (getI (headD (tail (tail (tail (tail (tail (tail (tail (tail (V.cells z5.1))))))))) V.bot)))])]),(V.lst 32 false []),(V.int .i64 0),(V.int .i64 0)]),[(Ob.cells [(V.lst 5 false (getL (headD (Ob.getC (headD z5.2 Ob.dead)) V.bot))),(V.int .i64 (getI (headD (tail (Ob.getC (headD z5.2 Ob.dead))) V.bot)))])])
 else
 some ((V.agg [(V.int .i64 0),(V.int .i64 a2),(V.int .i64 (getI (headD (tail (getT z0.1)) V.bot))),(V.int .i64 (getI (headD (tail (getT z0.1)) V.bot))),(V.int .i64 a3),(V.lst 36 false []),(V.lst 32 false []),(V.int .i64 0),(V.int .i64 0)]),[(Ob.cells [(V.lst 5 false (getL (headD (Ob.getC (headD z4.2 Ob.dead)) V.bot))),(V.int .i64 (getI (headD (tail (Ob.getC (headD z4.2 Ob.dead))) V.bot)))])])
 else
 some ((V.agg [(V.int .i64 0),(V.int .i64 a2),(V.int .i64 (getI (headD (tail (getT z0.1)) V.bot))),(V.int .i64 (getI (headD (tail (getT z0.1)) V.bot))),(V.int .i64 a3),(V.lst 36 false []),(V.lst 32 false []),(V.int .i64 0),(V.int .i64 0)]),[(Ob.cells [(V.lst 5 false (getL (headD (Ob.getC (headD z4.2 Ob.dead)) V.bot))),(V.int .i64 (getI (headD (tail (Ob.getC (headD z4.2 Ob.dead))) V.bot)))])])
 else
 some ((V.agg [(V.int .i64 0),(V.int .i64 a2),(V.int .i64 (getI (headD (tail (getT z0.1)) V.bot))),(V.int .i64 (getI (headD (tail (getT z0.1)) V.bot))),(V.int .i64 a3),(V.lst 36 false []),(V.lst 32 false []),(V.int .i64 0),(V.int .i64 0)]),[(Ob.cells [(V.lst 5 false (getL (headD (Ob.getC (headD z1.2 Ob.dead)) V.bot))),(V.int .i64 (getI (headD (tail (Ob.getC (headD z1.2 Ob.dead))) V.bot)))])])
 else
 some ((V.agg [(V.int .i64 0),(V.int .i64 a2),(V.int .i64 (getI (headD (tail (getT z0.1)) V.bot))),(V.int .i64 (getI (headD (tail (getT z0.1)) V.bot))),(V.int .i64 a3),(V.lst 36 false []),(V.lst 32 false []),(V.int .i64 0),(V.int .i64 0)]),[(Ob.cells [(V.lst 5 false (getL (headD (Ob.getC (headD z1.2 Ob.dead)) V.bot))),(V.int .i64 (getI (headD (tail (Ob.getC (headD z1.2 Ob.dead))) V.bot)))])])
def O31 (a0:List V) (a1:Int):List Ob:=[Ob.cells [V.lst 5 false a0,V.int IntKind.i64 a1]]
def A31 (a2:Int) (a3:Int) (a4:Int) (a5:Bool):List V:=[V.ref 0 0,V.agg [V.int IntKind.i64 a2,V.int IntKind.i64 a3],V.int IntKind.i64 a4,V.bool a5]
theorem E31 (a0:List V) (a1:Int) (a2:Int) (a3:Int) (a4:Int) (a5:Bool):GO 31 Tryz.f31 (A31 a2 a3 a4 a5) (O31 a0 a1) call icall again=T31 call a0 a1 a2 a3 a4 a5:=by kernel_rfl
theorem C31 (k:Nat) (a0:List V) (a1:Int) (a2:Int) (a3:Int) (a4:Int) (a5:Bool):aA cfg (k+1) 31 (A31 a2 a3 a4 a5) (O31 a0 a1)=T31 (aA cfg k) a0 a1 a2 a3 a4 a5:=
 (show aA cfg (k+1) 31 (A31 a2 a3 a4 a5) (O31 a0 a1)=GO 31 Tryz.f31 (A31 a2 a3 a4 a5) (O31 a0 a1) (aA cfg k) (aE cfg (aA cfg k) 20) (RN 31 Tryz.f31 (O31 a0 a1) (aA cfg k) (aE cfg (aA cfg k) 20) k)by kernel_rfl).trans (E31 _ _ _ a0 a1 a2 a3 a4 a5)
theorem M31 (a0:List V) (a1:Int) (a2:Int) (a3:Int) (a4:Int) (a5:Bool) {r:V×List Ob} (h:Evt (fun k n=>T31 (aA cfg k) a0 a1 a2 a3 a4 a5) r):Ret 31 [V.ref 0 0,V.agg [V.int IntKind.i64 a2,V.int IntKind.i64 a3],V.int IntKind.i64 a4,V.bool a5] [Ob.cells [V.lst 5 false a0,V.int IntKind.i64 a1]] r:=aK (g:=fun k n=>T31 (aA cfg k) a0 a1 a2 a3 a4 a5) (fun k=>C31 k a0 a1 a2 a3 a4 a5) h
def T14 (call:FuncId→Fun) (a0:List V):Option (V×List Ob):=
 if(decide (((length a0:Nat):Int)>(67108864:Int)))=true then
 some ((V.tup [(V.agg [(V.int .i64 0),(V.int .i64 0),(V.int .i64 0),(V.int .i64 0),(V.int .i64 0),(V.lst 36 false []),(V.lst 32 false []),(V.int .i64 0),(V.int .i64 0)]),(V.int .i64 13)]),[])
 else
 Option.bind (call 31 [(V.ref 0 0),(V.agg [(V.int .i64 0),(V.int .i64 ((length a0:Nat):Int))]),(V.int .i64 0),(V.bool false)] [(Ob.cells [(V.lst 5 false a0),(V.int .i64 1)])]) fun z0=>
 some ((V.tup [(V.agg [(V.int .i64 (getI (headD (V.cells z0.1) V.bot))),(V.int .i64 (getI (headD (tail (V.cells z0.1)) V.bot))),(V.int .i64 (getI (headD (tail (tail (V.cells z0.1))) V.bot))),(V.int .i64 (getI (headD (tail (tail (tail (V.cells z0.1)))) V.bot))),(V.int .i64 (getI (headD (tail (tail (tail (tail (V.cells z0.1))))) V.bot))),(V.lst 36 false (getL (headD (tail (tail (tail (tail (tail (V.cells z0.1)))))) V.bot))),(V.lst 32 false (getL (headD (tail (tail (tail (tail (tail (tail (V.cells z0.1))))))) V.bot))),(V.int .i64 (getI (headD (tail (tail (tail (tail (tail (tail (tail (V.cells z0.1)))))))) V.bot))),(V.int .i64 (getI (headD (tail (tail (tail (tail (tail (tail (tail (tail (V.cells z0.1))))))))) V.bot)))]),(V.int .i64 0)]),[])
def A14 (a0:List V):List V:=[V.lst 5 false a0]
theorem E14 (a0:List V):GO 14 Tryz.f14 (A14 a0) [] call icall again=T14 call a0:=by kernel_rfl
theorem C14 (k:Nat) (a0:List V):aA cfg (k+1) 14 (A14 a0) []=T14 (aA cfg k) a0:=
 (show aA cfg (k+1) 14 (A14 a0) []=GO 14 Tryz.f14 (A14 a0) [] (aA cfg k) (aE cfg (aA cfg k) 20) (RN 14 Tryz.f14 [] (aA cfg k) (aE cfg (aA cfg k) 20) k)by kernel_rfl).trans (E14 _ _ _ a0)
theorem M14 (a0:List V) {r:V×List Ob} (h:Evt (fun k n=>T14 (aA cfg k) a0) r):Ret 14 [V.lst 5 false a0] [] r:=aK (g:=fun k n=>T14 (aA cfg k) a0) (fun k=>C14 k a0) h
end Go.Proofs.YtdoaoaicdimbeaaGreatDoor
end
section
namespace Go.Proofs.YtdoaoaicdimbeaaGreatDoor
open Go.Ev Go
def sZ (s:Bs):Bool:=trimF s==[]
def tA (text bd:Bs):Bool×Bool:=
 if text.length<2+bd.length∨text.take (2+bd.length)≠[45,45]++bd then(false,false)else
 if sZ (text.drop (2+bd.length))then(true,false)else
 if 2≤(text.drop (2+bd.length)).length∧(text.drop (2+bd.length)).take 2=[45,45]∧sZ ((text.drop (2+bd.length)).drop 2)=true then(true,true)else(false,false)
theorem J2 (s:Bs) (hs:s.length≤1000000):Ret 135 [.str s] [] (.bool (sZ s),[]):=by
 refine TL s ?_
 simp only[JW]
 refine aB (J0 s (by omega)) ?_
 exact aD _
theorem O1 (text bd:Bs) (ht:text.length≤1000000) (hb:bd.length≤1000000):Ret 100 [.str text, .str bd] [] (.tup [.bool (tA text bd).1, .bool (tA text bd).2],[]):=by
 refine TI text bd ?_
 have hw:IntKind.wrap .i64 ((2:Int)+(bd.length:Int))=((2+bd.length:Nat):Int):=by rw[wrap64 (by omega) (by omega)];omega
 have h0:(0:Int)≤((2+bd.length:Nat):Int):=by omega
 have hc:bO [45,45] bd=true:=fD (by simp;omega)
 simp only[JV,hw]
 unfold tA
 by_cases h1:text.length<2+bd.length
 ·have h1' :(text.length:Int)<((2+bd.length:Nat):Int):=by omega
  simp only[h1',decide_true,Bool.true_eq_false,if_false,cV,if_true,h1,true_or]
  exact aD _
 ·have h1' :¬((text.length:Int)<((2+bd.length:Nat):Int)):=by omega
  have h2:((2+bd.length:Nat):Int)≤(text.length:Int):=by omega
  simp only[h1',decide_false,if_true,aH h0,aH h2,aH (show(0:Int)≤0 by omega),bL hc,Int.toNat_zero,Int.toNat_natCast,List.drop_zero,cV,h1,false_or]
  by_cases h3:text.take (2+bd.length)=[45,45]++bd
  ·have h3' :sEq (text.take (2+bd.length)) ([45,45]++bd)=true:=by simp[sEq,h3]
   simp only[h3',Bool.not_true,Bool.false_eq_true,if_false]
   simp only[h3,ne_eq,not_true_eq_false,if_false]
   have hr:(text.drop (2+bd.length)).length≤1000000:=by simp;omega
   obtain⟨rest,hrest⟩:∃rest,text.drop (2+bd.length)=rest:=⟨_,rfl⟩
   simp only[hrest]at hr ⊢
   refine aB (J2 rest hr) ?_
   simp only[V.getB]
   by_cases h4:sZ rest=true
   ·simp only[h4,if_true];exact aD _
   ·have h4' :sZ rest=false:=by simpa using h4
    simp only[h4',Bool.false_eq_true,if_false]
    by_cases h5:2≤rest.length
    ·have h5' :((rest.length:Int)≥(2:Int)):=by omega
     have h5'' :((2:Int)≤(rest.length:Int)):=by omega
     simp only[h5',decide_true,if_true,aH (show(0:Int)≤2 by omega),aH h5'',aH (show(0:Int)≤0 by omega),Int.toNat_zero,List.drop_zero,h5,true_and,show Int.toNat 2=2 from rfl,cA]
     by_cases h6:rest.take 2=[45,45]
     ·have h6' :sEq (rest.take 2) [45,45]=true:=by simp[sEq,h6]
      simp only[h6',if_true,h6,true_and]
      refine aB (J2 (rest.drop 2) (by simp;omega)) ?_
      simp only[V.getB]
      by_cases h7:sZ (rest.drop 2)=true
      ·simp only[h7,if_true];exact aD _
      ·have h7' :sZ (rest.drop 2)=false:=by simpa using h7
       simp only[h7',Bool.false_eq_true,if_false];exact aD _
     ·have h6' :sEq (rest.take 2) [45,45]=false:=by simp[sEq,h6]
      simp only[h6',Bool.false_eq_true,if_false,h6,false_and];exact aD _
    ·have h5' :¬((rest.length:Int)≥(2:Int)):=by omega
     simp only[h5',decide_false,Bool.false_eq_true,if_false,h5,false_and];exact aD _
  ·have h3' :sEq (text.take (2+bd.length)) ([45,45]++bd)=false:=beq_eq_false_iff_ne.2 h3
   simp only[h3',Bool.not_false,if_true]
   simp only[h3,ne_eq,not_false_eq_true,if_true]
   exact aD _
end Go.Proofs.YtdoaoaicdimbeaaGreatDoor
end
section
namespace Go.Proofs.YtdoaoaicdimbeaaGreatDoor
open Go.Ev Go
def iR (b bd:Bs):List Ln→List (Nat×Nat)→Nat→List (Nat×Nat)×Option (Nat×Nat)
 |[],out,_=>(out,none)
 |l::r,out,from_=>
  if(tA (cB b l) bd).1=false then iR b bd r out l.2.1
  else if(tA (cB b l) bd).2 then(out,some (from_,l.2.2))else iR b bd r (out++[(from_,l.2.2)]) l.2.2
def eT (b:Bs) (fr to:Nat) (bd:Bs):List (Nat×Nat)×(Nat×Nat):=((iR b bd (aV fr to b) [] fr).1,(iR b bd (aV fr to b) [] fr).2.getD (to,to))
def uC (b:Bs) (n:Int):List Ob:=[.cells [.lst 5 false (ofBytes b), .int .i64 n]]
theorem Ge (b bd:Bs) (hb:b.length≤1000000) (hbd:bd.length≤1000000) (nn:Int) (l:List Ln) (hl:l.length≤1000000) (c d e f:Int) (fr to:Nat):∀(n i:Nat) (out:List (Nat×Nat)) (from_:Nat),l.length - i=n→i≤l.length→out.length≤i→
  Evt (fun k j=>L59 (aA cfg k) j bd (out.map cutV) (from_:Nat) (l.map lnV) (l.length:Nat) (i:Nat) (ofBytes b) nn c d e f (to:Nat) (to:Nat))
   (.tup [.lst 32 false ((iR b bd (l.drop i) out from_).1.map cutV),cutV ((iR b bd (l.drop i) out from_).2.getD (to,to)), .bool (decide (0<(iR b bd (l.drop i) out from_).1.length))],uC b nn)
 |0,i,out,from_,h,hi,ho=>by
  refine NG bd (out.map cutV) (from_:Nat) (l.map lnV) (l.length:Nat) (i:Nat) (ofBytes b) nn c d e f (to:Nat) (to:Nat) ?_
  have h1:¬((i:Int)<(l.length:Int)):=by omega
  have h2:decide ((((out.map cutV).length:Nat):Int)>(0:Int))=decide (0<out.length):=by simp
  rw[List.drop_eq_nil_of_le (by omega)]
  simp only[EO,h1,decide_false,Bool.false_eq_true,if_false,iR,h2]
  exact aD _
 |n+1,i,out,from_,h,hi,ho=>by
  have hlt:i<l.length:=by omega
  refine NG bd (out.map cutV) (from_:Nat) (l.map lnV) (l.length:Nat) (i:Nat) (ofBytes b) nn c d e f (to:Nat) (to:Nat) ?_
  have h1:((i:Int)<(l.length:Int)):=by omega
  have h2:(0:Int)≤(i:Int):=by omega
  have hw:IntKind.wrap .i64 ((i:Int)+1)=((i+1:Nat):Int):=by rw[wrap64 (by omega) (by omega)];omega
  have hd:l.drop i=l[i]::l.drop (i+1):=List.drop_eq_getElem_cons hlt
  have htl:=Ax b l[i]
  have h57:Ret 64 [.lst 5 false (ofBytes b), .agg [.int .i64 (l[i].1:Nat), .int .i64 (l[i].2.1:Nat), .int .i64 (l[i].2.2:Nat)]] [] (.str (cB b l[i]),[]):=JY b l[i]
  rw[hd,iR]
  simp only[EO,h1,decide_true,if_true,aH h2,List.length_map,cA,Int.toNat_natCast,rG hlt,lnV,V.cells,List.headD_cons,List.tail_cons,V.getI,hw]
  refine aB h57 ?_
  simp only[V.getS]
  refine aB (O1 (cB b l[i]) bd (by omega) hbd) ?_
  simp only[V.getT,List.headD_cons,List.tail_cons,V.getB]
  cases hd1:(tA (cB b l[i]) bd).1 with
  |false=>
   simp only[Bool.not_false,if_true]
   exact Ge b bd hb hbd nn l hl c d e f fr to n (i+1) out l[i].2.1 (by omega) (by omega) (by omega)
  |true=>
   simp only[Bool.not_true,Bool.false_eq_true,if_false,Bool.true_eq_false]
   cases hd2:(tA (cB b l[i]) bd).2 with
   |true=>
    have h3:decide (((out.length:Nat):Int)>(0:Int))=decide (0<out.length):=by simp
    simp only[if_true,h3]
    exact aD _
   |false=>
    have hap:aW (out.map cutV) [V.agg [.int .i64 (from_:Nat), .int .i64 (l[i].2.2:Nat)]] 17=true:=dM (by simp;omega)
    simp only[Bool.false_eq_true,if_false,bL hap]
    have:=Ge b bd hb hbd nn l hl c d e f fr to n (i+1) (out++[(from_,l[i].2.2)]) l[i].2.2 (by omega) (by omega) (by simp;omega)
    simp only[List.map_append,List.map_cons,List.map_nil,cutV]at this
    exact this
theorem Q2 (b bd:Bs) (hb:b.length≤1000000) (hbd:bd.length≤1000000) (nn:Int) (fr to:Nat):
  Ret 59 [.ref 0 0, .agg [.int .i64 (fr:Nat), .int .i64 (to:Nat)], .str bd] (uC b nn)
   (.tup [.lst 32 false ((eT b fr to bd).1.map cutV),cutV (eT b fr to bd).2, .bool (decide (0<(eT b fr to bd).1.length))],uC b nn):=by
 refine M59 (ofBytes b) nn (fr:Nat) (to:Nat) bd ?_
 simp only[T59]
 refine aB (JX b hb (fr:Nat) (to:Nat)) ?_
 have h1:=cZ fr to b
 simp only[V.getL,List.length_map]
 exact Ge b bd hb hbd nn (aV fr to b) (by omega) (fr:Nat) (to:Nat) 0 0 fr to (aV fr to b).length 0 [] fr (by omega) (by omega) (by simp)
def ctB:Bs:=[99,111,110,116,101,110,116,45,116,121,112,101]
def L9:Bs:=[99,111,110,116,101,110,116,45,116,114,97,110,115,102,101,114,45,101,110,99,111,100,105,110,103]
def nH (b:Bs) (l:List Fd) (digest:Bool):Bs×Bs×Ps:=
 match dY (aT b l ctB) true with
 |some p=>p
 |none=>if digest then([109,101,115,115,97,103,101],[114,102,99,56,50,50],[])else([116,101,120,116],[112,108,97,105,110],[])
theorem Q3 (b:Bs) (hb:b.length≤1000000) (l:List Fd) (hl:l.length≤1000000) (hv:∀f∈l,f.1.length≤1000000) (digest:Bool) (nn:Int):
  Ret 57 [.ref 0 0, .lst 91 false (l.map fdV), .bool digest] (uC b nn)
   (.agg [.str (nH b l digest).1, .str (nH b l digest).2.1, .lst 176 false ((nH b l digest).2.2.map pV)],uC b nn):=by
 refine M57 (ofBytes b) nn (l.map fdV) digest ?_
 simp only[T57]
 refine aB (lY b hb l hl hv ctB (by simp[ctB])) ?_
 have hle:=bI b l ctB
 simp only[V.getS]
 refine aB (NB (aT b l ctB) (by omega) true) ?_
 unfold nH
 cases dY (aT b l ctB) true with
 |some p=>
  obtain⟨t,u,ps⟩:=p
  simp only[mK,V.getT,List.tail_cons,List.headD_cons,V.getB,if_true,V.cells,V.getS,V.getL]
  exact aD _
 |none=>
  simp only[mK,V.getT,List.tail_cons,List.headD_cons,V.getB,Bool.false_eq_true,if_false]
  cases digest with
  |true=>simp only[if_true];exact aD _
  |false=>simp only[Bool.false_eq_true,if_false];exact aD _
def Ch (b:Bs) (l:List Fd):Bool:=
 match eX l L9 with
 |none=>true
 |some f=>low (lI b f)==[55,98,105,116]||(low (lI b f)==[56,98,105,116]||low (lI b f)==[98,105,110,97,114,121])
theorem Q4 (b:Bs) (hb:b.length≤1000000) (l:List Fd) (hl:l.length≤1000000) (hv:∀f∈l,f.1.length≤1000000) (nn:Int):
  Ret 61 [.ref 0 0, .lst 91 false (l.map fdV)] (uC b nn) (.bool (Ch b l),uC b nn):=by
 refine M61 (ofBytes b) nn (l.map fdV) ?_
 simp only[T61]
 refine aB (AA l hl hv L9 (by simp[L9])) ?_
 unfold Ch
 cases eX l L9 with
 |none=>
  simp only[qG,V.getT,List.tail_cons,List.headD_cons,V.getB,Bool.not_false,if_true]
  exact aD _
 |some f=>
  have h66:Ret 70 [.lst 5 false (ofBytes b), .agg [.str f.1, .int .i64 f.2.1, .int .i64 f.2.2.1, .int .i64 f.2.2.2]] [] (.str (lI b f),[]):=NF b hb f
  have hle:=EN b f
  simp only[qG,V.getT,List.tail_cons,List.headD_cons,V.getB,Bool.not_true,Bool.false_eq_true,if_false,fdV,V.cells,V.getS,V.getI]
  refine aB h66 ?_
  simp only[V.getS]
  refine aB (Ak (lI b f) (by omega)) ?_
  simp only[V.getS,sEq]
  unfold low
  by_cases h1:((lI b f).map dR==[55,98,105,116])=true
  ·simp only[h1,if_true,Bool.true_or];exact aD _
  ·have h1' :((lI b f).map dR==[55,98,105,116])=false:=Bool.eq_false_iff.2 h1
   simp only[h1',Bool.false_eq_true,if_false,Bool.false_or]
   by_cases h2:((lI b f).map dR==[56,98,105,116])=true
   ·simp only[h2,if_true,Bool.true_or];exact aD _
   ·have h2' :((lI b f).map dR==[56,98,105,116])=false:=Bool.eq_false_iff.2 h2
    simp only[h2',Bool.false_eq_true,if_false,Bool.false_or]
    by_cases h3:((lI b f).map dR==[98,105,110,97,114,121])=true
    ·simp only[h3,if_true];exact aD _
    ·have h3' :((lI b f).map dR==[98,105,110,97,114,121])=false:=Bool.eq_false_iff.2 h3
     simp only[h3',Bool.false_eq_true,if_false];exact aD _
end Go.Proofs.YtdoaoaicdimbeaaGreatDoor
end
section
namespace Go.Proofs.YtdoaoaicdimbeaaGreatDoor
open Go.Ev Go
def eF (fr at_ to:Nat):Pt:= .mk 0 (fr,at_) (at_,to) [] [] (0,0)
def bdB:Bs:=[98,111,117,110,100,97,114,121]
def mpB:Bs:=[109,117,108,116,105,112,97,114,116]
def Ma:Bs:=[109,101,115,115,97,103,101]
def Mb:Bs:=[114,102,99,56,50,50]
def dgB:Bs:=[100,105,103,101,115,116]
def sD (fin:Nat):List (Nat×Nat)→Nat
 |[]=>fin
 |d::_=>d.1
def fH (ent:Nat→Nat→Nat→Pt×Nat) (fin:Nat):List (Nat×Nat)→Nat→List Pt×Nat
 |[],n=>([],n)
 |c::r,n=>
  ((ent c.2 (max (sD fin r) c.2) n).1::(fH ent fin r (ent c.2 (max (sD fin r) c.2) n).2).1,(fH ent fin r (ent c.2 (max (sD fin r) c.2) n).2).2)
def eH (b:Bs):Nat→Nat→Nat→Bool→Nat→Pt×Nat
 |0,fr,to,_,n=>(eF fr (eE b fr to).2.toNat to,n)
 |d+1,fr,to,dg,n=>
  let at_:=(eE b fr to).2.toNat
  let v:=nH b (eE b fr to).1 dg
  let bd:=(getF v.2.2 bdB).getD []
  if v.1=mpB∧bd≠[]∧bd.length≤70 then
   let c:=eT b at_ to bd
   if 0<c.1.length∧n+c.1.length≤1000 then
    let q:=fH (fun fr to n=>eH b d fr to (v.2.1==dgB) n) c.2.1 c.1 (n+c.1.length)
    (.mk 1 (fr,at_) (at_,to) q.1 c.1 c.2,q.2)
   else(eF fr at_ to,n)
  else if v.1=Ma∧v.2.1=Mb∧Ch b (eE b fr to).1=true∧n<1000 then
   let k:=eH b d at_ to false (n+1)
   (.mk 2 (fr,at_) (at_,to) [k.1] [] (0,0),k.2)
  else(eF fr at_ to,n)
def Mc (m:Nat) (f:Fd):Prop:=f.1.length≤m
theorem EP {s:Bs} {p:Bs×Nat} (h:fS s=some p):p.1.length≤s.length:=by
 unfold fS at h
 split at h
 ·cases h
 ·split at h
  ·cases h;simp only[List.length_take];omega
  ·cases h
theorem J3 (b:Bs) (st:List Fd×Bool) (x:Ln) (h:∀f∈st.1,Mc b.length f):(∀f∈(jX b st x).1,Mc b.length f)∧(jX b st x).1.length≤st.1.length+1:=by
 unfold jX
 split
 ·split
  ·refine⟨fun f hf=>?_,by simp only[oL];omega⟩
   unfold xO at hf
   split at hf
   ·rename_i g hg
    rcases List.mem_or_eq_of_mem_set hf with hf|rfl
    ·exact h f hf
    ·exact h g (List.mem_of_getElem? hg)
   ·exact h f hf
  ·exact⟨h,by omega⟩
 ·split
  ·exact⟨h,by simp⟩
  ·rename_i p hp
   refine⟨fun f hf=>?_,by simp⟩
   rw[List.mem_append]at hf
   rcases hf with hf|hf
   ·exact h f hf
   ·simp at hf;subst hf
    exact Nat.le_trans (EP hp) (Ax b x)
theorem AC (b:Bs):∀(l:List Ln) (st:List Fd×Bool),(∀f∈st.1,Mc b.length f)→(∀f∈(l.foldl (jX b) st).1,Mc b.length f)∧(l.foldl (jX b) st).1.length≤st.1.length+l.length
 |[],st,h=>⟨h,by simp⟩
 |x::r,st,h=>by
  obtain⟨h1,h2⟩:=J3 b st x h
  obtain⟨h3,h4⟩:=AC b r (jX b st x) h1
  exact⟨h3,by simp only[List.foldl_cons,List.length_cons]at h4 ⊢;omega⟩
theorem qI (b:Bs) (fr to:Int):(∀f∈(eE b fr to).1,f.1.length≤b.length)∧(eE b fr to).1.length≤b.length:=by
 have hl:=cZ fr to b
 unfold eE
 split
 ·simp
 ·split
  ·rename_i k hk
   obtain⟨h1,h2⟩:=AC b ((aV fr to b).take k) ([],false) (by simp)
   exact⟨h1,by simp at h2 ⊢;omega⟩
  ·obtain⟨h1,h2⟩:=AC b (aV fr to b) ([],false) (by simp)
   exact⟨h1,by simp at h2 ⊢;omega⟩
theorem EQ (b:Bs) (fr to:Nat):(((eE b fr to).2.toNat:Nat):Int)=(eE b fr to).2:=by
 unfold eE
 split
 ·simp
 ·split<;>simp
end Go.Proofs.YtdoaoaicdimbeaaGreatDoor
end
section
namespace Go.Proofs.YtdoaoaicdimbeaaGreatDoor
open Go.Ev Go
theorem AD (l:Ps) (m:Nat):∀(q:Ps) (seen:List Bs),(∀p∈q,p.1.length≤m)→(nF l seen q).length≤q.length∧∀p∈nF l seen q,p.1.length≤m
 |[],seen,_=>by simp[nF]
 |p::r,seen,h=>by
  have hp:=h p (by simp)
  have hb:=ED p.1
  have ih:=fun seen=>AD l m r seen fun p hp=>h p (by simp[hp])
  unfold nF
  split
  ·obtain⟨h1,h2⟩:=ih seen
   exact⟨by simp;omega,h2⟩
  ·split
   ·obtain⟨h1,h2⟩:=ih (dS p.1::seen)
    refine⟨by simp;omega,fun x hx=>?_⟩
    rcases List.mem_cons.1 hx with rfl|hx
    ·simp only;omega
    ·exact h2 x hx
   ·obtain⟨h1,h2⟩:=ih (dS p.1::seen)
    exact⟨by simp;omega,h2⟩
theorem fZ {s:Bs} {two:Bool} {t u:Bs} {ps:Ps} (h:dY s two=some (t,u,ps)):ps.length≤s.length∧∀p∈ps,p.1.length≤s.length:=by
 have key:∀q:Bs,q.length≤s.length→(nF (cQ q) [] (cQ q)).length≤s.length∧∀p∈nF (cQ q) [] (cQ q),p.1.length≤s.length:=by
  intro q hq
  obtain⟨g1,g2⟩:=oK q.length q (Nat.le_refl _)
  obtain⟨h1,h2⟩:=AD (cQ q) s.length (cQ q) [] fun p hp=>by have:=g2 p hp;omega
  exact⟨by omega,h2⟩
 have h0:=nE s
 have h1:=jL (dA s)
 unfold dY at h
 split at h
 ·cases h
 ·split at h
  ·split at h
   ·cases h
   ·rename_i s2 hs2
    split at h
    ·cases h
    ·cases h
     have h2:=iP hs2
     have h3:=jL s2
     exact key _ (by omega)
  ·cases h
   exact key _ (by omega)
theorem ER (b:Bs) (l:List Fd) (dg:Bool):(nH b l dg).2.2.length≤b.length∧∀p∈(nH b l dg).2.2,p.1.length≤b.length:=by
 have hv:=bI b l ctB
 unfold nH
 split
 ·rename_i p hp
  obtain⟨t,u,ps⟩:=p
  obtain⟨h1,h2⟩:=fZ hp
  exact⟨by simp only;omega,fun p hp=>by have:=h2 p hp;omega⟩
 ·split<;>simp
end Go.Proofs.YtdoaoaicdimbeaaGreatDoor
end
section
namespace Go.Proofs.YtdoaoaicdimbeaaGreatDoor
open Go.Ev Go
theorem GV {ent:Nat→Nat→Nat→Pt×Nat} (h:∀fr to n,n≤1000→(ent fr to n).2≤1000) (fin:Nat):∀(cs:List (Nat×Nat)) (n:Nat),n≤1000→(fH ent fin cs n).2≤1000
 |[],n,hn=>hn
 |c::r,n,hn=>by
  unfold fH
  exact GV h fin r _ (h _ _ _ hn)
theorem Dm (b:Bs):∀(d fr to:Nat) (dg:Bool) (n:Nat),n≤1000→(eH b d fr to dg n).2≤1000
 |0,fr,to,dg,n,hn=>by simpa[eH]using hn
 |d+1,fr,to,dg,n,hn=>by
  unfold eH
  simp only
  split
  ·split
   ·rename_i h
    exact GV (fun fr to n hn=>Dm b d fr to _ n hn) _ _ _ h.2
   ·exact hn
  ·split
   ·rename_i h
    exact Dm b d _ _ _ _ (by have:=h.2.2.2;omega)
   ·exact hn
def wJ (b:Bs) (d:Nat):Prop:=∀(fr to n:Nat) (dg:Bool),n≤1000→
 Ret 31 [.ref 0 0, .agg [.int .i64 (fr:Nat), .int .i64 (to:Nat)], .int .i64 ((32 - d:Nat):Int), .bool dg] (uC b (n:Nat)) (partV (eH b d fr to dg n).1,uC b ((eH b d fr to dg n).2:Nat))
def J4 (k h1 h2 b1 b2:Int) (kids:List V) (cs:List (Nat×Nat)) (e1 e2:Int):Ob:=
 .cells [.int .i64 k, .int .i64 h1, .int .i64 h2, .int .i64 b1, .int .i64 b2, .lst 36 true kids, .lst 32 false (cs.map cutV), .int .i64 e1, .int .i64 e2]
theorem AE {l:List (Nat×Nat)} {i:Nat} (h:i<l.length):(l.map cutV).getD i .bot=cutV l[i]:=by simp[List.getD,h]
theorem lJ (p:Pt):V.agg [V.int .i64 (V.getI (List.headD (V.cells (partV p)) V.bot)),V.int .i64 (V.getI (List.headD (List.tail (V.cells (partV p))) V.bot)),V.int .i64 (V.getI (List.headD (List.tail (List.tail (V.cells (partV p)))) V.bot)),
  V.int .i64 (V.getI (List.headD (List.tail (List.tail (List.tail (V.cells (partV p))))) V.bot)),V.int .i64 (V.getI (List.headD (List.tail (List.tail (List.tail (List.tail (V.cells (partV p)))))) V.bot)),
  V.lst 36 false (V.getL (List.headD (List.tail (List.tail (List.tail (List.tail (List.tail (V.cells (partV p))))))) V.bot)),V.lst 32 false (V.getL (List.headD (List.tail (List.tail (List.tail (List.tail (List.tail (List.tail (V.cells (partV p)))))))) V.bot)),
  V.int .i64 (V.getI (List.headD (List.tail (List.tail (List.tail (List.tail (List.tail (List.tail (List.tail (V.cells (partV p))))))))) V.bot)),V.int .i64 (V.getI (List.headD (List.tail (List.tail (List.tail (List.tail (List.tail (List.tail (List.tail (List.tail (V.cells (partV p)))))))))) V.bot))]=partV p:=by
 cases p;rw[partV];rfl
theorem GW (x y:Nat):(if((y:Nat):Int)>((x:Nat):Int)then((y:Nat):Int)else((x:Nat):Int))=((max x y:Nat):Int):=by
 split<;>omega
theorem J5 (b:Bs) (d:Nat) (he:wJ b d) (dg:Bool) (cs:List (Nat×Nat)) (hcs:cs.length≤1000) (h1 h2 b1 b2:Int) (e1 e2:Nat):∀(m i:Nat) (kids:List Pt) (n:Nat),cs.length - i=m→i≤cs.length→kids.length=i→n≤1000→
  Evt (fun k j=>L60 (aA cfg k) j ((32 - d:Nat):Int) dg (cs.map cutV) (cs.length:Nat) (i:Nat) (ofBytes b) (n:Nat) 1 h1 h2 b1 b2 (kids.map partV) (cs.map cutV) (e1:Nat) (e2:Nat))
   (.tup [],[.cells [.lst 5 false (ofBytes b), .int .i64 ((fH (fun fr to n=>eH b d fr to dg n) e1 (cs.drop i) n).2:Nat)],J4 1 h1 h2 b1 b2 ((kids++(fH (fun fr to n=>eH b d fr to dg n) e1 (cs.drop i) n).1).map partV) cs (e1:Nat) (e2:Nat)])
 |0,i,kids,n,h,hi,hk,hn=>by
  refine NH ((32 - d:Nat):Int) dg (cs.map cutV) (cs.length:Nat) (i:Nat) (ofBytes b) (n:Nat) 1 h1 h2 b1 b2 (kids.map partV) (cs.map cutV) (e1:Nat) (e2:Nat) ?_
  have g1:¬((i:Int)<(cs.length:Int)):=by omega
  rw[List.drop_eq_nil_of_le (by omega)]
  simp only[Cf,g1,decide_false,Bool.false_eq_true,if_false,fH,List.append_nil,J4]
  exact aD _
 |m+1,i,kids,n,h,hi,hk,hn=>by
  have hlt:i<cs.length:=by omega
  refine NH ((32 - d:Nat):Int) dg (cs.map cutV) (cs.length:Nat) (i:Nat) (ofBytes b) (n:Nat) 1 h1 h2 b1 b2 (kids.map partV) (cs.map cutV) (e1:Nat) (e2:Nat) ?_
  have g1:((i:Int)<(cs.length:Int)):=by omega
  have g2:(0:Int)≤(i:Int):=by omega
  have hw:IntKind.wrap .i64 ((i:Int)+1)=((i+1:Nat):Int):=by rw[wrap64 (by omega) (by omega)];omega
  have hd:cs.drop i=cs[i]::cs.drop (i+1):=List.drop_eq_getElem_cons hlt
  have hap:∀v:V,aW (kids.map partV) [v] 105=true:=fun v=>dM (by simp;omega)
  have hkl:((((kids.map partV).length:Nat):Int)==(((kids.map partV).length:Nat):Int))=true:=by simp
  rw[hd]
  have fin:∀x:Nat,sD e1 (cs.drop (i+1))=x→
    Evt (fun k j=>Option.bind (aA cfg k 31 [.ref 0 0, .agg [.int .i64 (cs[i].2:Nat), .int .i64 ((max x cs[i].2:Nat):Int)], .int .i64 ((32 - d:Nat):Int), .bool dg] (uC b (n:Nat))) fun z0=>
     L60 (aA cfg k) j ((32 - d:Nat):Int) dg (cs.map cutV) (cs.length:Nat) ((i+1:Nat):Int) ((V.getL (List.headD (Ob.getC (List.headD z0.2 Ob.dead)) V.bot))) ((V.getI (List.headD (List.tail (Ob.getC (List.headD z0.2 Ob.dead))) V.bot))) 1 h1 h2 b1 b2 (kids.map partV++[V.agg [V.int .i64 (V.getI (List.headD (V.cells z0.1) V.bot)),V.int .i64 (V.getI (List.headD (List.tail (V.cells z0.1)) V.bot)),V.int .i64 (V.getI (List.headD (List.tail (List.tail (V.cells z0.1))) V.bot)),V.int .i64 (V.getI (List.headD (List.tail (List.tail (List.tail (V.cells z0.1)))) V.bot)),V.int .i64 (V.getI (List.headD (List.tail (List.tail (List.tail (List.tail (V.cells z0.1))))) V.bot)),V.lst 36 false (V.getL (List.headD (List.tail (List.tail (List.tail (List.tail (List.tail (V.cells z0.1)))))) V.bot)),V.lst 32 false (V.getL (List.headD (List.tail (List.tail (List.tail (List.tail (List.tail (List.tail (V.cells z0.1))))))) V.bot)),V.int .i64 (V.getI (List.headD (List.tail (List.tail (List.tail (List.tail (List.tail (List.tail (List.tail (V.cells z0.1)))))))) V.bot)),V.int .i64 (V.getI (List.headD (List.tail (List.tail (List.tail (List.tail (List.tail (List.tail (List.tail (List.tail (V.cells z0.1))))))))) V.bot))]]) (cs.map cutV) (e1:Nat) (e2:Nat))
    (.tup [],[.cells [.lst 5 false (ofBytes b), .int .i64 ((fH (fun fr to n=>eH b d fr to dg n) e1 (cs[i]::cs.drop (i+1)) n).2:Nat)],J4 1 h1 h2 b1 b2 ((kids++(fH (fun fr to n=>eH b d fr to dg n) e1 (cs[i]::cs.drop (i+1)) n).1).map partV) cs (e1:Nat) (e2:Nat)]):=by
   intro x hx
   refine aB (he cs[i].2 (max x cs[i].2) n dg hn) ?_
   have:=J5 b d he dg cs hcs h1 h2 b1 b2 e1 e2 m (i+1) (kids++[(eH b d cs[i].2 (max x cs[i].2) dg n).1]) (eH b d cs[i].2 (max x cs[i].2) dg n).2 (by omega) (by omega) (by simp[hk]) (Dm b d _ _ _ _ hn)
   unfold fH
   rw[hx]
   simp only[lJ]
   simp only[List.map_append,List.map_cons,List.map_nil,List.append_assoc,List.singleton_append]at this ⊢
   exact this
  by_cases hn1:i+1<cs.length
  ·have q1:(((i+1:Nat):Int)<(cs.length:Int)):=by omega
   have q2:(0:Int)≤((i+1:Nat):Int):=by omega
   simp only[Cf,g1,decide_true,if_true,aH g2,List.length_map,cA,hw,q1,aH q2,Int.toNat_natCast,AE hlt,AE hn1,cutV,V.cells,List.headD_cons,List.tail_cons,V.getI,GW,beq_self_eq_true,bL (hap _)]
   exact fin cs[i+1].1 (by rw[List.drop_eq_getElem_cons hn1];rfl)
  ·have q1:¬(((i+1:Nat):Int)<(cs.length:Int)):=by omega
   simp only[Cf,g1,decide_true,decide_false,Bool.false_eq_true,if_false,if_true,aH g2,List.length_map,cA,hw,q1,Int.toNat_natCast,AE hlt,cutV,V.cells,List.headD_cons,List.tail_cons,V.getI,GW,beq_self_eq_true,bL (hap _)]
   exact fin e1 (by rw[List.drop_eq_nil_of_le (by omega)];rfl)
end Go.Proofs.YtdoaoaicdimbeaaGreatDoor
end
section
namespace Go.Proofs.YtdoaoaicdimbeaaGreatDoor
open Go.Ev Go
theorem Q5 (b:Bs) (d:Nat) (he:wJ b d) (dg:Bool) (cs:List (Nat×Nat)) (hcs:cs.length≤1000) (h1 h2 b1 b2:Int) (e1 e2:Nat) (n:Nat) (hn:n≤1000):
  Ret 60 [.ref 0 0, .ref 1 0, .int .i64 ((32 - d:Nat):Int), .bool dg] [.cells [.lst 5 false (ofBytes b), .int .i64 (n:Nat)],J4 1 h1 h2 b1 b2 [] cs (e1:Nat) (e2:Nat)]
   (.tup [],[.cells [.lst 5 false (ofBytes b), .int .i64 ((fH (fun fr to n=>eH b d fr to dg n) e1 cs n).2:Nat)],J4 1 h1 h2 b1 b2 ((fH (fun fr to n=>eH b d fr to dg n) e1 cs n).1.map partV) cs (e1:Nat) (e2:Nat)]):=by
 refine M60 (ofBytes b) (n:Nat) 1 h1 h2 b1 b2 [] (cs.map cutV) (e1:Nat) (e2:Nat) ((32 - d:Nat):Int) dg ?_
 simp only[T60,List.length_map]
 have:=J5 b d he dg cs hcs h1 h2 b1 b2 e1 e2 cs.length 0 [] n (by omega) (by omega) rfl hn
 simpa using this
theorem Q6 (b:Bs) (hb:b.length≤100000):wJ b 0:=by
 intro fr to n dg hn
 refine M31 (ofBytes b) (n:Nat) (fr:Nat) (to:Nat) ((32 - 0:Nat):Int) dg ?_
 simp only[T31]
 refine aB (Cb b (by omega) (fr:Nat) (to:Nat)) ?_
 have h1:((((32 - 0:Nat):Int))==(32:Int))=true:=rfl
 simp only[h1,if_true,V.getT,List.headD_cons,List.tail_cons,V.getI]
 rw[←EQ]
 exact aD _
theorem oN (b bd:Bs):∀(l:List Ln) (out:List (Nat×Nat)) (fr:Nat),(iR b bd l out fr).1.length≤out.length+l.length
 |[],out,fr=>by simp[iR]
 |x::r,out,fr=>by
  unfold iR
  split
  ·have:=oN b bd r out x.2.1;simp only[List.length_cons];omega
  ·split
   ·simp
   ·have:=oN b bd r (out++[(fr,x.2.2)]) x.2.2;simp only[List.length_append,List.length_cons,List.length_nil]at this ⊢;omega
theorem Dn (b:Bs) (fr to:Nat) (bd:Bs):(eT b fr to bd).1.length≤b.length:=by
 have h1:=cZ fr to b
 have h2:=oN b bd (aV fr to b) [] fr
 unfold eT;simp at h2;simp only;omega
theorem cC (k:IntKind) (z:Int):(V.int k z).getI=z:=rfl
theorem bE (t:TypeId) (o:Bool) (l:List V):(V.lst t o l).getL=l:=rfl
theorem aU (x:Bool):(V.bool x).getB=x:=rfl
theorem aR (x:Bs):(V.str x).getS=x:=rfl
theorem bC (l:List V):(V.tup l).getT=l:=rfl
theorem Ie (l:List V):(V.agg l).cells=l:=rfl
theorem O2 (fr at_ to:Nat):partV (eF fr at_ to)= .agg [.int .i64 0, .int .i64 (fr:Nat), .int .i64 (at_:Nat), .int .i64 (at_:Nat), .int .i64 (to:Nat), .lst 36 false [], .lst 32 false [], .int .i64 0, .int .i64 0]:=by
 unfold eF;rw[partV];rfl
theorem bY {α β:Type} {o:Option β} {v:β} {F:Nat→Nat→β→Option α} {r:α} (h:o=some v) (h2:Evt (fun k n=>F k n v) r):Evt (fun k n=>Option.bind o (F k n)) r:=by subst h;exact h2
theorem Q7 (b:Bs) (hb:b.length≤100000) (d:Nat) (hd:d+1≤32) (he:wJ b d):wJ b (d+1):=by
 intro fr to n dg hn
 refine M31 (ofBytes b) (n:Nat) (fr:Nat) (to:Nat) ((32 - (d+1):Nat):Int) dg ?_
 simp only[T31]
 refine aB (Cb b (by omega) (fr:Nat) (to:Nat)) ?_
 obtain⟨k1,k2⟩:=qI b (fr:Nat) (to:Nat)
 have h1:((((32 - (d+1):Nat):Int))==(32:Int))=false:=beq_eq_false_iff_ne.2 (by omega)
 have hw:IntKind.wrap .i64 (((32 - (d+1):Nat):Int)+1)=((32 - d:Nat):Int):=by rw[wrap64 (by omega) (by omega)];omega
 simp only[h1,Bool.false_eq_true,if_false,bC,List.headD_cons,List.tail_cons,cC,bE,hw]
 rw[←EQ]
 generalize hat:(eE b (fr:Nat) (to:Nat)).2.toNat=at_
 generalize hfl:(eE b (fr:Nat) (to:Nat)).1=l at k1 k2
 refine aB (Q3 b (by omega) l (by omega) (fun f hf=>by have:=k1 f hf;omega) dg (n:Nat)) ?_
 obtain⟨m1,m2⟩:=ER b l dg
 generalize hv:nH b l dg=v at m1 m2
 obtain⟨t,u,ps⟩:=v
 simp only at m1 m2
 simp only[Ie,aR,bE,List.headD_cons,List.tail_cons]
 refine aB (QO t u ps (by omega) (fun p hp=>by have:=m2 p hp;omega) bdB (by simp[bdB])) ?_
 simp only[bC,aR,List.headD_cons]
 have hent:eH b (d+1) fr to dg n=(if t=mpB∧(getF ps bdB).getD []≠[]∧((getF ps bdB).getD []).length≤70 then
   if 0<(eT b at_ to ((getF ps bdB).getD [])).1.length∧n+(eT b at_ to ((getF ps bdB).getD [])).1.length≤1000 then
    (Pt.mk 1 (fr,at_) (at_,to) (fH (fun fr to n=>eH b d fr to (u==dgB) n) (eT b at_ to ((getF ps bdB).getD [])).2.1 (eT b at_ to ((getF ps bdB).getD [])).1 (n+(eT b at_ to ((getF ps bdB).getD [])).1.length)).1 (eT b at_ to ((getF ps bdB).getD [])).1 (eT b at_ to ((getF ps bdB).getD [])).2,
     (fH (fun fr to n=>eH b d fr to (u==dgB) n) (eT b at_ to ((getF ps bdB).getD [])).2.1 (eT b at_ to ((getF ps bdB).getD [])).1 (n+(eT b at_ to ((getF ps bdB).getD [])).1.length)).2)
   else(eF fr at_ to,n)
  else if t=Ma∧u=Mb∧Ch b l=true∧n<1000 then(Pt.mk 2 (fr,at_) (at_,to) [(eH b d at_ to false (n+1)).1] [] (0,0),(eH b d at_ to false (n+1)).2)
  else(eF fr at_ to,n)):=by
  rw[eH]
  simp only[hat,hfl,hv]
 rw[hent]
 generalize hbd:(getF ps bdB).getD []=bd
 have hsq:∀x y:Bs,sEq x y=decide (x=y):=fun x y=>by
  by_cases h:x=y
  ·subst h;simp[sEq]
  ·simp[sEq,h]
 have leaf:∀x:Int,x=(n:Int)→Evt (fun _ _=>some (V.agg [.int .i64 0, .int .i64 (fr:Nat), .int .i64 (at_:Nat), .int .i64 (at_:Nat), .int .i64 (to:Nat), .lst 36 false [], .lst 32 false [], .int .i64 0, .int .i64 0],
   [Ob.cells [.lst 5 false (ofBytes b), .int .i64 x]])) (partV (eF fr at_ to),uC b (n:Nat)):=by
  intro x hx
  subst hx
  rw[O2]
  exact aD _
 have hy3:(if sEq t [109,117,108,116,105,112,97,114,116]=true then(if(!(sEq bd []))=true then some (decide (((bd.length:Nat):Int)≤(70:Int)))else some false)else some false)=some (decide (t=mpB∧bd≠[]∧bd.length≤70)):=by
  have e1:sEq t [109,117,108,116,105,112,97,114,116]=decide (t=mpB):=hsq t mpB
  rw[e1,hsq bd []]
  by_cases c1:t=mpB
  ·by_cases c2:bd=[]
   ·simp[c1,c2]
   ·by_cases c3:bd.length≤70
    ·have:((bd.length:Nat):Int)≤70:=by omega
     simp[c1,c2,c3,this]
    ·have:¬(((bd.length:Nat):Int)≤70):=by omega
     simp[c1,c2,c3,this]
  ·simp[c1]
 refine bY hy3 ?_
 by_cases hc:t=mpB∧bd≠[]∧bd.length≤70
 ·rw[if_pos hc]
  simp only[decide_eq_true hc,if_true]
  refine aB (Q2 b bd (by omega) (by have:=hc.2.2;omega) (n:Nat) at_ to) ?_
  have hcl:=Dn b at_ to bd
  generalize hcu:eT b at_ to bd=cu at hcl
  obtain⟨cs,e1,e2⟩:=cu
  simp only at hcl
  have hwn:IntKind.wrap .i64 ((n:Int)+((cs.length:Nat):Int))=((n+cs.length:Nat):Int):=by rw[wrap64 (by omega) (by omega)];omega
  simp only[V.getT,List.headD_cons,List.tail_cons,V.getB,V.getL,uC,Ob.getC,V.getI,cutV,V.cells,List.length_map,hwn]
  have hy5:(if decide (0<cs.length)=true then some (decide (((n+cs.length:Nat):Int)≤(1000:Int)))else some false)=some (decide (0<cs.length∧n+cs.length≤1000)):=by
   by_cases c1:0<cs.length
   ·by_cases c2:n+cs.length≤1000
    ·have:((n+cs.length:Nat):Int)≤1000:=by omega
     simp only[c1,c2,this,decide_true,if_true,and_self]
    ·have:¬(((n+cs.length:Nat):Int)≤1000):=by omega
     simp only[c1,c2,this,decide_true,decide_false,if_true,and_false]
   ·simp only[c1,decide_false,Bool.false_eq_true,if_false,false_and]
  refine bY hy5 ?_
  by_cases hc2:0<cs.length∧n+cs.length≤1000
  ·rw[if_pos hc2]
   simp only[decide_eq_true hc2,if_true]
   refine aB (Q5 b d he (u==dgB) cs (by omega) (fr:Nat) (at_:Nat) (at_:Nat) (to:Nat) e1 e2 (n+cs.length) hc2.2) ?_
   rw[partV,vP]
   exact aD _
  ·rw[if_neg hc2]
   simp only[decide_eq_false hc2,Bool.false_eq_true,if_false]
   exact leaf _ rfl
 ·rw[if_neg hc]
  simp only[decide_eq_false hc,Bool.false_eq_true,if_false]
  by_cases t1:t=Ma
  ·by_cases t2:u=Mb
   ·have s1:sEq t [109,101,115,115,97,103,101]=true:=by rw[hsq];exact decide_eq_true t1
    have s2:sEq u [114,102,99,56,50,50]=true:=by rw[hsq];exact decide_eq_true t2
    simp only[s1,s2,if_true]
    refine aB (Q4 b (by omega) l (by omega) (fun f hf=>by have:=k1 f hf;omega) (n:Nat)) ?_
    simp only[aU,uC,Ob.getC,List.headD_cons,List.tail_cons,cC,bE]
    by_cases t3:Ch b l=true
    ·by_cases t4:n<1000
     ·have t4' :((n:Nat):Int)<1000:=by omega
      have hwn:IntKind.wrap .i64 ((n:Int)+1)=((n+1:Nat):Int):=by rw[wrap64 (by omega) (by omega)];omega
      rw[if_pos ⟨t1,t2,t3,t4⟩]
      simp only[t3,if_true,t4',decide_true,hwn]
      refine aB (he at_ to (n+1) false (by omega)) ?_
      simp only[lJ]
      rw[partV,vO,vO]
      exact aD _
     ·have t4' :¬(((n:Nat):Int)<1000):=by omega
      rw[if_neg (fun h=>t4 h.2.2.2)]
      simp only[t3,if_true,t4',decide_false,Bool.false_eq_true,if_false]
      exact leaf _ rfl
    ·rw[if_neg (fun h=>t3 h.2.2.1)]
     simp only[t3,Bool.false_eq_true,if_false]
     exact leaf _ rfl
   ·rw[if_neg (fun h=>t2 h.2.1)]
    have s1:sEq t [109,101,115,115,97,103,101]=true:=by rw[hsq];exact decide_eq_true t1
    have s2:sEq u [114,102,99,56,50,50]=false:=by rw[hsq];exact decide_eq_false t2
    simp only[s1,s2,if_true,Bool.false_eq_true,if_false]
    exact leaf _ rfl
  ·rw[if_neg (fun h=>t1 h.1)]
   have s1:sEq t [109,101,115,115,97,103,101]=false:=by rw[hsq];exact decide_eq_false t1
   simp only[s1,Bool.false_eq_true,if_false]
   exact leaf _ rfl
theorem GX (b:Bs) (hb:b.length≤100000):∀d,d≤32→wJ b d
 |0,_=>Q6 b hb
 |d+1,h=>Q7 b hb d h (GX b hb d (by omega))
end Go.Proofs.YtdoaoaicdimbeaaGreatDoor
end
section
namespace Go.Proofs.YtdoaoaicdimbeaaGreatDoor
open Go.Ev Go
theorem NI (b:Bs) (hb:b.length≤100000):
  Ret 14 [.lst 5 false (ofBytes b)] [] (.tup [partV (eH b 32 0 b.length false 1).1, .int .i64 0],[]):=by
 refine M14 (ofBytes b) ?_
 have h1:¬(((b.length:Nat):Int)>67108864):=by omega
 simp only[T14,bB,h1,decide_false,Bool.false_eq_true,if_false]
 have he:Ret 31 [.ref 0 0, .agg [.int .i64 (0:Int), .int .i64 (b.length:Nat)], .int .i64 (0:Int), .bool false] [.cells [.lst 5 false (ofBytes b), .int .i64 (1:Int)]] (partV (eH b 32 0 b.length false 1).1,uC b ((eH b 32 0 b.length false 1).2:Nat)):=
  GX b hb 32 (by omega) 0 b.length 1 false (by omega)
 refine aB he ?_
 simp only[lJ]
 exact aD _
mutual
def cntF:Pt→Nat
 | .mk _ _ _ kids _ _=>1+jY kids
def jY:List Pt→Nat
 |[]=>0
 |p::r=>cntF p+jY r
end
theorem J6 (p:Pt):1≤cntF p:=by cases p;rw[cntF];omega
theorem ES:∀l:List Pt,l.length≤jY l
 |[]=>by simp[jY]
 |p::r=>by have:=ES r;have:=J6 p;rw[jY,List.length_cons];omega
end Go.Proofs.YtdoaoaicdimbeaaGreatDoor
end
section
namespace Go.Proofs.YtdoaoaicdimbeaaGreatDoor
open Go.Ev Go
open List (headD tail getD length drop take)
open V (getI getL getT getS getB)
set_option maxRecDepth 100000
variable (call : FuncId → Fun) (icall : aO (V × List Ob)) (again : List It → St → Option (V × List Ob))
def T36 (call:FuncId→Fun) (a0:List V) (a1:Int) (a2:Int) (a3:Int) (a4:Int) (a5:Int) (a6:List V) (a7:List V) (a8:Int) (a9:Int):Option (V×List Ob):=
 Option.bind (call 32 [(V.lst 5 false a0),(V.agg [(V.int .i64 a2),(V.int .i64 a3)])] []) fun z0=>
 Option.bind (call 34 [(V.lst 5 false a0),(V.lst 91 false (getL (headD (getT z0.1) V.bot))),(V.str [99,111,110,116,101,110,116,45,116,114,97,110,115,102,101,114,45,101,110,99,111,100,105,110,103])] []) fun z1=>
 Option.bind (call 73 [(V.str (getS z1.1))] []) fun z2=>
 if(!(sEq (getS z2.1) []))=true then
 some ((V.str (getS z2.1)),[])
 else
 some ((V.str [55,98,105,116]),[])
def A36 (a0:List V) (a1:Int) (a2:Int) (a3:Int) (a4:Int) (a5:Int) (a6:List V) (a7:List V) (a8:Int) (a9:Int):List V:=[V.lst 5 false a0,V.agg [V.int IntKind.i64 a1,V.int IntKind.i64 a2,V.int IntKind.i64 a3,V.int IntKind.i64 a4,V.int IntKind.i64 a5,V.lst 36 false a6,V.lst 32 false a7,V.int IntKind.i64 a8,V.int IntKind.i64 a9]]
theorem E36 (a0:List V) (a1:Int) (a2:Int) (a3:Int) (a4:Int) (a5:Int) (a6:List V) (a7:List V) (a8:Int) (a9:Int):GO 36 Tryz.f36 (A36 a0 a1 a2 a3 a4 a5 a6 a7 a8 a9) [] call icall again=T36 call a0 a1 a2 a3 a4 a5 a6 a7 a8 a9:=by kernel_rfl
theorem C36 (k:Nat) (a0:List V) (a1:Int) (a2:Int) (a3:Int) (a4:Int) (a5:Int) (a6:List V) (a7:List V) (a8:Int) (a9:Int):aA cfg (k+1) 36 (A36 a0 a1 a2 a3 a4 a5 a6 a7 a8 a9) []=T36 (aA cfg k) a0 a1 a2 a3 a4 a5 a6 a7 a8 a9:=
 (show aA cfg (k+1) 36 (A36 a0 a1 a2 a3 a4 a5 a6 a7 a8 a9) []=GO 36 Tryz.f36 (A36 a0 a1 a2 a3 a4 a5 a6 a7 a8 a9) [] (aA cfg k) (aE cfg (aA cfg k) 20) (RN 36 Tryz.f36 [] (aA cfg k) (aE cfg (aA cfg k) 20) k)by kernel_rfl).trans (E36 _ _ _ a0 a1 a2 a3 a4 a5 a6 a7 a8 a9)
theorem M36 (a0:List V) (a1:Int) (a2:Int) (a3:Int) (a4:Int) (a5:Int) (a6:List V) (a7:List V) (a8:Int) (a9:Int) {r:V×List Ob} (h:Evt (fun k n=>T36 (aA cfg k) a0 a1 a2 a3 a4 a5 a6 a7 a8 a9) r):Ret 36 [V.lst 5 false a0,V.agg [V.int IntKind.i64 a1,V.int IntKind.i64 a2,V.int IntKind.i64 a3,V.int IntKind.i64 a4,V.int IntKind.i64 a5,V.lst 36 false a6,V.lst 32 false a7,V.int IntKind.i64 a8,V.int IntKind.i64 a9]] [] r:=aK (g:=fun k n=>T36 (aA cfg k) a0 a1 a2 a3 a4 a5 a6 a7 a8 a9) (fun k=>C36 k a0 a1 a2 a3 a4 a5 a6 a7 a8 a9) h
def T43 (call:FuncId→Fun) (a0:List V) (a1:Int) (a2:Int) (a3:Int) (a4:Int) (a5:Int) (a6:List V) (a7:List V) (a8:Int) (a9:Int):Option (V×List Ob):=
 Option.bind (call 83 [(V.lst 5 false a0),(V.agg [(V.int .i64 a1),(V.int .i64 a2),(V.int .i64 a3),(V.int .i64 a4),(V.int .i64 a5),(V.lst 36 false a6),(V.lst 32 false a7),(V.int .i64 a8),(V.int .i64 a9)]),(V.str [99,111,110,116,101,110,116,45,116,121,112,101]),(V.bool true)] []) fun z0=>
 Option.bind (if(sEq (getS (headD (V.cells (headD (getT z0.1) V.bot)) V.bot)) [109,101,115,115,97,103,101])=true then
 some (sEq (getS (headD (tail (V.cells (headD (getT z0.1) V.bot))) V.bot)) [114,102,99,56,50,50])
 else
 some false) fun y1=>
 if(a1==(1:Int))=true then
 Option.bind (if(getB (headD (tail (getT z0.1)) V.bot))=true then
 some (sEq (getS (headD (V.cells (headD (getT z0.1) V.bot)) V.bot)) [109,117,108,116,105,112,97,114,116])
 else
 some false) fun y2=>
 if y2=true then
 Option.bind (call 84 [(V.lst 176 false (getL (headD (tail (tail (V.cells (headD (getT z0.1) V.bot)))) V.bot)))] []) fun z3=>
 some ((V.tup [(V.str (getS (headD (V.cells (headD (getT z0.1) V.bot)) V.bot))),(V.str (getS (headD (tail (V.cells (headD (getT z0.1) V.bot))) V.bot))),(V.str (getS z3.1))]),[])
 else
 some ((V.tup [(V.str [109,117,108,116,105,112,97,114,116]),(V.str [109,105,120,101,100]),(V.str [78,73,76])]),[])
 else
 if(a1==(2:Int))=true then
 Option.bind (if(getB (headD (tail (getT z0.1)) V.bot))=true then
 some y1
 else
 some false) fun y2=>
 if y2=true then
 Option.bind (call 84 [(V.lst 176 false (getL (headD (tail (tail (V.cells (headD (getT z0.1) V.bot)))) V.bot)))] []) fun z3=>
 some ((V.tup [(V.str (getS (headD (V.cells (headD (getT z0.1) V.bot)) V.bot))),(V.str (getS (headD (tail (V.cells (headD (getT z0.1) V.bot))) V.bot))),(V.str (getS z3.1))]),[])
 else
 some ((V.tup [(V.str [109,101,115,115,97,103,101]),(V.str [114,102,99,56,50,50]),(V.str [78,73,76])]),[])
 else
 if(!(getB (headD (tail (getT z0.1)) V.bot)))=true then
 Option.bind (call 45 [(V.str [99,104,97,114,115,101,116])] []) fun z2=>
 Option.bind (call 45 [(V.str [117,115,45,97,115,99,105,105])] []) fun z3=>
 Option.bind (call 50 [(V.lst 9 false [(V.str (getS z2.1)),(V.str (getS z3.1))])] []) fun z4=>
 some ((V.tup [(V.str [116,101,120,116]),(V.str [112,108,97,105,110]),(V.str (getS z4.1))]),[])
 else
 Option.bind (if(sEq (getS (headD (V.cells (headD (getT z0.1) V.bot)) V.bot)) [109,117,108,116,105,112,97,114,116])=false then
 some y1
 else
 some true) fun y2=>
 if y2=true then
 some ((V.tup [(V.str [97,112,112,108,105,99,97,116,105,111,110]),(V.str [111,99,116,101,116,45,115,116,114,101,97,109]),(V.str [78,73,76])]),[])
 else
 Option.bind (call 84 [(V.lst 176 false (getL (headD (tail (tail (V.cells (headD (getT z0.1) V.bot)))) V.bot)))] []) fun z3=>
 some ((V.tup [(V.str (getS (headD (V.cells (headD (getT z0.1) V.bot)) V.bot))),(V.str (getS (headD (tail (V.cells (headD (getT z0.1) V.bot))) V.bot))),(V.str (getS z3.1))]),[])
def A43 (a0:List V) (a1:Int) (a2:Int) (a3:Int) (a4:Int) (a5:Int) (a6:List V) (a7:List V) (a8:Int) (a9:Int):List V:=[V.lst 5 false a0,V.agg [V.int IntKind.i64 a1,V.int IntKind.i64 a2,V.int IntKind.i64 a3,V.int IntKind.i64 a4,V.int IntKind.i64 a5,V.lst 36 false a6,V.lst 32 false a7,V.int IntKind.i64 a8,V.int IntKind.i64 a9]]
theorem E43 (a0:List V) (a1:Int) (a2:Int) (a3:Int) (a4:Int) (a5:Int) (a6:List V) (a7:List V) (a8:Int) (a9:Int):GO 43 Tryz.f43 (A43 a0 a1 a2 a3 a4 a5 a6 a7 a8 a9) [] call icall again=T43 call a0 a1 a2 a3 a4 a5 a6 a7 a8 a9:=by kernel_rfl
theorem C43 (k:Nat) (a0:List V) (a1:Int) (a2:Int) (a3:Int) (a4:Int) (a5:Int) (a6:List V) (a7:List V) (a8:Int) (a9:Int):aA cfg (k+1) 43 (A43 a0 a1 a2 a3 a4 a5 a6 a7 a8 a9) []=T43 (aA cfg k) a0 a1 a2 a3 a4 a5 a6 a7 a8 a9:=
 (show aA cfg (k+1) 43 (A43 a0 a1 a2 a3 a4 a5 a6 a7 a8 a9) []=GO 43 Tryz.f43 (A43 a0 a1 a2 a3 a4 a5 a6 a7 a8 a9) [] (aA cfg k) (aE cfg (aA cfg k) 20) (RN 43 Tryz.f43 [] (aA cfg k) (aE cfg (aA cfg k) 20) k)by kernel_rfl).trans (E43 _ _ _ a0 a1 a2 a3 a4 a5 a6 a7 a8 a9)
theorem M43 (a0:List V) (a1:Int) (a2:Int) (a3:Int) (a4:Int) (a5:Int) (a6:List V) (a7:List V) (a8:Int) (a9:Int) {r:V×List Ob} (h:Evt (fun k n=>T43 (aA cfg k) a0 a1 a2 a3 a4 a5 a6 a7 a8 a9) r):Ret 43 [V.lst 5 false a0,V.agg [V.int IntKind.i64 a1,V.int IntKind.i64 a2,V.int IntKind.i64 a3,V.int IntKind.i64 a4,V.int IntKind.i64 a5,V.lst 36 false a6,V.lst 32 false a7,V.int IntKind.i64 a8,V.int IntKind.i64 a9]] [] r:=aK (g:=fun k n=>T43 (aA cfg k) a0 a1 a2 a3 a4 a5 a6 a7 a8 a9) (fun k=>C43 k a0 a1 a2 a3 a4 a5 a6 a7 a8 a9) h
def T45 (call:FuncId→Fun) (a0:List UInt8):Option (V×List Ob):=
 if(decide (((length a0:Nat):Int)≤(1000:Int)))=true then
 Option.bind (call 86 [(V.str a0),(V.clo (Fn.func 87) [] [])] []) fun z0=>
 if(getB z0.1)=true then
 Option.bind (call 88 [(V.str a0)] []) fun z1=>
 some ((V.str (getS z1.1)),[])
 else
 Option.bind (call 47 [(V.int .i64 ((length a0:Nat):Int))] []) fun z1=>
 chk (bO [123] (getS z1.1)) (chk (bO ([123]++(getS z1.1)) [125,13,10]) (chk (bO (([123]++(getS z1.1))++[125,13,10]) a0) (Option.bind (call 89 [(V.str a0),(V.int .u8 0)] []) fun z2=>
 if(decide ((getI z2.1)≥(0:Int)))=true then
 chk (bO [126] ((([123]++(getS z1.1))++[125,13,10])++a0)) (some ((V.str ([126]++((([123]++(getS z1.1))++[125,13,10])++a0))),[]))
 else
 some ((V.str ((([123]++(getS z1.1))++[125,13,10])++a0)),[]))))
 else
 Option.bind (call 47 [(V.int .i64 ((length a0:Nat):Int))] []) fun z0=>
 chk (bO [123] (getS z0.1)) (chk (bO ([123]++(getS z0.1)) [125,13,10]) (chk (bO (([123]++(getS z0.1))++[125,13,10]) a0) (Option.bind (call 89 [(V.str a0),(V.int .u8 0)] []) fun z1=>
 if(decide ((getI z1.1)≥(0:Int)))=true then
 chk (bO [126] ((([123]++(getS z0.1))++[125,13,10])++a0)) (some ((V.str ([126]++((([123]++(getS z0.1))++[125,13,10])++a0))),[]))
 else
 some ((V.str ((([123]++(getS z0.1))++[125,13,10])++a0)),[]))))
def A45 (a0:List UInt8):List V:=[V.str a0]
theorem E45 (a0:List UInt8):GO 45 Tryz.f45 (A45 a0) [] call icall again=T45 call a0:=by kernel_rfl
theorem C45 (k:Nat) (a0:List UInt8):aA cfg (k+1) 45 (A45 a0) []=T45 (aA cfg k) a0:=
 (show aA cfg (k+1) 45 (A45 a0) []=GO 45 Tryz.f45 (A45 a0) [] (aA cfg k) (aE cfg (aA cfg k) 20) (RN 45 Tryz.f45 [] (aA cfg k) (aE cfg (aA cfg k) 20) k)by kernel_rfl).trans (E45 _ _ _ a0)
theorem M45 (a0:List UInt8) {r:V×List Ob} (h:Evt (fun k n=>T45 (aA cfg k) a0) r):Ret 45 [V.str a0] [] r:=aK (g:=fun k n=>T45 (aA cfg k) a0) (fun k=>C45 k a0) h
def T46 (call:FuncId→Fun) (a0:List V) (a1:Int) (a2:Int) (a3:Int) (a4:Int) (a5:Int) (a6:List V) (a7:List V) (a8:Int) (a9:Int) (a10:List UInt8):Option (V×List Ob):=
 Option.bind (call 32 [(V.lst 5 false a0),(V.agg [(V.int .i64 a2),(V.int .i64 a3)])] []) fun z0=>
 Option.bind (call 33 [(V.lst 91 false (getL (headD (getT z0.1) V.bot))),(V.str a10)] []) fun z1=>
 Option.bind (call 34 [(V.lst 5 false a0),(V.lst 91 false (getL (headD (getT z0.1) V.bot))),(V.str a10)] []) fun z2=>
 Option.bind (call 52 [(V.str (getS z2.1)),(V.bool (getB (headD (tail (getT z1.1)) V.bot)))] []) fun z3=>
 some ((V.str (getS z3.1)),[])
def A46 (a0:List V) (a1:Int) (a2:Int) (a3:Int) (a4:Int) (a5:Int) (a6:List V) (a7:List V) (a8:Int) (a9:Int) (a10:List UInt8):List V:=[V.lst 5 false a0,V.agg [V.int IntKind.i64 a1,V.int IntKind.i64 a2,V.int IntKind.i64 a3,V.int IntKind.i64 a4,V.int IntKind.i64 a5,V.lst 36 false a6,V.lst 32 false a7,V.int IntKind.i64 a8,V.int IntKind.i64 a9],V.str a10]
theorem E46 (a0:List V) (a1:Int) (a2:Int) (a3:Int) (a4:Int) (a5:Int) (a6:List V) (a7:List V) (a8:Int) (a9:Int) (a10:List UInt8):GO 46 Tryz.f46 (A46 a0 a1 a2 a3 a4 a5 a6 a7 a8 a9 a10) [] call icall again=T46 call a0 a1 a2 a3 a4 a5 a6 a7 a8 a9 a10:=by kernel_rfl
theorem C46 (k:Nat) (a0:List V) (a1:Int) (a2:Int) (a3:Int) (a4:Int) (a5:Int) (a6:List V) (a7:List V) (a8:Int) (a9:Int) (a10:List UInt8):aA cfg (k+1) 46 (A46 a0 a1 a2 a3 a4 a5 a6 a7 a8 a9 a10) []=T46 (aA cfg k) a0 a1 a2 a3 a4 a5 a6 a7 a8 a9 a10:=
 (show aA cfg (k+1) 46 (A46 a0 a1 a2 a3 a4 a5 a6 a7 a8 a9 a10) []=GO 46 Tryz.f46 (A46 a0 a1 a2 a3 a4 a5 a6 a7 a8 a9 a10) [] (aA cfg k) (aE cfg (aA cfg k) 20) (RN 46 Tryz.f46 [] (aA cfg k) (aE cfg (aA cfg k) 20) k)by kernel_rfl).trans (E46 _ _ _ a0 a1 a2 a3 a4 a5 a6 a7 a8 a9 a10)
theorem M46 (a0:List V) (a1:Int) (a2:Int) (a3:Int) (a4:Int) (a5:Int) (a6:List V) (a7:List V) (a8:Int) (a9:Int) (a10:List UInt8) {r:V×List Ob} (h:Evt (fun k n=>T46 (aA cfg k) a0 a1 a2 a3 a4 a5 a6 a7 a8 a9 a10) r):Ret 46 [V.lst 5 false a0,V.agg [V.int IntKind.i64 a1,V.int IntKind.i64 a2,V.int IntKind.i64 a3,V.int IntKind.i64 a4,V.int IntKind.i64 a5,V.lst 36 false a6,V.lst 32 false a7,V.int IntKind.i64 a8,V.int IntKind.i64 a9],V.str a10] [] r:=aK (g:=fun k n=>T46 (aA cfg k) a0 a1 a2 a3 a4 a5 a6 a7 a8 a9 a10) (fun k=>C46 k a0 a1 a2 a3 a4 a5 a6 a7 a8 a9 a10) h
def T50 (call:FuncId→Fun) (a0:List V):Option (V×List Ob):=
 Option.bind (call 85 [(V.lst 9 false a0),(V.str [32])] []) fun z0=>
 chk (bO [40] (getS z0.1)) (chk (bO ([40]++(getS z0.1)) [41]) (some ((V.str (([40]++(getS z0.1))++[41])),[])))
def A50 (a0:List V):List V:=[V.lst 9 false a0]
theorem E50 (a0:List V):GO 50 Tryz.f50 (A50 a0) [] call icall again=T50 call a0:=by kernel_rfl
theorem C50 (k:Nat) (a0:List V):aA cfg (k+1) 50 (A50 a0) []=T50 (aA cfg k) a0:=
 (show aA cfg (k+1) 50 (A50 a0) []=GO 50 Tryz.f50 (A50 a0) [] (aA cfg k) (aE cfg (aA cfg k) 20) (RN 50 Tryz.f50 [] (aA cfg k) (aE cfg (aA cfg k) 20) k)by kernel_rfl).trans (E50 _ _ _ a0)
theorem M50 (a0:List V) {r:V×List Ob} (h:Evt (fun k n=>T50 (aA cfg k) a0) r):Ret 50 [V.lst 9 false a0] [] r:=aK (g:=fun k n=>T50 (aA cfg k) a0) (fun k=>C50 k a0) h
def T52 (call:FuncId→Fun) (a0:List UInt8) (a1:Bool):Option (V×List Ob):=
 if(!a1)=true then
 some ((V.str [78,73,76]),[])
 else
 Option.bind (call 45 [(V.str a0)] []) fun z0=>
 some ((V.str (getS z0.1)),[])
def A52 (a0:List UInt8) (a1:Bool):List V:=[V.str a0,V.bool a1]
theorem E52 (a0:List UInt8) (a1:Bool):GO 52 Tryz.f52 (A52 a0 a1) [] call icall again=T52 call a0 a1:=by kernel_rfl
theorem C52 (k:Nat) (a0:List UInt8) (a1:Bool):aA cfg (k+1) 52 (A52 a0 a1) []=T52 (aA cfg k) a0 a1:=
 (show aA cfg (k+1) 52 (A52 a0 a1) []=GO 52 Tryz.f52 (A52 a0 a1) [] (aA cfg k) (aE cfg (aA cfg k) 20) (RN 52 Tryz.f52 [] (aA cfg k) (aE cfg (aA cfg k) 20) k)by kernel_rfl).trans (E52 _ _ _ a0 a1)
theorem M52 (a0:List UInt8) (a1:Bool) {r:V×List Ob} (h:Evt (fun k n=>T52 (aA cfg k) a0 a1) r):Ret 52 [V.str a0,V.bool a1] [] r:=aK (g:=fun k n=>T52 (aA cfg k) a0 a1) (fun k=>C52 k a0 a1) h
def T83 (call:FuncId→Fun) (a0:List V) (a1:Int) (a2:Int) (a3:Int) (a4:Int) (a5:Int) (a6:List V) (a7:List V) (a8:Int) (a9:Int) (a10:List UInt8) (a11:Bool):Option (V×List Ob):=
 Option.bind (call 32 [(V.lst 5 false a0),(V.agg [(V.int .i64 a2),(V.int .i64 a3)])] []) fun z0=>
 Option.bind (call 34 [(V.lst 5 false a0),(V.lst 91 false (getL (headD (getT z0.1) V.bot))),(V.str a10)] []) fun z1=>
 Option.bind (call 99 [(V.str (getS z1.1)),(V.bool a11)] []) fun z2=>
 some ((V.tup [(V.agg [(V.str (getS (headD (V.cells (headD (getT z2.1) V.bot)) V.bot))),(V.str (getS (headD (tail (V.cells (headD (getT z2.1) V.bot))) V.bot))),(V.lst 176 false (getL (headD (tail (tail (V.cells (headD (getT z2.1) V.bot)))) V.bot)))]),(V.bool (getB (headD (tail (getT z2.1)) V.bot)))]),[])
def A83 (a0:List V) (a1:Int) (a2:Int) (a3:Int) (a4:Int) (a5:Int) (a6:List V) (a7:List V) (a8:Int) (a9:Int) (a10:List UInt8) (a11:Bool):List V:=[V.lst 5 false a0,V.agg [V.int IntKind.i64 a1,V.int IntKind.i64 a2,V.int IntKind.i64 a3,V.int IntKind.i64 a4,V.int IntKind.i64 a5,V.lst 36 false a6,V.lst 32 false a7,V.int IntKind.i64 a8,V.int IntKind.i64 a9],V.str a10,V.bool a11]
theorem E83 (a0:List V) (a1:Int) (a2:Int) (a3:Int) (a4:Int) (a5:Int) (a6:List V) (a7:List V) (a8:Int) (a9:Int) (a10:List UInt8) (a11:Bool):GO 83 Tryz.f83 (A83 a0 a1 a2 a3 a4 a5 a6 a7 a8 a9 a10 a11) [] call icall again=T83 call a0 a1 a2 a3 a4 a5 a6 a7 a8 a9 a10 a11:=by kernel_rfl
theorem C83 (k:Nat) (a0:List V) (a1:Int) (a2:Int) (a3:Int) (a4:Int) (a5:Int) (a6:List V) (a7:List V) (a8:Int) (a9:Int) (a10:List UInt8) (a11:Bool):aA cfg (k+1) 83 (A83 a0 a1 a2 a3 a4 a5 a6 a7 a8 a9 a10 a11) []=T83 (aA cfg k) a0 a1 a2 a3 a4 a5 a6 a7 a8 a9 a10 a11:=
 (show aA cfg (k+1) 83 (A83 a0 a1 a2 a3 a4 a5 a6 a7 a8 a9 a10 a11) []=GO 83 Tryz.f83 (A83 a0 a1 a2 a3 a4 a5 a6 a7 a8 a9 a10 a11) [] (aA cfg k) (aE cfg (aA cfg k) 20) (RN 83 Tryz.f83 [] (aA cfg k) (aE cfg (aA cfg k) 20) k)by kernel_rfl).trans (E83 _ _ _ a0 a1 a2 a3 a4 a5 a6 a7 a8 a9 a10 a11)
theorem M83 (a0:List V) (a1:Int) (a2:Int) (a3:Int) (a4:Int) (a5:Int) (a6:List V) (a7:List V) (a8:Int) (a9:Int) (a10:List UInt8) (a11:Bool) {r:V×List Ob} (h:Evt (fun k n=>T83 (aA cfg k) a0 a1 a2 a3 a4 a5 a6 a7 a8 a9 a10 a11) r):Ret 83 [V.lst 5 false a0,V.agg [V.int IntKind.i64 a1,V.int IntKind.i64 a2,V.int IntKind.i64 a3,V.int IntKind.i64 a4,V.int IntKind.i64 a5,V.lst 36 false a6,V.lst 32 false a7,V.int IntKind.i64 a8,V.int IntKind.i64 a9],V.str a10,V.bool a11] [] r:=aK (g:=fun k n=>T83 (aA cfg k) a0 a1 a2 a3 a4 a5 a6 a7 a8 a9 a10 a11) (fun k=>C83 k a0 a1 a2 a3 a4 a5 a6 a7 a8 a9 a10 a11) h
def ET (call:FuncId→Fun) (ag0:List V→List V→Int→Int→Option (V×List Ob)) (l0:List V) (l1:List V) (i2:Int) (i3:Int):Option (V×List Ob):=
 if(decide (i3<i2))=true then
 chk (decide (0≤i3)) (chk (decide (i3<((length l1:Nat):Int))) (Option.bind (call 45 [(V.str (getS (headD (V.cells (getD l1 (Int.toNat i3) V.bot)) V.bot)))] []) fun z0=>
 Option.bind (call 45 [(V.str (getS (headD (tail (V.cells (getD l1 (Int.toNat i3) V.bot))) V.bot)))] []) fun z1=>
 chk (aW l0 [(V.str (getS z0.1)),(V.str (getS z1.1))] 17) ((ag0 ((l0++[(V.str (getS z0.1)),(V.str (getS z1.1))])) (l1) (i2) ((IntKind.wrap .i64 (i3+(1:Int))))))))
 else
 Option.bind (call 50 [(V.lst 9 false l0)] []) fun z0=>
 some ((V.str (getS z0.1)),[])
def T84 (call:FuncId→Fun) (ag0:List V→List V→Int→Int→Option (V×List Ob)) (a0:List V):Option (V×List Ob):=
 if(((length a0:Nat):Int)==(0:Int))=true then
 some ((V.str [78,73,76]),[])
 else
 (ag0 ([]) (a0) (((length a0:Nat):Int)) ((0:Int)))
def A84 (a0:List V):List V:=[V.lst 176 false a0]
def Ci (l0:List V) (l1:List V) (i2:Int) (i3:Int):St:=⟨[V.bot,V.bot,V.bot,(V.lst 9 true l0),V.bot,V.bot,V.bot,V.bot,V.bot,(V.lst 176 false l1),(V.int IntKind.i64 i2),(V.int IntKind.i64 i3)]++List.replicate 15 V.bot,[]⟩
theorem Q8 (l0:List V) (l1:List V) (i2:Int) (i3:Int):
 RM 84 Tryz.f84 [] call icall again (aJ Tryz.f84 0) (Ci l0 l1 i2 i3)=ET call (fun l0 l1 i2 i3=>again (aJ Tryz.f84 0) (Ci l0 l1 i2 i3)) l0 l1 i2 i3:=by kernel_rfl
theorem E84 (a0:List V):GO 84 Tryz.f84 (A84 a0) [] call icall again=T84 call (fun l0 l1 i2 i3=>again (aJ Tryz.f84 0) (Ci l0 l1 i2 i3)) a0:=by kernel_rfl
def L84 (call:FuncId→Fun):Nat→(List V→List V→Int→Int→Option (V×List Ob))
 |0=>fun _ _ _ _=>none
 |n+1=>ET call (L84 call n)
theorem R84 (call:FuncId→Fun) (icall:aO (V×List Ob)):∀n,(∀(l0:List V) (l1:List V) (i2:Int) (i3:Int),RN 84 Tryz.f84 [] call icall n (aJ Tryz.f84 0) (Ci l0 l1 i2 i3)=(L84 call n) l0 l1 i2 i3)
 |0=>fun l0 l1 i2 i3=>rfl
 |n+1=>by
  have ih:=R84 call icall n
  exact fun l0 l1 i2 i3=>(Q8 call icall (RN 84 Tryz.f84 [] call icall n) l0 l1 i2 i3).trans (by rw[show(fun l0 l1 i2 i3=>RN 84 Tryz.f84 [] call icall n (aJ Tryz.f84 0) (Ci l0 l1 i2 i3))=(L84 call n)from(funext fun l0=>funext fun l1=>funext fun i2=>funext fun i3=>ih l0 l1 i2 i3)];rfl)
theorem C84 (k:Nat) (a0:List V):aA cfg (k+1) 84 (A84 a0) []=T84 (aA cfg k) (L84 (aA cfg k) k) a0:=by
 have ih:=R84 (aA cfg k) (aE cfg (aA cfg k) 20) k
 refine(show aA cfg (k+1) 84 (A84 a0) []=GO 84 Tryz.f84 (A84 a0) [] (aA cfg k) (aE cfg (aA cfg k) 20) (RN 84 Tryz.f84 [] (aA cfg k) (aE cfg (aA cfg k) 20) k)by kernel_rfl).trans ((E84 _ _ _ a0).trans ?_)
 rw[show(fun l0 l1 i2 i3=>RN 84 Tryz.f84 [] (aA cfg k) (aE cfg (aA cfg k) 20) k (aJ Tryz.f84 0) (Ci l0 l1 i2 i3))=(L84 (aA cfg k) k)from(funext fun l0=>funext fun l1=>funext fun i2=>funext fun i3=>ih l0 l1 i2 i3)]
theorem M84 (a0:List V) {r:V×List Ob} (h:Evt (fun k n=>T84 (aA cfg k) (L84 (aA cfg k) n) a0) r):Ret 84 [V.lst 176 false a0] [] r:=aK (g:=fun k n=>T84 (aA cfg k) (L84 (aA cfg k) n) a0) (fun k=>C84 k a0) h
theorem NJ (l0:List V) (l1:List V) (i2:Int) (i3:Int) {r:V×List Ob} (h:Evt (fun k n=>ET (aA cfg k) (L84 (aA cfg k) n) l0 l1 i2 i3) r):Evt (fun k n=>(L84 (aA cfg k) n) l0 l1 i2 i3) r:=aY (fun k n=>rfl) h
def T87 (call:FuncId→Fun) (a0:Int):Option (V×List Ob):=
 Option.bind (if(decide (a0≥(32:Int)))=true then
 some (decide (a0<(127:Int)))
 else
 some false) fun y0=>
 some ((V.bool y0),[])
def A87 (a0:Int):List V:=[V.int IntKind.u8 a0]
theorem E87 (a0:Int):GO 87 Tryz.f87 (A87 a0) [] call icall again=T87 call a0:=by kernel_rfl
theorem C87 (k:Nat) (a0:Int):aA cfg (k+1) 87 (A87 a0) []=T87 (aA cfg k) a0:=
 (show aA cfg (k+1) 87 (A87 a0) []=GO 87 Tryz.f87 (A87 a0) [] (aA cfg k) (aE cfg (aA cfg k) 20) (RN 87 Tryz.f87 [] (aA cfg k) (aE cfg (aA cfg k) 20) k)by kernel_rfl).trans (E87 _ _ _ a0)
theorem M87 (a0:Int) {r:V×List Ob} (h:Evt (fun k n=>T87 (aA cfg k) a0) r):Ret 87 [V.int IntKind.u8 a0] [] r:=aK (g:=fun k n=>T87 (aA cfg k) a0) (fun k=>C87 k a0) h
def EU (call:FuncId→Fun) (ag0:List UInt8→List V→Int→Int→Option (V×List Ob)) (s0:List UInt8) (l1:List V) (i2:Int) (i3:Int):Option (V×List Ob):=
 if(decide (i3<i2))=true then
 Option.bind (chk (decide (0≤i3)) (chk (decide (i3<((length s0:Nat):Int))) (if(((UInt8.toNat (getD s0 (Int.toNat i3) 0):Nat):Int)==(34:Int))=false then
 chk (decide (0≤i3)) (chk (decide (i3<((length s0:Nat):Int))) (some (((UInt8.toNat (getD s0 (Int.toNat i3) 0):Nat):Int)==(92:Int))))
 else
 some true))) fun y0=>
 if y0=true then
 chk (aW l1 [(V.int .u8 92)] 2) (chk (decide (0≤i3)) (chk (decide (i3<((length s0:Nat):Int))) (chk (aW (l1++[(V.int .u8 92)]) [(V.int .u8 ((UInt8.toNat (getD s0 (Int.toNat i3) 0):Nat):Int))] 2) ((ag0 (s0) (((l1++[(V.int .u8 92)])++[(V.int .u8 ((UInt8.toNat (getD s0 (Int.toNat i3) 0):Nat):Int))])) (i2) ((IntKind.wrap .i64 (i3+(1:Int)))))))))
 else
 chk (decide (0≤i3)) (chk (decide (i3<((length s0:Nat):Int))) (chk (aW l1 [(V.int .u8 ((UInt8.toNat (getD s0 (Int.toNat i3) 0):Nat):Int))] 2) ((ag0 (s0) ((l1++[(V.int .u8 ((UInt8.toNat (getD s0 (Int.toNat i3) 0):Nat):Int))])) (i2) ((IntKind.wrap .i64 (i3+(1:Int))))))))
 else
 chk (aW l1 [(V.int .u8 34)] 2) (some ((V.str (bytesOf (l1++[(V.int .u8 34)]))),[]))
def T88 (call:FuncId→Fun) (ag0:List UInt8→List V→Int→Int→Option (V×List Ob)) (a0:List UInt8):Option (V×List Ob):=
 (ag0 (a0) ([(V.int .u8 34)]) (((length a0:Nat):Int)) ((0:Int)))
def A88 (a0:List UInt8):List V:=[V.str a0]
def Cj (s0:List UInt8) (l1:List V) (i2:Int) (i3:Int):St:=⟨[(V.str s0),V.bot,V.bot,(V.lst 5 true l1),V.bot,V.bot,V.bot,(V.int IntKind.i64 i2),(V.int IntKind.i64 i3)]++List.replicate 26 V.bot,[]⟩
theorem Q9 (s0:List UInt8) (l1:List V) (i2:Int) (i3:Int):
 RM 88 Tryz.f88 [] call icall again (aJ Tryz.f88 0) (Cj s0 l1 i2 i3)=EU call (fun s0 l1 i2 i3=>again (aJ Tryz.f88 0) (Cj s0 l1 i2 i3)) s0 l1 i2 i3:=by kernel_rfl
theorem E88 (a0:List UInt8):GO 88 Tryz.f88 (A88 a0) [] call icall again=T88 call (fun s0 l1 i2 i3=>again (aJ Tryz.f88 0) (Cj s0 l1 i2 i3)) a0:=by kernel_rfl
def L88 (call:FuncId→Fun):Nat→(List UInt8→List V→Int→Int→Option (V×List Ob))
 |0=>fun _ _ _ _=>none
 |n+1=>EU call (L88 call n)
theorem R88 (call:FuncId→Fun) (icall:aO (V×List Ob)):∀n,(∀(s0:List UInt8) (l1:List V) (i2:Int) (i3:Int),RN 88 Tryz.f88 [] call icall n (aJ Tryz.f88 0) (Cj s0 l1 i2 i3)=(L88 call n) s0 l1 i2 i3)
 |0=>fun s0 l1 i2 i3=>rfl
 |n+1=>by
  have ih:=R88 call icall n
  exact fun s0 l1 i2 i3=>(Q9 call icall (RN 88 Tryz.f88 [] call icall n) s0 l1 i2 i3).trans (by rw[show(fun s0 l1 i2 i3=>RN 88 Tryz.f88 [] call icall n (aJ Tryz.f88 0) (Cj s0 l1 i2 i3))=(L88 call n)from(funext fun s0=>funext fun l1=>funext fun i2=>funext fun i3=>ih s0 l1 i2 i3)];rfl)
theorem C88 (k:Nat) (a0:List UInt8):aA cfg (k+1) 88 (A88 a0) []=T88 (aA cfg k) (L88 (aA cfg k) k) a0:=by
 have ih:=R88 (aA cfg k) (aE cfg (aA cfg k) 20) k
 refine(show aA cfg (k+1) 88 (A88 a0) []=GO 88 Tryz.f88 (A88 a0) [] (aA cfg k) (aE cfg (aA cfg k) 20) (RN 88 Tryz.f88 [] (aA cfg k) (aE cfg (aA cfg k) 20) k)by kernel_rfl).trans ((E88 _ _ _ a0).trans ?_)
 rw[show(fun s0 l1 i2 i3=>RN 88 Tryz.f88 [] (aA cfg k) (aE cfg (aA cfg k) 20) k (aJ Tryz.f88 0) (Cj s0 l1 i2 i3))=(L88 (aA cfg k) k)from(funext fun s0=>funext fun l1=>funext fun i2=>funext fun i3=>ih s0 l1 i2 i3)]
theorem M88 (a0:List UInt8) {r:V×List Ob} (h:Evt (fun k n=>T88 (aA cfg k) (L88 (aA cfg k) n) a0) r):Ret 88 [V.str a0] [] r:=aK (g:=fun k n=>T88 (aA cfg k) (L88 (aA cfg k) n) a0) (fun k=>C88 k a0) h
theorem NK (s0:List UInt8) (l1:List V) (i2:Int) (i3:Int) {r:V×List Ob} (h:Evt (fun k n=>EU (aA cfg k) (L88 (aA cfg k) n) s0 l1 i2 i3) r):Evt (fun k n=>(L88 (aA cfg k) n) s0 l1 i2 i3) r:=aY (fun k n=>rfl) h
def EV (call:FuncId→Fun) (ag0:List UInt8→Int→Int→Option (V×List Ob)) (s0:List UInt8) (i1:Int) (i2:Int):Option (V×List Ob):=
 if(decide (i2<i1))=true then
 chk (decide (0≤i2)) (chk (decide (i2<((length s0:Nat):Int))) (Option.bind (call 87 [(V.int .u8 ((UInt8.toNat (getD s0 (Int.toNat i2) 0):Nat):Int))] []) fun z0=>
 if(!(getB z0.1))=true then
 some ((V.bool false),[])
 else
 (ag0 (s0) (i1) ((IntKind.wrap .i64 (i2+(1:Int)))))))
 else
 some ((V.bool true),[])
def T86 (call:FuncId→Fun) (ag0:List UInt8→Int→Int→Option (V×List Ob)) (a0:List UInt8):Option (V×List Ob):=
 (ag0 (a0) (((length a0:Nat):Int)) ((0:Int)))
def A86 (a0:List UInt8):List V:=[V.str a0,V.clo (Fn.func 87) [] []]
def Ck (s0:List UInt8) (i1:Int) (i2:Int):St:=⟨[(V.str s0),(V.clo (Fn.func 87) [] []),V.bot,V.bot,V.bot,V.bot,V.bot,(V.int IntKind.i64 i1),(V.int IntKind.i64 i2)]++List.replicate 9 V.bot,[]⟩
theorem Ra (s0:List UInt8) (i1:Int) (i2:Int):
 RM 86 Tryz.f86 [] call icall again (aJ Tryz.f86 0) (Ck s0 i1 i2)=EV call (fun s0 i1 i2=>again (aJ Tryz.f86 0) (Ck s0 i1 i2)) s0 i1 i2:=by kernel_rfl
theorem E86 (a0:List UInt8):GO 86 Tryz.f86 (A86 a0) [] call icall again=T86 call (fun s0 i1 i2=>again (aJ Tryz.f86 0) (Ck s0 i1 i2)) a0:=by kernel_rfl
def L86 (call:FuncId→Fun):Nat→(List UInt8→Int→Int→Option (V×List Ob))
 |0=>fun _ _ _=>none
 |n+1=>EV call (L86 call n)
theorem R86 (call:FuncId→Fun) (icall:aO (V×List Ob)):∀n,(∀(s0:List UInt8) (i1:Int) (i2:Int),RN 86 Tryz.f86 [] call icall n (aJ Tryz.f86 0) (Ck s0 i1 i2)=(L86 call n) s0 i1 i2)
 |0=>fun s0 i1 i2=>rfl
 |n+1=>by
  have ih:=R86 call icall n
  exact fun s0 i1 i2=>(Ra call icall (RN 86 Tryz.f86 [] call icall n) s0 i1 i2).trans (by rw[show(fun s0 i1 i2=>RN 86 Tryz.f86 [] call icall n (aJ Tryz.f86 0) (Ck s0 i1 i2))=(L86 call n)from(funext fun s0=>funext fun i1=>funext fun i2=>ih s0 i1 i2)];rfl)
theorem C86 (k:Nat) (a0:List UInt8):aA cfg (k+1) 86 (A86 a0) []=T86 (aA cfg k) (L86 (aA cfg k) k) a0:=by
 have ih:=R86 (aA cfg k) (aE cfg (aA cfg k) 20) k
 refine(show aA cfg (k+1) 86 (A86 a0) []=GO 86 Tryz.f86 (A86 a0) [] (aA cfg k) (aE cfg (aA cfg k) 20) (RN 86 Tryz.f86 [] (aA cfg k) (aE cfg (aA cfg k) 20) k)by kernel_rfl).trans ((E86 _ _ _ a0).trans ?_)
 rw[show(fun s0 i1 i2=>RN 86 Tryz.f86 [] (aA cfg k) (aE cfg (aA cfg k) 20) k (aJ Tryz.f86 0) (Ck s0 i1 i2))=(L86 (aA cfg k) k)from(funext fun s0=>funext fun i1=>funext fun i2=>ih s0 i1 i2)]
theorem M86 (a0:List UInt8) {r:V×List Ob} (h:Evt (fun k n=>T86 (aA cfg k) (L86 (aA cfg k) n) a0) r):Ret 86 [V.str a0,V.clo (Fn.func 87) [] []] [] r:=aK (g:=fun k n=>T86 (aA cfg k) (L86 (aA cfg k) n) a0) (fun k=>C86 k a0) h
theorem NL (s0:List UInt8) (i1:Int) (i2:Int) {r:V×List Ob} (h:Evt (fun k n=>EV (aA cfg k) (L86 (aA cfg k) n) s0 i1 i2) r):Evt (fun k n=>(L86 (aA cfg k) n) s0 i1 i2) r:=aY (fun k n=>rfl) h
def T22 (call:FuncId→Fun):Option (V×List Ob):=
 Option.bind (call 14 [(V.lst 5 false [(V.int .u8 13),(V.int .u8 10),(V.int .u8 120)])] []) fun z0=>
 Option.bind (call 43 [(V.lst 5 false [(V.int .u8 13),(V.int .u8 10),(V.int .u8 120)]),(V.agg [(V.int .i64 (getI (headD (V.cells (headD (getT z0.1) V.bot)) V.bot))),(V.int .i64 (getI (headD (tail (V.cells (headD (getT z0.1) V.bot))) V.bot))),(V.int .i64 (getI (headD (tail (tail (V.cells (headD (getT z0.1) V.bot)))) V.bot))),(V.int .i64 (getI (headD (tail (tail (tail (V.cells (headD (getT z0.1) V.bot))))) V.bot))),(V.int .i64 (getI (headD (tail (tail (tail (tail (V.cells (headD (getT z0.1) V.bot)))))) V.bot))),(V.lst 36 false (getL (headD (tail (tail (tail (tail (tail (V.cells (headD (getT z0.1) V.bot))))))) V.bot))),(V.lst 32 false (getL (headD (tail (tail (tail (tail (tail (tail (V.cells (headD (getT z0.1) V.bot)))))))) V.bot))),(V.int .i64 (getI (headD (tail (tail (tail (tail (tail (tail (tail (V.cells (headD (getT z0.1) V.bot))))))))) V.bot))),(V.int .i64 (getI (headD (tail (tail (tail (tail (tail (tail (tail (tail (V.cells (headD (getT z0.1) V.bot)))))))))) V.bot)))])] []) fun z1=>
 if((getI (headD (tail (getT z0.1)) V.bot))==(0:Int))=true then
 Option.bind (call 23 [(V.lst 5 false [(V.int .u8 13),(V.int .u8 10),(V.int .u8 120)]),(V.agg [(V.int .i64 (getI (headD (V.cells (headD (getT z0.1) V.bot)) V.bot))),(V.int .i64 (getI (headD (tail (V.cells (headD (getT z0.1) V.bot))) V.bot))),(V.int .i64 (getI (headD (tail (tail (V.cells (headD (getT z0.1) V.bot)))) V.bot))),(V.int .i64 (getI (headD (tail (tail (tail (V.cells (headD (getT z0.1) V.bot))))) V.bot))),(V.int .i64 (getI (headD (tail (tail (tail (tail (V.cells (headD (getT z0.1) V.bot)))))) V.bot))),(V.lst 36 false (getL (headD (tail (tail (tail (tail (tail (V.cells (headD (getT z0.1) V.bot))))))) V.bot))),(V.lst 32 false (getL (headD (tail (tail (tail (tail (tail (tail (V.cells (headD (getT z0.1) V.bot)))))))) V.bot))),(V.int .i64 (getI (headD (tail (tail (tail (tail (tail (tail (tail (V.cells (headD (getT z0.1) V.bot))))))))) V.bot))),(V.int .i64 (getI (headD (tail (tail (tail (tail (tail (tail (tail (tail (V.cells (headD (getT z0.1) V.bot)))))))))) V.bot)))]),(V.bool false)] []) fun z2=>
 if(sEq (getS z2.1) [40,34,116,101,120,116,34,32,34,112,108,97,105,110,34,32,40,34,99,104,97,114,115,101,116,34,32,34,117,115,45,97,115,99,105,105,34,41,32,78,73,76,32,78,73,76,32,34,55,98,105,116,34,32,49,32,49,41])=true then
 if(sEq (getS (headD (getT z1.1) V.bot)) [116,101,120,116])=true then
 some ((V.bool (sEq (getS (headD (tail (getT z1.1)) V.bot)) [112,108,97,105,110])),[])
 else
 some ((V.bool false),[])
 else
 some ((V.bool false),[])
 else
 some ((V.bool false),[])
def A22:List V:=[]
theorem E22:GO 22 Tryz.f22 A22 [] call icall again=T22 call:=by kernel_rfl
theorem C22 (k:Nat):aA cfg (k+1) 22 A22 []=T22 (aA cfg k):=
 (show aA cfg (k+1) 22 A22 []=GO 22 Tryz.f22 A22 [] (aA cfg k) (aE cfg (aA cfg k) 20) (RN 22 Tryz.f22 [] (aA cfg k) (aE cfg (aA cfg k) 20) k)by kernel_rfl).trans (E22 _ _ _)
theorem M22 {r:V×List Ob} (h:Evt (fun k n=>T22 (aA cfg k)) r):Ret 22 [] [] r:=aK (g:=fun k n=>T22 (aA cfg k)) (fun k=>C22 k) h
def T23 (call:FuncId→Fun) (a0:List V) (a1:Int) (a2:Int) (a3:Int) (a4:Int) (a5:Int) (a6:List V) (a7:List V) (a8:Int) (a9:Int) (a10:Bool):Option (V×List Ob):=
 if(a1==(1:Int))=true then
 Option.bind (call 44 [(V.lst 5 false a0),(V.agg [(V.int .i64 a1),(V.int .i64 a2),(V.int .i64 a3),(V.int .i64 a4),(V.int .i64 a5),(V.lst 36 false a6),(V.lst 32 false a7),(V.int .i64 a8),(V.int .i64 a9)]),(V.bool a10)] []) fun z0=>
 some ((V.str (getS z0.1)),[])
 else
 Option.bind (call 43 [(V.lst 5 false a0),(V.agg [(V.int .i64 a1),(V.int .i64 a2),(V.int .i64 a3),(V.int .i64 a4),(V.int .i64 a5),(V.lst 36 false a6),(V.lst 32 false a7),(V.int .i64 a8),(V.int .i64 a9)])] []) fun z0=>
 Option.bind (call 45 [(V.str (getS (headD (getT z0.1) V.bot)))] []) fun z1=>
 Option.bind (call 45 [(V.str (getS (headD (tail (getT z0.1)) V.bot)))] []) fun z2=>
 Option.bind (call 46 [(V.lst 5 false a0),(V.agg [(V.int .i64 a1),(V.int .i64 a2),(V.int .i64 a3),(V.int .i64 a4),(V.int .i64 a5),(V.lst 36 false a6),(V.lst 32 false a7),(V.int .i64 a8),(V.int .i64 a9)]),(V.str [99,111,110,116,101,110,116,45,105,100])] []) fun z3=>
 Option.bind (call 46 [(V.lst 5 false a0),(V.agg [(V.int .i64 a1),(V.int .i64 a2),(V.int .i64 a3),(V.int .i64 a4),(V.int .i64 a5),(V.lst 36 false a6),(V.lst 32 false a7),(V.int .i64 a8),(V.int .i64 a9)]),(V.str [99,111,110,116,101,110,116,45,100,101,115,99,114,105,112,116,105,111,110])] []) fun z4=>
 Option.bind (call 36 [(V.lst 5 false a0),(V.agg [(V.int .i64 a1),(V.int .i64 a2),(V.int .i64 a3),(V.int .i64 a4),(V.int .i64 a5),(V.lst 36 false a6),(V.lst 32 false a7),(V.int .i64 a8),(V.int .i64 a9)])] []) fun z5=>
 Option.bind (call 45 [(V.str (getS z5.1))] []) fun z6=>
 Option.bind (call 47 [(V.int .i64 (IntKind.wrap .i64 (a5 - a4)))] []) fun z7=>
 Option.bind (if(a1==(2:Int))=true then
 some (decide (((length a6:Nat):Int)>(0:Int)))
 else
 some false) fun y8=>
 if y8=true then
 chk (decide (0≤(0:Int))) (chk (decide ((0:Int)<((length a6:Nat):Int))) (Option.bind (call 15 [(V.lst 5 false a0),(V.agg [(V.int .i64 (getI (headD (V.cells (getD a6 (Int.toNat (0:Int)) V.bot)) V.bot))),(V.int .i64 (getI (headD (tail (V.cells (getD a6 (Int.toNat (0:Int)) V.bot))) V.bot))),(V.int .i64 (getI (headD (tail (tail (V.cells (getD a6 (Int.toNat (0:Int)) V.bot)))) V.bot))),(V.int .i64 (getI (headD (tail (tail (tail (V.cells (getD a6 (Int.toNat (0:Int)) V.bot))))) V.bot))),(V.int .i64 (getI (headD (tail (tail (tail (tail (V.cells (getD a6 (Int.toNat (0:Int)) V.bot)))))) V.bot))),(V.lst 36 false (getL (headD (tail (tail (tail (tail (tail (V.cells (getD a6 (Int.toNat (0:Int)) V.bot))))))) V.bot))),(V.lst 32 false (getL (headD (tail (tail (tail (tail (tail (tail (V.cells (getD a6 (Int.toNat (0:Int)) V.bot)))))))) V.bot))),(V.int .i64 (getI (headD (tail (tail (tail (tail (tail (tail (tail (V.cells (getD a6 (Int.toNat (0:Int)) V.bot))))))))) V.bot))),(V.int .i64 (getI (headD (tail (tail (tail (tail (tail (tail (tail (tail (V.cells (getD a6 (Int.toNat (0:Int)) V.bot)))))))))) V.bot)))])] []) fun z9=>
 Option.bind (call 26 [(V.agg [(V.str (getS (headD (V.cells z9.1) V.bot))),(V.str (getS (headD (tail (V.cells z9.1)) V.bot))),(V.lst 26 false (getL (headD (tail (tail (V.cells z9.1))) V.bot))),(V.lst 26 false (getL (headD (tail (tail (tail (V.cells z9.1)))) V.bot))),(V.lst 26 false (getL (headD (tail (tail (tail (tail (V.cells z9.1))))) V.bot))),(V.lst 26 false (getL (headD (tail (tail (tail (tail (tail (V.cells z9.1)))))) V.bot))),(V.lst 26 false (getL (headD (tail (tail (tail (tail (tail (tail (V.cells z9.1))))))) V.bot))),(V.lst 26 false (getL (headD (tail (tail (tail (tail (tail (tail (tail (V.cells z9.1)))))))) V.bot))),(V.str (getS (headD (tail (tail (tail (tail (tail (tail (tail (tail (V.cells z9.1))))))))) V.bot))),(V.str (getS (headD (tail (tail (tail (tail (tail (tail (tail (tail (tail (V.cells z9.1)))))))))) V.bot))),(V.bool (getB (headD (tail (tail (tail (tail (tail (tail (tail (tail (tail (tail (V.cells z9.1))))))))))) V.bot))),(V.bool (getB (headD (tail (tail (tail (tail (tail (tail (tail (tail (tail (tail (tail (V.cells z9.1)))))))))))) V.bot))),(V.bool (getB (headD (tail (tail (tail (tail (tail (tail (tail (tail (tail (tail (tail (tail (V.cells z9.1))))))))))))) V.bot))),(V.bool (getB (headD (tail (tail (tail (tail (tail (tail (tail (tail (tail (tail (tail (tail (tail (V.cells z9.1)))))))))))))) V.bot)))])] []) fun z10=>
 Option.bind (call 23 [(V.lst 5 false a0),(V.agg [(V.int .i64 (getI (headD (V.cells (getD a6 (Int.toNat (0:Int)) V.bot)) V.bot))),(V.int .i64 (getI (headD (tail (V.cells (getD a6 (Int.toNat (0:Int)) V.bot))) V.bot))),(V.int .i64 (getI (headD (tail (tail (V.cells (getD a6 (Int.toNat (0:Int)) V.bot)))) V.bot))),(V.int .i64 (getI (headD (tail (tail (tail (V.cells (getD a6 (Int.toNat (0:Int)) V.bot))))) V.bot))),(V.int .i64 (getI (headD (tail (tail (tail (tail (V.cells (getD a6 (Int.toNat (0:Int)) V.bot)))))) V.bot))),(V.lst 36 false (getL (headD (tail (tail (tail (tail (tail (V.cells (getD a6 (Int.toNat (0:Int)) V.bot))))))) V.bot))),(V.lst 32 false (getL (headD (tail (tail (tail (tail (tail (tail (V.cells (getD a6 (Int.toNat (0:Int)) V.bot)))))))) V.bot))),(V.int .i64 (getI (headD (tail (tail (tail (tail (tail (tail (tail (V.cells (getD a6 (Int.toNat (0:Int)) V.bot))))))))) V.bot))),(V.int .i64 (getI (headD (tail (tail (tail (tail (tail (tail (tail (tail (V.cells (getD a6 (Int.toNat (0:Int)) V.bot)))))))))) V.bot)))]),(V.bool a10)] []) fun z11=>
 chk (aW [(V.str (getS z1.1)),(V.str (getS z2.1)),(V.str (getS (headD (tail (tail (getT z0.1))) V.bot))),(V.str (getS z3.1)),(V.str (getS z4.1)),(V.str (getS z6.1)),(V.str (getS z7.1))] [(V.str (getS z10.1)),(V.str (getS z11.1))] 17) (Option.bind (call 48 [(V.lst 5 false a0),(V.agg [(V.int .i64 a4),(V.int .i64 a5)])] []) fun z12=>
 Option.bind (call 47 [(V.int .i64 (getI z12.1))] []) fun z13=>
 chk (aW ([(V.str (getS z1.1)),(V.str (getS z2.1)),(V.str (getS (headD (tail (tail (getT z0.1))) V.bot))),(V.str (getS z3.1)),(V.str (getS z4.1)),(V.str (getS z6.1)),(V.str (getS z7.1))]++[(V.str (getS z10.1)),(V.str (getS z11.1))]) [(V.str (getS z13.1))] 17) (if a10=true then
 Option.bind (call 46 [(V.lst 5 false a0),(V.agg [(V.int .i64 a1),(V.int .i64 a2),(V.int .i64 a3),(V.int .i64 a4),(V.int .i64 a5),(V.lst 36 false a6),(V.lst 32 false a7),(V.int .i64 a8),(V.int .i64 a9)]),(V.str [99,111,110,116,101,110,116,45,109,100,53])] []) fun z14=>
 chk (aW (([(V.str (getS z1.1)),(V.str (getS z2.1)),(V.str (getS (headD (tail (tail (getT z0.1))) V.bot))),(V.str (getS z3.1)),(V.str (getS z4.1)),(V.str (getS z6.1)),(V.str (getS z7.1))]++[(V.str (getS z10.1)),(V.str (getS z11.1))])++[(V.str (getS z13.1))]) [(V.str (getS z14.1))] 17) (Option.bind (call 49 [(V.lst 5 false a0),(V.agg [(V.int .i64 a1),(V.int .i64 a2),(V.int .i64 a3),(V.int .i64 a4),(V.int .i64 a5),(V.lst 36 false a6),(V.lst 32 false a7),(V.int .i64 a8),(V.int .i64 a9)])] []) fun z15=>
 chk (aW ((([(V.str (getS z1.1)),(V.str (getS z2.1)),(V.str (getS (headD (tail (tail (getT z0.1))) V.bot))),(V.str (getS z3.1)),(V.str (getS z4.1)),(V.str (getS z6.1)),(V.str (getS z7.1))]++[(V.str (getS z10.1)),(V.str (getS z11.1))])++[(V.str (getS z13.1))])++[(V.str (getS z14.1))]) (getL z15.1) 17) (Option.bind (call 50 [(V.lst 9 false (((([(V.str (getS z1.1)),(V.str (getS z2.1)),(V.str (getS (headD (tail (tail (getT z0.1))) V.bot))),(V.str (getS z3.1)),(V.str (getS z4.1)),(V.str (getS z6.1)),(V.str (getS z7.1))]++[(V.str (getS z10.1)),(V.str (getS z11.1))])++[(V.str (getS z13.1))])++[(V.str (getS z14.1))])++(getL z15.1)))] []) fun z16=>
 some ((V.str (getS z16.1)),[])))
 else
 Option.bind (call 50 [(V.lst 9 false (([(V.str (getS z1.1)),(V.str (getS z2.1)),(V.str (getS (headD (tail (tail (getT z0.1))) V.bot))),(V.str (getS z3.1)),(V.str (getS z4.1)),(V.str (getS z6.1)),(V.str (getS z7.1))]++[(V.str (getS z10.1)),(V.str (getS z11.1))])++[(V.str (getS z13.1))]))] []) fun z14=>
 some ((V.str (getS z14.1)),[])))))
 else
 if(sEq (getS (headD (getT z0.1) V.bot)) [116,101,120,116])=true then
 Option.bind (call 48 [(V.lst 5 false a0),(V.agg [(V.int .i64 a4),(V.int .i64 a5)])] []) fun z9=>
 Option.bind (call 47 [(V.int .i64 (getI z9.1))] []) fun z10=>
 chk (aW [(V.str (getS z1.1)),(V.str (getS z2.1)),(V.str (getS (headD (tail (tail (getT z0.1))) V.bot))),(V.str (getS z3.1)),(V.str (getS z4.1)),(V.str (getS z6.1)),(V.str (getS z7.1))] [(V.str (getS z10.1))] 17) (if a10=true then
 Option.bind (call 46 [(V.lst 5 false a0),(V.agg [(V.int .i64 a1),(V.int .i64 a2),(V.int .i64 a3),(V.int .i64 a4),(V.int .i64 a5),(V.lst 36 false a6),(V.lst 32 false a7),(V.int .i64 a8),(V.int .i64 a9)]),(V.str [99,111,110,116,101,110,116,45,109,100,53])] []) fun z11=>
 chk (aW ([(V.str (getS z1.1)),(V.str (getS z2.1)),(V.str (getS (headD (tail (tail (getT z0.1))) V.bot))),(V.str (getS z3.1)),(V.str (getS z4.1)),(V.str (getS z6.1)),(V.str (getS z7.1))]++[(V.str (getS z10.1))]) [(V.str (getS z11.1))] 17) (Option.bind (call 49 [(V.lst 5 false a0),(V.agg [(V.int .i64 a1),(V.int .i64 a2),(V.int .i64 a3),(V.int .i64 a4),(V.int .i64 a5),(V.lst 36 false a6),(V.lst 32 false a7),(V.int .i64 a8),(V.int .i64 a9)])] []) fun z12=>
 chk (aW (([(V.str (getS z1.1)),(V.str (getS z2.1)),(V.str (getS (headD (tail (tail (getT z0.1))) V.bot))),(V.str (getS z3.1)),(V.str (getS z4.1)),(V.str (getS z6.1)),(V.str (getS z7.1))]++[(V.str (getS z10.1))])++[(V.str (getS z11.1))]) (getL z12.1) 17) (Option.bind (call 50 [(V.lst 9 false ((([(V.str (getS z1.1)),(V.str (getS z2.1)),(V.str (getS (headD (tail (tail (getT z0.1))) V.bot))),(V.str (getS z3.1)),(V.str (getS z4.1)),(V.str (getS z6.1)),(V.str (getS z7.1))]++[(V.str (getS z10.1))])++[(V.str (getS z11.1))])++(getL z12.1)))] []) fun z13=>
 some ((V.str (getS z13.1)),[])))
 else
 Option.bind (call 50 [(V.lst 9 false ([(V.str (getS z1.1)),(V.str (getS z2.1)),(V.str (getS (headD (tail (tail (getT z0.1))) V.bot))),(V.str (getS z3.1)),(V.str (getS z4.1)),(V.str (getS z6.1)),(V.str (getS z7.1))]++[(V.str (getS z10.1))]))] []) fun z11=>
 some ((V.str (getS z11.1)),[]))
 else
 if a10=true then
 Option.bind (call 46 [(V.lst 5 false a0),(V.agg [(V.int .i64 a1),(V.int .i64 a2),(V.int .i64 a3),(V.int .i64 a4),(V.int .i64 a5),(V.lst 36 false a6),(V.lst 32 false a7),(V.int .i64 a8),(V.int .i64 a9)]),(V.str [99,111,110,116,101,110,116,45,109,100,53])] []) fun z9=>
 chk (aW [(V.str (getS z1.1)),(V.str (getS z2.1)),(V.str (getS (headD (tail (tail (getT z0.1))) V.bot))),(V.str (getS z3.1)),(V.str (getS z4.1)),(V.str (getS z6.1)),(V.str (getS z7.1))] [(V.str (getS z9.1))] 17) (Option.bind (call 49 [(V.lst 5 false a0),(V.agg [(V.int .i64 a1),(V.int .i64 a2),(V.int .i64 a3),(V.int .i64 a4),(V.int .i64 a5),(V.lst 36 false a6),(V.lst 32 false a7),(V.int .i64 a8),(V.int .i64 a9)])] []) fun z10=>
 chk (aW ([(V.str (getS z1.1)),(V.str (getS z2.1)),(V.str (getS (headD (tail (tail (getT z0.1))) V.bot))),(V.str (getS z3.1)),(V.str (getS z4.1)),(V.str (getS z6.1)),(V.str (getS z7.1))]++[(V.str (getS z9.1))]) (getL z10.1) 17) (Option.bind (call 50 [(V.lst 9 false (([(V.str (getS z1.1)),(V.str (getS z2.1)),(V.str (getS (headD (tail (tail (getT z0.1))) V.bot))),(V.str (getS z3.1)),(V.str (getS z4.1)),(V.str (getS z6.1)),(V.str (getS z7.1))]++[(V.str (getS z9.1))])++(getL z10.1)))] []) fun z11=>
 some ((V.str (getS z11.1)),[])))
 else
 Option.bind (call 50 [(V.lst 9 false [(V.str (getS z1.1)),(V.str (getS z2.1)),(V.str (getS (headD (tail (tail (getT z0.1))) V.bot))),(V.str (getS z3.1)),(V.str (getS z4.1)),(V.str (getS z6.1)),(V.str (getS z7.1))])] []) fun z9=>
 some ((V.str (getS z9.1)),[])
def A23 (a0:List V) (a1:Int) (a2:Int) (a3:Int) (a4:Int) (a5:Int) (a6:List V) (a7:List V) (a8:Int) (a9:Int) (a10:Bool):List V:=[V.lst 5 false a0,V.agg [V.int IntKind.i64 a1,V.int IntKind.i64 a2,V.int IntKind.i64 a3,V.int IntKind.i64 a4,V.int IntKind.i64 a5,V.lst 36 false a6,V.lst 32 false a7,V.int IntKind.i64 a8,V.int IntKind.i64 a9],V.bool a10]
theorem E23 (a0:List V) (a1:Int) (a2:Int) (a3:Int) (a4:Int) (a5:Int) (a6:List V) (a7:List V) (a8:Int) (a9:Int) (a10:Bool):GO 23 Tryz.f23 (A23 a0 a1 a2 a3 a4 a5 a6 a7 a8 a9 a10) [] call icall again=T23 call a0 a1 a2 a3 a4 a5 a6 a7 a8 a9 a10:=by kernel_rfl
theorem C23 (k:Nat) (a0:List V) (a1:Int) (a2:Int) (a3:Int) (a4:Int) (a5:Int) (a6:List V) (a7:List V) (a8:Int) (a9:Int) (a10:Bool):aA cfg (k+1) 23 (A23 a0 a1 a2 a3 a4 a5 a6 a7 a8 a9 a10) []=T23 (aA cfg k) a0 a1 a2 a3 a4 a5 a6 a7 a8 a9 a10:=
 (show aA cfg (k+1) 23 (A23 a0 a1 a2 a3 a4 a5 a6 a7 a8 a9 a10) []=GO 23 Tryz.f23 (A23 a0 a1 a2 a3 a4 a5 a6 a7 a8 a9 a10) [] (aA cfg k) (aE cfg (aA cfg k) 20) (RN 23 Tryz.f23 [] (aA cfg k) (aE cfg (aA cfg k) 20) k)by kernel_rfl).trans (E23 _ _ _ a0 a1 a2 a3 a4 a5 a6 a7 a8 a9 a10)
theorem M23 (a0:List V) (a1:Int) (a2:Int) (a3:Int) (a4:Int) (a5:Int) (a6:List V) (a7:List V) (a8:Int) (a9:Int) (a10:Bool) {r:V×List Ob} (h:Evt (fun k n=>T23 (aA cfg k) a0 a1 a2 a3 a4 a5 a6 a7 a8 a9 a10) r):Ret 23 [V.lst 5 false a0,V.agg [V.int IntKind.i64 a1,V.int IntKind.i64 a2,V.int IntKind.i64 a3,V.int IntKind.i64 a4,V.int IntKind.i64 a5,V.lst 36 false a6,V.lst 32 false a7,V.int IntKind.i64 a8,V.int IntKind.i64 a9],V.bool a10] [] r:=aK (g:=fun k n=>T23 (aA cfg k) a0 a1 a2 a3 a4 a5 a6 a7 a8 a9 a10) (fun k=>C23 k a0 a1 a2 a3 a4 a5 a6 a7 a8 a9 a10) h
end Go.Proofs.YtdoaoaicdimbeaaGreatDoor
end
section
namespace Go.Proofs.YtdoaoaicdimbeaaGreatDoor
open Go.Ev Go
def wK (c:UInt8):Bs:=if c=34∨c=92 then[92,c]else[c]
def gA (s:Bs):Bs:=[34]++s.flatMap wK++[34]
theorem O3 (s:Bs) (hs:s.length≤1000000):∀(n i:Nat) (out:Bs),s.length - i≤n→out.length≤2*i+1→i≤s.length→
  Evt (fun k n=>L88 (aA cfg k) n s (ofBytes out) (s.length:Nat) (i:Nat)) (.str (out++(s.drop i).flatMap wK++[34]),[]):=by
 have fin:∀(i:Nat) (out:Bs),s.length≤i→out.length≤2*i+1→i≤s.length→Evt (fun k n=>L88 (aA cfg k) n s (ofBytes out) (s.length:Nat) (i:Nat)) (.str (out++(s.drop i).flatMap wK++[34]),[]):=by
  intro i out h ho hi
  refine NK s (ofBytes out) (s.length:Nat) (i:Nat) ?_
  have h1:¬((i:Int)<(s.length:Int)):=by omega
  have hap:aW (ofBytes out) [V.int IntKind.u8 34] 2=true:=dM (by simp[bB];omega)
  have h34:ofBytes out++[V.int IntKind.u8 34]=ofBytes (out++[34]):=cP out 34
  rw[List.drop_eq_nil_of_le h]
  simp only[EU,h1,decide_false,Bool.false_eq_true,if_false,bL hap,h34,bT,List.flatMap_nil,List.append_nil]
  exact aD _
 intro n
 induction n with
 |zero=>intro i out h ho hi;exact fin i out (by omega) ho hi
 |succ n ih=>
  intro i out h ho hi
  by_cases hlt:i<s.length
  ·refine NK s (ofBytes out) (s.length:Nat) (i:Nat) ?_
   have h1:((i:Int)<(s.length:Int)):=by omega
   have h2:(0:Int)≤(i:Int):=by omega
   have hw:IntKind.wrap .i64 ((i:Int)+1)=((i+1:Nat):Int):=by rw[wrap64 (by omega) (by omega)];omega
   have e34:(((s[i].toNat:Nat):Int)==(34:Int))=(s[i]==34):=dG s[i] 34 (by omega)
   have e92:(((s[i].toNat:Nat):Int)==(92:Int))=(s[i]==92):=dG s[i] 92 (by omega)
   have hap:∀c:Int,aW (ofBytes out) [V.int IntKind.u8 c] 2=true:=fun c=>dM (by simp[bB];omega)
   have hap2:∀c:Int,aW (ofBytes (out++[92])) [V.int IntKind.u8 c] 2=true:=fun c=>dM (by simp[bB];omega)
   have h92:ofBytes out++[V.int IntKind.u8 92]=ofBytes (out++[92]):=cP out 92
   have hor:(chk (decide ((0:Int)≤(i:Int))) (chk (decide ((i:Int)<(s.length:Int))) (if(s[i]==34)=false then
     chk (decide ((0:Int)≤(i:Int))) (chk (decide ((i:Int)<(s.length:Int))) (some (s[i]==92)))else some true)))=some (decide (s[i]=34∨s[i]=92)):=by
    simp only[aH h2,aH h1]
    by_cases a:s[i]=34
    ·simp[a]
    ·have b:(s[i]==34)=false:=by simpa using a
     simp only[b,if_true,a,false_or]
     by_cases c:s[i]=92<;>simp[c]
   simp only[EU,h1,decide_true,if_true,Int.toNat_natCast,getD_at hlt,e34,e92,hw]
   have hor' :=hor
   simp only[h1,decide_true]at hor'
   rw[hor']
   simp only[cV,drop_at hlt,List.flatMap_cons]
   by_cases hc:s[i]=34∨s[i]=92
   ·simp only[hc,decide_true,if_true,bL (hap _),aH h2,cA,h92,bL (hap2 _),cP]
    have:=ih (i+1) ((out++[92])++[s[i]]) (by omega) (by simp;omega) (by omega)
    simpa[wK,hc]using this
   ·simp only[hc,decide_false,Bool.false_eq_true,if_false,bL (hap _),aH h2,cA,cP]
    have:=ih (i+1) (out++[s[i]]) (by omega) (by simp;omega) (by omega)
    simpa[wK,hc]using this
  ·exact fin i out (by omega) ho hi
theorem Rb (s:Bs) (hs:s.length≤1000000):Ret 88 [.str s] [] (.str (gA s),[]):=by
 refine M88 s ?_
 simp only[T88]
 have h34:[V.int IntKind.u8 (34:Int)]=ofBytes [34]:=rfl
 rw[h34]
 exact O3 s hs s.length 0 [34] (by omega) (by simp) (by omega)
end Go.Proofs.YtdoaoaicdimbeaaGreatDoor
end
section
namespace Go.Proofs.YtdoaoaicdimbeaaGreatDoor
open Go.Ev Go
open List (headD tail getD length drop take)
open V (getI getL getT getS getB)
set_option maxRecDepth 100000
variable (call : FuncId → Fun) (icall : aO (V × List Ob)) (again : List It → St → Option (V × List Ob))
end Go.Proofs.YtdoaoaicdimbeaaGreatDoor
end
section
namespace Go.Proofs.YtdoaoaicdimbeaaGreatDoor
open Go.Ev Go
theorem EW (l:Ps) (base:Bs) (m:Nat) (h:∀p∈l,p.2.length≤m):∀f n:Nat,(joinL l base f n).length≤f*m
 |0,n=>by simp[joinL]
 |f+1,n=>by
  rw[joinL]
  split
  ·simp
  ·rename_i v hv
   obtain⟨p,hp,_,hle⟩:=qF hv
   have:=h p hp
   have:=EW l base m h f (n+1)
   rw[List.length_append,Nat.add_mul]
   omega
theorem J7 {l:Ps} {base v:Bs} {m:Nat} (h:∀p∈l,p.2.length≤m) (hv:Ap l base=some v):v.length≤(l.length+1)*m:=by
 have hm:m≤(l.length+1)*m:=Nat.le_mul_of_pos_left m (by omega)
 unfold Ap at hv
 split at hv
 ·rename_i u hu
  cases hv
  obtain⟨p,hp,_,h2⟩:=gW hu
  have:=h p hp
  have:=congrArg List.length h2
  omega
 ·split at hv
  ·rename_i u hu
   cases hv
   obtain⟨p,hp,_,h2⟩:=gW hu
   have:=h p hp
   have:=Nat.le_trans (An (qD u)) (tZ u)
   have:=congrArg List.length h2
   omega
  ·unfold EF at hv
   split at hv
   ·cases hv;exact EW l base m h _ _
   ·cases hv
theorem rH (l:Ps) (m:Nat) (h:∀p∈l,p.2.length≤m):∀(q:Ps) (seen:List Bs),∀p∈nF l seen q,p.2.length≤(l.length+1)*m
 |[],seen=>by simp[nF]
 |p::r,seen=>by
  unfold nF
  split
  ·exact rH l m h r seen
  ·split
   ·rename_i x hx
    intro y hy
    rcases List.mem_cons.1 hy with rfl|hy
    ·exact J7 h hx
    ·exact rH l m h r _ y hy
   ·exact rH l m h r _
theorem fU {s:Bs} {two:Bool} {t u:Bs} {ps:Ps} (h:dY s two=some (t,u,ps)):t.length≤s.length∧u.length≤s.length∧∀p∈ps,p.2.length≤(s.length+1)*s.length:=by
 have key:∀q:Bs,q.length≤s.length→∀p∈nF (cQ q) [] (cQ q),p.2.length≤(s.length+1)*s.length:=by
  intro q hq p hp
  obtain⟨g1,g2⟩:=oK q.length q (Nat.le_refl _)
  have:=rH (cQ q) s.length (fun p hp=>by have:=g2 p hp;omega) (cQ q) [] p hp
  exact Nat.le_trans this (Nat.mul_le_mul_right _ (by omega))
 have h0:=nE s
 have h1:=jL (dA s)
 unfold dY at h
 split at h
 ·cases h
 ·split at h
  ·split at h
   ·cases h
   ·rename_i s2 hs2
    split at h
    ·cases h
    ·cases h
     have h2:=iP hs2
     have h3:=jL s2
     exact⟨by rw[List.length_map];omega,by rw[List.length_map];omega,key _ (by omega)⟩
  ·cases h
   exact⟨by rw[List.length_map];omega,by simp,key _ (by omega)⟩
def Gf (c:UInt8):Bool:=decide (32≤(c.toNat:Int))&&decide ((c.toNat:Int)<127)
theorem Rc (c:UInt8):Ret 87 [.int .u8 (c.toNat:Nat)] [] (.bool (Gf c),[]):=by
 refine M87 (c.toNat:Nat) ?_
 simp only[T87]
 unfold Gf
 by_cases h:(32:Int)≤(c.toNat:Int)
 ·have h' :((c.toNat:Nat):Int)≥32:=h
  simp only[h',h,decide_true,if_true,Bool.true_and,cV]
  exact aD _
 ·have h' :¬(((c.toNat:Nat):Int)≥32):=h
  simp only[h',h,decide_false,Bool.false_eq_true,if_false,Bool.false_and,cV]
  exact aD _
theorem J8 (s:Bs) (hs:s.length≤1000000):∀(n i:Nat),s.length - i=n→i≤s.length→
  Evt (fun k j=>L86 (aA cfg k) j s (s.length:Nat) (i:Nat)) (.bool ((s.drop i).all Gf),[])
 |0,i,h,hi=>by
  refine NL s (s.length:Nat) (i:Nat) ?_
  have h1:¬((i:Int)<(s.length:Int)):=by omega
  rw[List.drop_eq_nil_of_le (by omega)]
  simp only[EV,h1,decide_false,Bool.false_eq_true,if_false,List.all_nil]
  exact aD _
 |n+1,i,h,hi=>by
  have hlt:i<s.length:=by omega
  refine NL s (s.length:Nat) (i:Nat) ?_
  have h1:((i:Int)<(s.length:Int)):=by omega
  have h2:(0:Int)≤(i:Nat):=by omega
  have hw:IntKind.wrap .i64 (((i:Nat):Int)+1)=((i+1:Nat):Int):=by rw[wrap64 (by omega) (by omega)];omega
  simp only[EV,h1,decide_true,if_true,aH h2,cA,Int.toNat_natCast,getD_at hlt,hw]
  refine aB (Rc s[i]) ?_
  rw[drop_at hlt,List.all_cons]
  cases hp:Gf s[i]with
  |false=>
   simp only[aU,Bool.not_false,if_true,Bool.false_and]
   exact aD _
  |true=>
   simp only[aU,Bool.not_true,Bool.false_eq_true,if_false,Bool.true_and]
   exact J8 s hs n (i+1) (by omega) (by omega)
theorem Re (s:Bs) (hs:s.length≤1000000):Ret 86 [.str s, .clo (.func 87) [] []] [] (.bool (s.all Gf),[]):=by
 refine M86 s ?_
 simp only[T86]
 exact J8 s hs s.length 0 (by omega) (by omega)
def nI (s:Bs):Bs:=(([123]++bR s.length)++[125,13,10])++s
def dN (s:Bs):Bs:=if s.length≤1000∧s.all Gf=true then gA s else if Lib.indexByte s 0= -1 then nI s else[126]++nI s
theorem GY (s:Bs):(nI s).length≤2*s.length+5:=by
 have:=lW s.length
 simp only[nI,List.length_append,List.length_cons,List.length_nil];omega
theorem Gg (s:Bs):(gA s).length≤2*s.length+2:=by
 have:∀s:Bs,(s.flatMap wK).length≤2*s.length:=by
  intro s
  induction s with
  |nil=>simp
  |cons c r ih=>
   rw[List.flatMap_cons,List.length_append,List.length_cons]
   have:(wK c).length≤2:=by unfold wK;split<;>simp
   omega
 have:=this s
 simp only[gA,List.length_append,List.length_cons,List.length_nil];omega
theorem eY (s:Bs):(dN s).length≤2*s.length+6:=by
 have h1:=GY s
 have h2:=Gg s
 unfold dN
 split
 ·omega
 ·split
  ·omega
  ·simp only[List.length_append,List.length_cons,List.length_nil];omega
theorem lK (s:Bs) (hs:s.length≤1000000000):Ret 45 [.str s] [] (.str (dN s),[]):=by
 have lit:Evt (fun(k _:Nat)=>Option.bind (aA cfg k 47 [.int .i64 ((s.length:Nat):Int)] []) fun z0=>
   chk (bO [123] (V.getS z0.1)) (chk (bO ([123]++(V.getS z0.1)) [125,13,10]) (chk (bO (([123]++(V.getS z0.1))++[125,13,10]) s) (Option.bind (aA cfg k 89 [.str s, .int .u8 (0:Int)] []) fun z1=>
   if(decide ((V.getI z1.1)≥(0:Int)))=true then
    chk (bO [126] ((([123]++(V.getS z0.1))++[125,13,10])++s)) (some ((V.str ([126]++((([123]++(V.getS z0.1))++[125,13,10])++s))),([]:List Ob)))
   else
    some ((V.str ((([123]++(V.getS z0.1))++[125,13,10])++s)),[])))))
   (.str (if Lib.indexByte s 0= -1 then nI s else[126]++nI s),[]):=by
  have hd:=lW s.length
  have hl:=GY s
  refine aB (EE s.length (by omega)) ?_
  have c1:bO [123] (bR s.length)=true:=fD (by simp;omega)
  have c2:bO ([123]++bR s.length) [125,13,10]=true:=fD (by simp;omega)
  have c3:bO (([123]++bR s.length)++[125,13,10]) s=true:=fD (by simp;omega)
  have hix:Ret 89 [.str s, .int .u8 (0:Int)] [] (.int .i64 (Lib.indexByte s 0),[]):=eD (h:=Ey) (by kernel_rfl) (by simp[Ey])
  simp only[aR,bL c1,bL c2,bL c3]
  refine aB hix ?_
  have hge:=Lib.indexByte_ge s 0
  show Evt (fun(k _:Nat)=>if(decide ((V.getI (.int .i64 (Lib.indexByte s 0)))≥(0:Int)))=true then chk (bO [126] (nI s)) (some ((V.str ([126]++nI s)),([]:List Ob)))else some ((V.str (nI s)),[])) _
  by_cases h:Lib.indexByte s 0= -1
  ·have h' :¬(Lib.indexByte s 0≥0):=by omega
   rw[if_pos h]
   simp only[cC,h',decide_false,Bool.false_eq_true,if_false]
   exact aD _
  ·have h' :Lib.indexByte s 0≥0:=by omega
   have c4:bO [126] (nI s)=true:=fD (by simp;omega)
   rw[if_neg h]
   simp only[cC,h',decide_true,if_true,bL c4]
   exact aD _
 refine M45 s ?_
 simp only[T45]
 unfold dN
 by_cases h:s.length≤1000
 ·have h1:((s.length:Nat):Int)≤1000:=by omega
  simp only[h1,decide_true,if_true]
  refine aB (Re s (by omega)) ?_
  cases ha:s.all Gf with
  |true=>
   rw[if_pos ⟨h,rfl⟩]
   simp only[aU,if_true]
   refine aB (Rb s (by omega)) ?_
   exact aD _
  |false=>
   rw[if_neg (fun e=>by cases e.2)]
   simp only[aU,Bool.false_eq_true,if_false]
   exact lit
 ·have h1:¬(((s.length:Nat):Int)≤1000):=by omega
  rw[if_neg (fun e=>h e.1)]
  simp only[h1,decide_false,Bool.false_eq_true,if_false]
  exact lit
def jG:Bs:=[78,73,76]
def qJ (s:Bs) (is:Bool):Bs:=if is then dN s else jG
theorem Cl (s:Bs) (hs:s.length≤1000000000) (is:Bool):Ret 52 [.str s, .bool is] [] (.str (qJ s is),[]):=by
 refine M52 s is ?_
 simp only[T52]
 cases is with
 |false=>simp only[Bool.not_false,if_true];exact aD _
 |true=>
  simp only[Bool.not_true,Bool.false_eq_true,if_false]
  refine aB (lK s hs) ?_
  exact aD _
theorem gJ (s:Bs) (is:Bool):(qJ s is).length≤2*s.length+6:=by
 have:=eY s
 unfold qJ
 split
 ·exact this
 ·simp[jG]
def kO (l:List Bs):Bs:=([40]++Lib.join l [32])++[41]
theorem GZ (m:Nat):∀l:List Bs,(∀x∈l,x.length≤m)→Lib.lens l≤l.length*m
 |[],_=>by simp[Lib.lens]
 |x::r,h=>by
  have h1:=h x (by simp)
  have h2:=GZ m r fun y hy=>h y (by simp[hy])
  simp only[Lib.lens,List.map_cons,List.sum_cons,List.length_cons,Nat.add_mul,Nat.one_mul]at h2 ⊢
  omega
theorem uD (m:Nat) (l:List Bs) (h:∀x∈l,x.length≤m):(Lib.join l [32]).length≤l.length* (m+1):=by
 cases l with
 |nil=>simp[Lib.join]
 |cons x r=>
  have:=GZ m (x::r) h
  rw[Lib.join_length]
  simp only[List.length_cons,List.length_nil,Nat.mul_add,Nat.mul_one,Nat.zero_add,Nat.one_mul]at this ⊢
  omega
theorem G3 (l:List Bs) (hl:l.length≤10000000) (hj:(Lib.join l [32]).length≤100000000000000):Ret 50 [.lst 9 false (l.map V.str)] [] (.str (kO l),[]):=by
 refine M50 (l.map V.str) ?_
 simp only[T50]
 have hm:(l.map V.str).map V.getS=l:=by rw[List.map_map];exact(List.map_congr_left fun x _=>rfl).trans (List.map_id l)
 have hjn:Ret 85 [.lst 9 false (l.map V.str), .str [32]] [] (.str (Lib.join l [32]),[]):=by
  refine eD (h:=sV) (by kernel_rfl) ?_
  simp only[sV,hm,List.length_map]
  rw[if_pos ⟨by omega,by omega⟩]
 refine aB hjn ?_
 have c1:bO [40] (Lib.join l [32])=true:=fD (by simp;omega)
 have c2:bO ([40]++Lib.join l [32]) [41]=true:=fD (by simp;omega)
 simp only[aR,bL c1,bL c2]
 exact aD _
def mM (ps:Ps):List Bs:=ps.flatMap fun p=>[dN p.1,dN p.2]
def oO (ps:Ps):Bs:=if ps=[]then jG else kO (mM ps)
theorem uE:∀ps:Ps,(mM ps).length=2*ps.length
 |[]=>rfl
 |p::r=>by have:=uE r;simp only[mM,List.flatMap_cons,List.length_append,List.length_cons,List.length_nil]at this ⊢;omega
theorem J9 (ps:Ps) (hn:ps.length≤1000000) (hv:∀p∈ps,p.1.length≤10000000∧p.2.length≤10000000):∀(n i:Nat),ps.length - i=n→i≤ps.length→
  Evt (fun k j=>L84 (aA cfg k) j ((mM (ps.take i)).map V.str) (ps.map pV) (ps.length:Nat) (i:Nat)) (.str (kO (mM ps)),[])
 |0,i,h,hi=>by
  refine NJ ((mM (ps.take i)).map V.str) (ps.map pV) (ps.length:Nat) (i:Nat) ?_
  have h1:¬((i:Int)<(ps.length:Int)):=by omega
  simp only[ET,h1,decide_false,Bool.false_eq_true,if_false]
  rw[List.take_of_length_le (by omega)]
  have hm:∀x∈mM ps,x.length≤20000006:=by
   intro x hx
   obtain⟨p,hp,hx⟩:=List.mem_flatMap.1 hx
   obtain⟨h1,h2⟩:=hv p hp
   have e1:=eY p.1
   have e2:=eY p.2
   simp only[List.mem_cons,List.not_mem_nil,or_false]at hx
   rcases hx with rfl|rfl<;>omega
  have hj:=uD 20000006 (mM ps) hm
  have hl:=uE ps
  refine aB (G3 (mM ps) (by omega) (by rw[hl]at hj;omega)) ?_
  exact aD _
 |n+1,i,h,hi=>by
  have hlt:i<ps.length:=by omega
  obtain⟨b1,b2⟩:=hv ps[i] (List.getElem_mem hlt)
  refine NJ ((mM (ps.take i)).map V.str) (ps.map pV) (ps.length:Nat) (i:Nat) ?_
  have h1:((i:Int)<(ps.length:Int)):=by omega
  have h2:(0:Int)≤(i:Nat):=by omega
  have hw:IntKind.wrap .i64 (((i:Nat):Int)+1)=((i+1:Nat):Int):=by rw[wrap64 (by omega) (by omega)];omega
  have hc:V.cells (pV ps[i])=[.str ps[i].1, .str ps[i].2]:=rfl
  simp only[ET,h1,decide_true,if_true,aH h2,List.length_map,cA,Int.toNat_natCast,yC hlt,hc,List.headD_cons,List.tail_cons,aR,hw]
  refine aB (lK ps[i].1 (by omega)) ?_
  refine aB (lK ps[i].2 (by omega)) ?_
  have hl:=uE (ps.take i)
  have htl:(ps.take i).length≤i:=by rw[List.length_take];omega
  have hap:aW ((mM (ps.take i)).map V.str) [.str (dN ps[i].1), .str (dN ps[i].2)] 17=true:=dM (by simp;omega)
  have:=J9 ps hn hv n (i+1) (by omega) (by omega)
  have ht:mM (ps.take (i+1))=mM (ps.take i)++[dN ps[i].1,dN ps[i].2]:=by
   rw[List.take_add_one,List.getElem?_eq_getElem hlt]
   simp only[mM,Option.toList_some,List.flatMap_append,List.flatMap_cons,List.flatMap_nil,List.append_nil]
  rw[ht,List.map_append]at this
  simp only[aR,bL hap]
  exact this
theorem NM (ps:Ps) (hn:ps.length≤1000000) (hv:∀p∈ps,p.1.length≤10000000∧p.2.length≤10000000):Ret 84 [.lst 176 false (ps.map pV)] [] (.str (oO ps),[]):=by
 refine M84 (ps.map pV) ?_
 simp only[T84,List.length_map]
 unfold oO
 by_cases h:ps=[]
 ·subst h
  rw[if_pos rfl]
  exact aD _
 ·have h1:(((ps.length:Nat):Int)==0)=false:=by
   have:=List.length_pos_iff.2 h
   have:¬(((ps.length:Nat):Int)=0):=by omega
   simpa using this
  rw[if_neg h]
  simp only[h1,Bool.false_eq_true,if_false]
  exact J9 ps hn hv ps.length 0 (by omega) (by omega)
end Go.Proofs.YtdoaoaicdimbeaaGreatDoor
end
section
namespace Go.Proofs.YtdoaoaicdimbeaaGreatDoor
open Go.Ev Go
def Pt.kd:Pt→Nat| .mk k _ _ _ _ _=>k
def Pt.hd:Pt→Nat×Nat| .mk _ h _ _ _ _=>h
def Pt.bd:Pt→Nat×Nat| .mk _ _ b _ _ _=>b
def Pt.ks:Pt→List Pt| .mk _ _ _ l _ _=>l
def Pt.cs:Pt→List (Nat×Nat)| .mk _ _ _ _ c _=>c
def Pt.en:Pt→Nat×Nat| .mk _ _ _ _ _ e=>e
def NN:Pt:=eF 0 0 0
theorem eR (p:Pt):V.agg [.int .i64 (p.kd:Nat), .int .i64 (p.hd.1:Nat), .int .i64 (p.hd.2:Nat), .int .i64 (p.bd.1:Nat), .int .i64 (p.bd.2:Nat), .lst 36 false (p.ks.map partV), .lst 32 false (p.cs.map cutV), .int .i64 (p.en.1:Nat), .int .i64 (p.en.2:Nat)]=partV p:=by
 cases p;rw[partV,vP];rfl
theorem Gi (p:Pt):V.cells (partV p)=[.int .i64 (p.kd:Nat), .int .i64 (p.hd.1:Nat), .int .i64 (p.hd.2:Nat), .int .i64 (p.bd.1:Nat), .int .i64 (p.bd.2:Nat), .lst 36 false (p.ks.map partV), .lst 32 false (p.cs.map cutV), .int .i64 (p.en.1:Nat), .int .i64 (p.en.2:Nat)]:=by
 rw[←eR];rfl
theorem O4 {α:Type} {g g' :Nat→Nat→Option α} {r:α} (hg:∀k n,g k n=g' k n) (h:Evt g' r):Evt g r:=by
 obtain⟨K,h⟩:=h
 exact⟨K,fun k n hk hn=>(hg k n).trans (h k n hk hn)⟩
theorem Gj (b:Bs) (d fr to:Nat) (dg:Bool) (n:Nat) {at_:Nat} {l:List Fd} {t u:Bs} {ps:Ps} {bd:Bs} {cs:List (Nat×Nat)} {e:Nat×Nat}
  (h1:(eE b (fr:Nat) (to:Nat)).1=l) (h2:(eE b (fr:Nat) (to:Nat)).2.toNat=at_) (h3:nH b l dg=(t,u,ps)) (h4:(getF ps bdB).getD []=bd) (h5:eT b at_ to bd=(cs,e)):
  eH b (d+1) fr to dg n=if t=mpB∧bd≠[]∧bd.length≤70 then
   if 0<cs.length∧n+cs.length≤1000 then
    (Pt.mk 1 (fr,at_) (at_,to) (fH (fun fr to n=>eH b d fr to (u==dgB) n) e.1 cs (n+cs.length)).1 cs e,(fH (fun fr to n=>eH b d fr to (u==dgB) n) e.1 cs (n+cs.length)).2)
   else(eF fr at_ to,n)
  else if t=Ma∧u=Mb∧Ch b l=true∧n<1000 then(Pt.mk 2 (fr,at_) (at_,to) [(eH b d at_ to false (n+1)).1] [] (0,0),(eH b d at_ to false (n+1)).2)
  else(eF fr at_ to,n):=by
 rw[eH]
 simp only[h1,h2,h3,h4,h5]
theorem Cm (ent:Nat→Nat→Nat→Pt×Nat) (h:∀fr to n,(ent fr to n).2+1=n+cntF (ent fr to n).1) (fin:Nat):∀(cs:List (Nat×Nat)) (n:Nat),(fH ent fin cs n).2+cs.length=n+jY (fH ent fin cs n).1
 |[],n=>by simp[fH,jY]
 |c::r,n=>by
  have h1:=h c.2 (max (sD fin r) c.2) n
  have h2:=Cm ent h fin r (ent c.2 (max (sD fin r) c.2) n).2
  rw[fH,jY,List.length_cons]
  simp only
  omega
theorem AG (b:Bs):∀(d fr to:Nat) (dg:Bool) (n:Nat),(eH b d fr to dg n).2+1=n+cntF (eH b d fr to dg n).1
 |0,fr,to,dg,n=>by rw[eH];simp only[eF,cntF,jY]
 |d+1,fr,to,dg,n=>by
  generalize h1:(eE b (fr:Nat) (to:Nat)).1=l
  generalize h2:(eE b (fr:Nat) (to:Nat)).2.toNat=at_
  obtain⟨t,u,ps,h3⟩:∃t u ps,nH b l dg=(t,u,ps):=⟨_,_,_,rfl⟩
  generalize h4:(getF ps bdB).getD []=bd
  obtain⟨cs,e,h5⟩:∃cs e,eT b at_ to bd=(cs,e):=⟨_,_,rfl⟩
  rw[Gj b d fr to dg n h1 h2 h3 h4 h5]
  split
  ·split
   ·have:=Cm (fun fr to n=>eH b d fr to (u==dgB) n) (fun fr to n=>AG b d fr to _ n) e.1 cs (n+cs.length)
    rw[cntF]
    simp only
    omega
   ·simp only[eF,cntF,jY]
  ·split
   ·have:=AG b d at_ to false (n+1)
    simp only[cntF,jY]
    omega
   ·simp only[eF,cntF,jY]
end Go.Proofs.YtdoaoaicdimbeaaGreatDoor
end
section
namespace Go.Proofs.YtdoaoaicdimbeaaGreatDoor
open Go.Ev Go
theorem lZ {x y:Bs} (h:x=y):sEq x y=true:=by subst h;simp[sEq]
theorem mA {x y:Bs} (h:¬x=y):sEq x y=false:=by simp[sEq,h]
theorem Md (t u x y:Bs):(if sEq t x=true then some (sEq u y)else some false)=some (decide (t=x∧u=y)):=by
 by_cases h1:t=x
 ·by_cases h2:u=y
  ·rw[lZ h1,lZ h2,if_pos rfl,decide_eq_true ⟨h1,h2⟩]
  ·rw[lZ h1,mA h2,if_pos rfl,decide_eq_false (fun e=>h2 e.2)]
 ·rw[mA h1,if_neg (by decide),decide_eq_false (fun e=>h1 e.1)]
def hdL (b:Bs) (p:Pt):List Fd:=(eE b (p.hd.1:Nat) (p.hd.2:Nat)).1
theorem NP (b:Bs) (hb:b.length≤3000) (p:Pt) (name:Bs) (hn:name.length≤1000) (two:Bool):
  Ret 83 [.lst 5 false (ofBytes b),partV p, .str name, .bool two] [] (mK (dY (aT b (hdL b p) name) two),[]):=by
 obtain⟨h1,h2⟩:=qI b (p.hd.1:Nat) (p.hd.2:Nat)
 have hv:=bI b (hdL b p) name
 rw[←eR p]
 refine M83 (ofBytes b) (p.kd:Nat) (p.hd.1:Nat) (p.hd.2:Nat) (p.bd.1:Nat) (p.bd.2:Nat) (p.ks.map partV) (p.cs.map cutV) (p.en.1:Nat) (p.en.2:Nat) name two ?_
 simp only[T83]
 refine aB (Cb b (by omega) (p.hd.1:Nat) (p.hd.2:Nat)) ?_
 simp only[bC,List.headD_cons,bE]
 refine aB (lY b (by omega) (hdL b p) (by unfold hdL;omega) (fun f hf=>by have:=h1 f hf;omega) name (by omega)) ?_
 simp only[aR]
 refine aB (NB _ (by omega) two) ?_
 cases dY (aT b (hdL b p) name) two with
 |none=>exact aD _
 |some o=>obtain⟨t,u,ps⟩:=o;exact aD _
def qK (b:Bs) (p:Pt) (name:Bs):Bs:=qJ (aT b (hdL b p) name) (eX (hdL b p) name).isSome
theorem AH (b:Bs) (hb:b.length≤3000) (p:Pt) (name:Bs) (hn:name.length≤1000):
  Ret 46 [.lst 5 false (ofBytes b),partV p, .str name] [] (.str (qK b p name),[]):=by
 obtain⟨h1,h2⟩:=qI b (p.hd.1:Nat) (p.hd.2:Nat)
 have hv:=bI b (hdL b p) name
 have hl:(hdL b p).length≤1000000:=by unfold hdL;omega
 have hl2:∀f∈hdL b p,f.1.length≤1000000:=fun f hf=>by have:=h1 f hf;omega
 rw[←eR p]
 refine M46 (ofBytes b) (p.kd:Nat) (p.hd.1:Nat) (p.hd.2:Nat) (p.bd.1:Nat) (p.bd.2:Nat) (p.ks.map partV) (p.cs.map cutV) (p.en.1:Nat) (p.en.2:Nat) name ?_
 simp only[T46]
 refine aB (Cb b (by omega) (p.hd.1:Nat) (p.hd.2:Nat)) ?_
 simp only[bC,List.headD_cons,bE]
 refine aB (AA (hdL b p) hl hl2 name (by omega)) ?_
 refine aB (lY b (by omega) (hdL b p) hl hl2 name (by omega)) ?_
 have hf:V.getB (List.headD (List.tail (V.getT (qG (eX (hdL b p) name)))) V.bot)=(eX (hdL b p) name).isSome:=by cases eX (hdL b p) name<;>rfl
 simp only[aR,hf]
 refine aB (Cl _ (by omega) _) ?_
 exact aD _
def Gk:Bs:=[99,111,110,116,101,110,116,45,116,114,97,110,115,102,101,114,45,101,110,99,111,100,105,110,103]
def EX (b:Bs) (p:Pt):Bs:=if(aT b (hdL b p) Gk).map dR=[]then[55,98,105,116]else(aT b (hdL b p) Gk).map dR
theorem Do (b:Bs) (p:Pt):(EX b p).length≤b.length+4:=by
 have:=bI b (hdL b p) Gk
 unfold EX
 split
 ·simp
 ·rw[List.length_map];omega
theorem NQ (b:Bs) (hb:b.length≤3000) (p:Pt):Ret 36 [.lst 5 false (ofBytes b),partV p] [] (.str (EX b p),[]):=by
 obtain⟨h1,h2⟩:=qI b (p.hd.1:Nat) (p.hd.2:Nat)
 have hv:=bI b (hdL b p) Gk
 have hl:(hdL b p).length≤1000000:=by unfold hdL;omega
 have hl2:∀f∈hdL b p,f.1.length≤1000000:=fun f hf=>by have:=h1 f hf;omega
 rw[←eR p]
 refine M36 (ofBytes b) (p.kd:Nat) (p.hd.1:Nat) (p.hd.2:Nat) (p.bd.1:Nat) (p.bd.2:Nat) (p.ks.map partV) (p.cs.map cutV) (p.en.1:Nat) (p.en.2:Nat) ?_
 simp only[T36]
 refine aB (Cb b (by omega) (p.hd.1:Nat) (p.hd.2:Nat)) ?_
 simp only[bC,List.headD_cons,bE]
 refine aB (lY b (by omega) (hdL b p) hl hl2 Gk (by simp[Gk])) ?_
 simp only[aR]
 refine aB (Ak _ (by omega)) ?_
 simp only[aR]
 unfold EX
 by_cases h:(aT b (hdL b p) Gk).map dR=[]
 ·rw[if_pos h]
  simp only[lZ h,Bool.not_true,Bool.false_eq_true,if_false]
  exact aD _
 ·rw[if_neg h]
  simp only[mA h,Bool.not_false,if_true]
  exact aD _
def ctN:Bs:=[99,111,110,116,101,110,116,45,116,121,112,101]
def oP:Bs:=[109,117,108,116,105,112,97,114,116]
def Ka:Bs:=[109,105,120,101,100]
def qL:Bs:=[109,101,115,115,97,103,101]
def Bj:Bs:=[114,102,99,56,50,50]
def textW:Bs:=[116,101,120,116]
def plainW:Bs:=[112,108,97,105,110]
def Rf:Bs:=[97,112,112,108,105,99,97,116,105,111,110]
def TN:Bs:=[111,99,116,101,116,45,115,116,114,101,97,109]
def csW:Bs:=[99,104,97,114,115,101,116]
def usW:Bs:=[117,115,45,97,115,99,105,105]
def AI (kd:Nat):Option (Bs×Bs×Ps)→Bs×Bs×Bs
 |none=>if kd=1 then(oP,Ka,jG)else if kd=2 then(qL,Bj,jG)else(textW,plainW,kO [dN csW,dN usW])
 |some (t,u,ps)=>
  if kd=1 then(if t=oP then(t,u,oO ps)else(oP,Ka,jG))
  else if kd=2 then(if t=qL∧u=Bj then(t,u,oO ps)else(qL,Bj,jG))
  else if t=oP∨(t=qL∧u=Bj)then(Rf,TN,jG)else(t,u,oO ps)
def dW (b:Bs) (p:Pt):Bs×Bs×Bs:=AI p.kd (dY (aT b (hdL b p) ctN) true)
def EY (q:Bs×Bs×Bs):V:= .tup [.str q.1, .str q.2.1, .str q.2.2]
theorem G4 (b:Bs) (hb:b.length≤3000) (p:Pt):Ret 43 [.lst 5 false (ofBytes b),partV p] [] (EY (dW b p),[]):=by
 have hval:=NP b hb p ctN (by simp[ctN]) true
 have hvl:=bI b (hdL b p) ctN
 have hrow:Ret 50 [.lst 9 false [.str (dN csW), .str (dN usW)]] [] (.str (kO [dN csW,dN usW]),[]):=by
  refine G3 [dN csW,dN usW] (by simp) ?_
  have h1:=eY csW
  have h2:=eY usW
  have:=uD 30 [dN csW,dN usW] (fun x hx=>by
   simp only[List.mem_cons,List.not_mem_nil,or_false]at hx
   rcases hx with rfl|rfl
   ·simp only[csW,List.length_cons,List.length_nil]at h1 ⊢;omega
   ·simp only[usW,List.length_cons,List.length_nil]at h2 ⊢;omega)
  simp only[List.length_cons,List.length_nil]at this
  omega
 unfold dW
 rw[←eR p]at hval ⊢
 refine M43 (ofBytes b) (p.kd:Nat) (p.hd.1:Nat) (p.hd.2:Nat) (p.bd.1:Nat) (p.bd.2:Nat) (p.ks.map partV) (p.cs.map cutV) (p.en.1:Nat) (p.en.2:Nat) ?_
 simp only[T43]
 refine aB hval ?_
 have k1t:p.kd=1→(((p.kd:Nat):Int)==1)=true:=fun h=>by rw[h];rfl
 have k1f:¬p.kd=1→(((p.kd:Nat):Int)==1)=false:=fun h=>by
  have:¬(((p.kd:Nat):Int)=1):=by omega
  simpa using this
 have k2t:p.kd=2→(((p.kd:Nat):Int)==2)=true:=fun h=>by rw[h];rfl
 have k2f:¬p.kd=2→(((p.kd:Nat):Int)==2)=false:=fun h=>by
  have:¬(((p.kd:Nat):Int)=2):=by omega
  simpa using this
 cases ho:dY (aT b (hdL b p) ctN) true with
 |none=>
  have e1:sEq ([]:Bs) qL=false:=by decide
  have e2:sEq ([]:Bs) oP=false:=by decide
  have c0:V.cells (.agg [.str [], .str [], .lst 176 false []])=[.str [], .str [], .lst 176 false []]:=rfl
  simp only[mK,bC,List.headD_cons,List.tail_cons,c0,aR,aU,bE]
  refine bY (v:=false) (if_neg (by rw[show sEq ([]:Bs) [109,101,115,115,97,103,101]=false from e1];decide)) ?_
  unfold AI
  by_cases h1:p.kd=1
  ·rw[if_pos h1]
   simp only[k1t h1,if_true]
   refine bY (v:=false) (by simp only[Bool.false_eq_true,if_false]) ?_
   simp only[Bool.false_eq_true,if_false]
   exact aD _
  ·rw[if_neg h1]
   simp only[k1f h1,Bool.false_eq_true,if_false]
   by_cases h2:p.kd=2
   ·rw[if_pos h2]
    simp only[k2t h2,if_true]
    refine bY (v:=false) rfl ?_
    simp only[Bool.false_eq_true,if_false]
    exact aD _
   ·rw[if_neg h2]
    simp only[k2f h2,Bool.false_eq_true,if_false,Bool.not_false,if_true]
    refine aB (lK csW (by simp[csW])) ?_
    refine aB (lK usW (by simp[usW])) ?_
    simp only[aR]
    refine aB hrow ?_
    exact aD _
 |some o=>
  obtain⟨t,u,ps⟩:=o
  obtain⟨g1,g2⟩:=fZ ho
  obtain⟨g3,g4,g5⟩:=fU ho
  have gp:∀q∈ps,q.1.length≤10000000∧q.2.length≤10000000:=fun q hq=>by
   have a1:=g2 q hq
   have a2:=g5 q hq
   have a3:((aT b (hdL b p) ctN).length+1)* (aT b (hdL b p) ctN).length≤3001*3000:=Nat.mul_le_mul (by omega) (by omega)
   omega
  have rp:=NM ps (by omega) gp
  have c0:V.cells (.agg [.str t, .str u, .lst 176 false (ps.map pV)])=[.str t, .str u, .lst 176 false (ps.map pV)]:=rfl
  have tell:∀(a1 a2:Bs),Evt (fun(k _:Nat)=>Option.bind (aA cfg k 84 [.lst 176 false (ps.map pV)] []) fun z3=>some ((V.tup [.str a1, .str a2, .str (V.getS z3.1)]),([]:List Ob))) (.tup [.str a1, .str a2, .str (oO ps)],[]):=fun a1 a2=>by
   refine aB rp ?_
   exact aD _
  simp only[mK,bC,List.headD_cons,List.tail_cons,c0,aR,aU,bE]
  refine bY (v:=decide (t=qL∧u=Bj)) ?_ ?_
  ·exact Md t u qL Bj
  unfold AI
  have mt:t=oP→sEq t [109,117,108,116,105,112,97,114,116]=true:=fun h=>lZ h
  have mf:¬t=oP→sEq t [109,117,108,116,105,112,97,114,116]=false:=fun h=>mA h
  by_cases h1:p.kd=1
  ·simp only[if_pos h1,k1t h1,if_true]
   by_cases ht:t=oP
   ·rw[if_pos ht]
    refine bY (v:=true) (by rw[mt ht]) ?_
    simp only[if_true]
    exact tell t u
   ·rw[if_neg ht]
    refine bY (v:=false) (by rw[mf ht]) ?_
    simp only[Bool.false_eq_true,if_false]
    exact aD _
  ·simp only[if_neg h1,k1f h1,Bool.false_eq_true,if_false]
   by_cases h2:p.kd=2
   ·simp only[if_pos h2,k2t h2,if_true]
    refine bY (v:=decide (t=qL∧u=Bj)) rfl ?_
    by_cases ht:t=qL∧u=Bj
    ·simp only[if_pos ht,decide_eq_true ht,if_true]
     exact tell t u
    ·simp only[if_neg ht,decide_eq_false ht,Bool.false_eq_true,if_false]
     exact aD _
   ·simp only[if_neg h2,k2f h2,Bool.false_eq_true,if_false,Bool.not_true]
    by_cases ht:t=oP
    ·refine bY (v:=true) (by rw[mt ht];rfl) ?_
     rw[if_pos (.inl ht)]
     simp only[if_true]
     exact aD _
    ·refine bY (v:=decide (t=qL∧u=Bj)) (by rw[mf ht];rfl) ?_
     by_cases hr:t=qL∧u=Bj
     ·rw[if_pos (.inr hr)]
      simp only[decide_eq_true hr,if_true]
      exact aD _
     ·rw[if_neg (by rintro(h|h);exact ht h;exact hr h)]
      simp only[decide_eq_false hr,Bool.false_eq_true,if_false]
      exact tell t u
end Go.Proofs.YtdoaoaicdimbeaaGreatDoor
end
