/- Lemmas for the claim, merged: the plain reading of the program's functions, its soundness, and what they compute. -/
import Derived.Test.YtgpofjbdjiajeaaGreatDoorPkB
import Derived.ChangeSame
import Derived.RowKit3
open List renaming all_eq_true→Ux,append_assoc→Ud,append_nil→UI,cons_append→UA,contains_eq_mem→VI,count_append→VK,count_pos_iff→UQ,drop→Wb,drop_succ_cons→V2,drop_zero→U7,eq_nil_of_length_eq_zero→Ue,ext_getElem?→UK,filterMap_append→Vd,filterMap_cons→VS,filter_eq_self→VC,flatMap_cons→U8,getD→Ul,getD_eq_getElem?_getD→Ur,getElem?_append_left→TU,getElem?_append_right→Ub,getElem?_cons_succ→Ve,getElem?_drop→UN,getElem?_eq_getElem→TP,getElem?_eq_none→Ut,getElem?_eq_some_iff→TQ,getElem?_set_ne→Uq,getElem?_set_self→Us,getElem?_take→Uw,getElem_mem→U3,isEmpty_iff→V4,length→US,length_cons→Ua,length_map→Ui,length_nil→Uh,length_set→Ws,length_take→Vo,map_congr_left→VB,map_cons→UE,map_nil→VL,mem_append→TV,mem_cons→UH,mem_filterMap→VW,mem_of_getElem?→Uu,mem_of_mem_drop→U1,mem_of_mem_take→U0,mem_or_eq_of_mem_set→V8,mem_range→Wk,nil_append→UV,nodup_cons→Wr,pairwise_append→VZ,pairwise_cons→VX,range→Vr,replicate→TZ,replicate_succ→VR,set_cons_succ→VG,set_cons_zero→V5,set_eq_of_length_le→We,set_set→Wo,size_toArray→Vj,take→Wp,take_add_one→VE,take_append_drop→U9,take_length→Wj,take_succ_cons→V1
open Int renaming toNat_natCast→TW
open Nat renaming add_assoc→Vf,add_mul→Vh,add_zero→U2,le_of_not_lt→UZ,le_refl→TY,le_trans→Uy,lt_of_lt_of_le→Up,lt_or_ge→VM,mul_comm→VN,mul_le_mul_right→Vi,zero_add→UD,zero_le→Wd
open Bool renaming and_eq_true→TR,and_self→Wq,false_eq_true→TL,false_or→VF,not_eq_true'→UX,not_true→UP,or_eq_true→Va
open Option renaming bind_eq_some_iff→T0,isNone_iff_eq_none→VA,isSome_iff_exists→Vp,map_eq_some_iff→UG,map_some→UF
open Array renaming ext'→Vl,getD_eq_getD_getElem?→Un,getElem?_eq_getElem→Uj,getElem?_eq_none→Vk,getElem?_eq_some_iff→TX,getElem?_setIfInBounds_ne→VU,length_toList→Vq,map→Ww,replicate→VT
set_option linter.all false
set_option linter.unusedVariables false
set_option linter.unusedSimpArgs false
section
namespace Go.Ev
section
variable {c : Cfg} {E : Ent} {w : World} {μ : List Nat} {R : Type}
theorem get_at {S:St} {t:Nat} {v:V} (h:S.get t=v) (hv:v≠ .bot):S.env[t]? =some v:=by
 unfold St.get at h
 by_cases hs:t<S.env.length
 ·rw[Ur,TP hs]at h
  rw[TP hs];simpa using h
 ·rw[Ur,Ut (UZ hs)]at h
  exact absurd h.symm hv
theorem Ho {G:Gh} {S:St} {a:Act} (hS:cV c E w G μ S a) {t:Nat} {v:V} (h:S.env[t]? =some v):a.tmps.toList[t]? =some (a.eval (.tmp t)):=by
 have h1:=(TQ.1 h).1
 have h2:t<a.tmps.size:=Up h1 (by simpa using hS.inv.len)
 simp[Act.eval,Un,Uj h2]
theorem nQ {K:St→Option R} {r:R} {a:Act}:∀(l:List Nat) (S:St) (G:Gh),mF S l K=some r→cV c E w G μ S a→
  ∃S' G',K S' =some r∧cV c E w G' μ S' a∧S'.objs=S.objs∧S'.env.length=S.env.length∧∀t,t∉l→S'.env[t]? =S.env[t]?
 |[],S,G,h,hS=>⟨S,G,h,hS,rfl,rfl,fun _ _=>rfl⟩
 |t::l,S,G,h,hS=>by
  unfold mF at h
  split at h
  ·rename_i e xs hg
   rw[bC]at h
   have ht:=get_at hg (by simp)
   have hx:=Ho hS ht
   obtain⟨G1,h1⟩:=(hS.take ht hx).sealFront
   have h2:=h1.put t
   rw[Wo,set_self hx]at h2
   obtain⟨S',G',k1,k2,k3,k4,k5⟩:=nQ l _ G1 h h2
   refine⟨S',G',k1,k2,k3,by simpa using k4,fun u hu=>?_⟩
   simp only[UH,not_or]at hu
   rw[k5 u hu.2,Uq (Ne.symm hu.1)]
  ·obtain⟨S',G',k1,k2,k3,k4,k5⟩:=nQ l S G h hS
   exact⟨S',G',k1,k2,k3,k4,fun u hu=>k5 u fun h=>hu (by simp[h])⟩
theorem eY {K:St→Option R} {r:R}:∀(l:List Nat) (S:St),mF S l K=some r→∃S',K S' =some r∧S'.objs=S.objs
 |[],S,h=>⟨S,h,rfl⟩
 |t::l,S,h=>by
  unfold mF at h
  split at h
  ·rw[bC]at h
   obtain⟨S',h1,h2⟩:=eY l _ h
   exact⟨S',h1,h2⟩
  ·exact eY l S h
end
end Go.Ev
end
section
namespace Go.Ev
section
variable {c : Cfg} {E : Ent} {w : World} {G : Gh} {μ : List Nat} {env : List V} {tmps : List Value} {objs : List Ob} {R : Type}
theorem Sim.reput (h:Sim c E w G μ env tmps objs) (i:Nat) {v:V} (hr:∀x,tmps[i]? =some x→Rep c w G μ v x∧aG v x=[]):Sim c E w G μ (env.set i v) tmps objs:=by
 by_cases hi:i<env.length
 ·have hlt:i<tmps.length:=Up hi h.inv.len
  have hx:=TP hlt
  have:=(h.push (hr _ hx).1 (hr _ hx).2).put i
  rwa [set_self hx]at this
 ·rw[We (UZ hi)];exact h
def lJ (live:List Nat):Nat→List V→List V
 |_,[]=>[]
 |t,v::r=>(if live.contains t then v else .bot)::lJ live (t+1) r
theorem wN {R:Type} (live:List Nat):∀(env:List V) (t:Nat) (K:List V→Option R),DC live t env K=K (lJ live t env)
 |[],_,_=>rfl
 |v::r,t,K=>by simp only[DC,lJ,wN live r]
theorem Ae {R:Type}:∀(n:Nat) (l:List Ob) (K:List Ob→Option R),B1 n l K=K (l.take n)
 |0,_,_=>by simp[B1]
 |_+1,[],_=>by simp[B1]
 |n+1,o::r,K=>by simp[B1,Ae n r]
theorem Cf (live:List Nat):∀(env:List V) (t i:Nat) (v:V),(lJ live t env)[i]? =some v→v= .bot∨env[i]? =some v
 |[],_,i,v,h=>by simp[lJ]at h
 |a::r,t,0,v,h=>by
  simp only[lJ,List.getElem?_cons_zero,Option.some.injEq]at h
  split at h
  ·right;simpa using h
  ·left;exact h.symm
 |a::r,t,i+1,v,h=>by
  simp only[lJ,Ve]at h
  exact Cf live r (t+1) i v h
theorem uN (live:List Nat):∀(env:List V) (t:Nat),(lJ live t env).length=env.length
 |[],_=>rfl
 |a::r,t=>by simp[lJ,uN live r (t+1)]
theorem Af (live:List Nat):∀(env:List V) (t:Nat) (tmps:List Value),(∀b,cnt b (aH aG (lJ live t env) tmps)≤cnt b (aH aG env tmps))∧∀l∈aH aG (lJ live t env) tmps,l∈aH aG env tmps
 |[],_,_=>⟨fun _=>TY _,fun _ h=>h⟩
 |a::r,t,[]=>by simp[lJ,aH]
 |a::r,t,x::xs=>by
  obtain⟨h1,h2⟩:=Af live r (t+1) xs
  simp only[lJ,aH]
  split
  ·refine⟨fun b=>?_,fun l hl=>?_⟩
   ·rw[aK,aK];have:=h1 b;omega
   ·rw[TV]at hl ⊢;exact hl.imp id (h2 l)
  ·rw[eS]
   refine⟨fun b=>?_,fun l hl=>?_⟩
   ·rw[aK,aK];have:=h1 b;simp only[uG];omega
   ·rw[TV];exact .inr (h2 l (by simpa using hl))
theorem Sim.keep (h:Sim c E w G μ env tmps objs) (live:List Nat) (t:Nat):Sim c E w G μ (lJ live t env) tmps objs:=by
 obtain⟨h1,h2⟩:=Af live env t tmps
 refine⟨⟨by rw[uN];exact h.inv.len,fun i v x hv hx=>?_,h.inv.olen,h.inv.obs,fun b=>?_,fun l hl=>?_,h.inv.mine,h.inv.none,h.inv.glob⟩,h.stp,fun b hb hc=>h.own b hb ?_,h.pre⟩
 ·rcases Cf live env t i v hv with rfl|hv
  ·exact .bot _
  ·exact h.inv.rep i v x hv hx
 ·have:=h.inv.one b;have:=h1 b;omega
 ·refine h.inv.ok l ?_
  rw[TV]at hl ⊢
  exact hl.imp (h2 l) id
 ·have:=h1 b;omega
theorem tD (w:World):∀(objs:List Ob) (μ:List Nat) (n:Nat),aM w objs μ=aM w (objs.take n) (μ.take n)++aM w (objs.drop n) (μ.drop n)
 |[],_,n=>by simp[aM]
 |o::os,[],n=>by cases n<;>simp[aM]
 |o::os,b::bs,0=>by simp[aM]
 |o::os,b::bs,n+1=>by
  simp only[V1,V2]
  rw[cH,cH,tD w os bs n,Ud]
theorem Sim.trunc (h:Sim c E w G μ env tmps objs) (n:Nat) (hn:E.μ.length≤n) (h1:∀i∈V.refsL env,i<n) (h2:∀i∈lA (objs.take n),i<n):Sim c E w G (μ.take n) env tmps (objs.take n):=by
 have hl:=tD w objs μ n
 have hcount:∀b,(μ.take n).count b≤μ.count b:=fun b=>by
  conv=>rhs;rw[←U9 n μ,VK]
  omega
 have hget:∀i b,i<n→μ[i]? =some b→(μ.take n)[i]? =some b:=fun i b hi hb=>by rw[Uw,if_pos hi];exact hb
 refine⟨⟨h.inv.len,fun i v x hv hx=>(h.inv.rep i v x hv hx).more fun k b hk hb=>hget k b (h1 k (gX env i v k hv hk)) hb,by simp[h.inv.olen],fun i o b ho hb=>?_,fun b=>?_,fun l hl' =>?_,fun b hb=>h.inv.mine b (U0 hb),h.inv.none,h.inv.glob⟩,h.stp,fun b hb hc=>h.own b hb ?_,?_⟩
 ·have hi:i<n:=by
   have:=(TQ.1 ho).1
   simp at this;omega
  have ho' :objs[i]? =some o:=by rw[Uw,if_pos hi]at ho;exact ho
  have hb' :μ[i]? =some b:=by rw[Uw,if_pos hi]at hb;exact hb
  have:=(h.inv.obs i o b ho' hb').mapped (μ' :=μ.take n) id fun k b hk hb=>hget k b (h2 k (lI _ i o k ho hk)) hb
  have e:o.ren id=o:=by
   cases o with
   |cells cs=>
    simp only[Ob.ren]
    congr 1
    apply UK
    intro j
    rw[nO]
    cases cs[j]? with
    |none=>rfl
    |some v=>simp[G7 id v (fun _ _=>rfl)]
   |_=>rfl
  rwa [e]at this
 ·have:=h.inv.one b
  rw[hl,aK]at this
  have:=hcount b
  omega
 ·refine h.inv.ok l ?_
  rw[hl]
  simp only[TV]at hl' ⊢
  rcases hl' with h|h
  ·exact .inl h
  ·exact .inr (.inl h)
 ·rw[hl,aK]
  have:=hcount b
  omega
 ·obtain⟨ν,hν⟩:=h.pre
  exact⟨ν.take (n - E.μ.length),by rw[hν,List.take_append,List.take_of_length_le hn]⟩
theorem Hp (v:V):v.cut1.refs=v.refs:=by cases v<;>rfl
theorem iQ (n:Nat) (s:CSh) (v:V):lD objs n s v=v∨(∃t i,v= .ifc t i)∧(lD objs n s v= .bot∨∃t k cs,v= .ifc t (.ref k 0)∧n≤k∧objs.getD k .dead= .cells cs∧cs.all V.solid=true∧V.refsL cs=[]∧lD objs n s v= .ifo false t (.cpt (cs.map V.cut1))):=by
 unfold lD
 split
 ·rename_i t k o
  refine .inr ⟨⟨_,_,rfl⟩,?_⟩
  split
  ·rename_i hcnd
   simp only[TR,beq_iff_eq,decide_eq_true_eq]at hcnd
   obtain⟨rfl,hk⟩:=hcnd
   split
   ·rename_i cs hcs
    split
    ·rename_i h2
     simp only[TR,V4]at h2
     exact .inr ⟨t,k,cs,rfl,hk,hcs,h2.1,h2.2,rfl⟩
    ·exact .inl rfl
   ·exact .inl rfl
  ·exact .inl rfl
 ·exact .inl rfl
theorem EY (n:Nat) (s:CSh) (v:V) (x:Value):aS (lD objs n s v) x=aS v x:=by
 rcases iQ (objs:=objs) n s v with h|⟨⟨t,i,rfl⟩,h⟩
 ·rw[h]
 ·rcases h with h|⟨t',k,cs,_,_,_,_,_,h⟩<;>rw[h]<;>cases x<;>rfl
theorem Ag (n:Nat):∀(sh:List CSh) (vs:List V) (xs:List Value),aH aS (bL objs n sh vs) xs=aH aS vs xs
 |[],vs,xs=>by simp[bL]
 |_::_,[],xs=>by simp[bL]
 |s::r,v::vs,[]=>by simp[bL,aH]
 |s::r,v::vs,x::xs=>by
  show aS (lD objs n s v) x++aH aS (bL objs n r vs) xs=aS v x++aH aS vs xs
  rw[EY,Ag n r vs xs]
theorem xX (w:World) (n:Nat):∀(osh:List OSh) (os:List Ob) (bs:List Nat),aM w (bO objs n osh os) bs=aM w os bs
 |[],os,bs=>by simp[bO]
 |_::_,[],bs=>by simp[bO]
 |s::r,o::os,[]=>by simp[bO,aM]
 |s::r,o::os,b::bs=>by
  simp only[bO,cH,xX w n r os bs]
  congr 1
  cases s<;>cases o<;>first
   |rfl
   |exact Ag n _ _ _
theorem pH (n:Nat):∀(osh:List OSh) (os:List Ob),(bO objs n osh os).length=os.length
 |[],os=>by simp[bO]
 |_::_,[]=>by simp[bO]
 |s::r,o::os=>by simp[bO,pH n r os]
theorem uO (n:Nat):∀(osh:List OSh) (os:List Ob) (i:Nat) (o:Ob),(bO objs n osh os)[i]? =some o→∃o0,os[i]? =some o0∧(o=o0∨∃sh cs,o0= .cells cs∧o= .cells (bL objs n sh cs))
 |[],os,i,o,h=>⟨o,by simpa[bO]using h, .inl rfl⟩
 |_::_,[],i,o,h=>by simp[bO]at h
 |s::r,a::os,0,o,h=>by
  simp only[bO,List.getElem?_cons_zero,Option.some.injEq]at h
  refine⟨a,rfl,?_⟩
  subst h
  cases s<;>cases a<;>first
   |exact .inl rfl
   |exact .inr ⟨_,_,rfl,rfl⟩
 |s::r,a::os,i+1,o,h=>by
  simp only[bO,Ve]at h ⊢
  exact uO n r os i o h
theorem mM (n:Nat):∀(sh:List CSh) (vs:List V),(bL objs n sh vs).length=vs.length
 |[],vs=>by simp[bL]
 |_::_,[]=>by simp[bL]
 |s::r,v::vs=>by simp[bL,mM n r vs]
theorem qG (n:Nat):∀(sh:List CSh) (vs:List V) (i:Nat) (u:V),(bL objs n sh vs)[i]? =some u→∃v,vs[i]? =some v∧(u=v∨∃s,u=lD objs n s v)
 |[],vs,i,u,h=>⟨u,by simpa[bL]using h, .inl rfl⟩
 |_::_,[],i,u,h=>by simp[bL]at h
 |s::r,a::vs,0,u,h=>by
  simp only[bL,List.getElem?_cons_zero,Option.some.injEq]at h
  exact⟨a,rfl, .inr ⟨s,h.symm⟩⟩
 |s::r,a::vs,i+1,u,h=>by
  simp only[bL,Ve]at h ⊢
  exact qG n r vs i u h
theorem Cg (n:Nat) (v:V):lD objs n (CSh.of v) v=v∧lD objs n (CSh.of v).soft v=v:=by
 rcases iQ (objs:=objs) n (CSh.of v) v with h|⟨⟨t,i,rfl⟩,h⟩
 ·rcases iQ (objs:=objs) n (CSh.of v).soft v with h' |⟨⟨t,i,rfl⟩,h'⟩
  ·exact⟨h,h'⟩
  ·exact⟨rfl,rfl⟩
 ·exact⟨rfl,rfl⟩
theorem Sim.close (h:Sim c E w G μ env tmps objs) (n:Nat) (hn:E.μ.length≤n) (osh:List OSh) (h1:∀i∈V.refsL env,i<n) (h2:∀i∈lA (bO objs n osh (objs.take n)),i<n):
  ∃G',Sim c E w G' (μ.take n) env tmps (bO objs n osh (objs.take n)):=by
 let G' :Gh:=fun b=>if b∈μ.drop n then(cC w b).length else G b
 have hG:∀b,b∉μ.drop n→G' b=G b:=fun b hb=>by simp only[G',if_neg hb]
 have hs:iT w G w G' :=by
  refine⟨fun _ _ _=>rfl,fun b=>?_,TY _⟩
  by_cases hb:b∈μ.drop n
  ·rw[(h.inv.mine b (U1 hb)).2];exact Wd _
  ·rw[hG b hb];exact TY _
 have hcnt:∀b,μ.count b=(μ.take n).count b+(μ.drop n).count b:=fun b=>by
  conv=>lhs;rw[←U9 n μ,VK]
 have hapart:∀b,0<cnt b (aH aG env tmps)+cnt b (aM w objs μ)+(μ.take n).count b→b∉μ.drop n:=fun b h0 hb=>by
  have:=UQ.2 hb
  have:=h.inv.one b
  have:=hcnt b
  omega
 have hl:=tD w objs μ n
 have hlc:aM w (bO objs n osh (objs.take n)) (μ.take n)=aM w (objs.take n) (μ.take n):=xX w n osh _ _
 have hget:∀i b,i<n→μ[i]? =some b→(μ.take n)[i]? =some b:=fun i b hi hb=>by rw[Uw,if_pos hi];exact hb
 refine⟨G',⟨h.inv.len,fun i v x hv hx=>((h.inv.rep i v x hv hx).mono hs).more fun k b hk hb=>hget k b (h1 k (gX env i v k hv hk)) hb,by rw[pH];simp[h.inv.olen],fun i o b ho hb=>?_,fun b=>?_,fun l hl' =>?_,fun b hb=>?_,fun b hb=>?_,fun g k hg=>(h.inv.glob g k hg).mono hs⟩,
  ⟨h.stp.size,h.stp.sealed.trans hs,fun b hb hu=>?_,h.stp.os,h.stp.out,h.stp.tape⟩,fun b hb hc=>h.own b hb ?_,?_⟩
 ·obtain⟨o0,ho0,hoo⟩:=uO n osh _ i o ho
  have hi:i<n:=by
   have:=(TQ.1 ho0).1
   simp at this;omega
  have ho' :objs[i]? =some o0:=by rw[Uw,if_pos hi]at ho0;exact ho0
  have hb' :μ[i]? =some b:=by rw[Uw,if_pos hi]at hb;exact hb
  have hrefs:∀k∈o.refs,k<n:=fun k hk=>h2 k (lI _ i o k ho hk)
  have hrep:=(h.inv.obs i o0 b ho' hb').mono hs rfl
  have hcells:∀cs,o= .cells cs→∀cs0,o0= .cells cs0→cs.length=cs0.length→(∀(j:Nat) u,cs[j]? =some u→∃v,cs0[j]? =some v∧(u=v∨∃s,u=lD objs n s v))→uH c w G' (μ.take n) o b:=by
   intro cs hcs cs0 hcs0 hlen hj
   subst hcs;subst hcs0
   obtain⟨l,elem,fr,k1,k2,k3,k4,k5,k6⟩:=hrep
   refine⟨l,elem,fr,k1,k2,by omega,k4,fun j u x hu hx=>?_,fun i' o' hh=>?_⟩
   ·obtain⟨v,hv,huv⟩:=hj j u hu
    have hr:=k5 j v x hv hx
    have hur:∀k∈u.refs,k<n:=fun k hk=>hrefs k (by simp only[Ob.refs];exact gX cs j u k hu hk)
    have plain:u=v→Rep c w G' (μ.take n) u x:=fun e=>by subst e;exact hr.more fun k b hk hb=>hget k b (hur k hk) hb
    rcases huv with e|⟨s,e⟩
    ·exact plain e
    ·rcases iQ (objs:=objs) n s v with h' |⟨_,h' |⟨t,k,ds,hvk,hnk,hok,hsol,hrf,h'⟩⟩
     ·exact plain (e.trans h')
     ·rw[e,h'];exact .bot _
     ·rw[e,h']
      subst hvk
      cases hr with
      |ifc _ _ X hX=>
       cases hX with
       |ref _ _ bk hbk=>
        have hkob:objs[k]? =some (.cells ds):=by
         have hlt:k<objs.length:=by
          rcases VM k objs.length with hh|hh
          ·exact hh
          ·simp[Ul,Ut hh]at hok
         rw[TP hlt]
         simpa[Ul,TP hlt]using hok
        obtain⟨lk,ek,frk,q1,q2,q3,q4,q5,q6⟩:=h.inv.obs k _ bk hkob hbk
        have hbd:bk∈μ.drop n:=by
         refine Uu (i:=k - n) ?_
         rw[UN]
         rw[show n+(k - n)=k by omega];exact hbk
        refine .ifoS t _ _ (.cpt _ bk 0 lk (by simpa using q3) q4 (fun j' u' x' hu' hx' =>?_) fun j' x' hx' =>?_)
        ·obtain⟨v',hv',rfl⟩:=bQ hu'
         refine((q5 j' v' x' hv' hx').mono hs).cut1.more fun k' b' hk' _=>?_
         rw[Hp]at hk'
         have:=gX ds j' v' k' hv' hk'
         rw[hrf]at this;cases this
        ·refine⟨?_,?_⟩
         ·simp only[World.cell?,q1,UD];simpa using hx'
         ·simp only[G',if_pos hbd,cC,q1,UD]
          simpa using(TQ.1 hx').1
   ·have hu:cs[0]? =some (.opt i' o'):=by rw[←hh,List.head?_eq_getElem?]
    obtain⟨v,hv,huv⟩:=hj 0 _ hu
    have hve:v= .opt i' o' :=by
     rcases huv with e|⟨s,e⟩
     ·exact e.symm
     ·rcases iQ (objs:=objs) n s v with h' |⟨_,h' |⟨t,k,ds,_,_,_,_,_,h'⟩⟩
      ·exact(e.trans h').symm
      ·rw[h']at e;cases e
      ·rw[h']at e;cases e
    exact k6 i' o' (by rw[List.head?_eq_getElem?,hv,hve])
  rcases hoo with rfl|⟨sh,cs,rfl,rfl⟩
  ·cases o with
   |cells cs=>exact hcells cs rfl cs rfl rfl fun j u hu=>⟨u,hu, .inl rfl⟩
   |sit s p=>exact hrep
   |mp kd vd es=>exact hrep
   |dead=>trivial
  ·exact hcells _ rfl _ rfl (mM n sh cs) fun j u hu=>qG n sh cs j u hu
 ·have:=h.inv.one b
  rw[hl,aK]at this
  rw[hlc]
  have:=hcnt b
  omega
 ·rw[hlc]at hl'
  have hm:l∈aH aG env tmps++aM w objs μ:=by
   rw[hl]
   simp only[TV]at hl' ⊢
   rcases hl' with h|h
   ·exact .inl h
   ·exact .inr (.inl h)
  refine(h.inv.ok l hm).same rfl (hG _ (hapart _ ?_)) hs
  rw[TV]at hm
  rcases hm with hm|hm
  ·have:=cP.2 ⟨l,hm,rfl⟩;omega
  ·have:=cP.2 ⟨l,hm,rfl⟩;omega
 ·refine⟨(h.inv.mine b (U0 hb)).1,?_⟩
  have:=UQ.2 hb
  rw[hG b (hapart b (by omega))]
  exact(h.inv.mine b (U0 hb)).2
 ·rw[hG b fun hb' =>by have:=(h.inv.mine b (U1 hb')).1;omega]
  exact h.inv.none b hb
 ·have hk:=h.stp.keep b hb hu
  refine⟨hk.1,?_⟩
  rw[hG b fun hb' =>hu (h.own b hb (by have:=UQ.2 (U1 hb');omega))]
  exact hk.2
 ·rw[hlc]at hc
  rw[hl,aK]
  have:=hcnt b
  omega
 ·obtain⟨ν,hν⟩:=h.pre
  exact⟨ν.take (n - E.μ.length),by rw[hν,List.take_append,List.take_of_length_le hn]⟩
theorem KI {S:St} {a:Act} {live:List Nat} {base:Nat} {K:St→Option R} {r:R} (h:S.normK live base K=some r) (hS:cV c E w G μ S a) (hb:E.μ.length≤base):
  ∃S' μ',K S' =some r∧cV c E w G μ' S' a:=by
 obtain⟨env,objs⟩:=S
 unfold St.normK at h
 simp only[wN,Ae]at h
 have hk:=hS.keep live 0
 simp only at hk
 split at h
 ·rename_i hcnd
  simp only[TR,Ux,decide_eq_true_eq,Vo]at hcnd
  refine⟨_,_,h,hk.trunc _ ?_ (fun i hi=>by have:=hcnd.1 i hi;omega) (fun i hi=>by have:=hcnd.2 i hi;omega)⟩
  have key:∀(l:List Nat) (n:Nat),n≤G5 l n:=by
   intro l
   induction l with
   |nil=>intro n;exact TY _
   |cons i l ih=>intro n;exact Uy (Nat.le_max_left _ _) (ih (max n (i+1)))
  exact Uy hb (key _ _)
 ·exact⟨_,_,h,hk⟩
theorem Sim.firsts {fr:List V} {cfr:List Value} (hl:cfr.length=fr.length) (h:Sim c E w G μ (fr++env) (cfr++tmps) objs):Sim c E w G μ fr cfr objs:=by
 have hz:aH aG (fr++env) (cfr++tmps)=aH aG fr cfr++aH aG env tmps:=eJ aG _ _ _ _ hl.symm
 refine⟨⟨by omega,fun i v x hv hx=>?_,h.inv.olen,h.inv.obs,fun b=>?_,fun l hl' =>?_,h.inv.mine,h.inv.none,h.inv.glob⟩,h.stp,fun b hb hc=>h.own b hb ?_,h.pre⟩
 ·have hi:=(TQ.1 hv).1
  exact h.inv.rep i v x (by rw[TU hi];exact hv) (by rw[TU (by omega)];exact hx)
 ·have:=h.inv.one b;rw[hz,aK]at this;omega
 ·refine h.inv.ok l ?_
  rw[hz]
  simp only[TV]at hl' ⊢
  rcases hl' with h|h
  ·exact .inl (.inl h)
  ·exact .inr h
 ·rw[hz,aK];omega
theorem JG (v:V) (x:Value):(∀b,cnt b (bK v x)≤cnt b (aG v x))∧∀l∈bK v x,l∈aG v x:=by
 cases v with
 |tup cs=>
  have:bK (.tup cs) x=[]:=by cases x<;>rfl
  rw[this]
  exact⟨fun b=>by simp[uG],fun l h=>by cases h⟩
 |agg cs=>cases x<;>exact⟨fun _=>TY _,fun _ h=>h⟩
 |lst e t xs=>cases x<;>exact⟨fun _=>TY _,fun _ h=>h⟩
 |_=>cases x<;>exact⟨fun _=>TY _,fun _ h=>h⟩
theorem EZ:∀(vs:List V) (xs:List Value),(∀b,cnt b (aH bK vs xs)≤cnt b (aH aG vs xs))∧∀l∈aH bK vs xs,l∈aH aG vs xs
 |[],_=>⟨fun _=>TY _,fun _ h=>h⟩
 |_::_,[]=>⟨fun _=>TY _,fun _ h=>h⟩
 |v::vs,x::xs=>by
  obtain⟨h1,h2⟩:=EZ vs xs
  obtain⟨g1,g2⟩:=JG v x
  simp only[aH]
  refine⟨fun b=>?_,fun l hl=>?_⟩
  ·rw[aK,aK];have:=h1 b;have:=g1 b;omega
  ·rw[TV]at hl ⊢;exact hl.imp (g2 l) (h2 l)
theorem Sim.tup {vs:List V} {us:List Value} (hl:us.length=vs.length) (h:Sim c E w G μ vs us objs):Sim c E w G μ [.tup vs] [.tuple us.toArray] objs:=by
 have hz:aH aG [.tup vs] [.tuple us.toArray]=aH bK vs us:=by simp[aH,aG]
 obtain⟨h1,h2⟩:=EZ vs us
 refine⟨⟨by simp,fun i v x hv hx=>?_,h.inv.olen,h.inv.obs,fun b=>?_,fun l hl' =>?_,h.inv.mine,h.inv.none,h.inv.glob⟩,h.stp,fun b hb hc=>h.own b hb ?_,h.pre⟩
 ·cases i with
  |zero=>
   simp at hv hx;subst hv;subst hx
   exact .tup vs us hl h.inv.rep
  |succ i=>simp at hv
 ·rw[hz];have:=h.inv.one b;have:=h1 b;omega
 ·rw[hz]at hl'
  refine h.inv.ok l ?_
  rw[TV]at hl' ⊢
  exact hl'.imp (h2 l) id
 ·rw[hz]at hc;have:=h1 b;omega
def Ah (tmps:Array Value):ResultVar→Sem Value
 | .tmp t=>Pure.pure (tmps.getD t undef)
 | .cell q t=>do loadVar t (←asAddr (tmps.getD q undef))
theorem Hq (fn:Func) (tmps:Array Value):results fn tmps=(do
  let vs ←fn.results.mapM (Ah tmps)
  pure (if h:vs.size=1 then vs[0]else .tuple vs):Sem Value):=by
 unfold results
 congr 1
theorem tG (hc:bA c) {S:St} {a:Act} (hS:cV c E w G μ S a):∀(l:List ResultVar) (vs:List V),(slotsOf l).Nodup→lC c S l=some vs→
  ∃(us:List Value) (env' :List V),(l.mapM (Ah a.tmps)).run c.P w= .ok us w∧
   us.length=vs.length∧(∀t,t∉slotsOf l→env'[t]? =S.env[t]?)∧env'.length=S.env.length∧Sim c E w G μ (vs++env') (us++a.tmps.toList) S.objs
 |[],vs,_,h=>by
  cases h
  exact⟨[],S.env,by simp,rfl,fun _ _=>rfl,rfl,hS⟩
 | .cell q t::l,vs,hn,h=>by
  simp only[lC]at h
  have hn' :q∉slotsOf l∧(slotsOf l).Nodup:=by simpa[slotsOf]using hn
  split at h
  ·rename_i i off v hq hv
   obtain⟨vs',h1,rfl⟩:=UG.1 h
   obtain⟨us,env',hr,hl,he,hel,hs⟩:=tG hc hS l vs' hn'.2 h1
   have hrx:=aT hS t (.tmp q)
   have hqo:opd c S t (.tmp q)= .ref i off:=hq
   rw[hqo]at hrx
   rw[hq]at hv
   simp only[jR]at hv
   split at hv
   ·rename_i cs hob
    have hobs:=St.ob_get hob
    obtain⟨b,hb⟩:=μ_get hS hobs
    obtain⟨lc,elem,fr,g1,g2,g3,g4,g5,g6⟩:=hS.inv.obs i _ b hobs hb
    have hx:a.eval (.tmp q)= .pointer (some ⟨b,0+off,none⟩):=by
     obtain⟨b',hb',hx'⟩:=mX hrx rfl
     rw[hb]at hb';cases hb';simpa using hx'
    obtain⟨u,y,hy,hrun,hru,huc,hle,hvc,hag⟩:=oN (w:=w) (b:=b) (o0:=0) hc hv g3 g4 g5 (fun j z hj=>by
     simp only[World.cell?,g1,UD];simpa using hj)
    have hx' :a.tmps.getD q undef= .pointer (some ⟨b,0+off,none⟩):=hx
    refine⟨u::us,env',?_,by simp[hl],fun k hk=>?_,hel,hs.push hru.cut (bH _ _)⟩
    ·rw[List.mapM_cons]
     simp only[Ah,hx',asAddr,Sem.run_bind,Sem.run_pure,Result.andThen_ok,hrun,hr]
    ·have hk' :k≠q∧k∉slotsOf l:=by simpa[slotsOf]using hk
     exact he k hk'.2
   ·cases hv
  ·cases h
 | .tmp t::l,vs,hn,h=>by
  simp only[lC]at h
  obtain⟨vs',h1,rfl⟩:=UG.1 h
  have hn' :t∉slotsOf l∧(slotsOf l).Nodup:=by simpa[slotsOf]using hn
  obtain⟨us,env',hr,hl,he,hel,hs⟩:=tG hc hS l vs' hn'.2 h1
  have hrun:((ResultVar.tmp t::l).mapM (Ah a.tmps)).run c.P w= .ok (a.tmps.getD t undef::us) w:=by
   rw[List.mapM_cons]
   simp only[Ah,Sem.run_bind,Sem.run_pure,Result.andThen_ok,hr]
  by_cases ht:t<S.env.length
  ·have hlt:t<a.tmps.toList.length:=Up ht hS.inv.len
   have hv:env'[t]? =some (S.get t):=by
    rw[he t hn'.1];simp[St.get,Ul,TP ht]
   have hx:a.tmps.toList[t]? =some (a.tmps.getD t undef):=by
    rw[getD_toList];simp[Ul,TP hlt]
   have:=hs.take (s:=vs'.length+t) (by rw[Ub (by omega)];simpa using hv) (by rw[Ub (by omega),hl];simpa using hx)
   rw[List.set_append_right _ _ (by omega)]at this
   refine⟨_,env'.set t (S.get t).cut,hrun,by simp[hl],fun k hk=>?_,by simpa using hel,by simpa using this⟩
   have hk' :k≠t∧k∉slotsOf l:=by simpa[slotsOf]using hk
   rw[Uq (Ne.symm hk'.1),he k hk'.2]
  ·have hv:S.get t= .bot:=by simp[St.get,Ul,Ut (UZ ht)]
   rw[hv]
   refine⟨_,env',hrun,by simp[hl],fun k hk=>?_,hel,hs.push (.bot _) (eS _)⟩
   have hk' :k≠t∧k∉slotsOf l:=by simpa[slotsOf]using hk
   exact he k hk'.2
theorem E0 {P:Program} {α:Type} (f:α→Sem Value) (l:Array α) {us:List Value} (h:(l.toList.mapM f).run P w= .ok us w):(l.mapM f).run P w= .ok us.toArray w:=by
 rw[←Array.toArray_toList (xs:=l)]
 rw[List.mapM_toArray]
 simp only[←bind_pure_comp,Sem.run_bind,h,Result.andThen_ok,Sem.run_pure]
theorem Iy (hc:bA c) {fn:Func} {S:St} {a:Act} {K:V→List Ob→Option R} {r:R} (h:DD c fn K S=some r) (hS:cV c E w G μ S a):
  ∃v u G',K v S.objs=some r∧(results fn a.tmps).run c.P w= .ok u w∧Sim c E w G' μ [v] [u] S.objs:=by
 unfold DD at h
 split at h
 ·rename_i hnd
  have hnd:=gY _ hnd
  obtain⟨S0,G0,h,hS,hob,_,_⟩:=nQ _ S G h hS
  rw[←hob]
  clear hob
  revert h hS
  generalize S0=S
  generalize G0=G
  intro h hS
  cases hv:lC c S fn.results.toList with
  |none=>simp[hv]at h
  |some vs=>
   obtain⟨us,env',hr,hl,_,_,hs⟩:=tG hc hS _ vs hnd hv
   have hf:=hs.firsts hl
   have hrun:(results fn a.tmps).run c.P w= .ok (if h:us.toArray.size=1 then us.toArray[0]else .tuple us.toArray) w:=by
    have:=E0 _ _ hr
    rw[Hq,Sem.run_bind,this]
    simp only[Result.andThen_ok,Sem.run_pure]
   rw[hv]at h
   match vs,us,hl,hf,h,hrun with
   |[v],[u],_,hf,h,hrun=>exact⟨v,u,_,h,hrun,hf⟩
   |[],[],hl,hf,h,hrun=>exact⟨_,_,_,h,hrun,hf.tup hl⟩
   |v::v' ::vs,u::u' ::us,hl,hf,h,hrun=>
    refine⟨_,_,_,h,?_,hf.tup hl⟩
    rw[hrun,dif_neg (by simp)]
 ·cases h
end
end Go.Ev
end
section
namespace Go.Ev
section
variable {c : Cfg} {E : Ent} {w w' : World} {G G' : Gh} {μ : List Nat} {env env' : List V} {tmps tmps' : List Value} {objs : List Ob}
theorem Sim.scribble {e:TypeId} {xs:List V} {a:Addr} {m:Nat} (h:Sim c E w G μ (.lst e true xs::env) (.slice (some a) xs.length m::tmps) objs)
  {fl:List Value} (hfl:fl.length=aE c e) (hroom:xs.length+1≤m) (hsin:∀x∈fl,single x=true):
  a.spot=none∧∃w',(storeCells (a.add (xs.length*aE c e)) fl).run c.P w= .ok () w'∧
   Sim c E w' G μ (.lst e true xs::env) (.slice (some a) xs.length m::tmps) objs:=by
 have hlf:aG (.lst e true xs) (.slice (some a) xs.length m)=[⟨e,a,xs.length,m,none⟩]:=by
  simp only[aG,bK,aS,if_pos (show 0<m by omega)]
 have hzz:aH aG (.lst e true xs::env) (.slice (some a) xs.length m::tmps)=⟨e,a,xs.length,m,none⟩::aH aG env tmps:=by
  show aG _ _++aH aG env tmps=_
  rw[hlf];rfl
 have hok:=h.inv.ok ⟨e,a,xs.length,m,none⟩ (by rw[hzz];simp)
 obtain⟨hsp,cs,elem,fr,hb,hGa,hcap,hfr,hee⟩:=hok
 simp only[eA]at hsp hb hGa hcap hfr
 have hfr0:=hfr
 replace hfr:∀o,G a.block≤o→o<cs.size→¬(fr.1≤o∧o<fr.2):=fun o _ ho' =>by omega
 have ha:a.add (xs.length*aE c e)=⟨a.block,G a.block,none⟩:=by
  obtain⟨ab,ao,asp⟩:=a
  simp only at hsp hGa;subst hsp
  rw[Addr.add_lit,hGa]
 have hmul:(xs.length+1)*aE c e≤m*aE c e:=Vi _ hroom
 rw[Vh,Nat.one_mul]at hmul
 have hlt:=eI hb
 obtain⟨cs',hrun,hcs'⟩:=dS c.P a.block (G a.block) elem fr fl 0 cs w hb (by rw[hfl,hGa];omega) hsin
  (fun o ho ho' =>by
   simp only[U2]at ho ho'
   exact hfr o ho (by rw[hfl,hGa]at ho';omega))
 simp only[U2]at hcs'
 have hsize:cs'.size=cs.size:=by
  have:=congrArg US hcs'
  have h3:G a.block+fl.length≤cs.size:=by rw[hGa,hfl];omega
  simp at this;omega
 refine⟨hsp,blk w a.block (.cells cs' elem fr),by rw[ha];exact hrun,?_⟩
 have hone:=h.inv.one a.block
 rw[hzz]at hone
 have hcons:∀q (l:eC) (k:List eC),cnt q (l::k)=(if l.a.block=q then 1 else 0)+cnt q k:=by
  intro q l k;simp only[cnt,List.countP_cons,beq_iff_eq];omega
 rw[hcons]at hone
 simp only[if_true]at hone
 have hMu:μ.count a.block=0:=by omega
 have hμ:∀b∈μ,b≠a.block:=fun b hbm e=>by rw[e]at hbm;have:=UQ.2 hbm;omega
 have hseal:iT w G (blk w a.block (.cells cs' elem fr)) G:=by
  refine⟨fun k o ho=>?_,fun k=>TY _,by rw[bV];exact TY _⟩
  by_cases hk:k=a.block
  ·subst hk
   simp only[World.cell?,dJ hlt,hb]
   have hlen' :o<cs.toList.length:=by
    have:G a.block≤cs.size:=by rw[hGa];omega
    simp;omega
   have e1:cs'.toList[o]? =cs.toList[o]? :=by
    rw[hcs',Ud,TU (by simp at hlen' ⊢;omega),Uw,if_pos ho]
   simpa using e1
  ·exact bU (bD hk)
 have hO:aM (blk w a.block (.cells cs' elem fr)) objs μ=aM w objs μ:=cG objs μ fun b hbm=>bD (hμ b hbm)
 have hothers:∀l,l∈aH aG env tmps++aM w objs μ→l.a.block≠a.block:=by
  intro l hl e
  rw[TV]at hl
  rcases hl with hl|hl
  ·have:=cP.2 ⟨l,hl,e⟩;omega
  ·have:=cP.2 ⟨l,hl,e⟩;omega
 refine⟨⟨h.inv.len,fun i u y hu hy=>(h.inv.rep i u y hu hy).mono hseal,h.inv.olen,fun i o b ho hb' =>?_,fun q=>by rw[hO];exact h.inv.one q,fun l hl=>?_,fun b hbm=>?_,fun b hbs=>?_,fun g k hg=>(h.inv.glob g k hg).mono hseal⟩,
  ⟨by rw[bV];exact h.stp.size,h.stp.sealed.trans hseal,fun b hbs hu=>?_,h.stp.os,h.stp.out,h.stp.tape⟩,fun b hbs hcc=>?_,h.pre⟩
 ·exact(h.inv.obs i o b ho hb').mono hseal (bD (hμ b (Uu hb')))
 ·rw[hO,hzz,UA,UH]at hl
  rcases hl with rfl|hl
  ·exact⟨hsp,cs',elem,fr,dJ hlt,hGa,by rw[hsize];exact hcap,by rw[hsize];exact⟨hfr0,hee⟩⟩
  ·exact(h.inv.ok l (by rw[hzz];simp only[TV,UH]at hl ⊢;rcases hl with hl|hl;exact .inl (.inr hl);exact .inr hl)).same (bD (hothers l hl)) rfl hseal
 ·have:=h.inv.mine b hbm
  exact⟨by rw[bV];exact this.1,this.2⟩
 ·rw[bV]at hbs;exact h.inv.none b hbs
 ·have hne:b≠a.block:=fun e=>by
   subst e
   refine hu (h.own _ hbs ?_)
   rw[hzz,hcons];simp only[if_true];omega
  have:=h.stp.keep b hbs hu
  exact⟨(bD hne).trans this.1,this.2⟩
 ·rw[hO]at hcc;exact h.own b hbs hcc
theorem KJ (hc:bA c) {st xt ty e:TypeId} {xs:List V} {S X:Value} {l:List Value} {y:Ty} (hy:c.ty e=some y) (hst:elemOf c st=some e)
  (h:Sim c E w G μ (.lst e true xs::env) (S::tmps) objs) (hsrc:Src c w e xt X 1 (flat l)) (hl:l.length=1) (hs:∀x∈l,x.cells.size=aE c e)
  (hsin:∀x∈flat l,single x=true) (hb:(xs.length+1)* (y.bytes+1)≤70368744177664):
  ∃p cap w' G',(Builtin.append_ #[st,xt] ty #[S,X]).run c.P w= .ok (.slice (some p) (xs.length+1) cap) w'∧xs.length+1≤cap∧p.spot=none∧
   Sim c E w' G' μ (.lst e true xs::env) (.slice (some p) xs.length cap::tmps) objs:=by
 have hfl:(flat l).length=aE c e:=by rw[flat_length l hs,hl,Nat.one_mul]
 have hok:=hc.ty e y hy
 have hsz:aE c e=y.size:=by simp[aE,hy]
 have hund:c.P.underlying st=some (.slice e):=by
  unfold elemOf at hst
  split at hst
  ·rename_i hty;cases hst;exact(hc.ty _ _ hty).und
  ·cases hst
 obtain⟨d,hd,hdi⟩:=hsrc.ty
 obtain⟨i,hi,his,hib,z,hz,hzf,hza⟩:=hok.info
 have hbytes:(xs.length+1)*y.bytes≤70368744177664:=Uy (Nat.mul_le_mul_left _ (Nat.le_succ _)) hb
 have hlenle:xs.length+1≤70368744177664:=Uy (Nat.le_mul_of_pos_right _ (Nat.succ_pos _)) hb
 have hzeros:(match d with| .int _=>true|_=>false)=false:=by
  cases d<;>first|rfl|exact absurd rfl (hdi _)
 have hrv:=h.inv.rep 0 _ _ rfl rfl
 cases hrv with
 |lst _ _ _ a m lo hlo hro hfo hso hzo hco hao hrowo=>
 have hflo:(flat lo).length=xs.length*aE c e:=by rw[flat_length lo hso,hlo]
 by_cases hroom:xs.length+1≤m
 ·cases a with
  |none=>have:=hao.1 rfl;omega
  |some p=>
   obtain⟨hsp,w1,hst1,hsim⟩:=h.scribble hfl hroom hsin
   refine⟨p,m,w1,G,?_,hroom,hsp,hsim⟩
   have hrun:=hsrc.run w (fun _ _ _=>rfl)
   simp[Builtin.append_,run_underlying hund,run_underlying hd,hok.sizeOf,hsrc.len,hroom,←hsz,hrun,hzeros,hst1]
 ·have hw2:∀b o,w.cell? ⟨b,o,none⟩≠none→w.drew.cell? ⟨b,o,none⟩=w.cell? ⟨b,o,none⟩:=fun _ _ _=>rfl
  have hrun:=hsrc.run w.drew hw2
  have hold:(Builtin.firstCells (aE c e) xs.length (.slice a xs.length m)).run c.P w.drew= .ok (flat lo).toArray w.drew:=by
   cases a with
   |none=>
    have:=hao.1 rfl
    have h0:xs.length=0:=by omega
    have hl0:lo=[]:=Ue (by omega)
    subst hl0
    simp[Builtin.firstCells,flat]
   |some p=>
    by_cases hne:xs=[]
    ·subst hne
     have hl0:lo=[]:=Ue (by simpa using hlo)
     subst hl0
     simp[Builtin.firstCells,flat,loadCells,loadCellsFrom]
    ·obtain⟨hsp,hr⟩:=hrowo p rfl hne
     obtain⟨pb,po,ps⟩:=p
     simp only at hsp;subst hsp
     simp only[Builtin.firstCells,←hflo]
     exact run_loadCells_list w.drew _ _ fun j v hj=>by
      rw[Addr.add_lit];exact(hr j v hj).1
  have hg:=grownCap_ge w (xs.length+1) m e
  have h63:¬(9223372036854775807<((xs.length:Int)+1)):=by omega
  have hfit:=growslice_fits (bytes:=i.bytes) (need:=xs.length+1) (old:=m) (by omega) (by rw[hib];omega)
  have h48:¬(281474976710656<Builtin.nextslicecap (xs.length+1) m*i.bytes):=by omega
  have hzc:z.cells.size=y.size:=by
   have:=(eF _ _ hzf w G μ).1
   rw[hok.size]at this;simpa using this
  have hrunA:(Builtin.append_ #[st,xt] ty #[.slice a xs.length m,X]).run c.P w=
    .ok (.slice (some ⟨w.heap.size,0,none⟩) (xs.length+1) (grownCap w (xs.length+1) m e))
     (w.drew.alloc (.cells ((flat lo).toArray++(flat l).toArray++Builtin.zeroCells z.cells (grownCap w (xs.length+1) m e - (xs.length+1))) e)):=by
   rw[hsz]at hrun hold
   simp[Builtin.append_,run_underlying hund,run_underlying hd,hok.sizeOf,hsrc.len,hroom,hrun,hold,hzeros,typeInfo,zeroValue,hi,hz,h63,h48,Question.forced,newRow,grownCap]
   congr 2
   apply Vl
   simp[Ud]
  refine⟨⟨w.heap.size,0,none⟩,grownCap w (xs.length+1) m e,_,fun k=>if k=w.heap.size then(flat lo).length else G k,hrunA,hg,rfl,?_⟩
  have hx:eH w G (w.drew.alloc (.cells ((flat lo).toArray++(flat l).toArray++Builtin.zeroCells z.cells (grownCap w (xs.length+1) m e - (xs.length+1))) e))
    (fun k=>if k=w.heap.size then(flat lo).length else G k):=
   (eH.of_drew h.inv.none).trans (eH.of_alloc (w:=w.drew) h.inv.none _ _)
  have hseal:=hx.sealed h.inv.none
  exact h.pop.newList hx (e:=e) (t:=true) (xs:=xs) (l:=lo) (cap:=grownCap w (xs.length+1) m e)
   (cs:=(flat lo).toArray++(flat l).toArray++Builtin.zeroCells z.cells (grownCap w (xs.length+1) m e - (xs.length+1))) (fr:=(0,0))
   (by show((w.heap.push _)[w.heap.size]?)=_;simp) (by simp) (fun j x hj=>by
    have hlt:=(TQ.1 hj).1
    rw[Array.append_assoc,Array.getElem?_append_left (by simpa using hlt)]
    simpa using hj)
   hlo (fun i v x hv hx=>(hro i v x hv hx).mono hseal) hfo hso hzo (by omega) (by
    simp only[Array.size_append,Vj,size_zeroCells,hzc,hflo,hfl,hsz]
    have:grownCap w (xs.length+1) m e=xs.length+1+(grownCap w (xs.length+1) m e - (xs.length+1)):=by omega
    have h2:grownCap w (xs.length+1) m e*y.size=xs.length*y.size+y.size+(grownCap w (xs.length+1) m e - (xs.length+1))*y.size:=by
     rw[this,Vh,Vh,Nat.one_mul];simp
    omega)
   (.inl rfl) hflo
end
end Go.Ev
end
section
namespace Go.Ev
section
variable {c : Cfg}
def upd (off:Nat) (s cs:List V):List V:=cs.take off++s++cs.drop (off+s.length)
theorem rK {off:Nat} {s cs:List V} (h:off+s.length≤cs.length) (k:Nat):(upd off s cs)[k]? =if off≤k∧k<off+s.length then s[k - off]? else cs[k]? :=by
 unfold upd
 by_cases h1:k<off
 ·rw[Ud,TU (by simp;omega),Uw,if_pos h1,if_neg (by omega)]
 ·by_cases h2:k<off+s.length
  ·rw[if_pos ⟨by omega,h2⟩,Ud,Ub (by simp;omega),TU (by simp;omega)]
   congr 1;simp;omega
  ·rw[if_neg (by omega),Ub (by simp;omega),UN]
   congr 1;simp;omega
theorem oV {off:Nat} {s cs:List V} (h:off+s.length≤cs.length):(upd off s cs).length=cs.length:=by
 unfold upd;simp;omega
theorem E1:∀(off:Nat) (s cs:List V),off+s.length≤cs.length→over off s cs=upd off s cs
 |0,s,cs,_=>by simp[over,upd]
 |off+1,s,[],h=>by simp at h
 |off+1,s,x::cs,h=>by
  have:=E1 off s cs (by simp at h;omega)
  simp only[over,this,upd,V1,UA]
  rw[show off+1+s.length=(off+s.length)+1 by omega,V2]
theorem wO:∀(off n:Nat) (cs:List V),off+n≤cs.length→cutAt off n cs=upd off (((cs.drop off).take n).map V.cut1) cs
 |0,0,cs,_=>by simp[cutAt,upd]
 |0,n+1,[],h=>by simp at h
 |0,n+1,x::cs,h=>by
  have:=wO 0 n cs (by simp at h;omega)
  simp only[cutAt,this,upd,U7,List.take_zero,UV,V1,UE,UA,Ua,UD,V2]
 |off+1,n,[],h=>by simp at h
 |off+1,n,x::cs,h=>by
  have h' :off+n≤cs.length:=by simp at h;omega
  have:=wO off n cs h'
  simp only[cutAt,this,upd,V1,UA,V2]
  rw[show off+1+(List.map V.cut1 (Wp n (Wb off cs))).length=(off+(List.map V.cut1 (Wp n (Wb off cs))).length)+1 by omega,V2]
theorem KL {o1 o2:Nat} {s1 s2 cs:List V} (h1:o1+s1.length≤cs.length) (h2:o2+s2.length≤cs.length) (h:o1+s1.length≤o2∨o2+s2.length≤o1):
  upd o1 s1 (upd o2 s2 cs)=upd o2 s2 (upd o1 s1 cs):=by
 apply UK
 intro k
 rw[rK (by rw[oV h2];exact h1),rK h2,rK (by rw[oV h1];exact h2),rK h1]
 by_cases a:o1≤k∧k<o1+s1.length
 ·rw[if_pos a,if_neg (by omega),if_pos a]
 ·rw[if_neg a,if_neg a]
theorem Iz {o1 o2 n:Nat} {s1 cs:List V} (h1:o1+s1.length≤cs.length) (h:o1+s1.length≤o2∨o2+n≤o1):
  ((upd o1 s1 cs).drop o2).take n=(cs.drop o2).take n:=by
 apply UK
 intro k
 rw[Uw,Uw]
 split
 ·rw[UN,UN,rK h1,if_neg (by omega)]
 ·rfl
def rZ (c:Cfg) (ops:List Oper) (o:Oper) (seg env:List V):Option (List V×List V):=
 match o.op with
 | .load t _=>(dZ c t seg).map fun v=>if owned c ops o.dst then((putS ⟨env,[]⟩ o.dst v).env,seg.map V.cut1)else((putS ⟨env,[]⟩ o.dst v.cut).env,seg)
 | .store t _ x=>if(c.ty t).isSome&&(opd c ⟨env,[]⟩ t x).cells.length==aE c t&&(opd c ⟨env,[]⟩ t x).cells.all V.solid then some ((cY ⟨env,[]⟩ x).env,(opd c ⟨env,[]⟩ t x).cells)else none
 |_=>none
def stepM (c:Cfg) (ops:List Oper) (o:Oper) (S:St):Option St:=
 match placeOf c o S with
 |none=>none
 |some (i,off,n)=>match S.objs[i]? with
  |some (.cells cs)=>if off+n≤cs.length then(rZ c ops o ((cs.drop off).take n) S.env).map fun p=>⟨p.1,S.objs.set i (.cells (upd off p.2 cs))⟩else none
  |_=>none
theorem KN {ops:List Oper} {o:Oper} {seg env e' s' :List V} (h:rZ c ops o seg env=some (e',s')) (hs:seg.length=aE c (jL o)):s'.length=aE c (jL o):=by
 unfold rZ at h
 split at h
 ·rename_i t a ho
  have:jL o=t:=by simp[jL,ho]
  rw[this]at hs ⊢
  obtain⟨v,_,h2⟩:=UG.1 h
  split at h2<;>(cases h2;simp[hs])
 ·rename_i t a x ho
  have:jL o=t:=by simp[jL,ho]
  rw[this]at hs ⊢
  split at h
  ·rename_i hc
   cases h
   simp only[TR,beq_iff_eq]at hc
   exact hc.1.2
  ·cases h
 ·cases h
theorem wP {α:Type} {l:List α} {i:Nat} {x:α} (h:l[i]? =some x):l.set i x=l:=by
 apply UK
 intro k
 by_cases hk:i=k
 ·subst hk;rw[Us (TQ.1 h).1,h]
 ·rw[Uq hk]
theorem KO {off n:Nat} {cs:List V} (h:off+n≤cs.length):upd off ((cs.drop off).take n) cs=cs:=by
 apply UK
 intro k
 have hl:((cs.drop off).take n).length=n:=by simp;omega
 rw[rK (by rw[hl];exact h),hl]
 split
 ·rename_i hk
  rw[Uw,if_pos (by omega),UN];congr 1;omega
 ·rfl
theorem MW (S:St) (t:TypeId) (x:Operand):opd c ⟨S.env,[]⟩ t x=opd c S t x:=by cases x<;>rfl
theorem KP (S:St) (x:Operand):(cY ⟨S.env,[]⟩ x).env=(cY S x).env:=by cases x<;>rfl
theorem Ch {R:Type} {call:FuncId→Fun} {icall:aN R} {ops:List Oper} {o:Oper} (hm:nI o=true) (hg:o.guard=none) {S:St} {K:St→Option R} {r:R} {i off n:Nat} (hp:placeOf c o S=some (i,off,n)):
  iO c call icall ops o S K=some r↔∃S',stepM c ops o S=some S'∧K S' =some r:=by
 obtain⟨dst,op,type,pos,after,guard⟩:=o
 simp only at hg
 subst hg
 unfold nI at hm
 cases op
 case load t a=>
  cases a
  case tmp a=>
   have hpl:S.get a= .ref i off∧n=aE c t:=by
    simp only[placeOf,fF,jL]at hp
    split at hp
    ·rename_i i' off' h
     cases hp;exact⟨h,rfl⟩
    ·cases hp
   obtain⟨h1,rfl⟩:=hpl
   simp only[iO,opK,uI,stepM,hp,show opd c S 0 (.tmp a)=S.get a from rfl,h1,jR,rZ]
   cases ho:S.objs[i]? with
   |none=>
    have:S.ob i= .dead:=by simp[St.ob,Ul,ho]
    simp[this]
   |some ob=>
    have hob:S.ob i=ob:=by simp[St.ob,Ul,ho]
    rw[hob]
    cases ob with
    |cells cs=>
     simp only[partV]
     by_cases hle:off+aE c t≤cs.length
     ·simp only[hle,if_true]
      cases hv:dZ c t ((cs.drop off).take (aE c t))with
      |none=>simp
      |some v=>
       simp only[UF]
       by_cases how:owned c ops dst=true
       ·simp only[how,V.isRef,Wq,if_true,tY,hob,eR,Option.some.injEq,exists_eq_left']
        rw[wO _ _ _ hle]
        cases dst<;>rfl
       ·simp only[how,Bool.false_and,TL,if_false,Option.some.injEq,exists_eq_left']
        rw[KO hle,wP ho]
        cases dst<;>rfl
     ·simp[hle]
    |_=>simp
  all_goals simp at hm
 case store t a x=>
  cases a
  case tmp a=>
   simp only[VA]at hm
   subst hm
   have hpl:S.get a= .ref i off∧n=aE c t:=by
    simp only[placeOf,fF,jL]at hp
    split at hp
    ·rename_i i' off' h
     cases hp;exact⟨h,rfl⟩
    ·cases hp
   obtain⟨h1,rfl⟩:=hpl
   simp only[iO,opK,stepM,hp,show opd c S 0 (.tmp a)=S.get a from rfl,h1,iN,Dz,rZ,MW,KP]
   have hob0:(cY S x).ob i=S.ob i:=by simp[St.ob,fQ]
   rw[hob0]
   cases ho:S.objs[i]? with
   |none=>
    have:S.ob i= .dead:=by simp[St.ob,Ul,ho]
    simp[this]
   |some ob=>
    have hob:S.ob i=ob:=by simp[St.ob,Ul,ho]
    rw[hob]
    cases ob with
    |cells cs=>
     simp only
     by_cases hle:off+aE c t≤cs.length
     ·by_cases hc:((c.ty t).isSome&&(opd c S t x).cells.length==aE c t&&(opd c S t x).cells.all V.solid)=true
      ·have hc' :=hc
       simp only[TR,beq_iff_eq]at hc'
       simp only[hle,hc'.1.1,hc'.1.2,hc'.2,decide_true,Wq,beq_self_eq_true,if_true,eR,UF,Option.some.injEq,exists_eq_left',fQ,putS]
       rw[E1 _ _ _ (by rw[hc'.1.2];exact hle)]
      ·have hc2:((c.ty t).isSome&&decide (off+aE c t≤cs.length)&&(opd c S t x).cells.length==aE c t&&(opd c S t x).cells.all V.solid)=false:=by
        simp only[hle,decide_true,Bool.and_true];simpa using hc
       simp[hc,hc2,hle]
     ·simp[hle]
    |_=>simp
  all_goals simp at hm
 all_goals simp at hm
theorem E2 {o:Oper} {S:St} {i off n:Nat} (h:placeOf c o S=some (i,off,n)):n=aE c (jL o):=by
 unfold placeOf at h
 split at h
 ·cases h;rfl
 ·cases h
theorem jF {ops:List Oper} {o:Oper} {seg env e' s' :List V} (h:rZ c ops o seg env=some (e',s')):e'.length=env.length∧∀t,t∉aO c ops o→e'[t]? =env[t]? :=by
 obtain⟨dst,op,type,pos,after,guard⟩:=o
 cases op
 case load t a=>
  simp only[rZ]at h
  obtain⟨v,_,h2⟩:=UG.1 h
  have key:∀u,(putS ⟨env,[]⟩ dst u).env.length=env.length∧∀t,t∉aO c ops ⟨dst, .load t a,type,pos,after,guard⟩→(putS ⟨env,[]⟩ dst u).env[t]? =env[t]? :=fun u=>by
   obtain⟨p1,p2,p3,p4⟩:=bG ⟨env,[]⟩ dst u
   refine⟨p1,fun k hk=>p3 k fun e=>hk ?_⟩
   simp[aO,e]
  split at h2<;>(cases h2;refine⟨(key _).1,fun k hk=>(key _).2 k ?_⟩;simpa[aO,eW]using hk)
 case store t a x=>
  simp only[rZ]at h
  split at h
  ·cases h
   refine⟨rI _ _,fun k hk=>rJ _ x k ?_⟩
   rintro rfl
   apply hk
   simp[aO,eW,bP]
  ·cases h
 all_goals simp[rZ]at h
theorem Ai {ops:List Oper} {o:Oper} (hm:nI o=true) {seg env env2 e' s' :List V} {L:List Nat} (h:rZ c ops o seg env=some (e',s')) (hl:env2.length=env.length) (hL:∀t∈bN ops o,t∈L) (ha:∀t∈L,env2[t]? =env[t]?):
  ∃e2,rZ c ops o seg env2=some (e2,s')∧e2.length=e'.length∧(∀t∈L,e2[t]? =e'[t]?)∧∀t∈o.dst.toList,e2[t]? =e'[t]? :=by
 have hagr:Agr L ⟨env,[]⟩ ⟨env2,[]⟩:=⟨hl,ha⟩
 obtain⟨dst,op,type,pos,after,guard⟩:=o
 cases op
 case load t a=>
  simp only[rZ]at h ⊢
  obtain⟨v,h1,h2⟩:=UG.1 h
  rw[h1,UF]
  split at h2
  ·rename_i how
   cases h2
   obtain⟨g1,g2⟩:=qF hagr dst v
   exact⟨_,by rw[if_pos how],g1.1,g1.2,fun t ht=>g2 t (by simpa using ht)⟩
  ·rename_i how
   cases h2
   obtain⟨g1,g2⟩:=qF hagr dst v.cut
   exact⟨_,by rw[if_neg how],g1.1,g1.2,fun t ht=>g2 t (by simpa using ht)⟩
 case store t a x=>
  simp only[rZ]at h ⊢
  have hx:∀s,x= .tmp s→s∈L:=fun s hs=>hL s (by subst hs;simp[bN,bY,bP,Op.operands])
  rw[hagr.opd hx]
  split at h
  ·rename_i hc
   cases h
   have:=hagr.shed hx
   have hd:dst=none:=by
    unfold nI at hm
    cases a<;>simp at hm
    exact hm
   exact⟨_,by rw[if_pos hc],this.1,this.2,fun t ht=>by subst hd;cases ht⟩
  ·cases h
 all_goals simp[rZ]at h
theorem nR {ops:List Oper} {o:Oper} {S S' :St} (h:stepM c ops o S=some S'):∃i off n cs e' s',placeOf c o S=some (i,off,n)∧S.objs[i]? =some (.cells cs)∧off+n≤cs.length∧
  rZ c ops o ((cs.drop off).take n) S.env=some (e',s')∧s'.length=n∧S' =⟨e',S.objs.set i (.cells (upd off s' cs))⟩:=by
 unfold stepM at h
 split at h
 ·cases h
 ·rename_i i off n hp
  split at h
  ·rename_i cs hcs
   split at h
   ·rename_i hle
    obtain⟨p,h1,h2⟩:=UG.1 h
    have hn:=E2 hp
    refine⟨i,off,n,cs,p.1,p.2,hp,hcs,hle,h1,?_,h2.symm⟩
    rw[KN (e' :=p.1) (s' :=p.2) h1 (by rw[←hn];simp;omega),←hn]
   ·cases h
  ·cases h
theorem qH {ops:List Oper} {o:Oper} {S:St} {i off n:Nat} {cs e' s' :List V} (hp:placeOf c o S=some (i,off,n)) (ho:S.objs[i]? =some (.cells cs)) (hle:off+n≤cs.length)
  (ha:rZ c ops o ((cs.drop off).take n) S.env=some (e',s')):stepM c ops o S=some ⟨e',S.objs.set i (.cells (upd off s' cs))⟩:=by
 unfold stepM
 simp only[hp,ho,hle,if_true,ha,UF]
theorem hH {o:Oper} {S S2:St} (h:S2.env[fF o]? =S.env[fF o]?):placeOf c o S2=placeOf c o S:=by
 unfold placeOf St.get
 rw[Ur,Ur,h]
theorem jN {ops:List Oper} {o:Oper} (h:nI o=true):fF o∈bN ops o:=by
 obtain⟨dst,op,type,pos,after,guard⟩:=o
 unfold nI at h
 cases op<;>simp at h
 ·rename_i t a
  cases a<;>simp at h
  simp[bN,fF,bY,bP,Op.operands]
 ·rename_i t a x
  cases a<;>simp at h
  simp[bN,fF,bY,bP,Op.operands]
theorem KQ {ops:List Oper} {x y:Oper} (hmx:nI x=true) (hmy:nI y=true) (s1:vU (aO c ops x) (aO c ops y++bN ops y)=true) (s2:vU (aO c ops y) (bN ops x)=true)
  {S S1 S12:St} (h1:stepM c ops x S=some S1) (h2:stepM c ops y S1=some S12) (hap:apart (placeOf c x S) (placeOf c y S1)=true):
  ∃S2,stepM c ops y S=some S2∧stepM c ops x S2=some S12:=by
 have d1:=eT s1
 have d2:=eT s2
 obtain⟨i,ox,nx,csx,e1,sx,px,obx,lex,ax,lx,rfl⟩:=nR h1
 obtain⟨j,oy,ny,csy,e12,sy,py,oby,ley,ay,ly,rfl⟩:=nR h2
 simp only at oby ay
 obtain⟨fx1,fx2⟩:=jF ax
 obtain⟨fy1,fy2⟩:=jF ay
 have pyS:placeOf c y S=some (j,oy,ny):=by
  rw[←py]
  exact hH ((fx2 _ fun hw=>d1 _ hw (by simp[jN hmy])).symm)
 obtain⟨e2,ay2,q1,q2,q3⟩:=Ai (L:=aO c ops y++bN ops y) hmy ay fx1.symm (fun t ht=>by simp[ht]) (fun t ht=>(fx2 t fun hw=>d1 t hw ht).symm)
 obtain⟨gy1,gy2⟩:=jF ay2
 have pxS:∀ob:List Ob,placeOf c x ⟨e2,ob⟩=some (i,ox,nx):=fun ob=>by
  rw[←px]
  exact hH (gy2 _ fun hw=>d2 _ hw (jN hmx))
 obtain⟨e21,ax2,r1,r2,r3⟩:=Ai (L:=aO c ops x++bN ops x) hmx ax gy1 (fun t ht=>by simp[ht]) (fun t ht=>gy2 t fun hw=>by
  rw[TV]at ht
  rcases ht with ht|ht
  ·exact d1 t ht (by simp[hw])
  ·exact d2 t hw ht)
 obtain⟨gx1,gx2⟩:=jF ax2
 have henv:e21=e12:=by
  apply UK
  intro t
  by_cases hxw:t∈aO c ops x
  ·rw[r2 t (by simp[hxw]),fy2 t (fun h=>d1 t hxw (by simp[h]))]
  ·rw[gx2 t hxw]
   by_cases hyw:t∈aO c ops y
   ·exact q2 t (by simp[hyw])
   ·rw[gy2 t hyw,fy2 t hyw,fx2 t hxw]
 subst henv
 rw[px,py]at hap
 simp only[apart,Va,UX,beq_eq_false_iff_ne,decide_eq_true_eq]at hap
 have hilt:=(TQ.1 obx).1
 by_cases hij:i=j
 ·subst hij
  have hap:ox+nx≤oy∨oy+ny≤ox:=by
   rcases hap with(h|h)|h
   ·exact absurd rfl h
   ·exact .inl h
   ·exact .inr h
  rw[Us hilt]at oby
  cases oby
  have lx' :ox+sx.length≤csx.length:=by omega
  rw[oV lx']at ley
  have ly' :oy+sy.length≤csx.length:=by omega
  rw[Iz lx' (by omega)]at ay2
  refine⟨_,qH pyS obx ley ay2,?_⟩
  have hob:(S.objs.set i (.cells (upd oy sy csx)))[i]? =some (.cells (upd oy sy csx)):=Us hilt
  have:=qH (c:=c) (ops:=ops) (o:=x) (S:=⟨e2,S.objs.set i (.cells (upd oy sy csx))⟩) (pxS _) hob (by rw[oV ly'];exact lex) (by rw[Iz ly' (by omega)];exact ax2)
  rw[this]
  simp only[Wo,Option.some.injEq,St.mk.injEq,true_and]
  rw[KL lx' ly' (by omega)]
 ·rw[Uq hij]at oby
  refine⟨_,qH pyS oby ley ay2,?_⟩
  have hob:(S.objs.set j (.cells (upd oy sy csy)))[i]? =some (.cells csx):=by rw[Uq (Ne.symm hij)];exact obx
  have:=qH (c:=c) (ops:=ops) (o:=x) (S:=⟨e2,S.objs.set j (.cells (upd oy sy csy))⟩) (pxS _) hob lex ax2
  rw[this]
  simp only[Option.some.injEq,St.mk.injEq,true_and]
  exact List.set_comm _ _ (Ne.symm hij)
theorem wQ {R:Type} (hinl:∀f,c.inl f=false) {call:FuncId→Fun} {icall:aN R} {ops:List Oper} {K:St→Option R} {r:R}:∀(l:List Oper) (S:St),dR c call icall ops l S K=some r→
  ∃S',K S' =some r∧∀t,(∀z∈l,t∉aO c ops z)→S'.env[t]? =S.env[t]?
 |[],S,h=>⟨S,by simpa[dR]using h,fun _ _=>rfl⟩
 |z::l,S,h=>by
  obtain⟨F,hF,ex⟩:=fR (R:=R) hinl (call:=call) (ops:=ops) (o:=z)
  rw[bI,ex]at h
  obtain⟨S1,h1,h2⟩:=T0.1 h
  obtain⟨S',h3,h4⟩:=wQ hinl l S1 h2
  exact⟨S',h3,fun t ht=>(h4 t fun z hz=>ht z (by simp[hz])).trans ((hF.frame S S1 h1).1 t (ht z (by simp)))⟩
theorem xY {R:Type} (hinl:∀f,c.inl f=false) {call:FuncId→Fun} {icall:aN R} {ops:List Oper} {y:Oper} {post:List Oper} {K:St→Option R} {r:R}:∀(pre:List Oper) (S:St),
  (∀x∈pre,eP c ops x y=true∨(vV c ops x y=true∧∀S',K S' =some r→apart (placeOf c x S') (placeOf c y S')=true))→bT c ops (pre++y::post)=true→
  dR c call icall ops (pre++y::post) S K=some r→dR c call icall ops (y::(pre++post)) S K=some r
 |[],_,_,_,h=>h
 |x::pre,S,hs,hst,h=>by
  obtain⟨Fx,hFx,ex⟩:=fR (R:=R) hinl (call:=call) (ops:=ops) (o:=x)
  obtain⟨Fy,hFy,ey⟩:=fR (R:=R) hinl (call:=call) (ops:=ops) (o:=y)
  rw[UA]at hst
  simp only[bT,TR]at hst
  rw[UA,bI,ex]at h
  obtain⟨S1,h1,h2⟩:=T0.1 h
  have h3:=xY hinl pre S1 (fun z hz=>hs z (by simp[hz])) hst.2 h2
  rw[bI,ey]at h3
  obtain⟨S12,h4,h5⟩:=T0.1 h3
  have hswap:∃S2,Fy S=some S2∧Fx S2=some S12:=by
   rcases hs x (by simp)with hsw|⟨hsw,hap⟩
   ·exact DT hFx hFy hsw h1 h4
   ·simp only[vV,TR,VA]at hsw
    obtain⟨⟨⟨⟨⟨mx,my⟩,gx⟩,gy⟩,s1⟩,s2⟩:=hsw
    obtain⟨Se,hk,hslot⟩:=wQ hinl (pre++post) S12 h5
    have hap:=hap Se hk
    have hx0:∀z∈x::(pre++y::post),fF x∉aO c ops z:=by
     have:=hst.1
     simp only[mx,UP,VF,Ux,UX,VI,decide_eq_false_iff_not]at this
     exact this
    have hxe:placeOf c x Se=placeOf c x S:=hH (by
     rw[hslot _ fun z hz=>hx0 z (by simp at hz ⊢;rcases hz with hz|hz<;>simp[hz]),(hFy.frame S1 S12 h4).1 _ (hx0 y (by simp)),(hFx.frame S S1 h1).1 _ (hx0 x (by simp))])
    have hy0:∀z∈y::post,fF y∉aO c ops z:=by
     have key:∀l:List Oper,bT c ops (l++y::post)=true→∀z∈y::post,fF y∉aO c ops z:=by
      intro l
      induction l with
      |nil=>
       intro h
       simp only[UV,bT,TR,my,UP,VF,Ux,UX,VI,decide_eq_false_iff_not]at h
       exact h.1
      |cons a l ih=>
       intro h
       simp only[UA,bT,TR]at h
       exact ih h.2
     exact key pre hst.2
    have hye:placeOf c y Se=placeOf c y S1:=hH (by
     rw[hslot _ fun z hz=>?_,(hFy.frame S1 S12 h4).1 _ (hy0 y (by simp))]
     rw[TV]at hz
     rcases hz with hz|hz
     ·have hl:=jN (ops:=ops) my
      intro hw
      rcases hs z (by simp[hz])with hsw|⟨hsw,_⟩
      ·simp only[eP,TR]at hsw
       exact eT hsw.1.1 _ hw (by simp[hl])
      ·simp only[vV,TR]at hsw
       exact eT hsw.1.2 _ hw (by simp[hl])
     ·exact hy0 z (by simp[hz]))
    rw[hxe,hye]at hap
    obtain⟨_,ex'⟩:=fR (R:=R) hinl (call:=call) (ops:=ops) (o:=x)
    have toM:∀(o:Oper) (F:St→Option St) (T T' :St),nI o=true→o.guard=none→(∀(R:Type) (icall:aN R) (S:St) (K:St→Option R),iO c call icall ops o S K=(F S).bind K)→(placeOf c o T).isSome=true→
      (F T=some T'↔stepM c ops o T=some T'):=by
     intro o F T T' hm hg hF hpl
     obtain⟨⟨i,off,n⟩,hp⟩:=Vp.1 hpl
     have:=Ch (call:=call) (icall:=fun _ _ _ _=>none) hm hg (K:=some) (r:=T') hp (ops:=ops)
     rw[hF]at this
     constructor
     ·intro h
      obtain⟨S',a,b⟩:=this.1 (by rw[h];rfl)
      cases b;exact a
     ·intro h
      obtain⟨S',a,b⟩:=T0.1 (this.2 ⟨T',h,rfl⟩)
      cases b;exact a
    have hpx:(placeOf c x S).isSome=true:=by
     unfold apart at hap;split at hap<;>simp_all
    have hpy:(placeOf c y S1).isSome=true:=by
     unfold apart at hap;split at hap<;>simp_all
    have m1:=(toM x Fx S S1 mx gx ex hpx).1 h1
    have m2:=(toM y Fy S1 S12 my gy ey hpy).1 h4
    obtain⟨S2,m3,m4⟩:=KQ mx my s1 s2 m1 m2 hap
    have hs3:(placeOf c y S).isSome=true:=by obtain⟨_,_,_,_,_,_,hp,_⟩:=nR m3;simp[hp]
    have hs4:(placeOf c x S2).isSome=true:=by obtain⟨_,_,_,_,_,_,hp,_⟩:=nR m4;simp[hp]
    exact⟨S2,(toM y Fy S S2 my gy ey hs3).2 m3,(toM x Fx S2 S12 mx gx ex hs4).2 m4⟩
  obtain⟨S2,h6,h7⟩:=hswap
  rw[bI,ey,h6]
  show dR c call icall ops (x::(pre++post)) S2 K=some r
  rw[bI,ex,h7]
  exact h5
theorem qI (ops:List Oper) (b:List Nat) (j:Nat) (y:Oper):∀(l:List Oper) (i0:Nat),nJ c ops b j y i0 l=true→∀(k:Nat) x,l[k]? =some x→i0+k<j→(b.getD j 0).testBit (i0+k)=false→eP c ops x y=true∨vV c ops x y=true
 |[],_,_,k,x,h,_,_=>by simp at h
 |a::l,i0,hs,k,x,h,hlt,hb=>by
  simp only[nJ,TR]at hs
  cases k with
  |zero=>
   simp at h;subst h
   have:=hs.1
   rw[if_pos (by simpa using hlt)]at this
   simp only[U2]at hb
   simp only[hb,VF,Va]at this
   exact this
  |succ k=>
   exact qI ops b j y l (i0+1) hs.2 k x (by simpa using h) (by omega) (by rw[show i0+1+k=i0+(k+1)by omega];exact hb)
theorem nS (ops:List Oper) (b:List Nat) (S:St) (j:Nat) (y:Oper):∀(l:List Oper) (i0:Nat),jS c ops b S j y i0 l=true→∀(k:Nat) x,l[k]? =some x→i0+k<j→(b.getD j 0).testBit (i0+k)=false→
  eP c ops x y=true∨apart (placeOf c x S) (placeOf c y S)=true
 |[],_,_,k,x,h,_,_=>by simp at h
 |a::l,i0,hs,k,x,h,hlt,hb=>by
  simp only[jS,TR]at hs
  cases k with
  |zero=>
   simp at h;subst h
   have:=hs.1
   rw[if_pos (by simpa using hlt)]at this
   simp only[U2]at hb
   simp only[hb,VF,Va]at this
   exact this
  |succ k=>
   exact nS ops b S j y l (i0+1) hs.2 k x (by simpa using h) (by omega) (by rw[show i0+1+k=i0+(k+1)by omega];exact hb)
theorem yX {ops:List Oper} (h:iY c ops=true):(∀(j:Nat) y,ops[j]? =some y→(∀e∈y.after.toList,Region.binds .any e=true→e.on<j)∧
  ∀(i:Nat) x,ops[i]? =some x→i<j→((ahead ops []).getD j 0).testBit i=false→eP c ops x y=true∨vV c ops x y=true):=by
 have key:∀(l:List Oper) (j0:Nat),iY.go c ops (ahead ops []) j0 l=true→∀(k:Nat) y,l[k]? =some y→(y.after.toList.all fun e=> !Region.binds .any e||decide (e.on<j0+k))=true∧nJ c ops (ahead ops []) (j0+k) y 0 ops=true:=by
  intro l
  induction l with
  |nil=>intro j0 _ k y hy;simp at hy
  |cons a r ih=>
   intro j0 h k y hy
   simp only[iY.go,TR]at h
   cases k with
   |zero=>
    simp at hy;subst hy
    exact⟨by simpa using h.1.1,by simpa using h.1.2⟩
   |succ k=>
    have:=ih (j0+1) h.2 k y (by simpa using hy)
    rw[show j0+(k+1)=j0+1+k by omega]
    exact this
 intro j y hy
 obtain⟨h1,h2⟩:=key ops 0 h j y hy
 rw[UD]at h1 h2
 refine⟨fun e he hb=>?_,fun i x hx hlt hb=>?_⟩
 ·rw[Ux]at h1
  have:=h1 e he
  simpa[hb]using this
 ·exact qI ops _ j y ops 0 h2 i x hx (by omega) (by simpa using hb)
theorem yY {ops:List Oper} {S:St} (h:iZ c ops S=true):∀(j:Nat) y,ops[j]? =some y→∀(i:Nat) x,ops[i]? =some x→i<j→((ahead ops []).getD j 0).testBit i=false→
  eP c ops x y=true∨apart (placeOf c x S) (placeOf c y S)=true:=by
 have key:∀(l:List Oper) (j0:Nat),iZ.go c ops S (ahead ops []) j0 l=true→∀(k:Nat) y,l[k]? =some y→jS c ops (ahead ops []) S (j0+k) y 0 ops=true:=by
  intro l
  induction l with
  |nil=>intro j0 _ k y hy;simp at hy
  |cons a r ih=>
   intro j0 h k y hy
   simp only[iZ.go,TR]at h
   cases k with
   |zero=>simp at hy;subst hy;exact h.1
   |succ k=>
    have:=ih (j0+1) h.2 k y (by simpa using hy)
    rw[show j0+(k+1)=j0+1+k by omega]
    exact this
 intro j y hy i x hx hlt hb
 have h2:=key ops 0 h j y hy
 rw[UD]at h2
 exact nS ops _ S j y ops 0 h2 i x hx (by omega) (by simpa using hb)
theorem sH {ops:List Oper}:∀(l l' :List Oper),l'.Sublist l→bT c ops l=true→bT c ops l' =true:=by
 intro l l' h
 induction h with
 |slnil=>intro h;exact h
 |cons a _ ih=>intro h;simp only[bT,TR]at h;exact ih h.2
 |cons_cons a hs ih=>
  intro h
  simp only[bT,TR]at h ⊢
  refine⟨?_,ih h.2⟩
  have h1:=h.1
  simp only[Va,Ux]at h1 ⊢
  rcases h1 with h1|h1
  ·exact .inl h1
  ·exact .inr fun z hz=>h1 z (by
    simp only[UH]at hz ⊢
    rcases hz with rfl|hz
    ·exact .inl rfl
    ·exact .inr (hs.subset hz))
end
section
variable {c : Cfg} {E : Ent} {R : Type}
theorem Sw {ops:Array Oper} (hof:∀(j:Nat) y,ops[j]? =some y→∀e∈y.after.toList,Region.binds .any e=true→e.on<j) {listed:Array Bool} (hcl:∀j,listed.getD j false=true→∀o,ops[j]? =some o→∀e∈o.after,Region.binds .any e=true→listed.getD e.on false=true):
  ∀(n j:Nat),j≤n→∀o,ops[j]? =some o→(∀e∈o.after,Region.binds .any e=true→listed.getD e.on false=true)→∀i,((ahead ops.toList []).getD j 0).testBit i=true→listed.getD i false=true:=by
 intro n
 induction n with
 |zero=>
  intro j hj o ho hb i hi
  obtain⟨e,h1,h2,h3⟩:=gU ops.toList [] i j o (by simpa using ho) (by simpa using hi)
  have:=hof j o ho e h1 h2
  omega
 |succ n ih=>
  intro j hj o ho hb i hi
  obtain⟨e,h1,h2,h3⟩:=gU ops.toList [] i j o (by simpa using ho) (by simpa using hi)
  have hlt:=hof j o ho e h1 h2
  have hle:=hb e (by simpa using h1) h2
  rcases h3 with h3|h3
  ·rw[←h3];exact hle
  ·have hj2:j<ops.size:=(TX.1 ho).1
   have ho2:ops[e.on]? =some ops[e.on]:=Uj (by omega)
   exact ih e.on (by omega) _ ho2 (fun e' he' hb' =>hcl e.on hle _ ho2 e' he' hb') i h3
theorem MX {ops:Array Oper} {listed:Array Bool}:((rem ops.size listed).filterMap (ops.toList[·]?)).Sublist ops.toList:=by
 have h1:(rem ops.size listed).Sublist (Vr ops.size):=List.filter_sublist
 have h2:=h1.filterMap (ops.toList[·]?)
 have h3:=eG ops.toList
 rw[Vq]at h3
 rwa [h3]at h2
theorem MY (hc:bA c) {call:FuncId→Fun} (hcall:∀f,bW c f (call f)) {icall:aN R} {ops:Array Oper} (hof:iY c ops.toList=true) (hst:bT c ops.toList ops.toList=true) {K:St→Option R} {r:R} {d:List Deferred}
  (hfree:∀S,K S=some r→iZ c ops.toList S=true)
  {Q:Exit→Act→World→Prop} (hQ:∀a w,kF c E K r d a w→Q .normal a w):
  ∀(fuel:Nat) (listed:Array Bool) (a:Act) (w:World) (G:Gh) (μ:List Nat) (S:St),listed.size=ops.size→(rem ops.size listed).length≤fuel→
   (∀j,listed.getD j false=true→∀o,ops[j]? =some o→∀e∈o.after,Region.binds .any e=true→listed.getD e.on false=true)→
   dR c call icall ops.toList ((rem ops.size listed).filterMap (ops.toList[·]?)) S K=some r→cV c E w G μ S a→a.defers=d→wpAny c.P .any ops Q fuel listed a w:=by
 have hsp:=yX hof
 have hsub:∀(listed:Array Bool) j,j∈Region.ready .any ops listed→j∈rem ops.size listed:=by
  intro listed j hj
  obtain⟨h1,o,h2,_⟩:=mem_ready.1 hj
  exact dN.2 ⟨(TX.1 h2).1,h1⟩
 have hend:∀(listed:Array Bool) (a:Act) (w:World) (G:Gh) (μ:List Nat) (S:St),rem ops.size listed=[]→
   dR c call icall ops.toList ((rem ops.size listed).filterMap (ops.toList[·]?)) S K=some r→cV c E w G μ S a→a.defers=d→Q .normal a w:=by
  intro listed a w G μ S h0 h hS hd
  rw[h0]at h
  exact hQ a w ⟨S,G,μ,h,hS,hd⟩
 intro fuel
 induction fuel with
 |zero=>
  intro listed a w G μ S hs hl hcl h hS hd
  have h0:rem ops.size listed=[]:=Ue (by omega)
  refine⟨?_,hend listed a w G μ S h0 h hS hd⟩
  cases hr:Region.ready .any ops listed with
  |nil=>rfl
  |cons j t=>have:=hsub listed j (by rw[hr];simp);rw[h0]at this;cases this
 |succ fuel ih=>
  intro listed a w G μ S hs hl hcl h hS hd
  refine⟨fun hr=>?_,fun j hj=>?_⟩
  ·cases h0:rem ops.size listed with
   |nil=>exact hend listed a w G μ S h0 h hS hd
   |cons m t=>
    have hm:=dN.1 (by rw[h0];simp:m∈rem ops.size listed)
    have hsort:=eN ops.size listed
    rw[h0,VX]at hsort
    have ho:ops[m]? =some ops[m]:=Uj hm.1
    have:m∈Region.ready .any ops listed:=mem_ready.2 ⟨hm.2,_,ho,fun e he hb=>by
     have hlt:=(hsp m ops[m] (by simp[hm.1])).1 e (by simpa using he) hb
     apply Classical.byContradiction
     intro hn
     have h1:listed.getD e.on true=false:=by
      have:e.on<listed.size:=by omega
      simp[Un,Uj this]at hn ⊢
      exact hn
     have h2:e.on∈rem ops.size listed:=dN.2 ⟨by omega,h1⟩
     rw[h0,UH]at h2
     rcases h2 with h2|h2
     ·omega
     ·have:=hsort.1 _ h2;omega⟩
    rw[hr]at this;cases this
  ·have hjr:=hsub listed j hj
   obtain⟨hj0,y,hy,hall⟩:=mem_ready.1 hj
   obtain⟨pre,post,hpp⟩:=List.append_of_mem hjr
   have hyl:ops.toList[j]? =some y:=by simpa using hy
   have hsort:=eN ops.size listed
   have hsubl:=MX (ops:=ops) (listed:=listed)
   rw[hpp,VZ]at hsort
   rw[hpp,Vd,VS,hyl]at h hsubl
   simp only at h hsubl
   have hf:=xY hc.inl (pre.filterMap (ops.toList[·]?)) S (fun x hx=>by
    obtain⟨i,hi,hix⟩:=VW.1 hx
    have hij:=hsort.2.2 i hi j (by simp)
    have hbit:((ahead ops.toList []).getD j 0).testBit i=false:=by
     cases htb:((ahead ops.toList []).getD j 0).testBit i with
     |false=>rfl
     |true=>
      have h1:=Sw (fun j y hy=>(hsp j y (by simpa using hy)).1) hcl j j (TY _) y hy hall i htb
      have h2:=(dN.1 (by rw[hpp];simp[hi]:i∈rem ops.size listed))
      have h3:i<listed.size:=by omega
      have h4:=h2.2
      simp[Un,Uj h3]at h1 h4
      rw[h1]at h4;cases h4
    by_cases hsw:eP c ops.toList x y=true
    ·exact .inl hsw
    ·refine .inr ⟨((hsp j y hyl).2 i x hix hij hbit).resolve_left hsw,fun S' hk=>?_⟩
     exact(yY (hfree S' hk) j y hyl i x hix hij hbit).resolve_left hsw) (sH _ _ hsubl hst) h
   rw[bI]at hf
   have hw:=step_ok hc hcall (Q:=Q) hy hf hS
   refine wpOp_mono (fun a' w' hp=>?_) hw
   obtain⟨S',G',μ',hk,hs',hd'⟩:=hp
   have hrt:=EW hpp hs
   refine ih (listed.setIfInBounds j true) a' w' G' μ' S' (by simpa using hs) ?_ (fun k hk' o ho e he hb=>?_) ?_ hs' (by rw[hd',hd])
   ·rw[hrt];rw[hpp]at hl;simp at hl ⊢;omega
   ·by_cases hjk:j=k
    ·subst hjk
     rw[hy]at ho;cases ho
     exact getD_set_true (hall e he hb)
    ·rw[getD_set_ne false hjk]at hk'
     exact getD_set_true (hcl k hk' o ho e he hb)
   ·rw[hrt,Vd];exact hk
theorem Hr (hc:bA c) {call:FuncId→Fun} (hcall:∀f,bW c f (call f)) {icall:aN R} {id:Nat} {ops:Array Oper} (hof:iY c ops.toList=true) (hst:bT c ops.toList ops.toList=true) {K:St→Option R} {r:R}
  (hfree:∀S,K S=some r→iZ c ops.toList S=true)
  {a:Act} {w:World} {G:Gh} {μ:List Nat} {S:St} (h:dR c call icall ops.toList ops.toList S K=some r) (hS:cV c E w G μ S a):
  (Code.region id ops true).wp c.P (fun e a' w' =>e= .normal∧kF c E K r a.defers a' w') a w:=by
 have hx:eH w G { w with drawn:=w.drawn+1 } G:=eH.of_drew hS.inv.none
 have hrem:rem ops.size (VT ops.size false)=Vr ops.size:=by
  unfold rem
  rw[VC]
  intro i hi
  have:i<ops.size:=by simpa using hi
  simp[this]
 refine wp_region_any hc.mixed (MY hc hcall (icall:=icall) hof hst (d:=a.defers) hfree (fun a' w' h=>⟨rfl,h⟩) ops.size _ a _ G μ S (by simp) (by rw[hrem];simp) (fun j hj=>?_) ?_ (hS.ext hx) rfl)
 ·by_cases hl:j<ops.size
  ·simp[hl]at hj
  ·simp[hl]at hj
 ·rw[hrem]
  have:=eG ops.toList
  rw[Vq]at this
  rw[this];exact h
end
end Go.Ev
end
section
namespace Go.Ev
section
variable {c : Cfg}
theorem JH (v:V):v.cut1.refs=v.refs:=by cases v<;>rfl
theorem tH:∀cs:List V,V.refsL (cs.map V.cut1)=V.refsL cs
 |[]=>rfl
 |v::r=>by simp only[UE,V.refsL,JH,tH r]
theorem Ht {o o' :Ob} (h:qC o=qC o'):o.refs=o'.refs:=by
 cases o<;>cases o' <;>simp only[qC,Ob.cells.injEq,reduceCtorEq,Ob.mp.injEq,Ob.sit.injEq]at h<;>try rfl
 rename_i a b
 simp only[Ob.refs]
 rw[←tH a,h,tH]
theorem Hu {l l' :List Ob} (h:dK l=dK l') (i:Nat):(l.getD i .dead).refs=(l'.getD i .dead).refs:=Ht (EU h i)
theorem tI {objs objs2:List Ob}:∀(n:Nat) (l acc:List Nat),(∀r∈l,(objs.getD r .dead).refs=[]∧(objs2.getD r .dead).refs=[])→
  gG objs2 n l acc=gG objs n l acc∧∀j∈gG objs n l acc,j∈l∨j∈acc
 |0,l,acc,_=>⟨rfl,fun j hj=> .inr hj⟩
 |n+1,[],acc,_=>⟨rfl,fun j hj=> .inr hj⟩
 |n+1,i::r,acc,h=>by
  have hi:=h i (by simp)
  simp only[gG,hi.1,hi.2,UV]
  split
  ·obtain⟨h1,h2⟩:=tI n r acc fun q hq=>h q (by simp[hq])
   refine⟨h1,fun j hj=>?_⟩
   rcases h2 j hj with h|h
   ·exact .inl (by simp[h])
   ·exact .inr h
  ·obtain⟨h1,h2⟩:=tI n r (acc++[i]) fun q hq=>h q (by simp[hq])
   refine⟨h1,fun j hj=>?_⟩
   rcases h2 j hj with h|h
   ·exact .inl (by simp[h])
   ·rw[TV]at h
    rcases h with h|h
    ·exact .inr h
    ·simp at h;exact .inl (by simp[h])
theorem xZ (i:Nat) (o:Ob):∀(js:List Nat) (os objs objs' :List Ob),i∉js→dM js os objs some=some objs'→dM js os (objs.set i o) some=some (objs'.set i o)∧objs'[i]? =objs[i]?∧objs'.length=objs.length
 |[],os,objs,objs',_,h=>by simp only[dM,Option.some.injEq]at h ⊢;subst h;exact⟨rfl,rfl,rfl⟩
 |j::js,[],objs,objs',_,h=>by simp only[dM,Option.some.injEq]at h ⊢;subst h;exact⟨rfl,rfl,rfl⟩
 |j::js,p::os,objs,objs',hi,h=>by
  simp only[UH,not_or]at hi
  simp only[dM,oL]at h ⊢
  obtain⟨h1,h2,h3⟩:=xZ i o js os (objs.set j p) objs' hi.2 h
  rw[List.set_comm _ _ hi.1]
  exact⟨h1,by rw[h2,Uq (Ne.symm hi.1)],by rw[h3,Ws]⟩
theorem JI {call:FuncId→Fun} {f:FuncId} {args:List V} {objs objs' :List Ob} {v:V} (h:nP c call f args objs=some (v,objs')) {i:Nat} {o:Ob} (hi:i∉V.refsL args)
  (hr:∀r∈V.refsL args,(objs.getD r .dead).refs=[]):objs'[i]? =objs[i]?∧objs'.length=objs.length∧nP c call f args (objs.set i o)=some (v,objs'.set i o):=by
 have hget:∀j,j≠i→(objs.set i o).getD j .dead=objs.getD j .dead:=fun j hj=>by
  rw[Ur,Ur,Uq (Ne.symm hj)]
 obtain⟨hre,hmem⟩:=tI (objs:=objs) (objs2:=objs.set i o) 100 (V.refsL args) [] fun r hr' =>⟨hr r hr',by
  rw[hget r fun e=>hi (by rw[←e];exact hr')];exact hr r hr'⟩
 have hjs:∀j∈gG objs 100 (V.refsL args) [],j≠i:=fun j hj e=>by
  rcases hmem j hj with h|h
  ·exact hi (by rw[←e];exact h)
  ·cases h
 unfold nP at h ⊢
 split at h
 ·cases h
 ·rename_i fn hfn
  split at h
  ·cases h
  ·rename_i rsh hrsh
   unfold lZ at h ⊢
   dsimp only at h ⊢
   rw[hre]
   have e1:∀{β:Type} (F:Ob→β),(gG objs 100 (V.refsL args) []).map (fun j=>F (St.ob ⟨[],objs.set i o⟩ j))=(gG objs 100 (V.refsL args) []).map fun j=>F (St.ob ⟨[],objs⟩ j):=by
    intro β F
    refine VB fun j hj=>?_
    congr 1
    exact hget j (hjs j hj)
   have e2:=e1 id
   simp only[id]at e2
   have e3:List.map (St.ob ⟨[],objs.set i o⟩) (gG objs 100 (V.refsL args) [])=List.map (St.ob ⟨[],objs⟩) (gG objs 100 (V.refsL args) []):=e2
   rw[e3]
   have e4:=e1 fun ob=>ob.ren (fun i=>(gG objs 100 (V.refsL args) []).idxOf i)
   rw[e4,Ws]
   split at h
   ·rename_i hcnd
    rw[if_pos hcnd]
    obtain⟨q,h1,h2⟩:=T0.1 h
    rw[h1,Option.bind_some]
    split at h2
    ·rename_i hst
     rw[if_pos hst]
     simp only[Option.some.injEq,Prod.mk.injEq]at h2
     obtain⟨rfl,rfl⟩:=h2
     exact⟨rfl,rfl,rfl⟩
    ·rename_i hst
     rw[if_neg hst]
     rw[kO]at h2 ⊢
     obtain⟨ob',h3,h4⟩:=T0.1 h2
     simp only[Option.some.injEq,Prod.mk.injEq]at h4
     obtain⟨rfl,rfl⟩:=h4
     obtain⟨g1,g2,g3⟩:=xZ i o _ _ _ _ (fun hm=>hjs i hm rfl) h3
     rw[g1]
     exact⟨g2,g3,rfl⟩
   ·cases h
theorem E3 {f:FuncId}:∀(l:List Operand) (i:Nat) (S:St) (ts:List TypeId),(∀k,k<l.length→c.wants f (i+k)=false)→jV c f i S l ts=(nL c S l ts,S)
 |[],i,S,ts,_=>rfl
 |x::r,i,S,ts,h=>by
  have ih:=E3 r (i+1) S ts.tail fun k hk=>by have:=h (k+1) (by simpa using hk);rwa [show i+1+k=i+(k+1)by omega]
  have h0:=h 0 (by simp)
  simp only[U2]at h0
  simp only[jV,ih,h0,TL,if_false,nL,eO,UE]
theorem jG {o:Oper} {f:FuncId} {args:List Operand} {ts:List TypeId} (h:jA o=some (f,args,ts)):o.guard=none∧∃A T,o.op= .call { callee:= .value (.func f),args:=A,argTypes:=T }∧A.toList=args∧T.toList=ts:=by
 unfold jA at h
 split at h
 ·rename_i hg
  split at h
  ·rename_i f' A T hop
   simp only[Option.some.injEq,Prod.mk.injEq]at h
   obtain⟨rfl,rfl,rfl⟩:=h
   exact⟨hg,A,T,hop,rfl,rfl⟩
  ·cases h
 ·cases h
theorem Aj {R:Type} (hinl:∀f,c.inl f=false) {call:FuncId→Fun} {icall:aN R} {ops:List Oper} {o:Oper} {f:FuncId} {args:List Operand} {ts:List TypeId} (ho:jA o=some (f,args,ts))
  (hw:∀k,k<args.length→c.wants f k=false) (S:St) (K:St→Option R):
  iO c call icall ops o S K=(nP c call f (nL c S args ts) S.objs).bind fun p=>K (putS ⟨S.env,p.2⟩ o.dst p.1):=by
 obtain⟨hg,A,T,hop,rfl,rfl⟩:=jG ho
 obtain⟨dst,op,type,pos,after,guard⟩:=o
 simp only at hg hop
 subst hg hop
 have hop0:opd c S 0 (.func f)= .clo (.func f) [] []:=rfl
 simp only[iO,opK,gI,hop0,List.isEmpty_nil,if_true,Ad,E3 A.toList 0 S T.toList fun k hk=>by rw[UD];exact hw k hk]
 rw[tC hinl]
 simp[V.cutL]
theorem KT (hinl:∀f,c.inl f=false) {call:FuncId→Fun} {ops:List Oper} {x y:Oper} {Fx Fy:St→Option St} (hFx:qE c ops x Fx) (hFy:qE c ops y Fy)
  (ex:∀(R:Type) (icall:aN R) (S:St) (K:St→Option R),iO c call icall ops x S K=(Fx S).bind K) (ey:∀(R:Type) (icall:aN R) (S:St) (K:St→Option R),iO c call icall ops y S K=(Fy S).bind K)
  (hp:uC c ops x y=true) {f:FuncId} {args:List Operand} {ts:List TypeId} (hy:jA y=some (f,args,ts)) {S S1 S12:St} (h1:Fx S=some S1) (h2:Fy S1=some S12)
  {i off n:Nat} (hpl:placeOf c x S=some (i,off,n)) (hi:i∉V.refsL (nL c S1 args ts)) (hr:∀r∈V.refsL (nL c S1 args ts),(S1.objs.getD r .dead).refs=[]):
  ∃S2,Fy S=some S2∧Fx S2=some S12:=by
 unfold uC at hp
 rw[hy]at hp
 simp only[TR,VA,Ux,Wk,UX,beq_eq_false_iff_ne]at hp
 obtain⟨⟨⟨⟨⟨⟨⟨mx,lx⟩,gx⟩,_⟩,hw⟩,s1⟩,s2⟩,hdst⟩:=hp
 have d1:=eT s1
 have d2:=eT s2
 have toM:∀(T T' :St),(placeOf c x T).isSome=true→(Fx T=some T'↔stepM c ops x T=some T'):=by
  intro T T' hpl
  obtain⟨⟨i,off,n⟩,hp⟩:=Vp.1 hpl
  have:=Ch (call:=call) (icall:=fun _ _ _ _=>none) mx gx (K:=some) (r:=T') hp (ops:=ops)
  rw[ex]at this
  constructor
  ·intro h
   obtain⟨S',a,b⟩:=this.1 (by rw[h];rfl)
   cases b;exact a
  ·intro h
   obtain⟨S',a,b⟩:=T0.1 (this.2 ⟨T',h,rfl⟩)
   cases b;exact a
 have m1:=(toM S S1 (by simp[hpl])).1 h1
 obtain⟨i',ox,nx,csx,e1,sx,px,obx,lex,ax,lx',rfl⟩:=nR m1
 rw[hpl]at px;cases px
 obtain⟨fx1,fx2⟩:=jF ax
 have yv:∀(T T' :St),Fy T=some T'↔∃p,nP c call f (nL c T args ts) T.objs=some p∧T' =putS ⟨T.env,p.2⟩ y.dst p.1:=by
  intro T T'
  have:=Aj (R:=St) hinl (call:=call) (icall:=fun _ _ _ _=>none) (ops:=ops) hy hw T some
  rw[ey]at this
  have e:(Fy T).bind some=Fy T:=by cases Fy T<;>rfl
  rw[e]at this
  rw[this,T0]
  constructor
  ·rintro⟨p,hp,he⟩;cases he;exact⟨p,hp,rfl⟩
  ·rintro⟨p,hp,rfl⟩;exact⟨p,hp,rfl⟩
 obtain⟨⟨v,ob12⟩,hc12,rfl⟩:=(yv _ _).1 h2
 obtain⟨hg,A,T,hop,hA,hT⟩:=jG hy
 have hlooks:∀t∈bP args,t∈bN ops y:=by
  intro t ht
  unfold bN bY
  rw[hop]
  simp only[Op.operands,Call.operands,TV]
  refine .inr ?_
  rw[dE]at ht ⊢
  rw[←hA]at ht
  simpa using ht
 have hargs:nL c S args ts=nL c ⟨e1,S.objs.set i (.cells (upd off sx csx))⟩ args ts:=by
  unfold nL
  rw[fW (S:=⟨e1,S.objs.set i (.cells (upd off sx csx))⟩) (S2:=S) args ts fun x' hx' t=>?_]
  cases x' with
  |tmp s=>
   have hs:s∈bP args:=dE.2 hx'
   show S.env.getD s .bot=e1.getD s .bot
   rw[Ur,Ur,fx2 s fun hw=>d1 s hw (by simp[hlooks s hs])]
  |_=>rfl
 have hilt:=(TQ.1 obx).1
 have hback:S.objs=(S.objs.set i (.cells (upd off sx csx))).set i (.cells csx):=by
  rw[Wo]
  exact(wP obx).symm
 obtain⟨q1,q2,q3⟩:=JI (o:= .cells csx) hc12 hi hr
 rw[←hback,←hargs]at q3
 refine⟨_,(yv _ _).2 ⟨_,q3,rfl⟩,?_⟩
 have hwd:∀t,y.dst=some t→t∈aO c ops y:=fun t ht=>by unfold aO;simp[ht]
 have hpE:∀ob:List Ob,placeOf c x (putS ⟨S.env,ob⟩ y.dst v)=some (i,off,n):=fun ob=>by
  rw[←hpl]
  refine hH ?_
  have:=(bG ⟨S.env,ob⟩ y.dst v).2.2.1 (fF x) (fun e=>d2 _ (hwd _ e) (jN mx))
  exact this
 rw[toM _ _ (by rw[hpE];rfl)]
 have henvl:(putS ⟨S.env,ob12.set i (.cells csx)⟩ y.dst v).env.length=S.env.length:=(bG _ _ _).1
 have hobj:(putS ⟨S.env,ob12.set i (.cells csx)⟩ y.dst v).objs=ob12.set i (.cells csx):=(bG _ _ _).2.1
 have hil:i<ob12.length:=by rw[q2,Ws];exact hilt
 have hq1:ob12[i]? =some (.cells (upd off sx csx)):=by rw[q1,Us hilt]
 obtain⟨e21,ax2,r1,r2,r3⟩:=Ai (L:=aO c ops x++bN ops x) mx ax (env2:=(putS ⟨S.env,ob12.set i (.cells csx)⟩ y.dst v).env) henvl (fun t ht=>by simp[ht]) (fun t ht=>by
  refine(bG ⟨S.env,ob12.set i (.cells csx)⟩ y.dst v).2.2.1 t fun e=>?_
  have hw' :=hwd _ e
  rw[TV]at ht
  rcases ht with ht|ht
  ·exact d1 t ht (by simp[hw'])
  ·exact d2 t hw' ht)
 obtain⟨gx1,gx2⟩:=jF ax2
 have hst:=qH (c:=c) (ops:=ops) (o:=x) (S:=putS ⟨S.env,ob12.set i (.cells csx)⟩ y.dst v) (hpE _) (by rw[hobj,Us hil]) lex ax2
 rw[hst,hobj,Wo,wP hq1]
 congr 1
 have henv:e21=(putS ⟨e1,ob12⟩ y.dst v).env:=by
  apply UK
  intro t
  by_cases hxw:t∈aO c ops x
  ·rw[r2 t (by simp[hxw])]
   exact((bG ⟨e1,ob12⟩ y.dst v).2.2.1 t fun e=>d1 t hxw (by simp[hwd _ e])).symm
  ·rw[gx2 t hxw]
   by_cases hyd:y.dst=some t
   ·by_cases hl:t<S.env.length
    ·rw[(bG ⟨S.env,ob12.set i (.cells csx)⟩ y.dst v).2.2.2 t hyd hl,(bG ⟨e1,ob12⟩ y.dst v).2.2.2 t hyd (by show t<e1.length;omega)]
    ·rw[Ut (by rw[henvl];omega),Ut (by rw[(bG ⟨e1,ob12⟩ y.dst v).1];show e1.length≤t;omega)]
   ·rw[(bG ⟨S.env,ob12.set i (.cells csx)⟩ y.dst v).2.2.1 t hyd,(bG ⟨e1,ob12⟩ y.dst v).2.2.1 t hyd]
    exact(fx2 t hxw).symm
 have hob2:(putS ⟨e1,ob12⟩ y.dst v).objs=ob12:=(bG _ _ _).2.1
 cases hpp:putS ⟨e1,ob12⟩ y.dst v with
 |mk ee oo=>
  rw[hpp]at henv hob2
  simp only at henv hob2
  rw[henv,hob2]
theorem qJ (hinl:∀f,c.inl f=false) {call:FuncId→Fun} {ops:List Oper} {o:Oper}:∃F,qE c ops o F∧∀(R:Type) (icall:aN R) (S:St) (K:St→Option R),iO c call icall ops o S K=(F S).bind K:=fR (R:=Unit) hinl
theorem Ci {ops:List Oper} {x:Oper} {F:St→Option St} (hF:qE c ops x F) (hm:iK c ops x=true) {S S' :St} (h:F S=some S'):dK S'.objs=dK S.objs:=by
 simp only[iK,Va,bne_iff_ne,ne_eq]at hm
 rcases hm with hm|hm
 ·rw[(hF.frame S S' h).2.2 hm]
 ·exact(hF.ld hm).1 S S' h
theorem yA {R:Type} (hinl:∀f,c.inl f=false) {call:FuncId→Fun} {icall:aN R} {ops:List Oper} {y:Oper} {post:List Oper} {K:St→Option R} {r:R} {S0:St}
  {f:FuncId} {args:List Operand} {ts:List TypeId} (hy:jA y=some (f,args,ts)) (hpost:∀z∈post,vU (bP args) (aO c ops z)=true):∀(pre:List Oper) (S:St),
  (∀x∈pre,iK c ops x=true)→(∀x∈pre,eP c ops x y=true∨(uC c ops x y=true∧∀S',K S' =some r→Ku c S0 S' x y=true))→bT c ops (pre++y::post)=true→dK S.objs=dK S0.objs→
  dR c call icall ops (pre++y::post) S K=some r→dR c call icall ops (y::(pre++post)) S K=some r
 |[],_,_,_,_,_,h=>h
 |x::pre,S,hm,hs,hst,hsoft,h=>by
  obtain⟨Fx,hFx,ex⟩:=qJ hinl (call:=call) (ops:=ops) (o:=x)
  obtain⟨Fy,hFy,ey⟩:=qJ hinl (call:=call) (ops:=ops) (o:=y)
  rw[UA]at hst
  simp only[bT,TR]at hst
  rw[UA,bI,ex]at h
  obtain⟨S1,h1,h2⟩:=T0.1 h
  have hsoft1:dK S1.objs=dK S0.objs:=(Ci hFx (hm x (by simp)) h1).trans hsoft
  have h3:=yA hinl hy hpost pre S1 (fun z hz=>hm z (by simp[hz])) (fun z hz=>hs z (by simp[hz])) hst.2 hsoft1 h2
  rw[bI,ey]at h3
  obtain⟨S12,h4,h5⟩:=T0.1 h3
  have hlooks:∀t∈bP args,t∈bN ops y:=by
   obtain⟨hg,A,T,hop,hA,hT⟩:=jG hy
   intro t ht
   unfold bN bY
   rw[hop]
   simp only[Op.operands,Call.operands,TV]
   refine .inr ?_
   rw[dE]at ht ⊢
   rw[←hA]at ht
   simpa using ht
  have hswap:∃S2,Fy S=some S2∧Fx S2=some S12:=by
   rcases hs x (by simp)with hsw|⟨hsw,hfar⟩
   ·exact DT hFx hFy hsw h1 h4
   ·obtain⟨Se,hk,hslot⟩:=wQ hinl (pre++post) S12 h5
    have hfar:=hfar Se hk
    have hsw' :=hsw
    unfold uC at hsw'
    rw[hy]at hsw'
    simp only[TR,VA,Ux,Wk,UX,beq_eq_false_iff_ne]at hsw'
    obtain⟨⟨⟨⟨⟨⟨⟨mx,lx⟩,gx⟩,_⟩,hw⟩,s1⟩,s2⟩,hdst⟩:=hsw'
    have hx0:∀z∈x::(pre++y::post),fF x∉aO c ops z:=by
     have:=hst.1
     simp only[mx,UP,VF,Ux,UX,VI,decide_eq_false_iff_not]at this
     exact this
    have hxe:placeOf c x Se=placeOf c x S:=hH (by
     rw[hslot _ fun z hz=>hx0 z (by simp at hz ⊢;rcases hz with hz|hz<;>simp[hz]),(hFy.frame S1 S12 h4).1 _ (hx0 y (by simp)),(hFx.frame S S1 h1).1 _ (hx0 x (by simp))])
    have hS12:∃p,S12=putS ⟨S1.env,p⟩ y.dst (S12.get 0)∨∃v,S12=putS ⟨S1.env,p⟩ y.dst v:=by
     have:=Aj (R:=St) hinl (call:=call) (icall:=fun _ _ _ _=>none) (ops:=ops) hy hw S1 some
     rw[ey,h4]at this
     obtain⟨p,hp1,hp2⟩:=T0.1 this.symm
     cases hp2
     exact⟨p.2, .inr ⟨p.1,rfl⟩⟩
    have henv12:∀t∈bP args,S12.env[t]? =S1.env[t]? :=by
     intro t ht
     have hne:=hdst t ht
     obtain⟨p,hp|⟨v,hp⟩⟩:=hS12
     ·rw[hp];exact(bG ⟨S1.env,p⟩ y.dst _).2.2.1 t hne
     ·rw[hp];exact(bG ⟨S1.env,p⟩ y.dst _).2.2.1 t hne
    have hargs:nL c Se args ts=nL c S1 args ts:=by
     unfold nL
     rw[fW (S:=S1) (S2:=Se) args ts fun x' hx' t=>?_]
     cases x' with
     |tmp s=>
      have hs' :s∈bP args:=dE.2 hx'
      show Se.env.getD s .bot=S1.env.getD s .bot
      rw[Ur,Ur,hslot s fun z hz=>?_,henv12 s hs']
      rw[TV]at hz
      rcases hz with hz|hz
      ·intro hw'
       rcases hs z (by simp[hz])with hsz|⟨hsz,_⟩
       ·simp only[eP,TR]at hsz
        exact eT hsz.1.1 _ hw' (by simp[hlooks s hs'])
       ·unfold uC at hsz
        rw[hy]at hsz
        simp only[TR]at hsz
        exact eT hsz.1.1.2 _ hw' (by simp[hlooks s hs'])
      ·exact eT (hpost z hz) s hs'
     |_=>rfl
    unfold Ku at hfar
    rw[hy,hxe]at hfar
    cases hpl:placeOf c x S with
    |none=>rw[hpl]at hfar;cases hfar
    |some q=>
     obtain⟨i,off,n⟩:=q
     rw[hpl]at hfar
     simp only[Ux,TR,bne_iff_ne,ne_eq,V4,hargs]at hfar
     exact KT hinl hFx hFy ex ey hsw hy h1 h4 hpl (fun hi=>(hfar i hi).1 rfl) fun r hr=>by
      rw[Hu hsoft1];exact(hfar r hr).2
  obtain⟨S2,h6,h7⟩:=hswap
  rw[bI,ey,h6]
  show dR c call icall ops (x::(pre++post)) S2 K=some r
  rw[bI,ex,h7]
  exact h5
end
end Go.Ev
end
section
namespace Go.Ev
section
variable {c : Cfg} {E : Ent} {R : Type}
theorem Cj {n:Nat} {listed:Array Bool} {j:Nat} {pre post:List Nat} (h:rem n listed=pre++j::post) (hs:n≤listed.size):rem n (listed.setIfInBounds j true)=pre++post:=by
 have h1:rem n (listed.setIfInBounds j true)=(rem n listed).filter fun i=>i != j:=by
  unfold rem
  rw[List.filter_filter]
  refine List.filter_congr fun i hi=>?_
  by_cases hij:j=i
  ·subst hij
   have:j<listed.size:=by
    have:j<n:=by simpa using hi
    omega
   simp[this]
  ·have:(i != j)=true:=by simp;omega
   rw[getD_set_ne true hij,this];simp
 rw[h1,h]
 have hsort:=eN n listed
 rw[h,VZ]at hsort
 obtain⟨_,h3,h4⟩:=hsort
 rw[VX]at h3
 rw[List.filter_append,List.filter_cons]
 have e1:pre.filter (fun i=>i != j)=pre:=VC.2 fun i hi=>by
  have:=h4 i hi j (by simp);simp;omega
 have e2:post.filter (fun i=>i != j)=post:=VC.2 fun i hi=>by
  have:=h3.1 i hi;simp;omega
 rw[e1,e2];simp
theorem pI {ops:List Oper} {n:Nat} (h:oD c n ops=true):∀(j:Nat) y,j<n→ops[j]? =some y→(∀e∈y.after.toList,Region.binds .any e=true→e.on<j)∧
  ∀(i:Nat) x,ops[i]? =some x→i<j→((ahead ops []).getD j 0).testBit i=false→eP c ops x y=true:=by
 have key:∀(l:List Oper) (j0:Nat),eD.go c ops (ahead ops []) j0 l=true→∀(k:Nat) y,l[k]? =some y→(y.after.toList.all fun e=> !Region.binds .any e||decide (e.on<j0+k))=true∧lB c ops (ahead ops []) (j0+k) y 0 ops=true:=by
  intro l
  induction l with
  |nil=>intro j0 _ k y hy;simp at hy
  |cons a r ih=>
   intro j0 h k y hy
   simp only[eD.go,TR]at h
   cases k with
   |zero=>
    simp at hy;subst hy
    exact⟨by simpa using h.1.1,by simpa using h.1.2⟩
   |succ k=>
    have:=ih (j0+1) h.2 k y (by simpa using hy)
    rw[show j0+(k+1)=j0+1+k by omega]
    exact this
 intro j y hj hy
 obtain⟨h1,h2⟩:=key (ops.take n) 0 h j y (by rw[Uw,if_pos hj];exact hy)
 rw[UD]at h1 h2
 refine⟨fun e he hb=>?_,fun i x hx hlt hb=>?_⟩
 ·rw[Ux]at h1
  have:=h1 e he
  simpa[hb]using this
 ·exact mZ ops _ j y ops 0 h2 i x hx (by omega) (by simpa using hb)
theorem P8 {ops:Array Oper} {m:Nat} (hof:∀(j:Nat) y,j<m→ops[j]? =some y→∀e∈y.after.toList,Region.binds .any e=true→e.on<j) {listed:Array Bool}
  (hcl:∀j,listed.getD j false=true→∀o,ops[j]? =some o→∀e∈o.after,Region.binds .any e=true→listed.getD e.on false=true):
  ∀(n j:Nat),j≤n→j<m→∀o,ops[j]? =some o→(∀e∈o.after,Region.binds .any e=true→listed.getD e.on false=true)→∀i,((ahead ops.toList []).getD j 0).testBit i=true→listed.getD i false=true:=by
 intro n
 induction n with
 |zero=>
  intro j hj hm o ho hb i hi
  obtain⟨e,h1,h2,h3⟩:=gU ops.toList [] i j o (by simpa using ho) (by simpa using hi)
  have:=hof j o hm ho e h1 h2
  omega
 |succ n ih=>
  intro j hj hm o ho hb i hi
  obtain⟨e,h1,h2,h3⟩:=gU ops.toList [] i j o (by simpa using ho) (by simpa using hi)
  have hlt:=hof j o hm ho e h1 h2
  have hle:=hb e (by simpa using h1) h2
  rcases h3 with h3|h3
  ·rw[←h3];exact hle
  ·have hj2:j<ops.size:=(TX.1 ho).1
   have ho2:ops[e.on]? =some ops[e.on]:=Uj (by omega)
   exact ih e.on (by omega) (by omega) _ ho2 (fun e' he' hb' =>hcl e.on hle _ ho2 e' he' hb') i h3
theorem kP {o:Oper} {k:Nat} (h:dC o k=true):∃e∈o.after,Region.binds .any e=true∧e.on=k:=by
 unfold dC at h
 simp only[List.any_eq_true,TR,beq_iff_eq]at h
 obtain⟨e,he,h1,h2⟩:=h
 exact⟨e,by simpa using he,h1,h2⟩
theorem eZ {o:Oper} {p:Nat→Bool} (h:fG o p=true):∀e∈o.after,Region.binds .any e=true→p e.on=true:=by
 unfold fG at h
 simp only[Ux]at h
 intro e he hb
 have:=h e (by simpa using he)
 simpa[hb]using this
theorem cJ {listed:Array Bool} {i:Nat} (hi:i<listed.size) (d d' :Bool):listed.getD i d=listed.getD i d' :=by
 simp[Un,Uj hi]
theorem KU (hc:bA c) {call:FuncId→Fun} (hcall:∀f,bW c f (call f)) {icall:aN R} {ops:Array Oper} {n g:Nat} (hn:n+g=ops.size) (hof:oD c n ops.toList=true)
  (hblk:∀q,n≤q→∀o,ops[q]? =some o→∀p,p<n→dC o p=true) {K:St→Option R} {r:R} {d:List Deferred} {Q:Exit→Act→World→Prop}
  (hQ:∀listed a w,listed.size=ops.size→(∀q,listed.getD q false=decide (q<n))→kF c E K r d a w→wpAny c.P .any ops Q g listed a w):
  ∀(k:Nat) (listed:Array Bool) (a:Act) (w:World) (G:Gh) (μ:List Nat) (S:St),listed.size=ops.size→(rem n listed).length=k→(∀q,n≤q→listed.getD q false=false)→
   (∀j,listed.getD j false=true→∀o,ops[j]? =some o→∀e∈o.after,Region.binds .any e=true→listed.getD e.on false=true)→
   dR c call icall ops.toList ((rem n listed).filterMap (ops.toList[·]?)) S K=some r→cV c E w G μ S a→a.defers=d→wpAny c.P .any ops Q (k+g) listed a w:=by
 have hof' :∀(j:Nat) y,j<n→ops[j]? =some y→∀e∈y.after.toList,Region.binds .any e=true→e.on<j:=
  fun j y hj hy=>(pI hof j y hj (by simpa using hy)).1
 intro k
 induction k with
 |zero=>
  intro listed a w G μ S hs hl hb hcl h hS hd
  have h0:rem n listed=[]:=Ue hl
  rw[h0]at h
  rw[UD]
  refine hQ listed a w hs (fun q=>?_) ⟨S,G,μ,h,hS,hd⟩
  by_cases hq:q<n
  ·cases hv:listed.getD q false with
   |true=>simp[hq]
   |false=>
    have:q∈rem n listed:=dN.2 ⟨hq,by rw[cJ (by omega) true false];exact hv⟩
    rw[h0]at this;cases this
  ·rw[hb q (by omega)];simp[hq]
 |succ k ih=>
  intro listed a w G μ S hs hl hb hcl h hS hd
  have hne:∃m t,rem n listed=m::t:=by
   cases h0:rem n listed with
   |nil=>rw[h0]at hl;cases hl
   |cons m t=>exact⟨m,t,rfl⟩
  obtain⟨m,t,h0⟩:=hne
  have hm:=dN.1 (by rw[h0];simp:m∈rem n listed)
  rw[show k+1+g=(k+g)+1 by omega]
  refine⟨fun hr=>?_,fun j hj=>?_⟩
  ·have hsort:=eN n listed
   rw[h0,VX]at hsort
   have ho:ops[m]? =some ops[m]:=Uj (by omega)
   have:m∈Region.ready .any ops listed:=mem_ready.2 ⟨hm.2,_,ho,fun e he hb=>by
    have hlt:=hof' m ops[m] hm.1 ho e (by simpa using he) hb
    apply Classical.byContradiction
    intro hn'
    have h1:listed.getD e.on true=false:=by
     rw[cJ (by omega) true false];simpa using hn'
    have h2:e.on∈rem n listed:=dN.2 ⟨by omega,h1⟩
    rw[h0,UH]at h2
    rcases h2 with h2|h2
    ·omega
    ·have:=hsort.1 _ h2;omega⟩
   rw[hr]at this;cases this
  ·obtain⟨hj0,y,hy,hall⟩:=mem_ready.1 hj
   have hjs:=(TX.1 hy).1
   have hjn:j<n:=by
    apply Classical.byContradiction
    intro hjn
    obtain⟨e,he,h1,h2⟩:=kP (hblk j (by omega) y hy m hm.1)
    have h3:=hall e he h1
    rw[h2,cJ (by omega) false true,hm.2]at h3
    cases h3
   have hjr:j∈rem n listed:=dN.2 ⟨hjn,hj0⟩
   obtain⟨pre,post,hpp⟩:=List.append_of_mem hjr
   have hyl:ops.toList[j]? =some y:=by simpa using hy
   have hsort:=eN n listed
   rw[hpp,VZ]at hsort
   rw[hpp,Vd,VS,hyl]at h
   simp only at h
   have hf:=oS hc.inl (pre.filterMap (ops.toList[·]?)) S (fun x hx=>by
    obtain⟨i,hi,hix⟩:=VW.1 hx
    refine(pI hof j y hjn hyl).2 i x hix (hsort.2.2 i hi j (by simp)) ?_
    cases htb:((ahead ops.toList []).getD j 0).testBit i with
    |false=>rfl
    |true=>
     have h1:=P8 hof' hcl j j (TY _) hjn y hy hall i htb
     have h2:=(dN.1 (by rw[hpp];simp[hi]:i∈rem n listed))
     rw[cJ (by omega) false true,h2.2]at h1
     cases h1) h
   rw[bI]at hf
   have hw:=step_ok hc hcall (Q:=Q) hy hf hS
   refine wpOp_mono (fun a' w' hp=>?_) hw
   obtain⟨S',G',μ',hk,hs',hd'⟩:=hp
   have hrt:=Cj hpp (by omega)
   refine ih (listed.setIfInBounds j true) a' w' G' μ' S' (by simpa using hs) ?_ (fun q hq=>?_) (fun k hk' o ho e he hb=>?_) ?_ hs' (by rw[hd',hd])
   ·rw[hrt];rw[hpp]at hl;simp at hl ⊢;omega
   ·rw[getD_set_ne false (by omega)];exact hb q hq
   ·by_cases hjk:j=k
    ·subst hjk
     rw[hy]at ho;cases ho
     exact getD_set_true (hall e he hb)
    ·rw[getD_set_ne false hjk]at hk'
     exact getD_set_true (hcl k hk' o ho e he hb)
   ·rw[hrt,Vd];exact hk
theorem yB {l:List Oper} {t:Tl} (h:G4 l=some t):∃o0 o1 o2 o3 o4 o5 args argTypes,l=[o0,o1,o2,o3,o4,o5]∧
  o0.op= .call { callee:= .builtin .append,args,argTypes }∧args.toList=[.tmp t.s, .tmp t.z]∧argTypes.toList=[t.st,t.xt]∧o0.dst=some t.r∧
  (o1.op= .indexAddr t.it (.tmp t.r) (.tmp t.n)∧o1.dst=some t.x)∧(o2.op= .store t.e (.tmp t.x) (.tmp t.v)∧o2.dst=none)∧
  (o3.op= .nilCheck (.tmp t.q)∧o3.dst=some t.p1)∧(o4.op= .fieldAddr t.T (.tmp t.p1) t.f∧o4.dst=some t.p2)∧(o5.op= .store t.t2 (.tmp t.p2) (.tmp t.r)∧o5.dst=none)∧
  (o0.guard=none∧o1.guard=none∧o2.guard=none∧o3.guard=none∧o4.guard=none∧o5.guard=none)∧nodupB [t.r,t.x,t.p1,t.p2,t.s,t.n,t.v,t.q]=true:=by
 unfold G4 at h
 split at h
 case h_2=>cases h
 rename_i o0 o1 o2 o3 o4 o5
 split at h
 case h_2=>cases h
 rename_i e x1 v t2 p2' r2 h2 h5
 split at h
 case h_2=>cases h
 rename_i args argTypes it r1 n q T p1' f h0 h1 h3 h4
 split at h
 case h_2=>cases h
 rename_i s z st xt r x p1 p2 ha ht d0 d1 d2 d3 d4 d5
 split at h
 case isFalse=>cases h
 rename_i hcnd
 simp only[bare,TR,VA,beq_iff_eq]at hcnd
 obtain⟨⟨⟨⟨⟨⟨⟨⟨⟨⟨⟨g0,g1⟩,g2⟩,g3⟩,g4⟩,g5⟩,rfl⟩,rfl⟩,rfl⟩,rfl⟩,rfl⟩,hnd⟩:=hcnd
 cases h
 exact⟨o0,o1,o2,o3,o4,o5,args,argTypes,rfl,h0,ha,ht,d0,⟨h1,d1⟩,⟨h2,d2⟩,⟨h3,d3⟩,⟨h4,d4⟩,⟨h5,d5⟩,⟨g0,g1,g2,g3,g4,g5⟩,hnd⟩
theorem eval_put_same {a:Act} {s:Nat} {u:Value} (h:s<a.tmps.size):(a.put (some s) u).eval (.tmp s)=u:=by
 simp[Act.put,Act.eval,Un,h]
theorem eval_put_ne {a:Act} {s k:Nat} {u:Value} (h:s≠k):(a.put (some s) u).eval (.tmp k)=a.eval (.tmp k):=by
 simp only[Act.put,Act.eval,Un]
 rw[VU h]
theorem qK {P:Program} {ops:Array Oper} {Q:Exit→Act→World→Prop} {i:Nat} {o:Oper} (ho:ops[i]? =some o) (hg:o.guard=none) {a:Act} {w w' :World} {u:Value}
  (hr:(execOp a.eval o).run P w= .ok (.value u) w') {K:Act→World→Prop} (h:K (a.put o.dst u) w'):wpOp P ops Q i K a w:=by
 unfold wpOp
 rw[ho]
 simp only
 rw[if_pos (by simp[Region.wanted,hg])]
 refine .inl ?_
 unfold Oper.wp
 rw[hr];exact h
theorem wR {P:Program} {ops:Array Oper} {Q:Exit→Act→World→Prop} {i:Nat} {o:Oper} (ho:ops[i]? =some o) (hg:o.guard=none) (hd:o.dst=none) {a:Act} {w w' :World}
  (hr:(execOp a.eval o).run P w= .ok .skip w') {K:Act→World→Prop} (h:K a w'):wpOp P ops Q i K a w:=by
 unfold wpOp
 rw[ho]
 simp only
 rw[if_pos (by simp[Region.wanted,hg])]
 refine .inl ?_
 unfold Oper.wp
 rw[hr]
 have:a.put o.dst undef=a:=by rw[hd];rfl
 show K (a.put o.dst undef) w'
 rw[this];exact h
structure TS (c:Cfg) (E:Ent) (t:Tl) (env:List V) (objs:List Ob) (μ:List Nat) (xs:List V) (v:V) (io o0 fo:Nat) (cs:List V) (d:List Deferred) (p:Addr) (cap bo i j:Nat) (a:Act) (w:World):Prop where
 sim:∃G,Sim c E w G μ ((if i<2 then .lst t.e true xs else .lst t.e true (xs++[v]))::env) (.slice (some p) (if i<2 then xs.length else xs.length+1) cap::a.tmps.toList)
  (if j<3 then objs else objs.set io (.cells (over (o0+fo) [.raw (.slice (some p) (xs.length+1) cap)] cs)))
 dfr:a.defers=d
 room:xs.length+1≤cap
 spot:p.spot=none
 r:a.eval (.tmp t.r)= .slice (some p) (xs.length+1) cap
 n:∃k,a.eval (.tmp t.n)= .int k xs.length
 x:1≤i→a.eval (.tmp t.x)= .pointer (some (p.add (xs.length*aE c t.e)))
 p1:1≤j→a.eval (.tmp t.p1)= .pointer (some ⟨bo,o0,none⟩)
 p2:2≤j→a.eval (.tmp t.p2)= .pointer (some ⟨bo,o0+fo,none⟩)
theorem Sim.putBot {w:World} {G:Gh} {μ:List Nat} {g:V} {gx:Value} {env:List V} {tmps:List Value} {objs:List Ob} (h:Sim c E w G μ (g::env) (gx::tmps) objs) {s:Nat} (hs:env[s]? =some .bot) (u:Value):
  Sim c E w G μ (g::env) (gx::tmps.set s u) objs:=by
 have h1:=(h.push (.bot u) (eS u)).put (s+1)
 simp only[VG]at h1
 rwa [set_self hs]at h1
theorem zD {w:World} {G:Gh} {μ:List Nat} {g:V} {gx:Value} {env:List V} {a:Act} {objs:List Ob} (h:Sim c E w G μ (g::env) (gx::a.tmps.toList) objs) {s:Nat} (hs:env[s]? =some .bot) (u:Value):
  Sim c E w G μ (g::env) (gx::(a.put (some s) u).tmps.toList) objs:=by
 rw[(jE a (some s) u).1]
 exact h.putBot hs u
theorem DU {w:World} {G:Gh} {μ:List Nat} {g:V} {gx:Value} {env:List V} {a:Act} {objs:List Ob} (h:Sim c E w G μ (g::env) (gx::a.tmps.toList) objs) {s:Nat} (hs:env[s]? =some .bot):s<a.tmps.size:=by
 have h1:=h.inv.len
 have h2:=(TQ.1 hs).1
 simp at h1;omega
section
variable {t : Tl} {env : List V} {objs : List Ob} {μ : List Nat} {xs : List V} {v vv : V} {io o0 fo : Nat} {cs : List V} {d : List Deferred} {p : Addr} {cap bo : Nat} {a : Act} {w : World} {ops : Array Oper} {Q : Exit → Act → World → Prop}
structure TC (c:Cfg) (t:Tl) (env:List V) (objs:List Ob) (μ:List Nat) (xs:List V) (v:V) (io o0 fo:Nat) (cs:List V) (bo:Nat):Prop where
 nd:[t.r,t.x,t.p1,t.p2,t.s,t.n,t.v,t.q].Nodup
 er:env[t.r]? =some .bot
 ex:env[t.x]? =some .bot
 e1:env[t.p1]? =some .bot
 e2:env[t.p2]? =some .bot
 eq:env[t.q]? =some (.ref io o0)
 ev:∃u,env[t.v]? =some u∧u.cut=v
 fv:cI c t.e v=true
 rv:V.refs v=[]
 lv:v.cells.length=aE c t.e
 ob:objs[io]? =some (.cells cs)
 mu:μ[io]? =some bo
 le:o0+fo+1≤cs.length
 it:elemOf c t.it=some t.e
 ty:∃y,c.ty t.e=some y∧0<y.size
 fs:∃fs fd,fieldsOf c t.T=some fs∧fs[t.f]? =some fd∧fd.offset=fo∧aE c fd.type≠0
 t2:aE c t.t2=1
theorem yC {w:World} {G:Gh} {μ:List Nat} {g:V} {gx:Value} {env:List V} {a:Act} {objs:List Ob} (h:Sim c E w G μ (g::env) (gx::a.tmps.toList) objs) {s:Nat} {u:V} (hs:env[s]? =some u):Rep c w G μ u (a.eval (.tmp s)):=by
 have h1:=h.inv.len
 have h2:=(TQ.1 hs).1
 simp only[Ua,Vq]at h1
 have h3:a.tmps.toList[s]? =some (a.eval (.tmp s)):=by
  simp only[Act.eval,Un]
  have:s<a.tmps.size:=by omega
  simp[Uj this]
 exact h.inv.rep (s+1) u _ (by simpa using hs) (by simpa using h3)
theorem DV {r x p1 p2 s n v q:Nat} (h:[r,x,p1,p2,s,n,v,q].Nodup):(x≠r∧x≠n∧x≠p1∧x≠p2)∧(p1≠r∧p1≠n∧p1≠x)∧(p2≠r∧p2≠n∧p2≠x∧p2≠p1):=by
 simp only[Wr,UH,not_or,List.not_mem_nil,not_false_eq_true,and_true,List.nodup_nil]at h
 obtain⟨⟨a1,a2,a3,a4,a5,a6,a7⟩,⟨b1,b2,b3,b4,b5,b6⟩,⟨c1,c2,c3,c4,c5⟩,⟨d1,d2,d3,d4⟩,_⟩:=h
 exact⟨⟨Ne.symm a1,b4,b1,b2⟩,⟨Ne.symm a2,c3,Ne.symm b1⟩,⟨Ne.symm a3,d2,Ne.symm b2,Ne.symm c1⟩⟩
theorem O2 (hc:bA c) (tc:TC c t env objs μ xs v io o0 fo cs bo) {q:Nat} {o:Oper} (ho:ops[q]? =some o) (hop:o.op= .indexAddr t.it (.tmp t.r) (.tmp t.n)) (hd:o.dst=some t.x) (hg:o.guard=none) {j:Nat}
  (h:TS c E t env objs μ xs v io o0 fo cs d p cap bo 0 j a w):wpOp c.P ops Q q (TS c E t env objs μ xs v io o0 fo cs d p cap bo 1 j) a w:=by
 obtain⟨⟨G,hs⟩,hdf,hroom,hsp,hr,⟨k,hn⟩,hx,h1,h2⟩:=h
 obtain⟨y,hy,hz⟩:=tc.ty
 have hys:aE c t.e=y.size:=by simp[aE,hy]
 have hund:=eX tc.it hc
 obtain⟨pb,po,ps⟩:=p
 simp only at hsp;subst hsp
 have hcond:(0:Int)≤(xs.length:Int)∧(xs.length:Int)<((xs.length+1:Nat):Int):=⟨by omega,by omega⟩
 have hrun:(execOp a.eval o).run c.P w= .ok (.value (.pointer (some ⟨pb,po+xs.length*aE c t.e,none⟩))) w:=by
  simp only[execOp,hop,Instr.indexAt,hn,hr,asIntOf,Sem.run_bind,Sem.run_pure,run_underlying hund,Result.andThen_ok,if_pos hcond,Sem.run_ite,(hc.ty _ _ hy).sizeOf,Addr.add_lit,hys,TW]
 refine qK ho hg hrun ?_
 have hlt:=DU hs tc.ex
 obtain⟨⟨ne1,ne2,ne3,ne4⟩,⟨ne5,ne6,ne7⟩,ne8,ne9,ne10,ne11⟩:=DV tc.nd
 rw[hd]
 refine⟨⟨G,zD hs tc.ex _⟩,hdf,hroom,rfl,?_,⟨k,?_⟩,fun _=>?_,fun hj=>?_,fun hj=>?_⟩
 ·rw[eval_put_ne (by assumption)];exact hr
 ·rw[eval_put_ne (by assumption)];exact hn
 ·rw[eval_put_same hlt,Addr.add_lit]
 ·rw[eval_put_ne (by assumption)];exact h1 hj
 ·rw[eval_put_ne (by assumption)];exact h2 hj
theorem MZ (hc:bA c) (tc:TC c t env objs μ xs v io o0 fo cs bo) {q:Nat} {o:Oper} (ho:ops[q]? =some o) (hop:o.op= .store t.e (.tmp t.x) (.tmp t.v)) (hd:o.dst=none) (hg:o.guard=none) {j:Nat}
  (h:TS c E t env objs μ xs v io o0 fo cs d p cap bo 1 j a w):wpOp c.P ops Q q (TS c E t env objs μ xs v io o0 fo cs d p cap bo 2 j) a w:=by
 obtain⟨⟨G,hs⟩,hdf,hroom,hsp,hr,hn,hx,h1,h2⟩:=h
 obtain⟨y,hy,hz⟩:=tc.ty
 have hys:aE c t.e=y.size:=by simp[aE,hy]
 obtain⟨u,hu,hcut⟩:=tc.ev
 have hrep:=(yC hs hu).cut
 rw[hcut]at hrep
 have hrep0:Rep c w G [] v (a.eval (.tmp t.v)):=hrep.more fun i b hi _=>by rw[tc.rv]at hi;cases hi
 have hsg:=(gJ tc.fv).2
 obtain⟨c1,c2,c3⟩:=eQ hrep0 hsg
 have hvl:v.cells.length=y.size:=by rw[tc.lv,hys]
 have hxc:(a.eval (.tmp t.v)).cells.size=y.size:=by rw[c1,hvl]
 simp only[show(1<2)from by decide,if_true]at hs
 obtain⟨_,w',G',hrun,hsim⟩:=hs.appendIn (ys:=[v]) (news:=[a.eval (.tmp t.v)]) rfl (by simp) (by simpa using hroom)
  (fun i u x hu hx=>by
   cases i with
   |zero=>simp at hu hx;subst hu;subst hx;exact hrep0
   |succ i=>simp at hu) (fun u hu=>by simp at hu;subst hu;exact tc.fv) (fun x hx=>by simp at hx;subst hx;rw[hxc,hys]) (fun x hx=>by simp[flat]at hx;exact c2 x (by simpa using hx))
 have hflat:flat [a.eval (.tmp t.v)]=(a.eval (.tmp t.v)).cells.toList:=by simp[flat]
 rw[hflat]at hrun
 have hnn:¬(a.eval (.tmp t.v)).cells.size≠y.size:=by simp[hxc]
 have hrunO:(execOp a.eval o).run c.P w= .ok .skip w' :=by
  simp only[execOp,hop,hx (by omega),Instr.storeAt,Instr.sureAddr,storeVar,Sem.run_bind,Sem.run_pure,Result.andThen_ok,(hc.ty _ _ hy).sizeOf,Sem.run_ite,if_neg hnn,hrun]
 refine wR ho hg hd hrunO ?_
 exact⟨⟨G',by simpa using hsim⟩,hdf,hroom,hsp,hr,hn,fun _=>hx (by omega),h1,h2⟩
theorem O3 (tc:TC c t env objs μ xs v io o0 fo cs bo) {q:Nat} {o:Oper} (ho:ops[q]? =some o) (hop:o.op= .nilCheck (.tmp t.q)) (hd:o.dst=some t.p1) (hg:o.guard=none) {i:Nat}
  (h:TS c E t env objs μ xs v io o0 fo cs d p cap bo i 0 a w):wpOp c.P ops Q q (TS c E t env objs μ xs v io o0 fo cs d p cap bo i 1) a w:=by
 obtain⟨⟨G,hs⟩,hdf,hroom,hsp,hr,⟨k,hn⟩,hx,h1,h2⟩:=h
 obtain⟨b,hb,hX⟩:=mX (yC hs tc.eq) rfl
 rw[tc.mu]at hb;cases hb
 have hrun:(execOp a.eval o).run c.P w= .ok (.value (.pointer (some ⟨bo,o0,none⟩))) w:=by
  simp only[execOp,hop,hX];rfl
 refine qK ho hg hrun ?_
 have hlt:=DU hs tc.e1
 obtain⟨⟨ne1,ne2,ne3,ne4⟩,⟨ne5,ne6,ne7⟩,ne8,ne9,ne10,ne11⟩:=DV tc.nd
 rw[hd]
 refine⟨⟨G,zD hs tc.e1 _⟩,hdf,hroom,hsp,?_,⟨k,?_⟩,fun hi=>?_,fun _=>eval_put_same hlt,fun hj=>by omega⟩
 ·rw[eval_put_ne (by assumption)];exact hr
 ·rw[eval_put_ne (by assumption)];exact hn
 ·rw[eval_put_ne (by assumption)];exact hx hi
theorem KV (hc:bA c) (tc:TC c t env objs μ xs v io o0 fo cs bo) {q:Nat} {o:Oper} (ho:ops[q]? =some o) (hop:o.op= .fieldAddr t.T (.tmp t.p1) t.f) (hd:o.dst=some t.p2) (hg:o.guard=none) {i:Nat}
  (h:TS c E t env objs μ xs v io o0 fo cs d p cap bo i 1 a w):wpOp c.P ops Q q (TS c E t env objs μ xs v io o0 fo cs d p cap bo i 2) a w:=by
 obtain⟨⟨G,hs⟩,hdf,hroom,hsp,hr,⟨k,hn⟩,hx,h1,h2⟩:=h
 obtain⟨fs,fd,hfs,hfd,hfo,hne⟩:=tc.fs
 obtain⟨y,hy,hyd,hund,hft⟩:=mG hfs hc
 obtain⟨yf,hyf,hys⟩:=dD hne
 have h0:¬yf.size=0:=by omega
 have hrun:(execOp a.eval o).run c.P w= .ok (.value (.pointer (some ⟨bo,o0+fo,none⟩))) w:=by
  have hplace:(fieldPlace ⟨bo,o0,none⟩ fd).run c.P w= .ok ⟨bo,o0+fd.offset,none⟩ w:=by
   simp only[fieldPlace,Sem.run_bind,(hc.ty _ _ hyf).sizeOf,Result.andThen_ok,Sem.run_ite,if_neg h0,Sem.run_pure,Addr.add_lit]
  rw[hfo]at hplace
  simp only[execOp,hop,Instr.fieldAt,Sem.run_bind,run_underlying hund,Result.andThen_ok,hfd,h1 (TY _),Instr.sureAddr,Sem.run_pure,hplace]
 refine qK ho hg hrun ?_
 have hlt:=DU hs tc.e2
 obtain⟨⟨ne1,ne2,ne3,ne4⟩,⟨ne5,ne6,ne7⟩,ne8,ne9,ne10,ne11⟩:=DV tc.nd
 rw[hd]
 refine⟨⟨G,zD hs tc.e2 _⟩,hdf,hroom,hsp,?_,⟨k,?_⟩,fun hi=>?_,fun _=>?_,fun _=>eval_put_same hlt⟩
 ·rw[eval_put_ne (by assumption)];exact hr
 ·rw[eval_put_ne (by assumption)];exact hn
 ·rw[eval_put_ne (by assumption)];exact hx hi
 ·rw[eval_put_ne (by assumption)];exact h1 (TY _)
theorem O4 (hc:bA c) (tc:TC c t env objs μ xs v io o0 fo cs bo) {q:Nat} {o:Oper} (ho:ops[q]? =some o) (hop:o.op= .store t.t2 (.tmp t.p2) (.tmp t.r)) (hd:o.dst=none) (hg:o.guard=none) {i:Nat}
  (h:TS c E t env objs μ xs v io o0 fo cs d p cap bo i 2 a w):wpOp c.P ops Q q (TS c E t env objs μ xs v io o0 fo cs d p cap bo i 3) a w:=by
 obtain⟨⟨G,hs⟩,hdf,hroom,hsp,hr,hn,hx,h1,h2⟩:=h
 obtain⟨y2,hy2,hys2⟩:=dD (c:=c) (t:=t.t2) (by rw[tc.t2];omega)
 rw[tc.t2]at hys2
 simp only[show(2<3)from by decide,if_true]at hs
 obtain⟨w',hrun,hsim⟩:=(hs.push (.raw (.slice (some p) (xs.length+1) cap)) rfl).store tc.ob tc.mu (by rfl) (by simpa[V.cells]using tc.le)
 have hnn:¬(Value.slice (some p) (xs.length+1) cap).cells.size≠y2.size:=by rw[hys2];simp[Value.cells]
 have hrunO:(execOp a.eval o).run c.P w= .ok .skip w' :=by
  simp only[execOp,hop,h2 (TY _),hr,Instr.storeAt,Instr.sureAddr,storeVar,Sem.run_bind,Sem.run_pure,Result.andThen_ok,(hc.ty _ _ hy2).sizeOf,Sem.run_ite,if_neg hnn,hrun]
 refine wR ho hg hd hrunO ?_
 exact⟨⟨G,by simpa[V.cells]using hsim⟩,hdf,hroom,hsp,hr,hn,hx,fun _=>h1 (by omega),fun _=>h2 (TY _)⟩
theorem Ck (x y:V):∀(off:Nat) (l:List V),over off [x] (over off [y] l)=over off [x] l
 |0,l=>by simp[over]
 |off+1,[]=>by simp[over]
 |off+1,z::l=>by simp[over,Ck x y off l]
theorem IA (x:V):∀(off:Nat) (l:List V),off<l.length→(over off [x] l)[off]? =some x
 |0,l,h=>by simp[over]
 |off+1,[],h=>by simp at h
 |off+1,z::l,h=>by simp[over];exact IA x off l (by simpa using h)
theorem Ak (x:Value):∀(off:Nat) (l:List Value),l[off]? =some x→dP off [x] l=l
 |0,[],h=>by simp at h
 |0,z::l,h=>by simp at h;subst h;simp[dP]
 |off+1,[],h=>by simp at h
 |off+1,z::l,h=>by simp[dP];exact Ak x off l (by simpa using h)
theorem O5 (tc:TC c t env objs μ xs v io o0 fo cs bo) (h:TS c E t env objs μ xs v io o0 fo cs d p cap bo 2 3 a w):
  ∃G,Sim c E w G μ env a.tmps.toList (objs.set io (.cells (over (o0+fo) [.lst t.e true (xs++[v])] cs))):=by
 obtain⟨⟨G,hs⟩,hdf,hroom,hsp,hr,hn,hx,h1,h2⟩:=h
 simp only[show¬(2<2)from by decide,show¬(3<3)from by decide,if_false]at hs
 have hlt:=(TQ.1 tc.ob).1
 have hob:(objs.set io (.cells (over (o0+fo) [.raw (.slice (some p) (xs.length+1) cap)] cs)))[io]? =some (.cells (over (o0+fo) [.raw (.slice (some p) (xs.length+1) cap)] cs)):=by simp[hlt]
 have hlen:=jU (o0+fo) [V.raw (.slice (some p) (xs.length+1) cap)] cs (by simpa using tc.le)
 have hat:=IA (.raw (.slice (some p) (xs.length+1) cap)) (o0+fo) cs (by have:=tc.le;omega)
 have hobr:=hs.inv.obs io _ bo hob tc.mu
 obtain⟨l,elem,fr,g1,g2,g3,g4,g5,g6⟩:=hobr
 have hls:(o0+fo)<l.length:=by rw[g3,hlen];have:=tc.le;omega
 have hX:l[o0+fo]? =some (.slice (some p) (xs.length+1) cap):=by
  have:=g5 (o0+fo) _ l[o0+fo] hat (TP hls)
  rw[TP hls]
  generalize l[o0+fo]=z at this ⊢
  cases this;rfl
 obtain⟨w',hrun,⟨l',elem',fr',cs',k1,rfl,k2⟩,hsim⟩:=hs.store' (off:=o0+fo) hob tc.mu (by rfl) (by rw[hlen];simpa[V.cells]using tc.le)
 rw[g1]at k1
 cases k1
 have k3:cs' =l.toArray:=by
  apply Vl
  rw[k2]
  exact Ak _ _ _ hX
 have hw:blk w bo (.cells cs' elem fr)=w:=by
  rw[k3]
  obtain⟨hb,hbe⟩:=TX.1 g1
  have e:w.heap.setIfInBounds bo (.cells l.toArray elem fr)=w.heap:=by
   apply Array.ext_getElem?
   intro k
   by_cases hkb:bo=k
   ·subst hkb;rw[Array.getElem?_setIfInBounds_self_of_lt hb,g1]
   ·rw[VU hkb]
  show { w with heap:=w.heap.setIfInBounds bo (.cells l.toArray elem fr) }=w
  rw[e]
 rw[hw]at hsim
 refine⟨G,?_⟩
 have:(objs.set io (.cells (over (o0+fo) [.raw (.slice (some p) (xs.length+1) cap)] cs))).set io (.cells (over (o0+fo) (V.lst t.e true (xs++[v])).cells (over (o0+fo) [.raw (.slice (some p) (xs.length+1) cap)] cs)))=
   objs.set io (.cells (over (o0+fo) [.lst t.e true (xs++[v])] cs)):=by
  rw[Wo]
  simp only[V.cells,Ck]
 rwa [this]at hsim
def LS (m i j q:Nat):Bool:=decide (q≤m)||(q==m+1&&decide (1≤i))||(q==m+2&&decide (2≤i))||(q==m+3&&decide (1≤j))||(q==m+4&&decide (2≤j))||(q==m+5&&decide (3≤j))
theorem KW (hc:bA c) (tc:TC c t env objs μ xs v io o0 fo cs bo) {m:Nat} (hm:m+6=ops.size) {o1 o2 o3 o4 o5:Oper}
  (e1:ops[m+1]? =some o1) (e2:ops[m+2]? =some o2) (e3:ops[m+3]? =some o3) (e4:ops[m+4]? =some o4) (e5:ops[m+5]? =some o5)
  (p1:o1.op= .indexAddr t.it (.tmp t.r) (.tmp t.n)∧o1.dst=some t.x∧o1.guard=none) (p2:o2.op= .store t.e (.tmp t.x) (.tmp t.v)∧o2.dst=none∧o2.guard=none)
  (p3:o3.op= .nilCheck (.tmp t.q)∧o3.dst=some t.p1∧o3.guard=none) (p4:o4.op= .fieldAddr t.T (.tmp t.p1) t.f∧o4.dst=some t.p2∧o4.guard=none)
  (p5:o5.op= .store t.t2 (.tmp t.p2) (.tmp t.r)∧o5.dst=none∧o5.guard=none)
  (h2:dC o2 (m+1)=true) (h4:dC o4 (m+3)=true) (h5:dC o5 (m+4)=true)
  (g1:fG o1 (fun k=>decide (k≤m))=true) (g2:fG o2 (fun k=>decide (k≤m+1))=true) (g3:fG o3 (fun k=>decide (k≤m))=true)
  (g4:fG o4 (fun k=>decide (k≤m)||k==m+3)=true) (g5:fG o5 (fun k=>decide (k≤m)||k==m+3||k==m+4)=true)
  (hQ:∀a w,TS c E t env objs μ xs v io o0 fo cs d p cap bo 2 3 a w→Q .normal a w):
  ∀(k i j:Nat) (listed:Array Bool) (a:Act) (w:World),i≤2→j≤3→k+i+j=5→listed.size=ops.size→(∀q,q<ops.size→listed.getD q false=LS m i j q)→
   TS c E t env objs μ xs v io o0 fo cs d p cap bo i j a w→wpAny c.P .any ops Q k listed a w:=by
 have done:∀listed:Array Bool,listed.size=ops.size→(∀q,q<ops.size→listed.getD q false=LS m 2 3 q)→Region.ready .any ops listed=[]:=by
  intro listed hs hl
  cases hr:Region.ready .any ops listed with
  |nil=>rfl
  |cons q r=>
   obtain⟨q0,o,q1,_⟩:=mem_ready.1 (by rw[hr];simp:q∈Region.ready .any ops listed)
   have hq:=(TX.1 q1).1
   rw[cJ (by omega) true false,hl q hq]at q0
   simp only[LS,Bool.or_eq_false_iff,Bool.and_eq_false_iff,decide_eq_false_iff_not,beq_eq_false_iff_ne]at q0
   omega
 intro k
 induction k with
 |zero=>
  intro i j listed a w hi hj hk hs hl h
  obtain rfl:i=2:=by omega
  obtain rfl:j=3:=by omega
  exact⟨done listed hs hl,hQ a w h⟩
 |succ k ih=>
  intro i j listed a w hi hj hk hs hl h
  have rdy:∀q o,ops[q]? =some o→LS m i j q=false→(∀e∈o.after,Region.binds .any e=true→LS m i j e.on=true∧e.on<ops.size)→q∈Region.ready .any ops listed:=by
   intro q o ho hq he
   have hqs:=(TX.1 ho).1
   refine mem_ready.2 ⟨by rw[cJ (by omega) true false,hl q hqs];exact hq,o,ho,fun e hee hb=>?_⟩
   have:=he e hee hb
   rw[hl e.on this.2];exact this.1
  have next:∀q i' j',i'≤2→j'≤3→q<ops.size→(∀r,r<ops.size→LS m i' j' r=(LS m i j r||r==q))→∀r,r<ops.size→(listed.setIfInBounds q true).getD r false=LS m i' j' r:=by
   intro q i' j' _ _ hq hh r hr
   rw[hh r hr]
   by_cases hqr:q=r
   ·subst hqr;simp[Un,hs,hq]
   ·rw[getD_set_ne false hqr,hl r hr]
    have:(r==q)=false:=beq_eq_false_iff_ne.2 (Ne.symm hqr)
    rw[this,Bool.or_false]
  refine⟨fun hr=>?_,fun q hq=>?_⟩
  ·exfalso
   by_cases hi2:i<2
   ·by_cases hi0:i=0
    ·have:=rdy (m+1) o1 e1 (by subst hi0;simp[LS]) fun e he hb=>by
      have:=eZ g1 e he hb
      simp only[decide_eq_true_eq]at this
      exact⟨by simp[LS,this],by omega⟩
     rw[hr]at this;cases this
    ·obtain rfl:i=1:=by omega
     have:=rdy (m+2) o2 e2 (by simp[LS]) fun e he hb=>by
      have:=eZ g2 e he hb
      simp only[decide_eq_true_eq]at this
      refine⟨?_,by omega⟩
      by_cases hle:e.on≤m
      ·simp[LS,hle]
      ·have:e.on=m+1:=by omega
       simp[LS,this]
     rw[hr]at this;cases this
   ·obtain rfl:i=2:=by omega
    by_cases hj0:j=0
    ·subst hj0
     have:=rdy (m+3) o3 e3 (by simp[LS]) fun e he hb=>by
      have:=eZ g3 e he hb
      simp only[decide_eq_true_eq]at this
      exact⟨by simp[LS,this],by omega⟩
     rw[hr]at this;cases this
    ·by_cases hj1:j=1
     ·subst hj1
      have:=rdy (m+4) o4 e4 (by simp[LS]) fun e he hb=>by
       have:=eZ g4 e he hb
       simp only[Va,decide_eq_true_eq,beq_iff_eq]at this
       rcases this with this|this
       ·exact⟨by simp[LS,this],by omega⟩
       ·exact⟨by simp[LS,this],by omega⟩
      rw[hr]at this;cases this
     ·obtain rfl:j=2:=by omega
      have:=rdy (m+5) o5 e5 (by simp[LS]) fun e he hb=>by
       have:=eZ g5 e he hb
       simp only[Va,decide_eq_true_eq,beq_iff_eq]at this
       rcases this with(this|this)|this
       ·exact⟨by simp[LS,this],by omega⟩
       ·exact⟨by simp[LS,this],by omega⟩
       ·exact⟨by simp[LS,this],by omega⟩
      rw[hr]at this;cases this
  ·obtain⟨hq0,o,ho,hall⟩:=mem_ready.1 hq
   have hqs:=(TX.1 ho).1
   rw[cJ (by omega) true false,hl q hqs]at hq0
   have edge:∀n,dC o n=true→n<ops.size→LS m i j n=true:=by
    intro n hn hns
    obtain⟨e,h1,h2,h3⟩:=kP hn
    have:=hall e h1 h2
    rw[h3,hl n hns]at this
    exact this
   have hcase:q=m+1∨q=m+2∨q=m+3∨q=m+4∨q=m+5:=by
    simp only[LS,Bool.or_eq_false_iff,Bool.and_eq_false_iff,decide_eq_false_iff_not,beq_eq_false_iff_ne]at hq0
    omega
   rcases hcase with rfl|rfl|rfl|rfl|rfl
   ·rw[e1]at ho;cases ho
    have hi0:i=0:=by simp[LS]at hq0;omega
    subst hi0
    refine wpOp_mono (fun a' w' h' =>?_) (O2 hc tc e1 p1.1 p1.2.1 p1.2.2 h)
    exact ih 1 j _ a' w' (by omega) hj (by omega) (by simpa using hs) (next _ 1 j (by omega) hj hqs (fun r _=>by simp[LS]<;>grind)) h'
   ·rw[e2]at ho;cases ho
    have:=edge (m+1) h2 (by omega)
    have hi1:i=1:=by simp[LS]at hq0 this;omega
    subst hi1
    refine wpOp_mono (fun a' w' h' =>?_) (MZ hc tc e2 p2.1 p2.2.1 p2.2.2 h)
    exact ih 2 j _ a' w' (by omega) hj (by omega) (by simpa using hs) (next _ 2 j (by omega) hj hqs (fun r _=>by simp[LS]<;>grind)) h'
   ·rw[e3]at ho;cases ho
    have hj0:j=0:=by simp[LS]at hq0;omega
    subst hj0
    refine wpOp_mono (fun a' w' h' =>?_) (O3 tc e3 p3.1 p3.2.1 p3.2.2 h)
    exact ih i 1 _ a' w' hi (by omega) (by omega) (by simpa using hs) (next _ i 1 hi (by omega) hqs (fun r _=>by simp[LS]<;>grind)) h'
   ·rw[e4]at ho;cases ho
    have:=edge (m+3) h4 (by omega)
    have hj1:j=1:=by simp[LS]at hq0 this;omega
    subst hj1
    refine wpOp_mono (fun a' w' h' =>?_) (KV hc tc e4 p4.1 p4.2.1 p4.2.2 h)
    exact ih i 2 _ a' w' hi (by omega) (by omega) (by simpa using hs) (next _ i 2 hi (by omega) hqs (fun r _=>by simp[LS]<;>grind)) h'
   ·rw[e5]at ho;cases ho
    have:=edge (m+4) h5 (by omega)
    have hj2:j=2:=by simp[LS]at hq0 this;omega
    subst hj2
    refine wpOp_mono (fun a' w' h' =>?_) (O4 hc tc e5 p5.1 p5.2.1 p5.2.2 h)
    exact ih i 3 _ a' w' hi (by omega) (by omega) (by simpa using hs) (next _ i 3 hi (by omega) hqs (fun r _=>by simp[LS]<;>grind)) h'
end
theorem wS {t:Tl} {S:St} {K:St→Option R} {r:R} (h:uD c t S K=some r):∃xs zt zs kn io off y fs fd cs,
  S.get t.s= .lst t.e true xs∧S.get t.z= .lst t.e zt zs∧S.get t.n= .int kn xs.length∧S.get t.q= .ref io off∧c.ty t.e=some y∧fieldsOf c t.T=some fs∧fs[t.f]? =some fd∧
  elemOf c t.st=some t.e∧elemOf c t.xt=some t.e∧elemOf c t.it=some t.e∧0<y.size∧zs.length=1∧cI c t.e (S.get t.v).cut=true∧V.refs (S.get t.v).cut=[]∧
  (S.get t.v).cut.cells.length=y.size∧aE c fd.type≠0∧aE c t.t2=1∧t.r<S.env.length∧t.x<S.env.length∧t.p1<S.env.length∧t.p2<S.env.length∧t.v<S.env.length∧
  (xs.length+1)* (y.bytes+1)≤70368744177664∧S.ob io= .cells cs∧off+fd.offset+1≤cs.length∧
  K ⟨((((S.env.set t.s .bot).set t.r .bot).set t.x .bot).set t.p1 .bot).set t.p2 .bot,S.objs.set io (.cells (over (off+fd.offset) [.lst t.e true (xs++[(S.get t.v).cut])] cs))⟩=some r:=by
 unfold uD at h
 split at h
 case h_2=>cases h
 rename_i e' xs hgs
 split at h
 case h_2=>cases h
 rename_i e'' zt zs hgz
 split at h
 case h_2=>cases h
 rename_i kn m hgn
 split at h
 case h_2=>cases h
 rename_i io off hgq
 split at h
 case h_2=>cases h
 rename_i y fs hy hfs
 split at h
 case h_2=>cases h
 rename_i fd hfd
 split at h
 case h_2=>cases h
 rename_i cs hob
 split at h
 case isFalse=>cases h
 rename_i hcnd
 simp only[TR,beq_iff_eq,decide_eq_true_eq,bne_iff_ne,ne_eq,V4,List.all_cons,List.all_nil,and_true]at hcnd
 obtain⟨⟨⟨⟨⟨⟨⟨⟨⟨⟨⟨⟨⟨k1,k2⟩,k3⟩,k4⟩,k5⟩,k6⟩,k7⟩,k8⟩,k9⟩,k10⟩,k11⟩,k12⟩,l1,l2,l3,l4,l5⟩,hle⟩:=hcnd
 obtain⟨hm,h'⟩:=aP h
 obtain⟨hap,h''⟩:=aP h'
 clear h h'
 simp only[eR,bC]at h''
 subst k1 k2
 have hm:m=xs.length:=by simpa using hm
 subst hm
 simp only[cE,decide_eq_true_eq,Ua,Uh]at hap
 exact⟨xs,zt,zs,kn,io,off,y,fs,fd,cs,hgs,hgz,hgn,hgq,hy,hfs,hfd,k3,k4,k5,k6,k7,k8,k9,k10,k11,k12,l1,l2,l3,l4,l5,hap,hob,hle,h''⟩
theorem kX (n q:Nat):(VT n false).getD q false=false:=by
 by_cases hl:q<n<;>simp[Un,hl]
theorem pJ (hc:bA c) {id:Nat} {ops:Array Oper} {n:Nat} {t:Tl} (hta:sW ops.toList=some (n,t))
  (hte:jB ops.toList n=true) {K:St→Option R} {r:R}
  {a:Act} {w:World} {G:Gh} {μ:List Nat} {S:St} (hS:cV c E w G μ S a)
  (hup:∀(Q:Exit→Act→World→Prop) (w' :World),eH w G w' G→n+6=ops.size→(∀q,n≤q→∀o,ops[q]? =some o→∀p,p<n→dC o p=true)→
   (∀listed a1 w1,listed.size=ops.size→(∀q,listed.getD q false=decide (q<n))→kF c E (fun S=>uD c t S K) r a.defers a1 w1→wpAny c.P .any ops Q 6 listed a1 w1)→
   wpAny c.P .any ops Q (n+6) (VT (n+6) false) a w'):
  (Code.region id ops true).wp c.P (fun e a' w' =>e= .normal∧kF c E K r a.defers a' w') a w:=by
 unfold sW at hta
 split at hta
 case h_2=>cases hta
 rename_i t' ht
 cases hta
 generalize hn:ops.toList.length - 6=n at*
 obtain⟨o0,o1,o2,o3,o4,o5,args,argTypes,hd,q0,q0a,q0t,q0d,p1,p2,p3,p4,p5,⟨gu0,gu1,gu2,gu3,gu4,gu5⟩,hnd⟩:=yB ht
 have hlen:n+6=ops.size:=by
  have:=congrArg US hd
  simp at this hn;omega
 have at' :∀k,ops[n+k]? =[o0,o1,o2,o3,o4,o5][k]? :=by
  intro k
  rw[←hd,UN];simp
 have hte' :jB ops.toList n=true:=hte
 unfold jB at hte
 rw[hd]at hte
 simp only[TR,Ux,Wk]at hte
 obtain⟨⟨⟨⟨⟨⟨⟨⟨⟨⟨b0,b1⟩,c2⟩,c4⟩,c5⟩,g0⟩,g1⟩,g2⟩,g3⟩,g4⟩,g5⟩:=hte
 have hx:eH w G { w with drawn:=w.drawn+1 } G:=eH.of_drew hS.inv.none
 have e0:ops[n]? =some o0:=at' 0
 have e1:ops[n+1]? =some o1:=at' 1
 have e2:ops[n+2]? =some o2:=at' 2
 have e3:ops[n+3]? =some o3:=at' 3
 have e4:ops[n+4]? =some o4:=at' 4
 have e5:ops[n+5]? =some o5:=at' 5
 refine wp_region_any hc.mixed ?_
 rw[←hlen]
 refine hup _ _ hx hlen ?blk ?tail
 case blk=>
  intro q hq o ho k hk
  have hqs:=(TX.1 ho).1
  obtain⟨j,rfl⟩:∃j,q=n+j:=⟨q - n,by omega⟩
  rw[at']at ho
  match j,ho with
  |0,ho=>cases ho;exact b0 k hk
  |1,ho=>cases ho;exact(b1 k (by omega)).1.1.1.1
  |2,ho=>cases ho;exact(b1 k (by omega)).1.1.1.2
  |3,ho=>cases ho;exact(b1 k (by omega)).1.1.2
  |4,ho=>cases ho;exact(b1 k (by omega)).1.2
  |5,ho=>cases ho;exact(b1 k (by omega)).2
  |j+6,ho=>simp at ho
 case tail=>
  intro listed a1 w1 hls hl hp
  obtain⟨S1,G1,μ1,hk,hs1,hd1⟩:=hp
  obtain⟨xs,zt,zs,kn,io,off,y,fs,fd,cs,hgs,hgz,hgn,hgq,hy,hfs,hfd,k3,k4,k5,k6,k7,k8,k9,k10,k11,k12,l1,l2,l3,l4,l5,hap,hob,hle,hk⟩:=wS hk
  have get_some:∀(s:Nat) (v:V),S1.get s=v→v≠ .bot→S1.env[s]? =some v:=by
   intro s v hv hne
   unfold St.get at hv
   by_cases hs:s<S1.env.length
   ·rw[Ur,TP hs]at hv
    rw[TP hs];simpa using hv
   ·rw[Ur,Ut (by omega)]at hv
    exact absurd hv.symm hne
  have vs:=get_some t.s _ hgs (by simp)
  have vn:=get_some t.n _ hgn (by simp)
  have vq:=get_some t.q _ hgq (by simp)
  have hlen1:=hs1.inv.len
  have hX:a1.tmps.toList[t.s]? =some (a1.eval (.tmp t.s)):=by
   have h1:=(TQ.1 vs).1
   have h2:t.s<a1.tmps.size:=by simp at hlen1;omega
   simp[Act.eval,Un,Uj h2]
  have toBot:∀{env:List V} {x:V} {gx:Value} (s:Nat),Sim c E w1 G1 μ1 (x::env) (gx::a1.tmps.toList) S1.objs→Sim c E w1 G1 μ1 (x::env.set s .bot) (gx::a1.tmps.toList) S1.objs:=by
   intro env x gx s h
   have:=h.reput (s+1) (v:= .bot) fun x _=>⟨.bot x,eS x⟩
   simpa using this
  have hs2:=toBot t.p2 (toBot t.p1 (toBot t.x (toBot t.r (toBot t.s (hs1.take vs hX)))))
  rw[Wo]at hs2
  have hrz:=aT (S:=S1) hs1 0 (.tmp t.z)
  rw[show opd c S1 0 (.tmp t.z)=S1.get t.z from rfl,hgz]at hrz
  obtain⟨l,hl1,hlr,hlf,hlz,hsrc⟩:=Src.of_lst hc hrz k4
  rw[k7]at hl1 hsrc
  have hsin:=pZ (by rw[hl1,k7]) hlr hlf
  obtain⟨p,cap,w2,G2,hrun,hroom,hsp,hs3⟩:=KJ hc (ty:=o0.type) hy k3 hs2 hsrc hl1 hlz hsin hap
  have hargs:args= #[.tmp t.s, .tmp t.z]:=by apply Vl;simpa using q0a
  have hargt:argTypes= #[t.st,t.xt]:=by apply Vl;simpa using q0t
  have hrunO:(execOp a1.eval o0).run c.P w1= .ok (.value (.slice (some p) (xs.length+1) cap)) w2:=by
   obtain⟨dst,op,type,pos,after,guard⟩:=o0
   simp only at q0
   subst q0 hargs hargt
   simp only[execOp,resolve,invoke,builtin,List.map_toArray,UE,VL,Sem.run_bind,Sem.run_pure,Result.andThen_ok]at hrun ⊢
   rw[hrun];rfl
  have hlisted:∀q,q<ops.size→(listed.setIfInBounds n true).getD q false=LS n 0 0 q:=by
   intro q hq
   by_cases hqn:n=q
   ·subst hqn;simp[Un,hls,hq,LS]
   ·rw[getD_set_ne false hqn,hl q]
    simp[LS];omega
  refine⟨fun hr=>?_,fun q hq=>?_⟩
  ·exfalso
   have:n∈Region.ready .any ops listed:=mem_ready.2 ⟨by rw[cJ (by omega) true false,hl n];simp,o0,e0,fun e he hb=>by
    have:=eZ g0 e he hb
    rw[hl e.on];simpa using this⟩
   rw[hr]at this;cases this
  ·have hqn:q=n:=by
    obtain⟨hq0,o,ho,hall⟩:=mem_ready.1 hq
    have hqs:=(TX.1 ho).1
    rw[cJ (by omega) true false,hl q]at hq0
    have hqge:n≤q:=by simpa using hq0
    obtain⟨j,rfl⟩:∃j,q=n+j:=⟨q - n,by omega⟩
    have hno:dC o n=true→False:=by
     intro hn'
     obtain⟨e,h1,h2,h3⟩:=kP hn'
     have:=hall e h1 h2
     rw[h3,hl n]at this
     simp at this
    rw[at']at ho
    match j,ho with
    |0,ho=>rfl
    |1,ho=>cases ho;exact(hno (b1 n (by omega)).1.1.1.1).elim
    |2,ho=>cases ho;exact(hno (b1 n (by omega)).1.1.1.2).elim
    |3,ho=>cases ho;exact(hno (b1 n (by omega)).1.1.2).elim
    |4,ho=>cases ho;exact(hno (b1 n (by omega)).1.2).elim
    |5,ho=>cases ho;exact(hno (b1 n (by omega)).2).elim
    |j+6,ho=>simp at ho
   subst hqn
   refine qK e0 gu0 hrunO ?_
   obtain⟨⟨nd1,nd2,nd3,nd4⟩,⟨nd5,nd6,nd7⟩,nd8,nd9,nd10,nd11⟩:=DV (gY _ hnd)
   have hnod:=gY _ hnd
   have hget:∀(s:Nat) u,s≠t.s→s≠t.r→s≠t.x→s≠t.p1→s≠t.p2→S1.env[s]? =some u→(((((S1.env.set t.s .bot).set t.r .bot).set t.x .bot).set t.p1 .bot).set t.p2 .bot)[s]? =some u:=by
    intro s u h1 h2 h3 h4 h5 hu
    rw[Uq (Ne.symm h5),Uq (Ne.symm h4),Uq (Ne.symm h3),Uq (Ne.symm h2),Uq (Ne.symm h1)]
    exact hu
   have hbot:∀(s:Nat),s<S1.env.length→(s=t.r∨s=t.x∨s=t.p1∨s=t.p2)→(((((S1.env.set t.s .bot).set t.r .bot).set t.x .bot).set t.p1 .bot).set t.p2 .bot)[s]? =some .bot:=by
    intro s hs h
    simp only[List.getElem?_set,Ws]
    rcases h with rfl|rfl|rfl|rfl
    all_goals (repeat' split)<;>first|rfl|omega
   generalize henv:((((S1.env.set t.s V.bot).set t.r .bot).set t.x .bot).set t.p1 .bot).set t.p2 .bot=env5 at*
   obtain⟨bo,hbo⟩:∃bo,μ1[io]? =some bo:=μ_get hs1 (St.ob_get hob)
   have hN:=bS (aT (S:=S1) hs1 0 (.tmp t.n)) hgn
   simp only[Wr,UH,not_or,List.not_mem_nil,not_false_eq_true,and_true,List.nodup_nil]at hnod
   obtain⟨⟨_,_,_,x1,x2,x3,x4⟩,⟨_,_,y1,y2,y3,y4⟩,⟨_,z1,z2,z3,z4⟩,⟨u1,u2,u3,u4⟩,⟨m1,m2,m3⟩,_⟩:=hnod
   have htv:S1.env[t.v]? =some (S1.get t.v):=by
    unfold St.get
    rw[Ur,TP l5];rfl
   have htc:TC c t env5 S1.objs μ1 xs (S1.get t.v).cut io off fd.offset cs bo:=
    ⟨gY _ hnd,hbot _ l1 (by simp),hbot _ l2 (by simp),hbot _ l3 (by simp),hbot _ l4 (by simp),hget _ _ (Ne.symm m3) (Ne.symm x4) (Ne.symm y4) (Ne.symm z4) (Ne.symm u4) vq,
     ⟨_,hget _ _ (Ne.symm m2) (Ne.symm x3) (Ne.symm y3) (Ne.symm z3) (Ne.symm u3) htv,rfl⟩,k8,k9,by rw[k10];simp[aE,hy],St.ob_get hob,hbo,hle,k5,⟨y,hy,k6⟩,⟨fs,fd,hfs,hfd,rfl,k11⟩,k12⟩
   have htmp:t.r<a1.tmps.size:=by simp at hlen1;omega
   rw[q0d]
   refine KW (Q:=fun e a' w' =>e=Exit.normal∧kF c E K r a.defers a' w') (d:=a.defers) (p:=p) (cap:=cap) hc htc hlen e1 e2 e3 e4 e5 ⟨p1.1,p1.2,gu1⟩ ⟨p2.1,p2.2,gu2⟩ ⟨p3.1,p3.2,gu3⟩ ⟨p4.1,p4.2,gu4⟩ ⟨p5.1,p5.2,gu5⟩
    c2 c4 c5 g1 g2 g3 g4 g5 (fun a' w' h=>?_) 5 0 0 _ _ w2 (by omega) (by omega) (by omega) (by simpa using hls) hlisted ⟨⟨G2,zD hs3 (hbot _ l1 (by simp)) _⟩,(jE a1 _ _).2.trans hd1,hroom,hsp,eval_put_same htmp,⟨kn,?_⟩,fun h=>by omega,fun h=>by omega,fun h=>by omega⟩
   ·obtain⟨G',hs'⟩:=O5 htc h
    exact⟨rfl,_,G',μ1,hk,hs',h.dfr⟩
   ·rw[eval_put_ne x2];exact hN
theorem kY {n m:Nat} (h:n≤m):rem n (VT m false)=Vr n:=by
 unfold rem
 rw[VC]
 intro i hi
 have:i<m:=by
  have:i<n:=by simpa using hi
  omega
 simp[this]
theorem oW {ops:Array Oper}:∀k,k≤ops.size→(Vr k).filterMap (ops.toList[·]?)=ops.toList.take k:=by
 intro k
 induction k with
 |zero=>intro _;simp
 |succ k ih=>
  intro hk
  have hks:k<ops.size:=by omega
  rw[List.range_succ,Vd,ih (by omega),VE]
  simp[Uj hks]
theorem BO (hc:bA c) {call:FuncId→Fun} (hcall:∀f,bW c f (call f)) {icall:aN R} {id:Nat} {ops:Array Oper} {n:Nat} {t:Tl} (hta:sW ops.toList=some (n,t))
  (hof:oD c n ops.toList=true) (hte:jB ops.toList n=true) {K:St→Option R} {r:R}
  {a:Act} {w:World} {G:Gh} {μ:List Nat} {S:St} (h:dR c call icall ops.toList (ops.toList.take n) S (fun S=>uD c t S K)=some r) (hS:cV c E w G μ S a):
  (Code.region id ops true).wp c.P (fun e a' w' =>e= .normal∧kF c E K r a.defers a' w') a w:=by
 refine pJ hc hta hte hS fun Q w' hx hlen hblk htail=>?_
 refine KU hc hcall (icall:=icall) (r:=r) hlen hof (d:=a.defers) hblk htail n _ a _ G μ S (by simp[hlen]) (by rw[kY (by omega)];simp) (fun q _=>kX _ _) (fun j hj=>?_) (K:=fun S=>uD c t S K) ?_ (hS.ext hx) rfl
 ·rw[kX]at hj;cases hj
 ·rw[kY (by omega),oW n (by omega)];exact h
theorem qL (ops:List Oper) (b:List Nat) (j:Nat) (y:Oper):∀(l:List Oper) (i0:Nat),nK c ops b j y i0 l=true→∀(k:Nat) x,l[k]? =some x→i0+k<j→(b.getD j 0).testBit (i0+k)=false→eP c ops x y=true∨uC c ops x y=true
 |[],_,_,k,x,h,_,_=>by simp at h
 |a::l,i0,hs,k,x,h,hlt,hb=>by
  simp only[nK,TR]at hs
  cases k with
  |zero=>
   simp at h;subst h
   have:=hs.1
   rw[if_pos (by simpa using hlt)]at this
   simp only[U2]at hb
   simp only[hb,VF,Va]at this
   exact this
  |succ k=>
   exact qL ops b j y l (i0+1) hs.2 k x (by simpa using h) (by omega) (by rw[show i0+1+k=i0+(k+1)by omega];exact hb)
theorem kG {ops:List Oper} {n:Nat} (h:fL c n ops=true):∀(j:Nat) y,j<n→ops[j]? =some y→(∀e∈y.after.toList,Region.binds .any e=true→e.on<j)∧
  ∀(i:Nat) x,ops[i]? =some x→i<j→((ahead ops []).getD j 0).testBit i=false→eP c ops x y=true∨uC c ops x y=true:=by
 have key:∀(l:List Oper) (j0:Nat),fL.go c ops (ahead ops []) j0 l=true→∀(k:Nat) y,l[k]? =some y→(y.after.toList.all fun e=> !Region.binds .any e||decide (e.on<j0+k))=true∧nK c ops (ahead ops []) (j0+k) y 0 ops=true:=by
  intro l
  induction l with
  |nil=>intro j0 _ k y hy;simp at hy
  |cons a r ih=>
   intro j0 h k y hy
   simp only[fL.go,TR]at h
   cases k with
   |zero=>
    simp at hy;subst hy
    exact⟨by simpa using h.1.1,by simpa using h.1.2⟩
   |succ k=>
    have:=ih (j0+1) h.2 k y (by simpa using hy)
    rw[show j0+(k+1)=j0+1+k by omega]
    exact this
 intro j y hj hy
 obtain⟨h1,h2⟩:=key (ops.take n) 0 h j y (by rw[Uw,if_pos hj];exact hy)
 rw[UD]at h1 h2
 refine⟨fun e he hb=>?_,fun i x hx hlt hb=>?_⟩
 ·rw[Ux]at h1
  have:=h1 e he
  simpa[hb]using this
 ·exact qL ops _ j y ops 0 h2 i x hx (by omega) (by simpa using hb)
theorem sJ (ops:List Oper) (b:List Nat) (S0 S:St) (j:Nat) (y:Oper):∀(l:List Oper) (i0:Nat),pU c ops b S0 S j y i0 l=true→∀(k:Nat) x,l[k]? =some x→i0+k<j→(b.getD j 0).testBit (i0+k)=false→
  eP c ops x y=true∨Ku c S0 S x y=true
 |[],_,_,k,x,h,_,_=>by simp at h
 |a::l,i0,hs,k,x,h,hlt,hb=>by
  simp only[pU,TR]at hs
  cases k with
  |zero=>
   simp at h;subst h
   have:=hs.1
   rw[if_pos (by simpa using hlt)]at this
   simp only[U2]at hb
   simp only[hb,VF,Va]at this
   exact this
  |succ k=>
   exact sJ ops b S0 S j y l (i0+1) hs.2 k x (by simpa using h) (by omega) (by rw[show i0+1+k=i0+(k+1)by omega];exact hb)
theorem DW {ops:List Oper} {n:Nat} {S0 S:St} (h:jM c ops n S0 S=true):∀(j:Nat) y,j<n→ops[j]? =some y→∀(i:Nat) x,ops[i]? =some x→i<j→((ahead ops []).getD j 0).testBit i=false→
  eP c ops x y=true∨Ku c S0 S x y=true:=by
 have key:∀(l:List Oper) (j0:Nat),jM.go c ops S0 S (ahead ops []) j0 l=true→∀(k:Nat) y,l[k]? =some y→pU c ops (ahead ops []) S0 S (j0+k) y 0 ops=true:=by
  intro l
  induction l with
  |nil=>intro j0 _ k y hy;simp at hy
  |cons a r ih=>
   intro j0 h k y hy
   simp only[jM.go,TR]at h
   cases k with
   |zero=>simp at hy;subst hy;exact h.1
   |succ k=>
    have:=ih (j0+1) h.2 k y (by simpa using hy)
    rw[show j0+(k+1)=j0+1+k by omega]
    exact this
 intro j y hj hy i x hx hlt hb
 have h2:=key (ops.take n) 0 h j y (by rw[Uw,if_pos hj];exact hy)
 rw[UD]at h2
 exact sJ ops _ S0 S j y ops 0 h2 i x hx (by omega) (by simpa using hb)
theorem uP {ops:List Oper}:∀{l:List Oper},mC c ops l=true→∀(i j:Nat) x y,l[i]? =some x→l[j]? =some y→i≠j→iK c ops y=false→iK c ops x=true
 |[],_,i,j,x,y,hx,_,_,_=>by simp at hx
 |o::r,h,i,j,x,y,hx,hy,hij,hn=>by
  unfold mC at h
  split at h
  ·rename_i ho
   cases i with
   |zero=>simp at hx;subst hx;exact ho
   |succ i=>cases j with
    |zero=>simp at hy;subst hy;rw[ho]at hn;cases hn
    |succ j=>exact uP h i j x y (by simpa using hx) (by simpa using hy) (by omega) hn
  ·rename_i ho
   rw[Ux]at h
   cases i with
   |zero=>cases j with
    |zero=>omega
    |succ j=>
     have:=h y (Uu (by simpa using hy))
     rw[this]at hn;cases hn
   |succ i=>exact h x (Uu (by simpa using hx))
theorem sK {ops:List Oper}:∀{l:List Oper},jT c ops l=true→∀(j k:Nat) y z f args ts,l[j]? =some y→l[k]? =some z→j<k→jA y=some (f,args,ts)→vU (bP args) (aO c ops z)=true
 |[],_,j,k,y,z,f,args,ts,hy,_,_,_=>by simp at hy
 |o::r,h,j,k,y,z,f,args,ts,hy,hz,hjk,hg=>by
  simp only[jT,TR]at h
  cases k with
  |zero=>omega
  |succ k=>
   cases j with
   |zero=>
    simp at hy;subst hy
    rw[hg]at h
    have:=h.1
    simp only[Ux]at this
    exact this z (Uu (by simpa using hz))
   |succ j=>exact sK h.2 j k y z f args ts (by simpa using hy) (by simpa using hz) (by omega) hg
open Classical in
theorem Cl (hc:bA c) {call:FuncId→Fun} (hcall:∀f,bW c f (call f)) {icall:aN R} {ops:Array Oper} {n g:Nat} (hn:n+g=ops.size) (hof:fL c n ops.toList=true)
  (hmb:mC c ops.toList (ops.toList.take n)=true) (hst:bT c ops.toList (ops.toList.take n)=true) (has:jT c ops.toList (ops.toList.take n)=true) {S0:St}
  (hblk:∀q,n≤q→∀o,ops[q]? =some o→∀p,p<n→dC o p=true) {K:St→Option R} {r:R} {d:List Deferred} {Q:Exit→Act→World→Prop}
  (hfar:∀S',K S' =some r→jM c ops.toList n S0 S' =true)
  (hQ:∀listed a w,listed.size=ops.size→(∀q,listed.getD q false=decide (q<n))→kF c E K r d a w→wpAny c.P .any ops Q g listed a w):
  ∀(k:Nat) (listed:Array Bool) (a:Act) (w:World) (G:Gh) (μ:List Nat) (S:St),listed.size=ops.size→(rem n listed).length=k→(∀q,n≤q→listed.getD q false=false)→
   (∀j,listed.getD j false=true→∀o,ops[j]? =some o→∀e∈o.after,Region.binds .any e=true→listed.getD e.on false=true)→
   ((∀q o,q<n→ops[q]? =some o→iK c ops.toList o=false→listed.getD q false=false)→dK S.objs=dK S0.objs)→
   dR c call icall ops.toList ((rem n listed).filterMap (ops.toList[·]?)) S K=some r→cV c E w G μ S a→a.defers=d→wpAny c.P .any ops Q (k+g) listed a w:=by
 have hof' :∀(j:Nat) y,j<n→ops[j]? =some y→∀e∈y.after.toList,Region.binds .any e=true→e.on<j:=
  fun j y hj hy=>(kG hof j y hj (by simpa using hy)).1
 have htake:∀(i:Nat) x,i<n→ops.toList[i]? =some x→(ops.toList.take n)[i]? =some x:=fun i x hi hx=>by rw[Uw,if_pos hi];exact hx
 intro k
 induction k with
 |zero=>
  intro listed a w G μ S hs hl hb hcl hsoft h hS hd
  have h0:rem n listed=[]:=Ue hl
  rw[h0]at h
  rw[UD]
  refine hQ listed a w hs (fun q=>?_) ⟨S,G,μ,h,hS,hd⟩
  by_cases hq:q<n
  ·cases hv:listed.getD q false with
   |true=>simp[hq]
   |false=>
    have:q∈rem n listed:=dN.2 ⟨hq,by rw[cJ (by omega) true false];exact hv⟩
    rw[h0]at this;cases this
  ·rw[hb q (by omega)];simp[hq]
 |succ k ih=>
  intro listed a w G μ S hs hl hb hcl hsoft h hS hd
  have hne:∃m t,rem n listed=m::t:=by
   cases h0:rem n listed with
   |nil=>rw[h0]at hl;cases hl
   |cons m t=>exact⟨m,t,rfl⟩
  obtain⟨m,t,h0⟩:=hne
  have hm:=dN.1 (by rw[h0];simp:m∈rem n listed)
  rw[show k+1+g=(k+g)+1 by omega]
  refine⟨fun hr=>?_,fun j hj=>?_⟩
  ·have hsort:=eN n listed
   rw[h0,VX]at hsort
   have ho:ops[m]? =some ops[m]:=Uj (by omega)
   have:m∈Region.ready .any ops listed:=mem_ready.2 ⟨hm.2,_,ho,fun e he hb=>by
    have hlt:=hof' m ops[m] hm.1 ho e (by simpa using he) hb
    apply Classical.byContradiction
    intro hn'
    have h1:listed.getD e.on true=false:=by
     rw[cJ (by omega) true false];simpa using hn'
    have h2:e.on∈rem n listed:=dN.2 ⟨by omega,h1⟩
    rw[h0,UH]at h2
    rcases h2 with h2|h2
    ·omega
    ·have:=hsort.1 _ h2;omega⟩
   rw[hr]at this;cases this
  ·obtain⟨hj0,y,hy,hall⟩:=mem_ready.1 hj
   have hjs:=(TX.1 hy).1
   have hjn:j<n:=by
    apply Classical.byContradiction
    intro hjn
    obtain⟨e,he,h1,h2⟩:=kP (hblk j (by omega) y hy m hm.1)
    have h3:=hall e he h1
    rw[h2,cJ (by omega) false true,hm.2]at h3
    cases h3
   have hjr:j∈rem n listed:=dN.2 ⟨hjn,hj0⟩
   obtain⟨pre,post,hpp⟩:=List.append_of_mem hjr
   have hyl:ops.toList[j]? =some y:=by simpa using hy
   have hsort:=eN n listed
   have hsubl:((rem n listed).filterMap (ops.toList[·]?)).Sublist (ops.toList.take n):=by
    have h1:(rem n listed).Sublist (Vr n):=List.filter_sublist
    have h2:=h1.filterMap (ops.toList[·]?)
    rwa [oW n (by omega)]at h2
   rw[hpp,VZ]at hsort
   rw[hpp,Vd,VS,hyl]at h hsubl
   simp only at h hsubl
   have hpre:∀x∈pre.filterMap (ops.toList[·]?),∃i,i<j∧ops.toList[i]? =some x∧((ahead ops.toList []).getD j 0).testBit i=false:=by
    intro x hx
    obtain⟨i,hi,hix⟩:=VW.1 hx
    refine⟨i,hsort.2.2 i hi j (by simp),hix,?_⟩
    cases htb:((ahead ops.toList []).getD j 0).testBit i with
    |false=>rfl
    |true=>
     have h1:=P8 hof' hcl j j (TY _) hjn y hy hall i htb
     have h2:=(dN.1 (by rw[hpp];simp[hi]:i∈rem n listed))
     rw[cJ (by omega) false true,h2.2]at h1
     cases h1
   have hf:dR c call icall ops.toList (y::(pre.filterMap (ops.toList[·]?)++post.filterMap (ops.toList[·]?))) S K=some r:=by
    by_cases hall:∀x∈pre.filterMap (ops.toList[·]?),eP c ops.toList x y=true
    ·exact oS hc.inl _ S hall h
    ·obtain⟨x,hx⟩:=Classical.not_forall.1 hall
     have hx' :∃hmem:x∈pre.filterMap (ops.toList[·]?),eP c ops.toList x y≠true:=by
      obtain⟨h1,h2⟩:=Classical.not_imp.1 hx
      exact⟨h1,h2⟩
     obtain⟨hxm,hxs⟩:=hx'
     obtain⟨i,hij,hix,hbit⟩:=hpre x hxm
     have hpc:=((kG hof j y hjn hyl).2 i x hix hij hbit).resolve_left hxs
     obtain⟨f,args,ts,hgc,hnm⟩:∃f args ts,jA y=some (f,args,ts)∧iK c ops.toList y=false:=by
      unfold uC at hpc
      split at hpc
      ·rename_i f args ts hg
       simp only[TR,UX]at hpc
       exact⟨f,args,ts,hg,hpc.1.1.1.1.2⟩
      ·cases hpc
     have hothers:∀(i:Nat) x,i<n→i≠j→ops.toList[i]? =some x→iK c ops.toList x=true:=fun i x hi hij hx=>
      uP hmb i j x y (htake i x hi hx) (htake j y hjn hyl) hij hnm
     refine yA (S0:=S0) hc.inl hgc (fun z hz=>?_) _ S (fun x hx=>?_) (fun x hx=>?_) (sH _ _ hsubl hst) (hsoft fun q o hq ho hno=>?_) h
     ·obtain⟨q,hq,hqz⟩:=VW.1 hz
      have hjq:j<q:=by
       have:=hsort.2.1
       rw[VX]at this
       exact this.1 q hq
      have hqn:q<n:=(dN.1 (by rw[hpp];simp[hq]:q∈rem n listed)).1
      exact sK has j q y z f args ts (htake j y hjn hyl) (htake q z hqn hqz) hjq hgc
     ·obtain⟨i,hij,hix,_⟩:=hpre x hx
      exact hothers i x (by omega) (by omega) hix
     ·obtain⟨i,hij,hix,hbit⟩:=hpre x hx
      by_cases hsw:eP c ops.toList x y=true
      ·exact .inl hsw
      ·refine .inr ⟨((kG hof j y hjn hyl).2 i x hix hij hbit).resolve_left hsw,fun S' hk=>?_⟩
       exact(DW (hfar S' hk) j y hjn hyl i x hix hij hbit).resolve_left hsw
     ·by_cases hqj:q=j
      ·subst hqj
       rw[cJ (by omega) false true];exact hj0
      ·have:=hothers q o hq hqj (by simpa using ho)
       rw[this]at hno;cases hno
   rw[bI]at hf
   obtain⟨Fy,hFy,ey⟩:=qJ hc.inl (call:=call) (ops:=ops.toList) (o:=y)
   rw[ey]at hf
   obtain⟨Sy,hy1,hy2⟩:=T0.1 hf
   have hf2:iO c call icall ops.toList y S (fun S' =>if iK c ops.toList y=true→dK S'.objs=dK S.objs then dR c call icall ops.toList (pre.filterMap (ops.toList[·]?)++post.filterMap (ops.toList[·]?)) S' K else none)=some r:=by
    rw[ey,hy1,Option.bind_some,if_pos fun hmy=>Ci hFy hmy hy1]
    exact hy2
   have hw:=step_ok hc hcall (Q:=Q) hy hf2 hS
   refine wpOp_mono (fun a' w' hp=>?_) hw
   obtain⟨S',G',μ',hk,hs',hd'⟩:=hp
   dsimp only at hk
   split at hk
   case isFalse=>cases hk
   rename_i hmy
   have hrt:=Cj hpp (by omega)
   refine ih (listed.setIfInBounds j true) a' w' G' μ' S' (by simpa using hs) ?_ (fun q hq=>?_) (fun k hk' o ho e he hb=>?_) (fun hun=>?_) ?_ hs' (by rw[hd',hd])
   ·rw[hrt];rw[hpp]at hl;simp at hl ⊢;omega
   ·rw[getD_set_ne false (by omega)];exact hb q hq
   ·by_cases hjk:j=k
    ·subst hjk
     rw[hy]at ho;cases ho
     exact getD_set_true (hall e he hb)
    ·rw[getD_set_ne false hjk]at hk'
     exact getD_set_true (hcl k hk' o ho e he hb)
   ·have hym:iK c ops.toList y=true:=by
     cases hmm:iK c ops.toList y with
     |true=>rfl
     |false=>
      have:=hun j y hjn hy hmm
      have h2:(listed.setIfInBounds j true).getD j false=true:=by
       have:j<listed.size:=by omega
       simp[Un,this]
      rw[h2]at this;cases this
    refine(hmy hym).trans (hsoft fun q o hq ho hno=>?_)
    have hqj:j≠q:=fun e=>by
     subst e
     rw[hy]at ho;cases ho
     rw[hym]at hno;cases hno
    have:=hun q o hq ho hno
    rwa [getD_set_ne false hqj]at this
   ·rw[hrt,Vd];exact hk
theorem Al (hc:bA c) {call:FuncId→Fun} (hcall:∀f,bW c f (call f)) {icall:aN R} {id:Nat} {ops:Array Oper} {n:Nat} {t:Tl} (hta:sW ops.toList=some (n,t))
  (hof:fL c n ops.toList=true) (hte:jB ops.toList n=true) (hmb:mC c ops.toList (ops.toList.take n)=true) (hst:bT c ops.toList (ops.toList.take n)=true) (has:jT c ops.toList (ops.toList.take n)=true)
  {K:St→Option R} {r:R} {a:Act} {w:World} {G:Gh} {μ:List Nat} {S:St}
  (h:dR c call icall ops.toList (ops.toList.take n) S (fun S' =>if jM c ops.toList n S S' then uD c t S' K else none)=some r) (hS:cV c E w G μ S a):
  (Code.region id ops true).wp c.P (fun e a' w' =>e= .normal∧kF c E K r a.defers a' w') a w:=by
 refine pJ hc hta hte hS fun Q w' hx hlen hblk htail=>?_
 refine Cl hc hcall (icall:=icall) (r:=r) hlen hof hmb hst has (S0:=S) (d:=a.defers) hblk (K:=fun S' =>if jM c ops.toList n S S' then uD c t S' K else none) (fun S' hk=>?_) (fun listed a1 w1 h1 h2 h3=>?_)
  n _ a _ G μ S (by simp[hlen]) (by rw[kY (by omega)];simp) (fun q _=>kX _ _) (fun j hj=>?_) (fun _=>rfl) ?_ (hS.ext hx) rfl
 ·split at hk
  ·assumption
  ·cases hk
 ·refine htail listed a1 w1 h1 h2 ?_
  obtain⟨S1,G1,μ1,hk,hs1,hd1⟩:=h3
  refine⟨S1,G1,μ1,?_,hs1,hd1⟩
  dsimp only at hk ⊢
  split at hk
  ·exact hk
  ·cases hk
 ·rw[kX]at hj;cases hj
 ·rw[kY (by omega),oW n (by omega)];exact h
theorem BP (hc:bA c) {call:FuncId→Fun} (hcall:∀f,bW c f (call f)) {icall:aN R} {id:Nat} {ops:Array Oper} (hle:vW ops.toList=true)
  (hof:fL c (ops.toList.length - 1) ops.toList=true) (hmb:mC c ops.toList (ops.toList.take (ops.toList.length - 1))=true) (hst:bT c ops.toList (ops.toList.take (ops.toList.length - 1))=true)
  (has:jT c ops.toList (ops.toList.take (ops.toList.length - 1))=true) {K:St→Option R} {r:R} {a:Act} {w:World} {G:Gh} {μ:List Nat} {S:St}
  (h:dR c call icall ops.toList (ops.toList.take (ops.toList.length - 1)) S (fun S' =>if jM c ops.toList (ops.toList.length - 1) S S' then dR c call icall ops.toList (ops.toList.drop (ops.toList.length - 1)) S' K else none)=some r) (hS:cV c E w G μ S a):
  (Code.region id ops true).wp c.P (fun e a' w' =>e= .normal∧kF c E K r a.defers a' w') a w:=by
 unfold vW at hle
 simp only[TR,decide_eq_true_eq]at hle
 obtain⟨hpos,hle⟩:=hle
 split at hle
 case h_2=>cases hle
 rename_i o hlast
 generalize hn:ops.toList.length - 1=n at*
 have hlen:n+1=ops.size:=by simp at hpos hn;omega
 have hlo:ops[n]? =some o:=by
  rw[List.getLast?_eq_getElem?,hn]at hlast
  simpa using hlast
 have hdrop:ops.toList.drop n=[o]:=by
  apply UK
  intro i
  rw[UN]
  cases i with
  |zero=>simpa using hlo
  |succ i=>rw[Ut (by simp;omega)];simp
 simp only[TR,Ux,Wk]at hle
 have hin:=eZ hle.2
 have hx:eH w G { w with drawn:=w.drawn+1 } G:=eH.of_drew hS.inv.none
 have hblk:∀q,n≤q→∀o',ops[q]? =some o'→∀p,p<n→dC o' p=true:=by
  intro q hq o' ho' p hp
  have hqs:=(TX.1 ho').1
  have:q=n:=by omega
  subst this
  rw[hlo]at ho';cases ho'
  exact hle.1 p hp
 refine wp_region_any hc.mixed ?_
 rw[←hlen]
 refine Cl hc hcall (icall:=icall) (r:=r) hlen hof hmb hst has (S0:=S) (d:=a.defers) hblk (K:=fun S' =>if jM c ops.toList n S S' then dR c call icall ops.toList (ops.toList.drop n) S' K else none) (fun S' hk=>?_) (fun listed a1 w1 h1 h2 h3=>?_)
  n _ a _ G μ S (by simp[hlen]) (by rw[kY (by omega)];simp) (fun q _=>kX _ _) (fun j hj=>?_) (fun _=>rfl) ?_ (hS.ext hx) rfl
 ·split at hk
  ·assumption
  ·cases hk
 ·obtain⟨S1,G1,μ1,hk,hs1,hd1⟩:=h3
  dsimp only at hk
  split at hk
  case isFalse=>cases hk
  rw[hdrop,bI]at hk
  refine⟨fun hr=>?_,fun j hj=>?_⟩
  ·have:n∈Region.ready .any ops listed:=mem_ready.2 ⟨by rw[cJ (by omega) true false,h2];simp,o,hlo,fun e he hb=>by
    have:=hin e (by simpa using he) hb
    rw[h2];exact this⟩
   rw[hr]at this;cases this
  ·obtain⟨hj0,y,hy,hall⟩:=mem_ready.1 hj
   have hjs:=(TX.1 hy).1
   have hjn:j=n:=by
    rw[cJ (by omega) true false,h2]at hj0
    have:=of_decide_eq_false hj0
    omega
   subst hjn
   rw[hlo]at hy;cases hy
   refine wpOp_mono (fun a' w' hp=>?_) (step_ok hc hcall (Q:=fun e a' w' =>e= .normal∧kF c E K r a.defers a' w') hlo hk hs1)
   obtain⟨S',G',μ',hk',hs',hd'⟩:=hp
   refine⟨?_,rfl,S',G',μ',hk',hs',by rw[hd',hd1]⟩
   cases hr:Region.ready .any ops (listed.setIfInBounds j true)with
   |nil=>rfl
   |cons i t=>
    exfalso
    obtain⟨hi0,z,hz,_⟩:=mem_ready.1 (by rw[hr];simp:i∈Region.ready .any ops (listed.setIfInBounds j true))
    have his:=(TX.1 hz).1
    by_cases hij:j=i
    ·subst hij
     have:j<listed.size:=by omega
     simp[Un,this]at hi0
    ·rw[cJ (by simp;omega) true false,getD_set_ne false hij,h2]at hi0
     have:=of_decide_eq_false hi0
     omega
 ·rw[kX]at hj;cases hj
 ·rw[kY (by omega),oW n (by omega)];exact h
end
end Go.Ev
end
section
namespace Go.Ev
section
variable {c : Cfg} {E : Ent} {R : Type}
def Am (c:Cfg) (s:Nat) (e:TypeId) (len:Nat) (A:AL) (a:Act):Prop:=
 ∀d,(∀x,kK A d=some x→d≠s)∧(kK A d=some none→a.eval (.tmp d)=a.eval (.tmp s))∧
  ∀n off,kK A d=some (some (n,off))→0≤n∧n<len∧∃(p:Addr) (cap:Nat),p.spot=none∧a.eval (.tmp s)= .slice (some p) len cap∧a.eval (.tmp d)= .pointer (some ⟨p.block,p.off+n.toNat*aE c e+off,none⟩)
theorem Am.put {s e len} {A:AL} {a:Act} (h:Am c s e len A a) {d:Nat} (hd:d≠s) (hA:kK A d=none) (u:Value):Am c s e len A (a.put (some d) u):=by
 intro k
 obtain⟨h1,h2,h3⟩:=h k
 have hs:(a.put (some d) u).eval (.tmp s)=a.eval (.tmp s):=eval_put_ne hd
 by_cases hk:d=k
 ·subst hk
  exact⟨fun x hx=>(by rw[hA]at hx;cases hx),fun hx=>(by rw[hA]at hx;cases hx),fun n off hx=>(by rw[hA]at hx;cases hx)⟩
 ·rw[hs,eval_put_ne hk];exact⟨h1,h2,h3⟩
theorem Am.put0 {s e len} {A:AL} {a:Act} (h:Am c s e len A a) {d:Option Nat} (hd:d≠some s) (hA:∀k,d=some k→kK A k=none) (u:Value):Am c s e len A (a.put d u):=by
 cases d with
 |none=>exact h
 |some k=>exact h.put (fun e=>hd (by rw[e])) (hA k rfl) u
theorem cV.lay {w:World} {G:Gh} {μ:List Nat} {S:St} {a:Act} (hS:cV c E w G μ S a) (d:Nat) {v:V} {u:Value} (hr:Rep c w G μ v u) (hl:aG v u=[]):cV c E w G μ ⟨S.env.set d v,S.objs⟩ (a.put (some d) u):=by
 have:=(hS.push hr hl).put d
 simpa[cV,(jE a (some d) u).1]using this
theorem JJ {w:World} {G:Gh} {μ:List Nat} {S:St} {a:Act} (hS:cV c E w G μ S a) {s:Nat} {e:TypeId} {xs:List V} (hs:S.env[s]? =some (.own e xs)):
  Sim c E w G μ (.own e xs::S.env.set s .bot) (a.eval (.tmp s)::a.tmps.toList) S.objs:=by
 have:=hS.take hs (Ho hS hs)
 simpa[V.cut,V.cut2,V.cut1]using this
theorem KX {w:World} {G:Gh} {μ:List Nat} {S:St} {a:Act} {s:Nat} {v v0:V} (hs:S.env[s]? =some v0) (hS:cV c E w G μ S a) {w' :World} {G' :Gh} (h:Sim c E w' G' μ (v::S.env.set s .bot) (a.eval (.tmp s)::a.tmps.toList) S.objs):
  cV c E w' G' μ ⟨S.env.set s v,S.objs⟩ a:=by
 have:=h.put s
 rw[Wo,set_self (Ho hS hs)]at this
 exact this
theorem An {w:World} {G:Gh} {μ:List Nat} {env:List V} {tmps:List Value} {objs:List Ob} {e:TypeId} {xs:List V} {S0:Value} (h:Sim c E w G μ (.own e xs::env) (S0::tmps) objs) {n:Int} (hn0:0≤n) (hn1:n<xs.length):
  ∃(p:Addr) (cap:Nat) (x:Value),S0= .slice (some p) xs.length cap∧p.spot=none∧Rep c w G [] (xs.getD n.toNat .bot) x∧cI c e (xs.getD n.toNat .bot)=true∧x.cells.size=aE c e∧
   ∀(j:Nat) z,x.cells.toList[j]? =some z→w.cell? ⟨p.block,p.off+n.toNat*aE c e+j,none⟩=some z:=by
 obtain⟨a,m,lo,rfl,hz,hm,ha,k1,k2,k3,k4,k5⟩:=DF h
 have hlt:n.toNat<xs.length:=by omega
 have hne:xs≠[]:=by intro e;subst e;simp at hlt
 cases a with
 |none=>have:=ha.1 rfl;omega
 |some p=>
  obtain⟨hsp,hcell⟩:=k5 p rfl hne
  have e1:xs.getD n.toNat .bot=xs[n.toNat]:=by simp[Ul,hlt]
  have hlx:lo[n.toNat]? =some lo[n.toNat]:=TP (by omega)
  refine⟨p,m,lo[n.toNat],rfl,hsp,?_,?_,k4 _ (U3 _),fun j z hj=>?_⟩
  ·rw[e1];exact k2 n.toNat _ _ (TP hlt) hlx
  ·rw[e1];exact k3 _ (U3 _)
  ·have hfl:∀(l:List Value) (i:Nat) (x:Value),(∀y∈l,y.cells.size=aE c e)→l[i]? =some x→∀(j:Nat) z,x.cells.toList[j]? =some z→(flat l)[i*aE c e+j]? =some z:=by
    intro l
    induction l with
    |nil=>intro i x _ h;simp at h
    |cons y l ih=>
     intro i x hs h j z hj
     have hy:=hs y (by simp)
     cases i with
     |zero=>
      simp at h;subst h
      have hjl:=(TQ.1 hj).1
      simp only[flat,U8,Nat.zero_mul,UD]
      rw[TU hjl];exact hj
     |succ i=>
      have:=ih i x (fun y hy=>hs y (by simp[hy])) (by simpa using h) j z hj
      simp only[flat,U8]at this ⊢
      rw[Ub (by simp[hy,Vh];omega),←this]
      congr 1
      simp[hy,Vh];omega
   rw[Vf]
   exact hcell _ z (hfl lo n.toNat _ k4 hlx j z hj)
theorem Am.cons {s e len} {A:AL} {a:Act} (h:Am c s e len A a) {d:Nat} (hd:d≠s) {x:Option (Int×Nat)} (h1:x=none→a.eval (.tmp d)=a.eval (.tmp s))
  (h2:∀n off,x=some (n,off)→0≤n∧n<len∧∃(p:Addr) (cap:Nat),p.spot=none∧a.eval (.tmp s)= .slice (some p) len cap∧a.eval (.tmp d)= .pointer (some ⟨p.block,p.off+n.toNat*aE c e+off,none⟩)):
  Am c s e len ((d,x)::A) a:=by
 intro k
 obtain⟨g1,g2,g3⟩:=h k
 by_cases hk:d=k
 ·subst hk
  simp only[kK,beq_self_eq_true,if_true,Option.some.injEq]
  exact⟨fun _ _=>hd,h1,h2⟩
 ·have:(d==k)=false:=beq_eq_false_iff_ne.2 hk
  simp only[kK,this,TL,if_false]
  exact⟨g1,g2,g3⟩
theorem E9 {sz:Nat}:∀(l:List Value) (i:Nat) (x:Value),(∀y∈l,y.cells.size=sz)→x.cells.size=sz→i<l.length→∀j,(flat (l.set i x))[j]? =if i*sz≤j∧j<i*sz+sz then x.cells.toList[j - i*sz]? else(flat l)[j]?
 |[],i,x,_,_,h,_=>by simp at h
 |y::l,0,x,hs,hx,_,j=>by
  have hy:=hs y (by simp)
  simp only[V5,flat,U8,Nat.zero_mul,UD,Wd,true_and,Nat.sub_zero]
  split
  ·rename_i hj
   rw[TU (by simp;omega)]
  ·rename_i hj
   rw[Ub (by simp;omega),Ub (by simp;omega)]
   simp[hx,hy]
 |y::l,i+1,x,hs,hx,h,j=>by
  have hy:=hs y (by simp)
  have ih:=E9 l i x (fun z hz=>hs z (by simp[hz])) hx (by simpa using h)
  simp only[flat]at ih
  simp only[VG,flat,U8]
  by_cases hj:j<sz
  ·rw[TU (by simp;omega),TU (by simp;omega),if_neg (by rw[Vh];omega)]
  ·rw[Ub (by simp;omega),Ub (by simp;omega)]
   have e:y.cells.toList.length=sz:=by simpa using hy
   rw[e,ih (j - sz)]
   by_cases hc:i*sz≤j - sz∧j - sz<i*sz+sz
   ·rw[if_pos hc,if_pos (by rw[Vh];omega)]
    congr 1
    rw[Vh];omega
   ·rw[if_neg hc,if_neg (by rw[Vh];omega)]
theorem Hv {w:World} {G:Gh} {e:TypeId} {v vv v' :V} {x U:Value} {off:Nat} (hv:Rep c w G [] v x) (hvs:v.cells.all V.single=true) (hU:Rep c w G [] vv U) (hUs:vv.cells.all V.single=true) (hle:off+vv.cells.length≤v.cells.length)
  (h:elemV c e vv off v.cells=some v'):∃x',Rep c w G [] v' x'∧x'.cells.toList=dP off U.cells.toList x.cells.toList:=by
 obtain⟨c1,c2,c3⟩:=eQ hv hvs
 obtain⟨d1,d2,d3⟩:=eQ hU hUs
 have hlen:(over off vv.cells v.cells).length=v.cells.length:=jU off _ _ hle
 have hxlen:(dP off U.cells.toList x.cells.toList).length=x.cells.toList.length:=by
  rw[fN _ _ _ (by simp;omega)];simp;omega
 have hget:∀(i:Nat) a b,(over off vv.cells v.cells)[i]? =some a→(dP off U.cells.toList x.cells.toList)[i]? =some b→Rep c w G [] a b:=
  uJ (p:=fun a b=>Rep c w G [] a b) off _ _ _ _ (by simpa using d1.symm) (by simpa using c1.symm) d3 c3
 have hsing:∀b∈dP off U.cells.toList x.cells.toList,single b=true:=by
  intro b hb
  rw[fN _ _ _ (by simp;omega)]at hb
  simp only[TV]at hb
  rcases hb with(hb|hb)|hb
  ·exact c2 b (U0 hb)
  ·exact d2 b hb
  ·exact c2 b (U1 hb)
 unfold elemV dZ at h
 split at h
 ·cases h
  exact⟨.agg (dP off U.cells.toList x.cells.toList).toArray, .agg _ _ (by rw[hxlen,hlen];simpa using c1) hsing hget,by simp[Value.cells]⟩
 ·split at h
  ·rename_i z hz
   cases h
   have hl1:(dP off U.cells.toList x.cells.toList).length=1:=by
    rw[hxlen]
    have:=congrArg US hz
    rw[hlen]at this
    simp at this ⊢;omega
   match ho:dP off U.cells.toList x.cells.toList,hl1 with
   |[b],_=>
    rw[ho]at hget hsing
    refine⟨b,hget 0 _ _ (by rw[hz];rfl) rfl,?_⟩
    rw[eE (hsing b (by simp))]
  ·cases h
theorem _root_.Go.Ev.Rep.mapped_nil {w:World} {G:Gh} {μ:List Nat} {v:V} {u:Value} (h:Rep c w G [] v u):Rep c w G μ v u:=h.more fun i b _ hb=>by simp at hb
theorem free_spec {w:World} {G:Gh} {μ:List Nat} {s:Nat} {A:AL} {S:St} {a:Act} (hS:cV c E w G μ S a) {d:Nat} (h:free s A S d=true):d≠s∧kK A d=none∧d<a.tmps.size:=by
 simp only[free,TR,UX,beq_eq_false_iff_ne,VA,decide_eq_true_eq]at h
 exact⟨h.1.1,h.1.2,Up h.2 (by simpa using hS.inv.len)⟩
theorem KY (hc:bA c) {call:FuncId→Fun} (hcall:∀f,bW c f (call f)) {icall:aN R} {ops:Array Oper} {Q:Exit→Act→World→Prop} {i:Nat} {o:Oper} (ho:ops[i]? =some o) (hg:o.guard=none) {S:St} {a:Act}
  {K:St→Option R} {r:R} {w:World} {G:Gh} {μ:List Nat} (h:opK c call icall ops.toList o S (fun v S' =>K (putS S' o.dst v))=some r) (hS:cV c E w G μ S a):
  wpOp c.P ops Q i (fun a' w' =>(∃u,a' =a.put o.dst u)∧kF c E K r a.defers a' w') a w:=by
 have hop:=Ix hc hcall h hS
 unfold wpOp
 rw[ho]
 simp only
 rw[if_pos (by simp[Region.wanted,hg])]
 refine .inl ?_
 unfold Oper.wp
 rcases hop with⟨u,w',hr,hw⟩|⟨w',hr,hw⟩|⟨f,args,hr,hcalls⟩
 ·rw[hr];exact⟨⟨u,rfl⟩,cQ hw⟩
 ·rw[hr];exact⟨⟨undef,rfl⟩,cQ hw⟩
 ·rw[hr]
  refine Calls.mono hcalls ?_
  rintro e w' ⟨u,rfl,hw⟩
  exact⟨⟨u,rfl⟩,cQ hw⟩
theorem uQ (hc:bA c) {call:FuncId→Fun} (hcall:∀f,bW c f (call f)) {icall:aN R} {ops:Array Oper} {s:Nat} {K:St→Option R} {r:R} {d0:List Deferred} {Q:Exit→Act→World→Prop}
  (hQ:∀a w,kF c E K r d0 a w→Q .normal a w):∀(l:List Nat) (A:AL) (S:St) (a:Act) (w:World) (G:Gh) (μ:List Nat),(∀i∈l,i<ops.size)→
   fM c call icall ops.toList s (l.filterMap (ops.toList[·]?)) A S K=some r→cV c E w G μ S a→a.defers=d0→(∀e xs,S.get s= .own e xs→Am c s e xs.length A a)→wpOps c.P ops Q l a w
 |[],A,S,a,w,G,μ,_,h,hS,hd,_=>hQ a w ⟨S,G,μ,by simpa[fM]using h,hS,hd⟩
 |i::l,A,S,a,w,G,μ,hl,h,hS,hd,hA=>by
  have hi:=hl i (by simp)
  have hl' :∀k∈l,k<ops.size:=fun k hk=>hl k (by simp[hk])
  have ho:ops[i]? =some ops[i]:=Uj hi
  rw[VS,show ops.toList[i]? =some ops[i]by simp]at h
  simp only at h
  generalize ops[i]=o at h ho
  rw[wpOps_cons]
  unfold fM at h
  simp only at h
  split at h
  ·cases h
  rename_i hg
  have hg:o.guard=none:=by simpa using hg
  split at h
  case h_2=>cases h
  rename_i e xs hsg
  have hA:=hA e xs hsg
  have hse:=get_at hsg (by simp)
  have hfr:=JJ hS hse
  have plain:(if uF c ops.toList s A o then none
    else opK c call icall ops.toList o S fun v S' =>S'.putK o.dst v fun S' =>fM c call icall ops.toList s (l.filterMap (ops.toList[·]?)) A S' K)=some r→
    wpOp c.P ops Q i (wpOps c.P ops Q l) a w:=by
   classical
   intro h
   split at h
   ·cases h
   ·rename_i hn
    simp only[uF,Va,not_or,VI,decide_eq_true_eq,beq_iff_eq,Bool.not_eq_true]at hn
    obtain⟨⟨⟨n1,n2⟩,n3⟩,n4⟩:=hn
    simp only[kW]at h
    obtain⟨F,hF,hloc,_⟩:=DR hc.inl call ops.toList o
    let K1:St→Option R:=fun S' =>if S'.get s=S.get s then fM c call icall ops.toList s (l.filterMap (ops.toList[·]?)) A S' K else none
    have hyp:opK c call icall ops.toList o S (fun v S' =>K1 (putS S' o.dst v))=some r:=by
     rw[hF]at h ⊢
     obtain⟨⟨v,T⟩,h1,h2⟩:=T0.1 h
     rw[h1]
     simp only[Option.bind_some]at h2 ⊢
     have hT:(putS T o.dst v).env[s]? =S.env[s]? :=by
      rw[(bG T o.dst v).2.2.1 s n2]
      exact(hloc.frame S v T h1).1 s (by simpa using n4)
     simp only[K1]
     rw[if_pos (by simp only[St.get,Ur,hT])]
     exact h2
    refine wpOp_mono (fun a' w' hp=>?_) (KY hc hcall (icall:=icall) (Q:=Q) (K:=K1) (r:=r) ho hg hyp hS)
    obtain⟨⟨u,rfl⟩,S',G',μ',hk,hs',hd'⟩:=hp
    simp only[K1]at hk
    split at hk
    ·rename_i hsame
     refine uQ hc hcall hQ l A S' _ w' G' μ' hl' hk hs' (by rw[hd',hd]) fun e' xs' he=>?_
     rw[hsame,hsg]at he
     cases he
     exact hA.put0 n2 (fun k hk=>by rw[hk]at n3;simpa using n3) u
    ·cases hk
  have key:∀{d:Nat} {v:V} {u:Value} {A' :AL},o.dst=some d→(execOp a.eval o).run c.P w= .ok (.value u) w→Rep c w G μ v u→aG v u=[]→d≠s→
    fM c call icall ops.toList s (l.filterMap (ops.toList[·]?)) A' ⟨S.env.set d v,S.objs⟩ K=some r→(Am c s e xs.length A' (a.put (some d) u))→wpOp c.P ops Q i (wpOps c.P ops Q l) a w:=by
   intro d v u A' hdst hrun hrep hlf hds hk hA'
   refine qK ho hg hrun ?_
   rw[hdst]
   refine uQ hc hcall hQ l A' _ _ w G μ hl' hk (hS.lay d hrep hlf) (by rw[←hd];exact(jE a (some d) u).2) fun e' xs' he=>?_
   have:(⟨S.env.set d v,S.objs⟩:St).get s=S.get s:=by
    simp only[St.get,Ur,Uq hds]
   rw[this,hsg]at he
   cases he
   exact hA'
  split at h
  ·-- the list's value is laid aside
   rename_i t d hop hdst
   split at h
   ·rename_i hts
    have hts:t=s:=by simpa using hts
    subst hts
    split at h
    ·rename_i hn
     obtain⟨hn1,hn2,hn3⟩:=free_spec hS hn
     rw[bC]at h
     refine key hdst (u:=a.eval (.tmp t)) (by simp only[execOp,hop];rfl) (.bot _) (eS _) hn1 h ?_
     refine(hA.put hn1 hn2 _).cons hn1 (fun _=>?_) (fun n off h=>by cases h)
     rw[eval_put_ne hn1,eval_put_same hn3]
    ·cases h
   ·exact plain h
  ·-- how many members
   rename_i args argTypes d hop hdst
   split at h
   ·rename_i t ty h1 h2
    split at h
    ·rename_i hal
     split at h
     ·rename_i hn
      simp only[TR,beq_iff_eq]at hn
      obtain⟨hn1,hn2,hn3⟩:=free_spec hS hn.2
      rw[bC]at h
      obtain⟨q,m,lo,hX,_⟩:=DF hfr
      have hu:=eX hn.1 hc
      have hpe:c.P.elem ty=e:=by simp[Program.elem,hu]
      have hrun:=run_len_slice w ty o.type q xs.length m (by rw[hpe];exact hu)
      have hev:a.eval (.tmp t)= .slice q xs.length m:=by rw[(hA t).2.1 hal,hX]
      have ha:args= #[.tmp t]:=by apply Vl;simpa using h1
      have ht:argTypes= #[ty]:=by apply Vl;simpa using h2
      refine key hdst (u:=goInt xs.length) ?_ (.int _ _) rfl hn1 h (hA.put hn1 hn2 _)
      obtain⟨dst,op,type,pos,after,guard⟩:=o
      simp only at hop hrun
      subst hop ha ht
      simp only[execOp,resolve,invoke,builtin,List.map_toArray,UE,VL,hev,Sem.run_bind,Sem.run_pure,Result.andThen_ok,hrun]
     ·cases h
    ·exact plain h
   ·exact plain h
  ·-- where a member lies
   rename_i ty t i' d hop hdst
   split at h
   ·rename_i hal
    split at h
    ·rename_i k n hoi
     split at h
     ·rename_i hn
      simp only[TR,beq_iff_eq]at hn
      obtain⟨hn1,hn2,hn3⟩:=free_spec hS hn.2
      obtain⟨hg0,h⟩:=aP h
      obtain⟨hg1,h⟩:=aP h
      have hg0:0≤n:=by simpa using hg0
      have hg1:n<xs.length:=by simpa using hg1
      rw[bC]at h
      obtain⟨p,cap,x,hX,hsp,hrx,hfx,hszx,hcx⟩:=An hfr hg0 hg1
      obtain⟨pb,po,ps⟩:=p
      simp only at hsp;subst hsp
      have hi' :=bS (aT hS 0 i') hoi
      have hund:=eX hn.1 hc
      have hz:0<aE c e:=by have hr:=hfr.inv.rep 0 _ _ rfl rfl;rw[hX]at hr;cases hr;assumption
      obtain⟨y,hy,hys⟩:=dD (c:=c) (t:=e) (by omega)
      have hev:a.eval (.tmp t)= .slice (some ⟨pb,po,none⟩) xs.length cap:=by rw[(hA t).2.1 hal,hX]
      have hcond:0≤n∧n<(xs.length:Int):=⟨hg0,hg1⟩
      have hrun:(execOp a.eval o).run c.P w= .ok (.value (.pointer (some ⟨pb,po+n.toNat*aE c e,none⟩))) w:=by
       simp only[execOp,hop,Instr.indexAt,hi',hev,asIntOf,Sem.run_bind,Sem.run_pure,run_underlying hund,Result.andThen_ok,if_pos hcond,Sem.run_ite,(hc.ty _ _ hy).sizeOf,Addr.add_lit,hys]
      refine key hdst hrun (.bot _) (eS _) hn1 h ((hA.put hn1 hn2 _).cons hn1 (fun h=>by cases h) fun n' off' hx=>?_)
      cases hx
      exact⟨hg0,hg1,⟨pb,po,none⟩,cap,rfl,by rw[eval_put_ne hn1];exact hX,by rw[eval_put_same hn3];simp⟩
     ·cases h
    ·cases h
   ·exact plain h
  ·-- where a part of it lies
   rename_i ty t f d hop hdst
   split at h
   ·rename_i n off hal
    split at h
    ·rename_i fs hfs
     split at h
     ·rename_i fd hfd
      split at h
      ·rename_i hn
       simp only[TR,bne_iff_ne,ne_eq]at hn
       obtain⟨hn1,hn2,hn3⟩:=free_spec hS hn.2
       rw[bC]at h
       obtain⟨g0,g1,p,cap,hsp,hX,hev⟩:=(hA t).2.2 n off hal
       obtain⟨y,hy,hyd,hund,hft⟩:=mG hfs hc
       obtain⟨yf,hyf,hys⟩:=dD hn.1
       have h0:¬yf.size=0:=by omega
       have hrun:(execOp a.eval o).run c.P w= .ok (.value (.pointer (some ⟨p.block,p.off+n.toNat*aE c e+(off+fd.offset),none⟩))) w:=by
        have hplace:(fieldPlace ⟨p.block,p.off+n.toNat*aE c e+off,none⟩ fd).run c.P w= .ok ⟨p.block,p.off+n.toNat*aE c e+off+fd.offset,none⟩ w:=by
         simp only[fieldPlace,Sem.run_bind,(hc.ty _ _ hyf).sizeOf,Result.andThen_ok,Sem.run_ite,if_neg h0,Sem.run_pure,Addr.add_lit]
        rw[←Vf (p.off+n.toNat*aE c e)]
        simp only[execOp,hop,Instr.fieldAt,Sem.run_bind,run_underlying hund,Result.andThen_ok,hfd,hev,Instr.sureAddr,Sem.run_pure,hplace]
       refine key hdst hrun (.bot _) (eS _) hn1 h ((hA.put hn1 hn2 _).cons hn1 (fun h=>by cases h) fun n' off' hx=>?_)
       cases hx
       exact⟨g0,g1,p,cap,hsp,by rw[eval_put_ne hn1];exact hX,by rw[eval_put_same hn3]⟩
      ·cases h
     ·cases h
    ·cases h
   ·exact plain h
  ·-- a part of it is looked at
   rename_i ty t d hop hdst
   split at h
   ·rename_i n off hal
    split at h
    ·rename_i v hv
     split at h
     ·rename_i hn
      obtain⟨hn1,hn2,hn3⟩:=free_spec hS hn
      rw[bC]at h
      obtain⟨g0,g1,p,cap,hsp,hX,hev⟩:=(hA t).2.2 n off hal
      obtain⟨p',cap',x,hX',hsp',hrx,hfx,hszx,hcx⟩:=An hfr g0 g1
      rw[hX]at hX'
      simp only[Value.slice.injEq,Option.some.injEq]at hX'
      obtain⟨rfl,_,rfl⟩:=hX'
      have hsg:=(gJ hfx).2
      rw[(gJ hfx).1]at hv
      obtain⟨c1,c2,c3⟩:=eQ hrx hsg
      obtain⟨u,y,hy,hrun,hru,_⟩:=oN (μ:=[]) hc hv (l:=x.cells.toList) (by simpa using c1) c2 c3 (b:=p.block) (o0:=p.off+n.toNat*aE c e) hcx
      have hrunO:(execOp a.eval o).run c.P w= .ok (.value u) w:=by
       simp only[execOp,hop,hev,Instr.loadAt,Instr.sureAddr,Sem.run_bind,Sem.run_pure,Result.andThen_ok,hrun]
      have hmore:Rep c w G μ v u:=hru.mapped_nil
      refine key hdst hrunO hmore.cut (bH _ _) hn1 h (hA.put hn1 hn2 _)
     ·cases h
    ·cases h
   ·exact plain h
  ·-- a part of it is written
   rename_i ty t y hop hdst
   split at h
   ·rename_i n off hal
    split at h
    ·rename_i hcnd
     simp only[TR,decide_eq_true_eq,beq_iff_eq,V4]at hcnd
     obtain⟨⟨⟨⟨hvl,hvs⟩,hle⟩,hty⟩,href⟩:=hcnd
     split at h
     ·rename_i v hev'
      split at h
      ·rename_i hfv
       rw[bC]at h
       obtain⟨g0,g1,p,cap,hsp,hX,hev⟩:=(hA t).2.2 n off hal
       obtain⟨p',cap',x,hX',hsp',hrx,hfx,hszx,hcx⟩:=An hfr g0 g1
       rw[hX]at hX'
       simp only[Value.slice.injEq,Option.some.injEq]at hX'
       obtain⟨rfl,_,rfl⟩:=hX'
       have hsg:=(gJ hfx).2
       rw[(gJ hfx).1]at hev' hle
       have hrU:Rep c w G [] (opd c S ty y).cut (a.eval y):=(aT hS ty y).cut.more fun i b hi _=>by rw[href]at hi;cases hi
       obtain⟨x',hrx',hcx'⟩:=Hv hrx hsg hrU (jC hvs) (by rw[hvl];exact hle) hev'
       obtain⟨yt,hyt⟩:=Vp.1 hty
       have hszt:aE c ty=yt.size:=by simp[aE,hyt]
       obtain⟨u1,u2,u3⟩:=eQ hrU (jC hvs)
       obtain⟨x1,x2,x3⟩:=eQ hrx hsg
       have hfl:(a.eval y).cells.toList.length=aE c ty:=by simpa[hvl]using u1
       have hlt:n.toNat<xs.length:=by omega
       have hzz:aE c e=x.cells.toList.length:=by simpa using hszx.symm
       have hvcl:(xs.getD n.toNat .bot).cells.length=aE c e:=by rw[←x1,hszx]
       have hfr2:=hfr
       rw[hX]at hfr2
       have hcap:xs.length≤cap:=by have hr:=hfr2.inv.rep 0 _ _ rfl rfl;cases hr;assumption
       have hmul:(n.toNat+1)*aE c e≤cap*aE c e:=Vi _ (by omega)
       rw[Vh,Nat.one_mul]at hmul
       obtain⟨_,cs,elem,fr,cs',hbk,hcs,hst1,hcs',⟨lo,k1,k2,k3,k4,k5⟩,hsim⟩:=hfr2.ownWrite (by omega) (fl:=(a.eval y).cells.toList) (q:=n.toNat*aE c e+off) (by rw[hfl];omega) u2
       have hpa:p.add (n.toNat*aE c e+off)=⟨p.block,p.off+n.toNat*aE c e+off,none⟩:=by
        obtain⟨pb,po,ps⟩:=p
        simp only at hsp;subst hsp
        rw[Addr.add_lit];simp[Vf]
       have hszx' :x'.cells.size=aE c e:=by
        have:=congrArg US hcx'
        rw[fN _ _ _ (by rw[hfl,←hzz];omega)]at this
        simp at this;omega
       have hnn:¬(a.eval y).cells.size≠yt.size:=by simp;rw[←hszt,←hfl];simp
       have hrunO:(execOp a.eval o).run c.P w= .ok .skip (blk w p.block (.cells cs' elem fr)):=by
        rw[hpa]at hst1
        simp only[execOp,hop,hev,Instr.storeAt,Instr.sureAddr,storeVar,Sem.run_bind,Sem.run_pure,Result.andThen_ok,(hc.ty _ _ hyt).sizeOf,Sem.run_ite,if_neg hnn,hst1]
       have hnew:=hsim (xs.set n.toNat v) (lo.set n.toNat x') (by simp[k1]) (by simpa using hcap) (fun i v0 x0 hv0 hx0=>by
         by_cases hin:n.toNat=i
         ·subst hin
          rw[Us hlt]at hv0
          rw[Us (by omega)]at hx0
          cases hv0;cases hx0;exact hrx'
         ·rw[Uq hin]at hv0 hx0
          exact k2 i v0 x0 hv0 hx0)
        (fun v0 hv0=>by
         rcases V8 hv0 with hv0|rfl
         ·exact k3 v0 hv0
         ·exact hfv)
        (fun x0 hx0=>by
         rcases V8 hx0 with hx0|rfl
         ·exact k4 x0 hx0
         ·exact hszx')
        (fun j z hj=>by
         rw[E9 lo n.toNat x' k4 hszx' (by omega)]at hj
         have hgoal:cs'.toList[p.off+j]? =some z:=by
          rw[hcs']
          have hcl:cs.toList.length=cs.size:=by simp
          split at hj
          ·rename_i hjj
           rw[hcx',fN _ _ _ (by rw[hfl,←hzz];omega)]at hj
           have hold:∀(k:Nat) z,x.cells.toList[k]? =some z→cs.toList[p.off+n.toNat*aE c e+k]? =some z:=fun k z hk=>by
            have:=hcx k z hk
            simp only[World.cell?,hbk]at this
            simpa using this
           by_cases hk1:j - n.toNat*aE c e<off
           ·rw[Ud,TU (by simp;omega),Uw,if_pos hk1]at hj
            rw[Ud,TU (by simp;omega),Uw,if_pos (by omega)]
            have:=hold _ z hj
            rw[←this];congr 1;omega
           ·by_cases hk2:j - n.toNat*aE c e<off+(a.eval y).cells.toList.length
            ·rw[Ud,Ub (by simp;omega),TU (by simp at hk2 ⊢;omega)]at hj
             rw[Ud,Ub (by simp;omega),TU (by simp at hk2 ⊢;omega),←hj]
             congr 1
             simp;omega
            ·rw[Ub (by simp at hk2 ⊢;omega),UN]at hj
             rw[Ub (by simp at hk2 ⊢;omega),UN]
             have:=hold _ z hj
             rw[←this];congr 1
             simp at hk2 ⊢;omega
          ·rename_i hjj
           have h5:=k5 j z hj
           have hjl:=(TQ.1 hj).1
           have h5:cs.toList[p.off+j]? =some z:=by simpa using h5
           by_cases hk1:j<n.toNat*aE c e
           ·rw[Ud,TU (by simp;omega),Uw,if_pos (by omega)]
            exact h5
           ·rw[Ub (by simp at hfl ⊢;omega),UN,←h5]
            congr 1
            simp at hfl ⊢;omega
         simpa using hgoal)
       have hlen' :(xs.set n.toNat v).length=xs.length:=by simp
       rw[hlen']at hnew
       rw[←hX]at hnew
       refine wR ho hg hdst hrunO ?_
       refine uQ hc hcall hQ l A _ a _ G μ hl' h (KX hse hS hnew) hd fun e' xs' he=>?_
       have:(⟨S.env.set s (.own e (xs.set n.toNat v)),S.objs⟩:St).get s= .own e (xs.set n.toNat v):=by
        simp[St.get,Ur,Us (TQ.1 hse).1]
       rw[this]at he
       cases he
       rw[hlen'];exact hA
      ·cases h
     ·cases h
    ·cases h
   ·exact plain h
  ·exact plain h
end
end Go.Ev
end
section
namespace Go.Ev
section
variable {c : Cfg} {E : Ent} {R : Type}
theorem Ao {w:World} {G:Gh} {μ:List Nat} {a:Act} {K:St→Option R} {r:R}:∀(l:List Nat) (S:St),rF S l K=some r→∀(env2:List V),(∀t,t∉l→env2[t]? =S.env[t]?)→env2.length=S.env.length→
  Sim c E w G μ env2 a.tmps.toList S.objs→∃S',K S' =some r∧cV c E w G μ S' a
 |[],S,h,env2,he,hl,hs=>by
  have:env2=S.env:=UK fun t=>he t (by simp)
  rw[this]at hs
  exact⟨S,h,hs⟩
 |t::l,S,h,env2,he,hl,hs=>by
  simp only[rF,bC]at h
  refine Ao l _ h (env2.set t .bot) (fun k hk=>?_) (by simpa using hl) (hs.reput t fun x _=>⟨.bot _,eS _⟩)
  simp only
  by_cases hkt:t=k
  ·subst hkt
   by_cases hlt:t<S.env.length
   ·rw[Us hlt,Us (by omega)]
   ·rw[Ut (by simp;omega),Ut (by simp;omega)]
  ·rw[Uq hkt,Uq hkt]
   exact he k (by simp[hk];omega)
theorem Ap (hinl:∀f,c.inl f=false) {call:FuncId→Fun} {icall:aN R} {ops:List Oper} {K:St→Option R} {r:R}:∀(l:List Oper) (S:St),(∀o∈l,aQ c ops o≠2)→
  dR c call icall ops l S K=some r→∃S',(∀K' :St→Option R,dR c call icall ops l S K' =K' S')∧S'.objs=S.objs∧S'.env.length=S.env.length∧∀t,t∉l.flatMap (aO c ops)→S'.env[t]? =S.env[t]?
 |[],S,_,h=>⟨S,fun _=>rfl,rfl,rfl,fun _ _=>rfl⟩
 |o::l,S,hk,h=>by
  obtain⟨F,hF,e⟩:=fR (R:=R) hinl (call:=call) (ops:=ops) (o:=o)
  rw[bI,e]at h
  obtain⟨S1,h1,h2⟩:=T0.1 h
  obtain⟨f1,f2,f3⟩:=hF.frame S S1 h1
  obtain⟨S',g1,g2,g3,g4⟩:=Ap hinl l S1 (fun o ho=>hk o (by simp[ho])) h2
  refine⟨S',fun K' =>by rw[bI,e,h1];exact g1 K',by rw[g2,f3 (hk o (by simp))],by rw[g3,f2],fun t ht=>?_⟩
  simp only[U8,TV,not_or]at ht
  rw[g4 t ht.2,f1 t ht.1]
theorem Fa {ops:List Oper} {o:Oper} (h:uE o.op=true) (hl:(match o.op with| .load .. =>owned c ops o.dst|_=>false)=false):aQ c ops o≠2:=by
 obtain⟨dst,op,type,pos,after,guard⟩:=o
 cases op
 case load t x=>simp only at hl;simp[aQ,hl]
 case call cl=>
  obtain⟨callee,args,at'⟩:=cl
  cases callee with
  |builtin b=>cases b<;>first|(simp[uE]at h;done)|(simp[aQ,rE];done)
  |_=>simp[uE]at h
 all_goals first|(simp[uE]at h;done)|(simp[aQ,rE];done)
theorem Cm {w:World} {G:Gh} {μ:List Nat} {S:St} {a:Act} (hS:cV c E w G μ S a) {s:Nat} {b:Bool} (h:a.eval (.tmp s)= .bool b):cV c E w G μ ⟨S.env.set s (.bool b),S.objs⟩ a:=
 hS.reput s fun x hxs=>by
  have:x= .bool b:=by
   simp only[Act.eval,getD_toList,Ul,hxs]at h
   simpa using h
  subst this
  exact⟨.bool _,rfl⟩
theorem Hw (hc:bA c) {call:FuncId→Fun} (hcall:∀f,bW c f (call f)) {icall:aN R} {id:Nat} {ops:Array Oper} {draw:Bool} {go:St→Option R} {r:R} {a:Act} {w:World} {G:Gh} {μ:List Nat} {S:St}
  (h:iL c call icall ops.toList draw S go=some r) (hS:cV c E w G μ S a):(Code.region id ops draw).wp c.P (fun e a' w' =>e= .normal∧kF c E go r a.defers a' w') a w:=by
 unfold iL at h
 split at h
 ·rename_i n t hta
  have hdr:draw=true:=by cases draw<;>simp at hta ⊢
  subst hdr
  split at h
  ·rename_i hcnd
   simp only[TR]at hcnd
   exact BO hc hcall (id:=id) (by simpa using hta) hcnd.1 hcnd.2 h hS
  ·split at h
   ·rename_i hcnd
    simp only[TR]at hcnd
    obtain⟨⟨⟨⟨q1,q2⟩,q3⟩,q4⟩,q5⟩:=hcnd
    exact Al hc hcall (id:=id) (by simpa using hta) q1 q2 q3 q4 q5 h hS
   ·cases h
 rename_i hta
 clear hta
 split at h
 ·rename_i hnof
  have hdr:draw=true:=by cases draw<;>simp at hnof ⊢
  subst hdr
  split at h
  ·rename_i hcnd
   simp only[TR]at hcnd
   intro b k cs
   obtain⟨e,a',w',⟨rfl,S',G',μ',hk,hs,hd'⟩,harr⟩:=Hr hc hcall (id:=id) hcnd.1 hcnd.2 (fun S' h=>by
    split at h
    ·assumption
    ·cases h) h hS b k cs
   dsimp only at hk
   split at hk
   ·exact⟨.normal,a',w',⟨rfl,S',G',μ',hk,hs,hd'⟩,harr⟩
   ·cases hk
  ·split at h
   ·rename_i hcnd
    simp only[TR]at hcnd
    obtain⟨⟨⟨⟨q1,q2⟩,q3⟩,q4⟩,q5⟩:=hcnd
    exact BP hc hcall (id:=id) q1 q2 q3 q4 q5 h hS
   ·cases h
 ·rename_i hof
  have hof:(draw&& !eD c ops.toList)=false:=by simpa using hof
  split at h
  ·rename_i hq
   simp only[TR]at hq
   split at h
   ·cases h
   ·rename_i t ht
    obtain⟨bb,hb,hk⟩:=T0.1 h
    have hcl:∀o∈ops.toList,aQ c ops.toList o≠2:=by
     intro o ho
     have:=hq.2
     simp only[quiet,Ux,TR,UX]at this
     exact Fa (this o ho).1 (this o ho).2
    obtain⟨S1,h1,h2,h3,h4⟩:=Ap hc.inl _ S hcl hb
    classical
    let K1:St→Option Bool:=fun T=>if T.get t= .bool bb∧T.objs=S.objs∧T.env.length=S.env.length∧∀t,t∉ops.toList.flatMap (aO c ops.toList)→T.env[t]? =S.env[t]? then some bb else none
    have hg:S1.get t= .bool bb:=by
     rw[h1]at hb
     split at hb
     ·rename_i b' hb';cases hb;exact hb'
     ·cases hb
    have hK1:dR c call Ip ops.toList ops.toList S K1=some bb:=by
     rw[h1]
     exact if_pos ⟨hg,h2,h3,h4⟩
    intro b k cs
    obtain⟨e,a',w',⟨rfl,S2,G',μ',hk2,hs,hd'⟩,harr⟩:=Ce hc hcall (id:=id) hof hK1 hS b k cs
    have hS2:S2.get t= .bool bb∧S2.objs=S.objs∧S2.env.length=S.env.length∧∀t,t∉ops.toList.flatMap (aO c ops.toList)→S2.env[t]? =S.env[t]? :=by
     apply Classical.byContradiction
     intro hn
     simp only[K1,if_neg hn]at hk2
     cases hk2
    obtain⟨g1,g2,g3,g4⟩:=hS2
    have hev:=mH (aT (S:=S2) hs 0 (.tmp t)) g1
    rw[g2]at hs
    obtain⟨S3,hk3,hs3⟩:=Ao _ S hk S2.env g4 g3 hs
    rw[bC]at hk3
    exact⟨.normal,a',w',⟨rfl,_,G',μ',hk3,Cm hs3 hev,hd'⟩,harr⟩
  ·exact Ce hc hcall (id:=id) hof h hS
theorem Hx (hc:bA c) {call:FuncId→Fun} (hcall:∀f,bW c f (call f)) {icall:aN R} {id:Nat} {ops:Array Oper} {draw:Bool} {go:St→Option R} {r:R} {a:Act} {w:World} {G:Gh} {μ:List Nat} {S:St}
  (h:oH c call icall ops.toList draw S go=some r) (hS:cV c E w G μ S a):(Code.region id ops draw).wp c.P (fun e a' w' =>e= .normal∧kF c E go r a.defers a' w') a w:=by
 unfold oH at h
 have normal:mF S (ops.toList.flatMap (oG c ops.toList)) (fun S=>iL c call icall ops.toList draw S go)=some r→(Code.region id ops draw).wp c.P (fun e a' w' =>e= .normal∧kF c E go r a.defers a' w') a w:=by
  intro h
  obtain⟨S',G',h1,hs,_⟩:=nQ _ S G h hS
  exact Hw hc hcall h1 hs
 split at h
 ·rename_i s hes
  have hdr:draw=false:=by cases draw<;>simp at hes ⊢
  subst hdr
  split at h
  ·rename_i hown
   obtain⟨S',G',h1,hs,_⟩:=nQ _ S G h hS
   refine wp_region (uQ hc hcall (icall:=icall) (s:=s) (d0:=a.defers) (fun a' w' h=>⟨rfl,h⟩) _ [] S' a w G' μ (fun i hi=>by simpa using hi) ?_ hs rfl (fun e xs _ d=>⟨fun x hx=>(by cases hx),fun hx=>(by cases hx),fun n off hx=>(by cases hx)⟩))
   have:=eG ops.toList
   rw[Vq]at this
   rw[this];exact h1
  ·exact normal h
 ·exact normal h
def rL (c:Cfg) (icall:aN R):Prop:=∀f args objs (K:V→List Ob→Option R) r,icall f args objs K=some r→∀w G μ cargs,cargs.length=args.length→Inv c w G μ args cargs objs→
 (∃fn,c.fn f=some fn)∧Calls c.P f cargs.toArray w fun e w' =>∃u v objs' G' μ',e= .returned u∧K v objs' =some r∧Sim c (entry w G μ args cargs objs) w' G' μ' [v] [u] objs'
theorem Sim.beside {args:List V} {cargs:List Value} {env:List V} {tmps:List Value} {objs objs' :List Ob} {w w' :World} {G G' :Gh} {μ μ' :List Nat} {v:V} {u:Value} (hl:cargs.length=args.length)
  (h:Sim c E w G μ (args++env) (cargs++tmps) objs) (hs:Sim c (entry w G μ args cargs objs) w' G' μ' [v] [u] objs'):Sim c E w' G' μ' (v::env) (u::tmps) objs' :=by
 have hz:aH aG (args++env) (cargs++tmps)=aH aG args cargs++aH aG env tmps:=eJ aG _ _ _ _ hl.symm
 have hU:∀b,(entry w G μ args cargs objs).U b↔0<cnt b (aH aG args cargs)+cnt b (aM w objs μ)+μ.count b:=fun b=>Iff.rfl
 have hone:∀b,cnt b (aH aG args cargs)+cnt b (aH aG env tmps)+cnt b (aM w objs μ)+μ.count b≤1:=fun b=>by
  have:=h.inv.one b
  rw[hz,aK]at this;omega
 obtain⟨ν,hν⟩:=hs.pre
 have hν:μ' =μ++ν:=hν
 have hlt:∀b,0<cnt b (aH aG env tmps)→b<w.heap.size:=fun b hb=>h.leaf_lt (by rw[hz,aK];omega)
 have hfree:∀b,0<cnt b (aH aG env tmps)→w'.heap[b]? =w.heap[b]?∧G' b=G b:=fun b hb=>hs.stp.keep b (hlt b hb) (by rw[hU];have:=hone b;omega)
 have hzv:aH aG (v::env) (u::tmps)=aG v u++aH aG env tmps:=rfl
 have hz1:aH aG [v] [u]=aG v u:=by simp[aH]
 have hlen:=h.inv.len
 refine⟨⟨by simp at hlen ⊢;omega,fun i x y hx hy=>?_,hs.inv.olen,hs.inv.obs,fun b=>?_,fun l hl' =>?_,hs.inv.mine,hs.inv.none,hs.inv.glob⟩,⟨Uy h.stp.size hs.stp.size,h.stp.sealed.trans hs.stp.sealed,fun b hb hu=>?_,hs.stp.os.trans h.stp.os,hs.stp.out.trans h.stp.out,hs.stp.tape.trans h.stp.tape⟩,fun b hb hc' =>?_,?_⟩
 ·cases i with
  |zero=>exact hs.inv.rep 0 x y (by simpa using hx) (by simpa using hy)
  |succ i=>
   simp at hx hy
   have:=h.inv.rep (args.length+i) x y (by rw[Ub (by omega)];simpa using hx) (by rw[Ub (by omega)];simpa[hl]using hy)
   refine(this.mono hs.stp.sealed).more fun k b _ hb=>?_
   rw[hν,TU (TQ.1 hb).1];exact hb
 ·have h1:=hs.inv.one b
  rw[hz1]at h1
  rw[hzv,aK]
  by_cases hb:0<cnt b (aH aG env tmps)
  ·have h2:¬(0<cnt b (aG v u)+cnt b (aM w' objs' μ')+μ'.count b):=fun h3=>by
    have:=hs.own b (hlt b hb) (by rw[hz1];exact h3)
    rw[hU]at this
    have:=hone b;omega
   have:=hone b;omega
  ·omega
 ·rw[hzv,Ud,TV,TV]at hl'
  rcases hl' with hl' |hl' |hl'
  ·exact hs.inv.ok l (by rw[hz1];simp[hl'])
  ·have hb:=cP.2 ⟨l,hl',rfl⟩
   exact(h.inv.ok l (by rw[hz];simp[hl'])).same (hfree _ hb).1 (hfree _ hb).2 hs.stp.sealed
  ·exact hs.inv.ok l (by simp[hl'])
 ·have hnu:¬(entry w G μ args cargs objs).U b:=fun hu' =>hu (h.own b hb (by rw[hU]at hu';rw[hz,aK];omega))
  have h1:=h.stp.keep b hb hu
  have h2:=hs.stp.keep b (Up hb h.stp.size) hnu
  exact⟨h2.1.trans h1.1,h2.2.trans h1.2⟩
 ·refine h.own b hb ?_
  rw[hz,aK]
  rw[hzv,aK]at hc'
  by_cases hb' :0<cnt b (aH aG env tmps)
  ·omega
  ·have:=hs.own b (Up hb h.stp.size) (by rw[hz1];omega)
   rw[hU]at this;omega
 ·obtain⟨ν0,hν0⟩:=h.pre
  exact⟨ν0++ν,by rw[hν,hν0,Ud]⟩
theorem KZ (hc:bA c) {icall:aN R} (hic:rL c icall) {o:Oper} {f:FuncId} {args:List Operand} {ts:List TypeId} (ho:zI c o=some (f,args,ts)) {S:St} {a:Act} {K:V→St→Option R} {r:R} {w:World} {G:Gh} {μ:List Nat}
  (h:icall f (nL c S args ts) S.objs (fun v objs=>K v ⟨S.env,objs⟩)=some r) (hS:cV c E w G μ S a):Ha c E o a w K r:=by
 have hg:jA o=some (f,args,ts):=by
  unfold zI at ho
  split at ho
  ·rename_i p hp
   split at ho
   ·cases ho;exact hp
   ·cases ho
  ·cases ho
 obtain⟨_,A,T,hop,rfl,rfl⟩:=jG hg
 have hal:=mY (c:=c) S A.toList T.toList
 have hs0:Sim c E w G μ (nL c S A.toList T.toList++S.env) (A.toList.map a.eval++a.tmps.toList) S.objs:=hS.pushes _ _ (by simp[nL,hal]) fun i v x hv hx=>by
  unfold nL at hv
  obtain⟨v0,hv0,rfl⟩:=bQ hv
  obtain⟨y,t,h1,rfl⟩:=sZ S _ _ i v0 hv0
  obtain⟨y',h2,rfl⟩:=bQ hx
  rw[h1]at h2;cases h2
  exact⟨(aT hS t y).cut,bH _ _⟩
 have hlen:(A.toList.map a.eval).length=(nL c S A.toList T.toList).length:=by simp[nL,hal]
 obtain⟨⟨fn,hfn⟩,hcalls⟩:=hic _ _ _ _ _ h w G μ (A.toList.map a.eval) hlen (hs0.firsts hlen).inv
 refine .inr (.inr ⟨f,(A.toList.map a.eval).toArray,?_,Calls.mono hcalls ?_⟩)
 ·obtain⟨dst,op,type,pos,after,guard⟩:=o
  simp only at hop
  subst hop
  simp only[execOp,resolve,Act.eval,Deferred.ofValue,Sem.run_bind,Sem.run_pure,Result.andThen_ok,invoke]
  have e:(#[]:Array Value)++Ww a.eval A++#[]=(A.toList.map a.eval).toArray:=by apply Vl;simp
  simp only[e]
  exact uL hc hfn _
 ·rintro e w' ⟨u,v,objs',G',μ',rfl,hk,hs⟩
  exact⟨u,rfl,v,⟨S.env,objs'⟩,G',μ',hk,hs0.beside hlen hs⟩
theorem DX (hc:bA c) {call:FuncId→Fun} (hcall:∀f,bW c f (call f)) {icall:aN R} (hic:rL c icall) {ops:Array Oper} {K:St→Option R} {r:R} {d:List Deferred}
  {Q:Exit→Act→World→Prop} (hQ:∀a w,kF c E K r d a w→Q .normal a w):∀(l:List Nat) (a:Act) (w:World) (G:Gh) (μ:List Nat) (S:St),(∀i∈l,i<ops.size)→
   BJ c call icall ops.toList (l.filterMap (ops.toList[·]?)) S K=some r→cV c E w G μ S a→a.defers=d→wpOps c.P ops Q l a w
 |[],a,w,G,μ,S,_,h,hS,hd=>hQ a w ⟨S,G,μ,h,hS,hd⟩
 |i::l,a,w,G,μ,S,hl,h,hS,hd=>by
  have hi:=hl i (by simp)
  have ho:ops[i]? =some ops[i]:=Uj hi
  rw[VS,show ops.toList[i]? =some ops[i]by simp]at h
  simp only at h
  rw[wpOps_cons]
  unfold BJ at h
  split at h
  ·rename_i f args ts hino
   have hg:jA ops[i]=some (f,args,ts):=by
    unfold zI at hino
    split at hino
    ·rename_i p hp
     split at hino
     ·cases hino;exact hp
     ·cases hino
    ·cases hino
   have hgu:=(jG hg).1
   have hop:=KZ (K:=fun v S' =>St.putK S' (ops[i]).dst v fun S=>BJ c call icall ops.toList (l.filterMap (ops.toList[·]?)) S K) hc hic hino h hS
   have hw:(ops[i]).wp c.P a w (kF c E (fun S=>BJ c call icall ops.toList (l.filterMap (ops.toList[·]?)) S K) r a.defers) Q:=by
    have hop' :Ha c E ops[i] a w (fun v S' =>(fun S=>BJ c call icall ops.toList (l.filterMap (ops.toList[·]?)) S K) (putS S' (ops[i]).dst v)) r:=by simpa only[kW]using hop
    unfold Oper.wp
    rcases hop' with⟨u,w',hr,hw⟩|⟨w',hr,hw⟩|⟨f,args,hr,hcalls⟩
    ·rw[hr];exact cQ hw
    ·rw[hr];exact cQ hw
    ·rw[hr]
     refine Calls.mono hcalls ?_
     rintro e w' ⟨u,rfl,hw⟩
     exact cQ hw
   unfold wpOp
   rw[ho]
   simp only
   rw[if_pos (by simp[Region.wanted,hgu])]
   refine .inl (Oper.wp_mono (fun a' w' hp=>?_) hw)
   obtain⟨S',G',μ',hk,hs',hd'⟩:=hp
   exact DX hc hcall hic hQ l a' w' G' μ' S' (fun i hi=>hl i (by simp[hi])) hk hs' (by rw[hd',hd])
  ·rw[bI]at h
   refine wpOp_mono (fun a' w' hp=>?_) (step_ok hc hcall (Q:=Q) ho h hS)
   obtain⟨S',G',μ',hk,hs',hd'⟩:=hp
   exact DX hc hcall hic hQ l a' w' G' μ' S' (fun i hi=>hl i (by simp[hi])) hk hs' (by rw[hd',hd])
theorem Hy (hc:bA c) {call:FuncId→Fun} (hcall:∀f,bW c f (call f)) {icall:aN R} (hic:rL c icall) {id:Nat} {ops:Array Oper} {draw:Bool} {go:St→Option R} {r:R} {a:Act} {w:World} {G:Gh} {μ:List Nat} {S:St}
  (h:oI c call icall ops.toList draw S go=some r) (hS:cV c E w G μ S a):(Code.region id ops draw).wp c.P (fun e a' w' =>e= .normal∧kF c E go r a.defers a' w') a w:=by
 unfold oI at h
 split at h
 ·split at h
  ·cases h
  ·rename_i hdr
   have hdr:draw=false:=by cases draw<;>simp at hdr ⊢
   subst hdr
   obtain⟨S',G',h1,hs,_⟩:=nQ _ S G h hS
   refine wp_region (DX hc hcall hic (d:=a.defers) (fun a' w' h=>⟨rfl,h⟩) _ a w G' μ S' (fun i hi=>by simpa using hi) ?_ hs rfl)
   have:=eG ops.toList
   rw[Vq]at this
   rw[this];exact h1
 ·exact Hx hc hcall h hS
end
end Go.Ev
end
section
namespace Go.Ev
section
variable {c : Cfg} {E : Ent} {R : Type}
def lK:It→Item
 | .code x=> .code x
 | .inBlock id=> .inBlock id
 | .inLoop x=> .inLoop x
 | .inScope x=> .inScope x
theorem lL (id:Nat):∀(k k' :List It),iW id k=some k'→exitTo id (k.map lK)=some (k'.map lK)
 |[],_,h=>by cases h
 | .inBlock i::k,k',h=>by
  simp only[iW]at h
  simp only[UE,lK,exitTo]
  split at h
  ·rename_i hi;cases h;rw[if_pos hi]
  ·rename_i hi;rw[if_neg hi];exact lL id k k' h
 | .code x::k,k',h=>by
  simp only[iW]at h
  simp only[UE,lK,exitTo]
  exact lL id k k' h
 | .inLoop x::k,k',h=>by
  simp only[iW]at h
  simp only[UE,lK,exitTo]
  exact lL id k k' h
 | .inScope x::k,k',h=>by
  simp only[iW]at h
  simp only[UE,lK,exitTo]
  exact lL id k k' h
theorem step_scope {P:Program} {b:Frame} {a:Act} {k:List Item} {cs:List Frame} {w:World} {c:Code}:
  step P (lone (b.at a (.code (.scope c)::k)) cs w)= .next (lone (b.at a (.code c:: .inScope c::k)) cs w):=
 step_lone_go (by simp[stepG,stepG.exec,Frame.at])
theorem step_inScope {P:Program} {b:Frame} {a:Act} {k:List Item} {cs:List Frame} {w:World} {c:Code}:
  step P (lone (b.at a (.inScope c::k)) cs w)= .next (lone (b.at a k) cs w):=
 step_lone_go (by simp[stepG,stepG.exec,Frame.at])
def DY (P:Program) (b:Frame) (cs:List Frame) (a:Act) (todo:List Item) (w:World) (Φ:Act→World→Prop):Prop:=
 ∃a' w' todo',Φ a' w'∧Steps P (lone (b.at a todo) cs w) (lone { b.at a' todo' with mode:= .returning } cs w')
theorem DY.of_steps {P:Program} {b:Frame} {cs:List Frame} {a a1:Act} {todo todo1:List Item} {w w1:World} {Φ:Act→World→Prop} (h:Steps P (lone (b.at a todo) cs w) (lone (b.at a1 todo1) cs w1))
  (h' :DY P b cs a1 todo1 w1 Φ):DY P b cs a todo w Φ:=by
 obtain⟨a',w',t,h1,h2⟩:=h'
 exact⟨a',w',t,h1,h.trans h2⟩
theorem IB (hc:bA c) {call:FuncId→Fun} (hcall:∀f,bW c f (call f)) {icall:aN R} (hic:rL c icall) {rs:List Nat} {base:Nat} (hbase:E.μ.length≤base) {again:List It→St→Option R} {fin:St→Option R}
  {b:Frame} {cs:List Frame} {r:R} {d:List Deferred} {Φ:Act→World→Prop}
  (hagain:∀td S a w G μ,again td S=some r→cV c E w G μ S a→a.defers=d→DY c.P b cs a (td.map lK) w Φ)
  (hfin:∀S a w G μ,fin S=some r→cV c E w G μ S a→a.defers=d→Φ a w):
  ∀(m:Nat) (td:List It) (S:St) (a:Act) (w:World) (G:Gh) (μ:List Nat),bZ c call icall rs base again fin m td S=some r→cV c E w G μ S a→a.defers=d→DY c.P b cs a (td.map lK) w Φ:=by
 intro m
 induction m with
 |zero=>intro td S a w G μ h;simp[bZ]at h
 |succ m ih=>
  intro td S a w G μ h hS hd
  cases td with
  |nil=>exact⟨a,w,[],hfin S a w G μ (by simpa[bZ]using h) hS hd, .one step_end⟩
  |cons it k=>
   have loop:∀x,S.normK (uB rs (.inLoop x::k)).n base (fun S=>again (.code x:: .inLoop x::k) S)=some r→DY c.P b cs a (.code x:: .inLoop x::k.map lK) w Φ:=by
    intro x h
    obtain⟨S',μ',hk,hs⟩:=KI h hS hbase
    exact hagain _ S' a w G μ' hk hs hd
   cases it with
   |inBlock id=>exact .of_steps (.one step_inBlock) (ih k S a w G μ (by simpa[bZ]using h) hS hd)
   |inLoop x=>exact .of_steps (.one step_inLoop) (loop x (by simpa[bZ]using h))
   |inScope x=>exact .of_steps (.one step_inScope) (ih k S a w G μ (by simpa[bZ]using h) hS hd)
   |code x=>
    cases x with
    |ret=>exact⟨a,w,_,hfin S a w G μ (by simpa[bZ]using h) hS hd, .one step_ret⟩
    |skip=>exact .of_steps (.one step_skip) (ih k S a w G μ (by simpa[bZ]using h) hS hd)
    |label l=>exact .of_steps (.one step_label) (ih k S a w G μ (by simpa[bZ]using h) hS hd)
    |seq x y=>exact .of_steps (.one step_seq) (ih (.code x:: .code y::k) S a w G μ (by simpa[bZ]using h) hS hd)
    |scope x=>exact .of_steps (.one step_scope) (ih (.code x:: .inScope x::k) S a w G μ (by simpa[bZ]using h) hS hd)
    |block id x=>exact .of_steps (.one step_block) (ih (.code x:: .inBlock id::k) S a w G μ (by simpa[bZ]using h) hS hd)
    |loop x=>exact .of_steps (.one step_loop) (loop x (by simpa[bZ]using h))
    |exit id=>
     simp only[bZ]at h
     split at h
     ·rename_i k' hk
      exact .of_steps (.one (step_exit (lL id k k' hk))) (ih k' S a w G μ h hS hd)
     ·cases h
    |cond x y z=>
     simp only[bZ]at h
     split at h
     ·rename_i t ht
      have hx:=mH (aT hS 0 x) ht
      have refine' :∀(t' :Bool) (K:St→Option R),a.eval x= .bool t'→mD S x t' K=some r→∃S',K S' =some r∧cV c E w G μ S' a:=by
       intro t' K hx hk
       cases x with
       |tmp s=>
        simp only[mD,bC]at hk
        exact⟨_,hk,Cm hS hx⟩
       |_=>exact⟨S,hk,hS⟩
      refine .of_steps (.one (step_cond hx)) ?_
      cases t with
      |true=>
       obtain⟨S',hk,hs⟩:=refine' true _ hx (by simpa using h)
       exact ih (.code y::k) S' a w G μ hk hs hd
      |false=>
       obtain⟨S',hk,hs⟩:=refine' false _ hx (by simpa using h)
       exact ih (.code z::k) S' a w G μ hk hs hd
     ·cases h
    |region id ops draw=>
     simp only[bZ]at h
     obtain⟨e,a',w',⟨rfl,S',G',μ',hk,hs,hd'⟩,harr⟩:=Hy hc hcall hic (id:=id) h hS b (k.map lK) cs
     exact .of_steps harr (ih k S' a' w' G' μ' hk hs (by rw[hd',hd]))
    |_=>simp[bZ]at h
theorem IC (hc:bA c) {call:FuncId→Fun} (hcall:∀f,bW c f (call f)) {icall:aN R} (hic:rL c icall) {rs:List Nat} {base:Nat} (hbase:E.μ.length≤base) {fin:St→Option R}
  {b:Frame} {cs:List Frame} {r:R} {d:List Deferred} {Φ:Act→World→Prop}
  (hfin:∀S a w G μ,fin S=some r→cV c E w G μ S a→a.defers=d→Φ a w):
  ∀(n:Nat) (td:List It) (S:St) (a:Act) (w:World) (G:Gh) (μ:List Nat),runN c call icall rs base fin n td S=some r→cV c E w G μ S a→a.defers=d→DY c.P b cs a (td.map lK) w Φ
 |0,td,S,a,w,G,μ,h,_,_=>by simp[runN]at h
 |n+1,td,S,a,w,G,μ,h,hS,hd=>IB hc hcall hic hbase (fun td S a w G μ h hS hd=>IC hc hcall hic hbase hfin n td S a w G μ h hS hd) hfin depth td S a w G μ (by simpa only[runN]using h) hS hd
end
end Go.Ev
end
section
namespace Go.Ev
section
variable {c : Cfg} {R : Type}
def Pre (n:Nat) (S S' :St):Prop:=n≤S.objs.length→n≤S'.objs.length∧S'.objs.take n=S.objs.take n
theorem Pre.of_eq {n:Nat} {S S' :St} (h:S'.objs=S.objs):Pre n S S' :=fun hn=>⟨by rw[h];exact hn,by rw[h]⟩
theorem Pre.trans {n:Nat} {S S' S'' :St} (h:Pre n S S') (k:Pre n S' S''):Pre n S S'' :=fun hn=>by
 obtain⟨h1,h2⟩:=h hn
 obtain⟨k1,k2⟩:=k h1
 exact⟨k1,k2.trans h2⟩
theorem Pre.of_append {n:Nat} {S S' :St} {l:List Ob} (h:S'.objs=S.objs++l):Pre n S S' :=fun hn=>by
 rw[h]
 exact⟨by simp;omega,by rw[List.take_append_of_le_length hn]⟩
theorem DZ (hinl:∀f,c.inl f=false) (n:Nat) {call:FuncId→Fun} {icall:aN R} {ops:List Oper} {o:Oper} {S:St} {K:V→St→Option R} {r:R}
  (hro:rX c ops o=true) (h:opK c call icall ops o S K=some r):∃v S',K v S' =some r∧Pre n S S' :=by
 by_cases hk:aQ c ops o=2
 ·obtain⟨dst,op,type,pos,after,guard⟩:=o
  cases op
  case alloc t=>
   simp only[opK,gP]at h
   split at h
   ·exact⟨_,_,h,Pre.of_append rfl⟩
   ·cases h
  case box t x=>
   simp only[opK,iN,gP,fQ]at h
   split at h
   ·exact⟨_,_,h,Pre.of_append rfl⟩
   ·cases h
  case makeMap t n=>
   simp only[opK,gP]at h
   split at h
   ·exact⟨_,_,h,Pre.of_append rfl⟩
   ·cases h
  case mapUpdate|insert=>simp[rX]at hro
  case range t x=>
   simp only[opK,gP]at h
   split at h
   ·split at h
    ·exact⟨_,_,h,Pre.of_append rfl⟩
    ·cases h
   ·cases h
  case store=>simp[rX]at hro
  case next=>simp[rX]at hro
  case load=>simp only[rX,UX]at hro;simp[aQ,hro]at hk
  case call cl=>
   obtain⟨callee,args,at'⟩:=cl
   cases callee with
   |value fo=>
    cases fo<;>simp[rX]at hro
    simp only[aQ]at hk
    split at hk
    ·omega
    ·simp_all
   |builtin b=>cases b<;>first|(simp[aQ,rE]at hk;done)|(simp[opK,gI]at h;done)
   |invoke=>simp[opK,gI]at h
  all_goals first|(simp[aQ,rE]at hk;done)|(simp[opK]at h;done)
 ·obtain⟨F,hF,hloc,_⟩:=DR hinl call ops o
  rw[hF]at h
  obtain⟨⟨v,S'⟩,h1,h2⟩:=T0.1 h
  exact⟨v,S',h2,Pre.of_eq ((hloc.frame S v S' h1).2.2 hk)⟩
theorem qM (n:Nat) (S:St) (d:Option Tmp) (v:V):Pre n S (putS S d v):=Pre.of_eq (bG S d v).2.1
theorem qN (hinl:∀f,c.inl f=false) (n:Nat) {call:FuncId→Fun} {icall:aN R} {ops:List Oper} {K:St→Option R} {r:R}:∀(l:List Oper) (S:St),(∀o∈l,rX c ops o=true)→
  dR c call icall ops l S K=some r→∃S',K S' =some r∧Pre n S S'
 |[],S,_,h=>⟨S,h,Pre.of_eq rfl⟩
 |o::l,S,hro,h=>by
  have step:∃S',dR c call icall ops l S' K=some r∧Pre n S S' :=by
   rw[bI]at h
   unfold iO at h
   split at h
   ·obtain⟨v,S',h1,h2⟩:=DZ hinl n (hro o (by simp)) h
    exact⟨_,h1,h2.trans (qM n S' o.dst v)⟩
   ·split at h
    ·cases h
    ·split at h
     ·split at h
      ·obtain⟨v,S',h1,h2⟩:=DZ hinl n (hro o (by simp)) h
       exact⟨_,h1,h2.trans (qM n S' o.dst v)⟩
      ·exact⟨_,h,qM n S o.dst iJ⟩
     ·exact⟨_,h,qM n S o.dst iJ⟩
     ·cases h
  obtain⟨S1,h1,h2⟩:=step
  obtain⟨S',h3,h4⟩:=qN hinl n l S1 (fun o ho=>hro o (by simp[ho])) h1
  exact⟨S',h3,h2.trans h4⟩
theorem qO {K:St→Option R} {r:R}:∀(l:List Nat) (S:St),rF S l K=some r→∃S',K S' =some r∧S'.objs=S.objs
 |[],S,h=>⟨S,h,rfl⟩
 |t::l,S,h=>by
  simp only[rF,bC]at h
  obtain⟨S',h1,h2⟩:=qO l ⟨S.env.set t .bot,S.objs⟩ h
  exact⟨S',h1,h2⟩
theorem Cn {S:St} {live:List Nat} {base n:Nat} (hn:n≤base) {K:St→Option R} {r:R} (h:S.normK live base K=some r):∃S',K S' =some r∧Pre n S S' :=by
 obtain⟨env,objs⟩:=S
 unfold St.normK at h
 simp only[wN,Ae]at h
 have key:∀(l:List Nat) (n:Nat),n≤G5 l n:=by
  intro l
  induction l with
  |nil=>intro n;exact TY _
  |cons i l ih=>intro n;exact Uy (Nat.le_max_left _ _) (ih (max n (i+1)))
 split at h
 ·refine⟨_,h,fun hl=>?_⟩
  simp only at hl ⊢
  have:=key (gG objs 100 (V.refsL (lJ live 0 env)++Vr base) []) base
  refine⟨by rw[Vo];omega,by rw[List.take_take];congr 1;omega⟩
 ·exact⟨_,h,Pre.of_eq rfl⟩
theorem nT (id:Nat):∀(k k' :List It),iW id k=some k'→(∀x∈k,sV c x=true)→∀x∈k',sV c x=true
 |[],_,h,_=>by cases h
 | .inBlock i::k,k',h,hk=>by
  simp only[iW]at h
  split at h
  ·cases h;exact fun x hx=>hk x (by simp[hx])
  ·exact nT id k k' h fun x hx=>hk x (by simp[hx])
 | .code x::k,k',h,hk=>nT id k k' (by simpa[iW]using h) fun y hy=>hk y (by simp[hy])
 | .inLoop x::k,k',h,hk=>nT id k k' (by simpa[iW]using h) fun y hy=>hk y (by simp[hy])
 | .inScope x::k,k',h,hk=>nT id k k' (by simpa[iW]using h) fun y hy=>hk y (by simp[hy])
theorem jW (hinl:∀f,c.inl f=false) {call:FuncId→Fun} {icall:aN R} {ops:List Oper} {K:St→Option R} {r:R}:∀(l:List Oper) (S:St),dR c call icall ops l S K=some r→∃S',K S' =some r
 |[],S,h=>⟨S,h⟩
 |o::l,S,h=>by
  rw[bI]at h
  obtain⟨F,hF,_⟩:=EV hinl call ops o
  rw[hF]at h
  obtain⟨S1,_,h1⟩:=T0.1 h
  exact jW hinl l S1 h1
theorem wT (hinl:∀f,c.inl f=false) (n:Nat) {call:FuncId→Fun} {icall:aN R} {ops:List Oper} {s:Nat} {K:St→Option R} {r:R}:∀(l:List Oper) (A:AL) (S:St),(∀o∈l,rX c ops o=true)→
  fM c call icall ops s l A S K=some r→∃S',K S' =some r∧Pre n S S'
 |[],A,S,_,h=>⟨S,by simpa[fM]using h,Pre.of_eq rfl⟩
 |o::l,A,S,hro,h=>by
  have hl:∀o∈l,rX c ops o=true:=fun o ho=>hro o (by simp[ho])
  have ho:=hro o (by simp)
  have next:∀(A:AL) (S1:St),fM c call icall ops s l A S1 K=some r→S1.objs=S.objs→∃S',K S' =some r∧Pre n S S' :=fun A S1 h e=>by
   obtain⟨S',g1,g2⟩:=wT hinl n l A S1 hl h
   exact⟨S',g1,(Pre.of_eq e).trans g2⟩
  unfold fM at h
  simp only at h
  have plain:(if uF c ops s A o then none else opK c call icall ops o S fun v S' =>S'.putK o.dst v fun S' =>fM c call icall ops s l A S' K)=some r→∃S',K S' =some r∧Pre n S S' :=by
   intro h
   split at h
   ·cases h
   ·obtain⟨v,S1,h1,h2⟩:=DZ hinl n ho h
    rw[kW]at h1
    obtain⟨S',g1,g2⟩:=wT hinl n l A _ hl h1
    exact⟨S',g1,h2.trans ((qM n S1 o.dst v).trans g2)⟩
  split at h
  ·cases h
  split at h
  case h_2=>cases h
  split at h
  ·split at h
   ·split at h
    ·rw[bC]at h;exact next _ _ h rfl
    ·cases h
   ·exact plain h
  ·split at h
   ·split at h
    ·split at h
     ·rw[bC]at h;exact next _ _ h rfl
     ·cases h
    ·exact plain h
   ·exact plain h
  ·split at h
   ·split at h
    ·split at h
     ·obtain⟨_,h⟩:=aP h
      obtain⟨_,h⟩:=aP h
      rw[bC]at h;exact next _ _ h rfl
     ·cases h
    ·cases h
   ·exact plain h
  ·split at h
   ·split at h
    ·split at h
     ·split at h
      ·rw[bC]at h;exact next _ _ h rfl
      ·cases h
     ·cases h
    ·cases h
   ·exact plain h
  ·split at h
   ·split at h
    ·split at h
     ·rw[bC]at h;exact next _ _ h rfl
     ·cases h
    ·cases h
   ·exact plain h
  ·split at h
   ·split at h
    ·split at h
     ·split at h
      ·rw[bC]at h;exact next _ _ h rfl
      ·cases h
     ·cases h
    ·cases h
   ·exact plain h
  ·exact plain h
theorem iC (hinl:∀f,c.inl f=false) {call:FuncId→Fun} {icall:aN R} {ops:List Oper} {s:Nat} {K:St→Option R} {r:R}:∀(l:List Oper) (A:AL) (S:St),
  fM c call icall ops s l A S K=some r→∃S',K S' =some r
 |[],A,S,h=>⟨S,by simpa[fM]using h⟩
 |o::l,A,S,h=>by
  unfold fM at h
  simp only at h
  have plain:(if uF c ops s A o then none else opK c call icall ops o S fun v S' =>S'.putK o.dst v fun S' =>fM c call icall ops s l A S' K)=some r→∃S',K S' =some r:=by
   intro h
   split at h
   ·cases h
   ·obtain⟨F,hF,_⟩:=DR hinl call ops o
    rw[hF]at h
    obtain⟨⟨v,S1⟩,_,h1⟩:=T0.1 h
    simp only[kW]at h1
    exact iC hinl l A _ h1
  split at h
  ·cases h
  split at h
  case h_2=>cases h
  split at h
  ·split at h
   ·split at h
    ·rw[bC]at h;exact iC hinl l _ _ h
    ·cases h
   ·exact plain h
  ·split at h
   ·split at h
    ·split at h
     ·rw[bC]at h;exact iC hinl l _ _ h
     ·cases h
    ·exact plain h
   ·exact plain h
  ·split at h
   ·split at h
    ·split at h
     ·obtain⟨_,h⟩:=aP h
      obtain⟨_,h⟩:=aP h
      rw[bC]at h;exact iC hinl l _ _ h
     ·cases h
    ·cases h
   ·exact plain h
  ·split at h
   ·split at h
    ·split at h
     ·split at h
      ·rw[bC]at h;exact iC hinl l _ _ h
      ·cases h
     ·cases h
    ·cases h
   ·exact plain h
  ·split at h
   ·split at h
    ·split at h
     ·rw[bC]at h;exact iC hinl l _ _ h
     ·cases h
    ·cases h
   ·exact plain h
  ·split at h
   ·split at h
    ·split at h
     ·split at h
      ·rw[bC]at h;exact iC hinl l _ _ h
      ·cases h
     ·cases h
    ·cases h
   ·exact plain h
  ·exact plain h
theorem Fb (hinl:∀f,c.inl f=false) (n:Nat) {call:FuncId→Fun} {icall:aN R} {ops:List Oper} {draw:Bool} {S:St} {go:St→Option R} {r:R} (h0:∀o∈ops,rX c ops o=true)
  (h:iL c call icall ops draw S go=some r):∃S',go S' =some r∧Pre n S S' :=by
 unfold iL at h
 split at h
 ·rename_i q t hta
  exfalso
  have hta:sW ops=some (q,t):=by cases draw<;>simp at hta ⊢;exact hta
  unfold sW at hta
  split at hta
  case h_2=>cases hta
  rename_i t' ht
  obtain⟨o0,o1,o2,o3,o4,o5,args,argTypes,hd,_,_,_,_,_,p2,_⟩:=yB ht
  have hmem:o2∈ops:=U1 (i:=ops.length - 6) (by rw[hd];simp)
  have:=h0 o2 hmem
  simp[rX,p2.1]at this
 split at h
 ·split at h
  ·obtain⟨S1,h1,h2⟩:=qN hinl n _ S h0 h
   split at h1
   ·exact⟨S1,h1,h2⟩
   ·cases h1
  ·split at h
   ·obtain⟨S1,h1,h2⟩:=qN hinl n _ S (fun o ho=>h0 o (U0 ho)) h
    split at h1
    ·obtain⟨S2,h3,h4⟩:=qN hinl n _ S1 (fun o ho=>h0 o (U1 ho)) h1
     exact⟨S2,h3,h2.trans h4⟩
    ·cases h1
   ·cases h
 ·split at h
  ·split at h
   ·cases h
   ·obtain⟨bb,_,h2⟩:=T0.1 h
    obtain⟨S1,h3,h4⟩:=qO _ S h2
    rw[bC]at h3
    exact⟨_,h3,Pre.of_eq h4⟩
  ·exact qN hinl n _ S h0 h
theorem Fc (hinl:∀f,c.inl f=false) (n:Nat) {call:FuncId→Fun} {icall:aN R} {ops:List Oper} {draw:Bool} {S:St} {go:St→Option R} {r:R} (h0:∀o∈ops,rX c ops o=true)
  (h:oH c call icall ops draw S go=some r):∃S',go S' =some r∧Pre n S S' :=by
 unfold oH at h
 have normal:mF S (ops.flatMap (oG c ops)) (fun S=>iL c call icall ops draw S go)=some r→∃S',go S' =some r∧Pre n S S' :=by
  intro h
  obtain⟨S1,h1,h2⟩:=eY _ S h
  obtain⟨S',g1,g2⟩:=Fb hinl n h0 h1
  exact⟨S',g1,(Pre.of_eq h2).trans g2⟩
 split at h
 ·split at h
  ·obtain⟨S1,h1,h2⟩:=eY _ S h
   obtain⟨S',g1,g2⟩:=wT hinl n ops [] S1 h0 h1
   exact⟨S',g1,(Pre.of_eq h2).trans g2⟩
  ·exact normal h
 ·exact normal h
theorem Fe (hinl:∀f,c.inl f=false) {call:FuncId→Fun} {icall:aN R} {ops:List Oper} {draw:Bool} {S:St} {go:St→Option R} {r:R}
  (h:iL c call icall ops draw S go=some r):∃S',go S' =some r:=by
 unfold iL at h
 split at h
 ·split at h
  ·obtain⟨S1,h1⟩:=jW hinl _ S h
   obtain⟨_,_,_,_,_,_,_,_,_,_,_,_,_,_,_,_,_,_,_,_,_,_,_,_,_,_,_,_,_,_,_,_,_,_,hk⟩:=wS h1
   exact⟨_,hk.2⟩
  ·split at h
   ·obtain⟨S1,h1⟩:=jW hinl _ S h
    split at h1
    ·obtain⟨_,_,_,_,_,_,_,_,_,_,_,_,_,_,_,_,_,_,_,_,_,_,_,_,_,_,_,_,_,_,_,_,_,_,hk⟩:=wS h1
     exact⟨_,hk.2⟩
    ·cases h1
   ·cases h
 split at h
 ·split at h
  ·obtain⟨S1,h1⟩:=jW hinl _ S h
   split at h1
   ·exact⟨S1,h1⟩
   ·cases h1
  ·split at h
   ·obtain⟨S1,h1⟩:=jW hinl _ S h
    split at h1
    ·exact jW hinl _ S1 h1
    ·cases h1
   ·cases h
 ·split at h
  ·split at h
   ·cases h
   ·obtain⟨bb,_,h2⟩:=T0.1 h
    obtain⟨S1,h3,_⟩:=qO _ S h2
    rw[bC]at h3
    exact⟨_,h3⟩
  ·exact jW hinl _ S h
theorem Ff (hinl:∀f,c.inl f=false) {call:FuncId→Fun} {icall:aN R} {ops:List Oper} {draw:Bool} {S:St} {go:St→Option R} {r:R}
  (h:oH c call icall ops draw S go=some r):∃S',go S' =some r:=by
 unfold oH at h
 have normal:mF S (ops.flatMap (oG c ops)) (fun S=>iL c call icall ops draw S go)=some r→∃S',go S' =some r:=by
  intro h
  obtain⟨S1,h1,_⟩:=eY _ S h
  exact Fe hinl h1
 split at h
 ·split at h
  ·obtain⟨S1,h1,_⟩:=eY _ S h
   exact iC hinl ops [] S1 h1
  ·exact normal h
 ·exact normal h
theorem Fg {o:Oper} (h:(zI c o).isSome=true) (ops:List Oper):rX c ops o=false:=by
 unfold zI at h
 split at h
 ·rename_i p hp
  split at h
  ·rename_i hcnd
   simp only[TR,UX]at hcnd
   obtain⟨f,args,ts⟩:=p
   obtain⟨hg,A,T,hop,_,_⟩:=jG hp
   unfold rX
   rw[hop]
   exact hcnd.2
  ·cases h
 ·cases h
theorem Fh (hinl:∀f,c.inl f=false) (n:Nat) {call:FuncId→Fun} {icall:aN R} {ops:List Oper} {draw:Bool} {S:St} {go:St→Option R} {r:R} (h0:∀o∈ops,rX c ops o=true)
  (h:oI c call icall ops draw S go=some r):∃S',go S' =some r∧Pre n S S' :=by
 unfold oI at h
 split at h
 ·rename_i hi
  obtain⟨o,ho,hoi⟩:=List.any_eq_true.1 hi
  exact absurd ((Fg (c:=c) hoi ops).symm.trans (h0 o ho)) (by simp)
 ·exact Fc hinl n h0 h
def qP (icall:aN R):Prop:=∀f args objs K r,icall f args objs K=some r→∃v objs',K v objs' =some r
theorem Aq (hinl:∀f,c.inl f=false) {call:FuncId→Fun} {icall:aN R} (hic:qP icall) {ops:List Oper} {K:St→Option R} {r:R}:∀(l:List Oper) (S:St),BJ c call icall ops l S K=some r→∃S',K S' =some r
 |[],S,h=>⟨S,h⟩
 |o::l,S,h=>by
  unfold BJ at h
  split at h
  ·obtain⟨v,objs',h1⟩:=hic _ _ _ _ _ h
   rw[kW]at h1
   exact Aq hinl hic l _ h1
  ·obtain⟨S1,h1⟩:=jW hinl _ S h
   exact Aq hinl hic l S1 h1
theorem Fi (hinl:∀f,c.inl f=false) {call:FuncId→Fun} {icall:aN R} (hic:qP icall) {ops:List Oper} {draw:Bool} {S:St} {go:St→Option R} {r:R}
  (h:oI c call icall ops draw S go=some r):∃S',go S' =some r:=by
 unfold oI at h
 split at h
 ·split at h
  ·cases h
  ·obtain⟨S1,h1,_⟩:=eY _ S h
   exact Aq hinl hic _ S1 h1
 ·exact Ff hinl h
theorem K0 (hinl:∀f,c.inl f=false) {n:Nat} {call:FuncId→Fun} {icall:aN R} {rs:List Nat} {base:Nat} (hn:n≤base) {again:List It→St→Option R} {fin:St→Option R} {r:R}
  (hagain:∀td S,(∀x∈td,sV c x=true)→again td S=some r→∃S',fin S' =some r∧Pre n S S'):
  ∀(m:Nat) (td:List It) (S:St),(∀x∈td,sV c x=true)→bZ c call icall rs base again fin m td S=some r→∃S',fin S' =some r∧Pre n S S' :=by
 intro m
 induction m with
 |zero=>intro td S _ h;simp[bZ]at h
 |succ m ih=>
  intro td S hro h
  have go:∀(td:List It) (S1:St),(∀x∈td,sV c x=true)→bZ c call icall rs base again fin m td S1=some r→Pre n S S1→∃S',fin S' =some r∧Pre n S S' :=fun td S1 h1 h2 h3=>by
   obtain⟨S',g1,g2⟩:=ih td S1 h1 h2
   exact⟨S',g1,h3.trans g2⟩
  cases td with
  |nil=>exact⟨S,by simpa[bZ]using h,Pre.of_eq rfl⟩
  |cons it k=>
   have hk:∀x∈k,sV c x=true:=fun x hx=>hro x (by simp[hx])
   have h0:=hro it (by simp)
   have loop:∀x,kE c x=true→S.normK (uB rs (.inLoop x::k)).n base (fun S=>again (.code x:: .inLoop x::k) S)=some r→∃S',fin S' =some r∧Pre n S S' :=by
    intro x hx h
    obtain⟨S1,h1,h2⟩:=Cn hn h
    obtain⟨S',g1,g2⟩:=hagain _ S1 (fun y hy=>by
     simp only[UH]at hy
     rcases hy with rfl|rfl|hy
     ·exact hx
     ·exact hx
     ·exact hk y hy) h1
    exact⟨S',g1,h2.trans g2⟩
   have two:∀x y:It,sV c x=true→sV c y=true→∀z∈x::y::k,sV c z=true:=fun x y hx hy z hz=>by
    simp only[UH]at hz
    rcases hz with rfl|rfl|hz
    ·exact hx
    ·exact hy
    ·exact hk z hz
   have one:∀x:It,sV c x=true→∀z∈x::k,sV c z=true:=fun x hx z hz=>by
    simp only[UH]at hz
    rcases hz with rfl|hz
    ·exact hx
    ·exact hk z hz
   cases it with
   |inBlock id=>exact ih k S hk (by simpa[bZ]using h)
   |inScope x=>exact ih k S hk (by simpa[bZ]using h)
   |inLoop x=>exact loop x h0 (by simpa[bZ]using h)
   |code x=>
    cases x with
    |ret=>exact⟨S,by simpa[bZ]using h,Pre.of_eq rfl⟩
    |skip=>exact ih k S hk (by simpa[bZ]using h)
    |label l=>exact ih k S hk (by simpa[bZ]using h)
    |seq x y=>
     simp only[sV,kE,TR]at h0
     exact ih _ S (two (.code x) (.code y) h0.1 h0.2) (by simpa[bZ]using h)
    |scope x=>exact ih _ S (two (.code x) (.inScope x) h0 rfl) (by simpa[bZ]using h)
    |block id x=>exact ih _ S (two (.code x) (.inBlock id) h0 rfl) (by simpa[bZ]using h)
    |loop x=>exact loop x h0 (by simpa[bZ]using h)
    |exit id=>
     simp only[bZ]at h
     split at h
     ·rename_i k' hk'
      exact ih k' S (nT id k k' hk' hk) h
     ·cases h
    |cond x y z=>
     simp only[sV,kE,TR]at h0
     simp only[bZ]at h
     have ref:∀(b:Bool) (K:St→Option R),mD S x b K=some r→∃S',K S' =some r∧S'.objs=S.objs:=by
      intro b K h
      cases x with
      |tmp s=>simp only[mD,bC]at h;exact⟨_,h,rfl⟩
      |_=>exact⟨S,h,rfl⟩
     split at h
     ·split at h
      ·obtain⟨S1,h1,h2⟩:=ref _ _ h
       exact go _ S1 (one (.code y) h0.1) h1 (Pre.of_eq h2)
      ·obtain⟨S1,h1,h2⟩:=ref _ _ h
       exact go _ S1 (one (.code z) h0.2) h1 (Pre.of_eq h2)
     ·cases h
    |region id ops draw=>
     simp only[sV,kE,Ux]at h0
     simp only[bZ]at h
     obtain⟨S1,h1,h2⟩:=Fh hinl n h0 h
     exact go k S1 hk h1 h2
    |_=>simp[bZ]at h
theorem Fj (hinl:∀f,c.inl f=false) {n:Nat} {call:FuncId→Fun} {icall:aN R} {rs:List Nat} {base:Nat} (hn:n≤base) {fin:St→Option R} {r:R}:
  ∀(m:Nat) (td:List It) (S:St),(∀x∈td,sV c x=true)→runN c call icall rs base fin m td S=some r→∃S',fin S' =some r∧Pre n S S'
 |0,td,S,_,h=>by simp[runN]at h
 |m+1,td,S,hro,h=>K0 hinl hn (fun td S hro h=>Fj hinl hn m td S hro h) depth td S hro (by simpa only[runN]using h)
theorem Fl (hinl:∀f,c.inl f=false) {call:FuncId→Fun} {icall:aN R} (hic:qP icall) {rs:List Nat} {base:Nat} {again:List It→St→Option R} {fin:St→Option R} {r:R}
  (hagain:∀td S,again td S=some r→∃S',fin S' =some r):
  ∀(m:Nat) (td:List It) (S:St),bZ c call icall rs base again fin m td S=some r→∃S',fin S' =some r:=by
 intro m
 induction m with
 |zero=>intro td S h;simp[bZ]at h
 |succ m ih=>
  intro td S h
  cases td with
  |nil=>exact⟨S,by simpa[bZ]using h⟩
  |cons it k=>
   have loop:∀x,S.normK (uB rs (.inLoop x::k)).n base (fun S=>again (.code x:: .inLoop x::k) S)=some r→∃S',fin S' =some r:=by
    intro x h
    obtain⟨S1,h1,_⟩:=Cn (Wd base) h
    exact hagain _ S1 h1
   cases it with
   |inBlock id=>exact ih k S (by simpa[bZ]using h)
   |inScope x=>exact ih k S (by simpa[bZ]using h)
   |inLoop x=>exact loop x (by simpa[bZ]using h)
   |code x=>
    cases x with
    |ret=>exact⟨S,by simpa[bZ]using h⟩
    |skip=>exact ih k S (by simpa[bZ]using h)
    |label l=>exact ih k S (by simpa[bZ]using h)
    |seq x y=>exact ih _ S (by simpa[bZ]using h)
    |scope x=>exact ih _ S (by simpa[bZ]using h)
    |block id x=>exact ih _ S (by simpa[bZ]using h)
    |loop x=>exact loop x (by simpa[bZ]using h)
    |exit id=>
     simp only[bZ]at h
     split at h
     ·rename_i k' hk'
      exact ih k' S h
     ·cases h
    |cond x y z=>
     simp only[bZ]at h
     have ref:∀(b:Bool) (K:St→Option R),mD S x b K=some r→∃S',K S' =some r:=by
      intro b K h
      cases x with
      |tmp s=>simp only[mD,bC]at h;exact⟨_,h⟩
      |_=>exact⟨S,h⟩
     split at h
     ·split at h
      ·obtain⟨S1,h1⟩:=ref _ _ h
       exact ih _ S1 h1
      ·obtain⟨S1,h1⟩:=ref _ _ h
       exact ih _ S1 h1
     ·cases h
    |region id ops draw=>
     simp only[bZ]at h
     obtain⟨S1,h1⟩:=Fi hinl hic h
     exact ih k S1 h1
    |_=>simp[bZ]at h
theorem Fo (hinl:∀f,c.inl f=false) {call:FuncId→Fun} {icall:aN R} (hic:qP icall) {rs:List Nat} {base:Nat} {fin:St→Option R} {r:R}:
  ∀(m:Nat) (td:List It) (S:St),runN c call icall rs base fin m td S=some r→∃S',fin S' =some r
 |0,td,S,h=>by simp[runN]at h
 |m+1,td,S,h=>Fl hinl hic (fun td S h=>Fo hinl hic m td S h) depth td S (by simpa only[runN]using h)
end
end Go.Ev
end
section
namespace Go.Ev
section
variable {c : Cfg} {R : Type}
theorem ID:∀(n:Nat) (K:List V→Option R),MQ n K=K (TZ n .bot)
 |0,_=>rfl
 |n+1,K=>by simp only[MQ,ID n,VR]
theorem uR:∀(args:List V) (n:Nat) (K:List V→Option R),G6 args n K=K (args++TZ (n - args.length) .bot)
 |[],n,K=>by simp[G6,ID]
 |v::r,n,K=>by
  simp only[G6,uR r,UA,Ua]
  congr 4
  omega
theorem JK {fn:Func} {f:FuncId} {osh:List OSh} {v0 v:V} {objs0 objs:List Ob} (h:finish c fn f osh v0 objs0=some (v,objs)) {rsh:List RSh} (hr:fZ c f fn=some rsh):
  jK rsh v=true∧iH osh objs=true∧(v=v0∨v=v0.cut)∧objs=bO objs0 osh.length osh (objs0.take osh.length)∧(∀i∈v.refs,i<osh.length)∧∀i∈lA objs,i<osh.length:=by
 unfold finish at h
 rw[hr]at h
 dsimp only at h
 generalize hg:(if c.rtip f=true then v0 else v0.cut)=v1 at h
 have hv:v1=v0∨v1=v0.cut:=by
  rw[←hg]
  split
  ·exact .inl rfl
  ·exact .inr rfl
 split at h
 ·rename_i hcnd
  simp only[TR,Ux,decide_eq_true_eq]at hcnd
  cases h
  exact⟨hcnd.1.1.1,hcnd.1.1.2,hv,rfl,hcnd.1.2,hcnd.2⟩
 ·cases h
theorem sL (objs:List Ob) (n:Nat) (cs:List V):bL objs n (cs.map CSh.of) cs=cs∧bL objs n ((cs.map CSh.of).map CSh.soft) cs=cs:=by
 induction cs with
 |nil=>exact⟨rfl,rfl⟩
 |cons v r ih=>simp only[UE,bL,(Cg n v).1,(Cg n v).2,ih.1,ih.2,and_self]
theorem qQ (objs:List Ob) (n:Nat):∀os:List Ob,bO objs n (os.map OSh.of) os=os∧bO objs n ((os.map OSh.of).map OSh.soft) os=os
 |[]=>⟨rfl,rfl⟩
 |o::os=>by
  obtain⟨h1,h2⟩:=qQ objs n os
  simp only[UE,bO,h1,h2]
  cases o<;>simp only[OSh.of,OSh.soft,Iq,(sL objs n _).1,(sL objs n _).2,and_self]
theorem D1 {f:FuncId} (n:Nat) (os objs:List Ob):bO objs n (c.osh f (os.map OSh.of)) os=os:=by
 unfold Cfg.osh
 split
 ·exact(qQ objs n os).2
 ·exact(qQ objs n os).1
theorem JL {args:List V} {cargs:List Value} {objs:List Ob} {w:World} {G:Gh} {μ:List Nat} (n:Nat) (hlen:cargs.length=args.length) (hinv:Inv c w G μ args cargs objs):
  Sim c (entry w G μ args cargs objs) w G μ (args++TZ (n - args.length) .bot) (cargs.toArray++VT (n - cargs.toArray.size) undef).toList objs:=by
 have hsim0:Sim c (entry w G μ args cargs objs) w G μ args cargs objs:=
  ⟨hinv,⟨TY _,iT.refl w G,fun _ _ _=>⟨rfl,rfl⟩,rfl,rfl,rfl⟩,fun b _ h=>h,[],by simp[entry]⟩
 have hz:∀(n:Nat) (us:List Value),aH aG (TZ n V.bot) us=[]:=by
  intro n
  induction n with
  |zero=>intro us;simp[aH]
  |succ n ih=>intro us;cases us with
   |nil=>simp[VR,aH]
   |cons u us=>simp[VR,aH,eS,ih]
 have hzz:aH aG (args++TZ (n - args.length) .bot) (cargs.toArray++VT (n - cargs.toArray.size) undef).toList=aH aG args cargs:=by
  simp only[Array.toList_append]
  rw[eJ aG _ _ _ _ hlen.symm,hz];simp
 refine⟨⟨by simp[hlen],fun i u x hu hx=>?_,hinv.olen,hinv.obs,fun b=>by rw[hzz];exact hinv.one b,fun l hl=>hinv.ok l (by rwa [hzz]at hl),hinv.mine,hinv.none,hinv.glob⟩,hsim0.stp,fun b hb hc' =>hsim0.own b hb (by rwa [hzz]at hc'),hsim0.pre⟩
 by_cases hi:i<args.length
 ·rw[TU hi]at hu
  have hx' :cargs[i]? =some x:=by
   simp only[Array.toList_append]at hx
   rw[TU (by simpa[hlen]using hi)]at hx
   simpa using hx
  exact hinv.rep i u x hu hx'
 ·rw[Ub (by omega)]at hu
  have:=Uu hu
  rw[List.mem_replicate]at this
  rw[this.2];exact .bot _
theorem Ar (hinl:∀f,c.inl f=false) {call:FuncId→Fun}:∀d:Nat,qP (aF (R:=R) c call d)
 |0=>fun f args objs K r h=>by simp[aF]at h
 |d+1=>fun f args objs K r h=>by
  unfold aF at h
  split at h
  ·cases h
  ·split at h
   ·cases h
   ·rw[uR]at h
    obtain⟨S',h1⟩:=Fl hinl (Ar hinl d) (fun _ _ h=>by cases h) _ _ _ h
    unfold DD at h1
    split at h1
    ·obtain⟨S2,h2,_⟩:=eY _ S' h1
     split at h2
     ·cases h2
     ·exact⟨_,_,h2⟩
     ·exact⟨_,_,h2⟩
    ·cases h1
theorem Co (hc:bA c) {call:FuncId→Fun} (hcall:∀f,bW c f (call f)):∀d:Nat,rL c (aF (R:=R) c call d)
 |0=>fun f args objs K r h=>by simp[aF]at h
 |d+1=>fun f args objs K r h w G μ cargs hlen hinv=>by
  unfold aF at h
  split at h
  ·cases h
  ·rename_i fn hfn
   refine⟨⟨fn,hfn⟩,?_⟩
   obtain⟨hf,hname,hbody⟩:=hc.fn f fn hfn
   split at h
   ·cases h
   ·rename_i code hb
    rw[uR]at h
    let b:Frame:={ (default:Frame)with fn:=f,kind:= .normal }
    let a0:Act:={ tmps:=cargs.toArray++VT (fn.ntmps - cargs.toArray.size) undef,defers:=[] }
    have henter:Frame.enter c.P f cargs.toArray .normal=b.at a0 [.code code]:=by
     simp[Frame.enter,Frame.at,hf,hb,b,a0]
    have hsim:=JL fn.ntmps hlen hinv
    have hol:μ.length=objs.length:=hinv.olen.symm
    let Φ:Act→World→Prop:=fun a' w' =>a'.defers=[]∧∃u v objs' G' μ',(results fn a'.tmps).run c.P w' = .ok u w'∧K v objs' =some r∧Sim c (entry w G μ args cargs objs) w' G' μ' [v] [u] objs'
    intro cs
    have runs:DY c.P b cs a0 [.code code] w Φ:=IB hc hcall (Co hc hcall d) (Φ:=Φ) (b:=b) (cs:=cs) (d:=[]) (E:=entry w G μ args cargs objs) (by simp[entry,hol]) (fun td S a w G μ h=>by cases h)
     (fun S a w' G' μ' hfi hS hd=>by
      obtain⟨v,u,G2,hk,hrun,hs⟩:=Iy hc hfi hS
      exact⟨hd,u,v,S.objs,G2,μ',hrun,hk,hs⟩) depth [.code code] ⟨_,objs⟩ a0 w G μ h hsim rfl
    obtain⟨a',w',todo',⟨hd,u,v,objs',G',μ',hr,hk,hs⟩,hst⟩:=runs
    rw[←henter]at hst
    exact⟨.returned u,w',_,⟨u,v,objs',G',μ',rfl,hk,hs⟩,hst,rfl,rfl,hd,rfl,fn,hf,hr⟩
theorem uS (hc:bA c) (hhand:∀f h,c.hand f=some h→∀call,(∀g,bW c g (call g))→bW c f (h call)):∀(k:Nat) (f:FuncId),bW c f (aA c k f)
 |0,f=>⟨fun args objs v objs' _ h=>(by cases h),fun fn rsh hfn hrsh args objs v objs' h=>(by cases h)⟩
 |k+1,f=>by
  cases hh:c.hand f with
  |some g=>
   have:aA c (k+1) f=g (aA c k):=by funext args objs;simp only[aA,hh]
   rw[this];exact hhand f g hh _ (uS hc hhand k)
  |none=>
   refine⟨fun args objs v objs' hro0 h=>?_,?_⟩
   ·simp only[aA,hh]at h
    split at h
    ·cases h
    ·rename_i fn hfn
     split at h
     ·cases h
     ·rename_i code hb
      rw[uR]at h
      have take:∀(S' :St),DD c fn (finish c fn f (c.osh f (objs.map OSh.of))) S' =some (v,objs')→objs' =bO S'.objs objs.length (c.osh f (objs.map OSh.of)) (S'.objs.take objs.length):=by
       intro S' h1
       unfold DD at h1
       have hfi:∃v0,finish c fn f (c.osh f (objs.map OSh.of)) v0 S'.objs=some (v,objs'):=by
        split at h1
        ·obtain⟨S2,h2,h3⟩:=eY _ S' h1
         rw[←h3]
         split at h2
         ·cases h2
         ·exact⟨_,h2⟩
         ·exact⟨_,h2⟩
        ·cases h1
       obtain⟨v0,hfi⟩:=hfi
       unfold finish at hfi
       split at hfi
       ·cases hfi
       ·dsimp only at hfi
        generalize(if c.rtip f=true then v0 else v0.cut)=v1 at hfi
        split at hfi
        ·cases hfi;simp[sY]
        ·cases hfi
      rcases hro0 with hro|⟨_,rfl⟩
      ·have hcode:=hc.ro f fn hro hfn code hb
       obtain⟨S',h1,h2⟩:=Fj hc.inl (TY objs.length) (k+1) [.code code] ⟨_,objs⟩ (fun x hx=>by simp at hx;subst hx;exact hcode) h
       rw[take S' h1,(h2 (TY _)).2,Wj,D1]
      ·obtain⟨S',h1⟩:=Fo hc.inl (Ar hc.inl 20) (k+1) [.code code] ⟨_,[]⟩ h
       rw[take S' h1]
       have e:∀l,bO S'.objs 0 l []=[]:=fun l=>by cases l<;>rfl
       simpa using e _
   intro fn rsh hfn hrsh args objs v objs' h w G μ cargs hlen hinv
   simp only[aA,hh,hfn]at h
   obtain⟨hf,hname,hbody⟩:=hc.fn f fn hfn
   cases hb:fn.body with
   |none=>simp[hb]at h
   |some code=>
    simp only[hb,uR]at h
    let b:Frame:={ (default:Frame)with fn:=f,kind:= .normal }
    let a0:Act:={ tmps:=cargs.toArray++VT (fn.ntmps - cargs.toArray.size) undef,defers:=[] }
    have henter:Frame.enter c.P f cargs.toArray .normal=b.at a0 [.code code]:=by
     simp[Frame.enter,Frame.at,hf,hb,b,a0]
    have hsim0:Sim c (entry w G μ args cargs objs) w G μ args cargs objs:=
     ⟨hinv,⟨TY _,iT.refl w G,fun _ _ _=>⟨rfl,rfl⟩,rfl,rfl,rfl⟩,fun b _ h=>h,[],by simp[entry]⟩
    have hsim:Sim c (entry w G μ args cargs objs) w G μ (args++TZ (fn.ntmps - args.length) .bot) a0.tmps.toList objs:=by
     have hz:∀(n:Nat) (us:List Value),aH aG (TZ n V.bot) us=[]:=by
      intro n
      induction n with
      |zero=>intro us;simp[aH]
      |succ n ih=>intro us;cases us with
       |nil=>simp[VR,aH]
       |cons u us=>simp[VR,aH,eS,ih]
     have hzz:aH aG (args++TZ (fn.ntmps - args.length) .bot) a0.tmps.toList=aH aG args cargs:=by
      simp only[a0,Array.toList_append]
      rw[eJ aG _ _ _ _ hlen.symm,hz];simp
     refine⟨⟨by simp[a0,hlen],fun i u x hu hx=>?_,hinv.olen,hinv.obs,fun b=>by rw[hzz];exact hinv.one b,fun l hl=>hinv.ok l (by rwa [hzz]at hl),hinv.mine,hinv.none,hinv.glob⟩,hsim0.stp,fun b hb hc' =>hsim0.own b hb (by rwa [hzz]at hc'),hsim0.pre⟩
     by_cases hi:i<args.length
     ·rw[TU hi]at hu
      have hx' :cargs[i]? =some x:=by
       simp only[a0,Array.toList_append]at hx
       rw[TU (by simpa[hlen]using hi)]at hx
       simpa using hx
      exact hinv.rep i u x hu hx'
     ·rw[Ub (by omega)]at hu
      have:=Uu hu
      rw[List.mem_replicate]at this
      rw[this.2];exact .bot _
    have hol:μ.length=objs.length:=hinv.olen.symm
    let Φ:Act→World→Prop:=fun a' w' =>a'.defers=[]∧jK rsh v=true∧iH (c.osh f (objs.map OSh.of)) objs' =true∧
     ∃u G',(results fn a'.tmps).run c.P w' = .ok u w'∧Sim c (entry w G μ args cargs objs) w' G' μ [v] [u] objs'
    have hfin:∀S a w' G' μ',DD c fn (finish c fn f (c.osh f (objs.map OSh.of))) S=some (v,objs')→cV c (entry w G μ args cargs objs) w' G' μ' S a→a.defers=[]→Φ a w' :=by
     intro S a w' G' μ' hf hS hd
     obtain⟨v0,u,G2,hfi,hrun,hs⟩:=Iy hc hf hS
     obtain⟨g1,g2,g3,g4,g5,g6⟩:=JK hfi hrsh
     rw[sY,Ui]at g4 g5 g6
     have hs' :Sim c (entry w G μ args cargs objs) w' G2 μ' [v] [u] S.objs:=by
      rcases g3 with rfl|rfl
      ·exact hs
      ·exact hs.reput 0 fun x hx=>by
        simp at hx;subst hx
        exact⟨(hs.inv.rep 0 v0 u rfl rfl).cut,bH _ _⟩
     obtain⟨G3,ht⟩:=hs'.close objs.length (by simp[entry,hol]) (c.osh f (objs.map OSh.of)) (fun i hi=>g5 i (by simpa[V.refsL]using hi)) (fun i hi=>g6 i (by rwa [g4]))
     obtain⟨ν,hν⟩:=hs.pre
     have hμ:μ'.take objs.length=μ:=by rw[hν];simp[entry,←hol]
     rw[hμ,←g4]at ht
     exact⟨hd,g1,g2,u,G3,hrun,ht⟩
    have runs:∀cs,DY c.P b cs a0 [.code code] w Φ:=fun cs=>
     IC hc (uS hc hhand k) (Co hc (uS hc hhand k) 20) (by simp[entry,hol]) hfin (k+1) [.code code] ⟨_,objs⟩ a0 w G μ h hsim rfl
    obtain⟨_,_,_,⟨_,g1,g2,_⟩,_⟩:=runs []
    refine⟨g1,g2,fun cs=>?_⟩
    obtain⟨a',w',todo',⟨hd,_,_,u,G',hr,hs⟩,hst⟩:=runs cs
    rw[←henter]at hst
    exact⟨.returned u,w',_,⟨u,G',rfl,hs⟩,hst,rfl,rfl,hd,rfl,fn,hf,hr⟩
end
end Go.Ev
end
section
namespace Go.Ev
def N8 (c:Cfg) (t:TypeId) (y:Ty):Bool:=
 (match c.P.info? t with
  |some i=>i.size==y.size&&i.bytes==y.bytes&&(!y.eq||i.comparable)&&(match i.zero with
   |some z=>fB c y.zero z.cells.toList&&(y.agg==(match z with| .agg _=>true|_=>false))
   |none=>false)
  |none=>false)&&
 y.zero.length==y.size&&(y.agg==pX y.d)&&
 (match y.d with
  | .struct fs=>fs.toList.all fun f=>(c.ty f.type).isSome
  | .array _ e=>(c.ty e).isSome
  |_=>true)&&
 (!y.eq|| !pX y.d||(!c.P.stoodInHeld t&& !c.P.eqGuardType c.P.depth t))
theorem aC {c:Cfg} {t:TypeId} {y:Ty} (hu:c.P.underlying t=some y.d) (h:N8 c t y=true):iM c t y:=by
 unfold N8 at h
 simp only[TR,beq_iff_eq]at h
 obtain⟨⟨⟨⟨h1,h2⟩,h3⟩,h4⟩,h5⟩:=h
 refine⟨hu,?_,h2,h3,fun fs hfs f hf=>?_,fun n e he=>?_,fun he ha=>?_,fun he=>?_⟩
 ·split at h1
  ·rename_i i hi
   simp only[TR,beq_iff_eq]at h1
   obtain⟨⟨⟨g1,g2⟩,_⟩,g3⟩:=h1
   split at g3
   ·rename_i z hz
    simp only[TR,beq_iff_eq]at g3
    refine⟨i,hi,g1,g2,z,hz,g3.1,?_⟩
    rw[g3.2]
    constructor
    ·intro h
     split at h
     ·exact⟨_,rfl⟩
     ·cases h
    ·rintro⟨l,rfl⟩;rfl
   ·cases g3
  ·cases h1
 ·rw[hfs]at h4
  simp only[Ux]at h4
  exact Vp.1 (h4 f (by simpa using hf))
 ·rw[he]at h4
  exact Vp.1 h4
 ·rw[he,ha]at h5
  simpa using h5
 ·split at h1
  ·rename_i i hi
   simp only[TR]at h1
   have:=h1.1.2
   rw[he]at this
   exact⟨i,hi,by simpa using this⟩
  ·cases h1
def allT {α:Type} (p:Nat→α→Prop) (l:List (Option α)):Nat→Prop
 |i=>match l with
  |[]=>True
  |none::r=>allT p r (i+1)
  |some x::r=>p i x∧allT p r (i+1)
theorem As {α:Type} {p:Nat→α→Prop}:∀(l:List (Option α)) (i k:Nat) (x:α),allT p l i→l.getD k none=some x→p (i+k) x
 |[],i,k,x,_,h=>by simp at h
 |none::r,i,0,x,_,h=>by simp at h
 |some y::r,i,0,x,hp,h=>by simp at h;subst h;exact hp.1
 |none::r,i,k+1,x,hp,h=>by
  have:=As r (i+1) k x hp (by simpa using h)
  rwa [show i+(k+1)=i+1+k by omega]
 |some y::r,i,k+1,x,hp,h=>by
  have:=As r (i+1) k x hp.2 (by simpa using h)
  rwa [show i+(k+1)=i+1+k by omega]
def Fp {α:Type} (p:Nat→α→Prop) (n:Nat):List (List (Option α))→Nat→Prop
 |[],_=>True
 |l::r,i=>l.length≤n∧allT p l (i*n)∧Fp p n r (i+1)
theorem Cp {α:Type} {p:Nat→α→Prop} {n:Nat}:∀(l:List (List (Option α))) (i q k:Nat) (x:α),Fp p n l i→(l.getD q []).getD k none=some x→p ((i+q)*n+k) x
 |[],i,q,k,x,_,h=>by simp at h
 |a::r,i,0,k,x,hp,h=>by
  have:=As a (i*n) k x hp.2.1 (by simpa using h)
  simpa using this
 |a::r,i,q+1,k,x,hp,h=>by
  have:=Cp r (i+1) q k x hp.2.2 (by simpa using h)
  rwa [show i+(q+1)=i+1+q by omega]
theorem Cq {α:Type} {p:Nat→α→Prop} {n:Nat} (hn:0<n) {l:List (List (Option α))} (h:Fp p n l 0) {t:Nat} {x:α} (ht:(l.getD (t / n) []).getD (t % n) none=some x):p t x:=by
 have:=Cp l 0 _ _ x h ht
 rw[UD,VN,Nat.div_add_mod]at this
 exact this
end Go.Ev
end
section
namespace Go.Ev
open Go.ChangeShapes Go.WideShapes
def kL (w:World):Gh:=fun b=>match w.heap[b]? with|some (.cells cs _ _)=>cs.size|_=>0
theorem Hz (w:World) (b:Nat) (h:w.heap.size≤b):kL w b=0:=by
 unfold kL;rw[Vk h]
theorem Au {w:World} {b off:Nat} {l:List Value} (h:∀j x,l[j]? =some x→w.cell? ⟨b,off+j,none⟩=some x):pO w (kL w) b off l:=by
 intro j x hx
 have hc:=h j x hx
 refine⟨hc,?_⟩
 unfold World.cell? at hc
 unfold kL
 split at hc
 ·rename_i cs e fr hb
  simp only at hb
  rw[hb]
  simp only at hc ⊢
  exact(TX.1 hc).1
 ·cases hc
structure Kept (W w' :World):Prop where
 size:W.heap.size≤w'.heap.size
 heap:∀b,b<W.heap.size→w'.heap[b]? =W.heap[b]?
 os:w'.os=W.os
 out:w'.output=W.output
theorem Kept.but {W w' :World} (h:Kept W w') (may:MemPlace→Prop):W.keptBut w' may:=by
 refine⟨h.os,h.out,fun i hi=>?_⟩
 rw[h.heap i hi]
 split
 ·rename_i h1 h2
  rw[h1]at h2;cases h2
  exact⟨rfl,rfl,rfl,fun _ _=>rfl⟩
 ·rename_i h1 h2
  rw[h1]at h2;cases h2
  exact .inr ⟨rfl,rfl⟩
 ·rfl
theorem Kept.frozen {W w' :World} (h:Kept W w') (a:Addr) (ha:a.block<W.heap.size):w'.frozen? a=W.frozen? a:=by
 unfold World.frozen?;rw[h.heap _ ha]
theorem Kept.cell {W w' :World} (h:Kept W w') (a:Addr) (x:Value) (ha:W.cell? a=some x):w'.cell? a=some x:=by
 have:=Kw ha
 unfold World.cell? at ha ⊢
 rw[h.heap _ this]
 exact ha
theorem tJ:∀(args:List V) (cargs:List Value),(∀v∈args,v.tips=false)→aH aG args cargs=[]
 |[],_,_=>by simp[aH]
 |_::_,[],_=>by simp[aH]
 |v::vs,x::xs,h=>by
  simp only[aH,bE x (h v (by simp)),tJ vs xs (fun u hu=>h u (by simp[hu])),UI]
theorem K5 {c:Cfg} (hc:bA c) (hhand:∀f h,c.hand f=some h→∀call,(∀g,bW c g (call g))→bW c f (h call)) {k:Nat} {f:FuncId} {args:List V} {b:Bool} (h:aA c k f args []=some (.bool b,[])) {fn:Func} {rsh:List RSh}
  (hfn:c.fn f=some fn) (hrsh:fZ c f fn=some rsh) {W:World} {cargs:List Value} (hlen:cargs.length=args.length)
  (hrep:∀(i:Nat) v x,args[i]? =some v→cargs[i]? =some x→Rep c W (kL W) [] v x) (htip:∀v∈args,v.tips=false)
  (hglob:∀g t,c.glob g=some t→pO W (kL W) g 0 t.vals:=by
   intro g t h
   replace h:(none:Option Dv)=some t:=h
   cases h):
  Calls c.P f cargs.toArray W fun e w' =>e= .returned (.bool b)∧Kept W w' :=by
 have hz:=tJ args cargs htip
 have hinv:Inv c W (kL W) [] args cargs []:=⟨by omega,hrep,rfl,fun i o b ho=>by simp at ho,fun b=>by rw[hz];simp[aM,cnt],fun l hl=>by rw[hz]at hl;simp[aM]at hl,fun b hb=>(by cases hb),Hz W,hglob⟩
 obtain⟨_,_,hcalls⟩:=(uS hc hhand k f).2 fn rsh hfn hrsh args [] (.bool b) [] h W (kL W) [] cargs hlen hinv
 refine hcalls.mono ?_
 rintro e w' ⟨u,G',rfl,hs⟩
 have hu:=mH (hs.inv.rep 0 _ _ rfl rfl) rfl
 subst hu
 refine⟨rfl,hs.stp.size,fun b hb=>(hs.stp.keep b hb ?_).1,hs.stp.os,hs.stp.out⟩
 show¬(0<_)
 rw[hz];simp[aM,cnt]
section
variable {H : Type} {enc : TypeId × Value → H} {P : Program}
theorem uT {f:Func} {s:ChangeSpec} {apart fresh handsOn again:Bool} {W W' :World} {args:Array Value} {v:Value} {ds gs:List (DataW H)} {before pa pv:List MemPlace}
  (hW:DataW.Whole enc P f.params.toList s.vars apart W args.toList ds gs before)
  (hres:∀(b:Nat) (sp:Nat→Bool) (hd:Bool),DataW.TrodAll enc P W' b sp hd f.resultTypes.toList (v.resultList f.resultTypes.size) (s.fn H (ds++gs)).results [])
  (hargs:∀sp:Nat→Bool,(∀p∈before,sp p.block=true)→DataW.TrodAll enc P W' 0 sp true f.params.toList args.toList (s.fn H (ds++gs)).args pa)
  (hvars:∀sp:Nat→Bool,(∀p∈before,sp p.block=true)→DataW.TrodVars enc P W' sp s.vars (s.fn H (ds++gs)).vars pv)
  (hps:before=pa++pv) (hk:Kept W W')
  (hok:∀(j:Nat) (t:TypeId) (r:Value),f.resultTypes[j]? =some t→(v.resultList f.resultTypes.size)[j]? =some r→Value.okWide P W' .any 0 t r):
  s.post enc P f apart fresh handsOn again W args v W' :=by
 have hlt:=hW.lt
 have hold:∀p∈before,(fun b=>decide (b<W.heap.size)) p.block=true:=fun p hp=>by simpa using hlt p hp
 refine⟨ds,gs,before,[],pa,pv,hW,hres _ _ _,hargs _ hold,hvars _ hold,World.keptBut_mono (fun p hp=>⟨hp,?_⟩) (hk.but (·∈before)),fun _=>?_⟩
 ·rw[hps,TV]at hp
  exact Or.inr hp
 ·obtain⟨_,_,_,_,_,hz,hn⟩:=hW
  refine⟨hok,_,_,([]++pa)++pv,⟨[]++pa,pv,trodAll_append (hargs _ (fun _ _=>rfl)) (hres _ _ _),hvars _ (fun _ _=>rfl),rfl,?_,?_⟩,?_⟩
  ·intro b off hp
   have hp' :MemPlace.cell b off∈before:=by rw[hps];simpa using hp
   rw[hk.frozen _ (hlt _ hp')]
   exact hz b off hp'
  ·intro ha
   have:=hn ha
   rw[hps]at this
   simpa using this
  ·intro p hp _
   rw[hps]
   simpa using hp
end
end Go.Ev
end
