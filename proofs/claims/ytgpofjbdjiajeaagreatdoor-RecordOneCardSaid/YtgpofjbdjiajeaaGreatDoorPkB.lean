/- Lemmas for the claim, merged: the plain reading of the program's functions, its soundness, and what they compute. -/
import Derived.Test.YtgpofjbdjiajeaaGreatDoorPkA
import Derived.WideKeyRuns
import Derived.Laws.Slices
import Derived.Laws.Unary
import Derived.Laws.Strings3
open List renaming all_eq_true→Ux,append_assoc→Ud,append_nil→UI,cons_append→UA,contains_eq_mem→VI,count_append→VK,count_cons→Vx,count_pos_iff→UQ,drop_eq_getElem_cons→UM,drop_eq_nil_of_le→UB,drop_succ_cons→V2,drop_zero→U7,eq_nil_of_length_eq_zero→Ue,ext_getElem?→UK,filterMap_append→Vd,filterMap_cons→VS,filter_eq_self→VC,flatMap_cons→U8,foldl_cons→V9,getD→Ul,getD_eq_getElem?_getD→Ur,getElem?_append_left→TU,getElem?_append_right→Ub,getElem?_cons_succ→Ve,getElem?_drop→UN,getElem?_eq_getElem→TP,getElem?_eq_none→Ut,getElem?_eq_some_iff→TQ,getElem?_map→UC,getElem?_set_ne→Uq,getElem?_set_self→Us,getElem?_take→Uw,getElem_mem→U3,isEmpty_iff→V4,length→US,length_append→Ug,length_cons→Ua,length_map→Ui,length_pos_iff→U6,length_take→Vo,map_append→V0,map_congr_left→VB,map_cons→UE,map_nil→VL,map_take→Wm,mem_append→TV,mem_cons→UH,mem_filterMap→VW,mem_map→Vy,mem_of_getElem?→Uu,mem_of_mem_drop→U1,mem_of_mem_take→U0,mem_or_eq_of_mem_set→V8,mem_singleton→Wl,nil_append→UV,nodup_cons→Wr,pairwise_append→VZ,pairwise_cons→VX,range→Vr,replicate→TZ,replicate_succ→VR,set_eq_of_length_le→We,size_toArray→Vj,take_add_one→VE,take_append_drop→U9,take_length→Wj,take_succ_cons→V1
open Int renaming toNat_natCast→TW
open Nat renaming add_assoc→Vf,add_zero→U2,eq_zero_or_pos→VH,le_of_not_lt→UZ,le_refl→TY,le_trans→Uy,lt_irrefl→Wg,lt_of_lt_of_le→Up,mod_eq_of_lt→Vz,zero_add→UD,zero_le→Wd
open Bool renaming and_eq_true→TR,false_eq_true→TL,false_or→VF,not_eq_true'→UX,not_true→UP,or_eq_true→Va
open Option renaming bind→TN,bind_assoc→Vu,bind_eq_some_iff→T0,getD_some→Vg,isSome_iff_exists→Vp,map_eq_some_iff→UG,map_none→UO,map_some→UF
open Array renaming ext'→Vl,getD_eq_getD_getElem?→Un,getElem?_eq_getElem→Uj,getElem?_eq_none→Vk,getElem?_eq_some_iff→TX,getElem?_modify→Vs,getElem?_setIfInBounds_ne→VU,length_toList→Vq,map→Ww,replicate→VT
open UInt8 renaming ofNat→Uo
open Go.IntKind renaming u8→UT
set_option linter.all false
set_option linter.unusedVariables false
set_option linter.unusedSimpArgs false
section
namespace Go.Ev
section
variable {c : Cfg} {E : Ent} {w w' : World} {G G' : Gh} {μ : List Nat} {R : Type}
theorem mG {t:TypeId} {fs:Array Field} (h:fieldsOf c t=some fs) (hc:bA c):∃y,c.ty t=some y∧y.d= .struct fs∧c.P.underlying t=some (.struct fs)∧∀f∈fs,∃y',c.ty f.type=some y' :=by
 unfold fieldsOf at h
 split at h
 ·rename_i hy
  cases h
  exact⟨_,hy,rfl,(hc.ty _ _ hy).und,(hc.ty _ _ hy).fields fs rfl⟩
 ·cases h
theorem eX {t e:TypeId} (h:elemOf c t=some e) (hc:bA c):c.P.underlying t=some (.slice e):=by
 unfold elemOf at h
 split at h
 ·rename_i hy;cases h;exact(hc.ty _ _ hy).und
 ·cases h
theorem vX {t e:TypeId} {m:Nat} (h:pS c t=some (m,e)) (hc:bA c):c.P.underlying t=some (.array m e):=by
 unfold pS at h
 split at h
 ·rename_i hy;cases h;exact(hc.ty _ _ hy).und
 ·cases h
theorem kV {t:TypeId} (h:jQ c t=true) (hc:bA c):c.P.underlying t=some .string:=by
 unfold jQ at h
 split at h
 ·rename_i hy;exact(hc.ty _ _ hy).und
 ·cases h
theorem dD {t:TypeId} (h:aE c t≠0):∃y,c.ty t=some y∧y.size=aE c t:=by
 unfold aE at h ⊢
 split at h
 ·exact⟨_,by assumption,by simp_all⟩
 ·exact absurd rfl h
theorem oM {t:TypeId} {off:Nat} {cs:List V} {v:V} (h:partV c t off cs=some v):∃y,c.ty t=some y:=by
 unfold partV at h
 split at h
 ·cases hy:c.ty t with
  |some y=>exact⟨y,rfl⟩
  |none=>simp[dZ,kD,aE,hy]at h
 ·cases h
theorem oN (hc:bA c) {t:TypeId} {off b o0:Nat} {cs:List V} {l:List Value} {v:V} (h:partV c t off cs=some v) (hl:l.length=cs.length) (hs:∀x∈l,single x=true)
  (hr:∀(i:Nat) v x,cs[i]? =some v→l[i]? =some x→Rep c w G μ v x) (hcell:∀(j:Nat) x,l[j]? =some x→w.cell? ⟨b,o0+j,none⟩=some x):
  ∃u y,c.ty t=some y∧(loadVar t ⟨b,o0+off,none⟩).run c.P w= .ok u w∧Rep c w G μ v u∧u.cells.toList=(l.drop off).take y.size∧off+y.size≤l.length∧
   (v.cells=(cs.drop off).take y.size)∧((∃q,u= .agg q∧∃q',v= .agg q')∨(single u=true∧y.size=1)):=by
 obtain⟨y,hy⟩:=oM h
 have hok:=hc.ty t y hy
 have hsz:aE c t=y.size:=by simp[aE,hy]
 obtain⟨u,hu,hru,hcl,hle,hag,hna⟩:=gW hc h hl hs hr hy
 have hv:v.cells=(cs.drop off).take y.size∧(y.agg=true→∃q',v= .agg q')∧(y.agg=false→y.size=1):=by
  unfold partV at h
  split at h
  ·rename_i hle'
   rw[hsz]at h hle'
   unfold dZ at h
   have hagT:kD c t=y.agg:=by simp[kD,hy]
   rw[hagT]at h
   split at h
   ·rename_i ha;cases h;exact⟨rfl,fun _=>⟨_,rfl⟩,fun h=>by rw[ha]at h;cases h⟩
   ·rename_i ha
    split at h
    ·rename_i x hx
     cases h
     have hlen:=congrArg US hx
     simp at hlen
     have h1:y.size=1:=by omega
     refine⟨?_,fun h=>absurd h ha,fun _=>h1⟩
     rw[hx]
     have hrx:=hru
     by_cases hxa:∃q,v= .agg q
     ·obtain⟨q,rfl⟩:=hxa
      have:=hna (by simpa using ha)
      cases hrx;simp[single]at this
     ·cases v<;>first|rfl|exact absurd ⟨_,rfl⟩ hxa
    ·cases h
  ·cases h
 refine⟨u,y,hy,?_,hru,hcl,hle,hv.1,?_⟩
 ·simp only[loadVar,Sem.run_bind,hok.isAgg,Result.andThen_ok,Sem.run_ite]
  cases hagg:y.agg with
  |true=>
   obtain⟨q,rfl⟩:=hag hagg
   have hq:q.toList=(l.drop off).take y.size:=by simpa[Value.cells]using hcl
   have hrun:=run_loadCells_list (P:=c.P) w ⟨b,o0+off,none⟩ ((l.drop off).take y.size) (fun j x hj=>by
    rw[Addr.add_lit]
    rw[Uw]at hj
    split at hj
    ·rw[UN]at hj
     have:=hcell (off+j) x hj
     rwa [←Vf]at this
    ·cases hj)
   have hlen:((l.drop off).take y.size).length=y.size:=by simp;omega
   rw[hlen]at hrun
   simp only[if_true,Sem.run_bind,hok.sizeOf,Result.andThen_ok,hrun,Sem.run_pure,←hq,Array.toArray_toList]
  |false=>
   have hsu:=hna hagg
   have h1:=hv.2.2 hagg
   rw[eE hsu,h1]at hcl
   have hget:l[off]? =some u:=by
    have:=congrArg (fun z:List Value=>z[0]?) hcl
    simp only[Uw,UN]at this
    simpa using this.symm
   simp only[TL,if_false,run_load,hcell off u hget]
 ·cases hagg:y.agg with
  |true=>
   obtain⟨q,hq⟩:=hag hagg
   exact .inl ⟨q,hq,hv.2.1 hagg⟩
  |false=>exact .inr ⟨hna hagg,hv.2.2 hagg⟩
theorem oO:∀(off n:Nat) (cs:List V),(cutAt off n cs).length=cs.length
 |0,0,cs=>by simp[cutAt]
 |0,n+1,[]=>rfl
 |0,n+1,x::cs=>by simp[cutAt,oO 0 n cs]
 |o+1,n,[]=>by cases n<;>rfl
 |o+1,n,x::cs=>by cases n<;>simp[cutAt,oO o _ cs]
theorem vY:∀(off n:Nat) (cs:List V) (l:List Value),(∀(i:Nat) v x,cs[i]? =some v→l[i]? =some x→Rep c w G μ v x)→
  ∀(i:Nat) v x,(cutAt off n cs)[i]? =some v→l[i]? =some x→Rep c w G μ v x
 |0,0,cs,l,h,i,v,x,hv,hx=>by simp only[cutAt]at hv;exact h i v x hv hx
 |0,n+1,[],l,h,i,v,x,hv,hx=>by simp[cutAt]at hv
 |0,n+1,y::cs,[],h,i,v,x,hv,hx=>by simp at hx
 |0,n+1,y::cs,Y::l,h,i,v,x,hv,hx=>by
  cases i with
  |zero=>simp[cutAt]at hv hx;subst hv;subst hx;exact(h 0 _ _ rfl rfl).cut1
  |succ i=>
   simp only[cutAt,Ve]at hv hx
   exact vY 0 n cs l (fun i v x hv hx=>h (i+1) v x (by simpa using hv) (by simpa using hx)) i v x hv hx
 |o+1,n,[],l,h,i,v,x,hv,hx=>by cases n<;>simp[cutAt]at hv
 |o+1,n,y::cs,[],h,i,v,x,hv,hx=>by simp at hx
 |o+1,n,y::cs,Y::l,h,i,v,x,hv,hx=>by
  have e:cutAt (o+1) n (y::cs)=y::cutAt o n cs:=by cases n<;>rfl
  rw[e]at hv
  cases i with
  |zero=>simp at hv hx;subst hv;subst hx;exact h 0 _ _ rfl rfl
  |succ i=>
   simp only[Ve]at hv hx
   exact vY o n cs l (fun i v x hv hx=>h (i+1) v x (by simpa using hv) (by simpa using hx)) i v x hv hx
theorem vZ (q:Nat):∀(off n:Nat) (cs:List V) (l:List Value),off+n≤cs.length→cs.length=l.length→
  cnt q (aH aS (cutAt off n cs) l)+cnt q (aH aS ((cs.drop off).take n) ((l.drop off).take n))≤cnt q (aH aS cs l)
 |0,0,cs,l,_,_=>by simp[cutAt,aH,cnt]
 |0,n+1,[],l,h,_=>by simp at h
 |0,n+1,y::cs,[],_,h=>by simp at h
 |0,n+1,y::cs,Y::l,h,h' =>by
  have:=vZ q 0 n cs l (by simpa using h) (by simpa using h')
  simp only[U7]at this
  simp only[cutAt,U7,V1,aH,aK,lE,uG]
  omega
 |o+1,n,[],l,h,_=>by simp at h
 |o+1,n,y::cs,[],_,h=>by simp at h
 |o+1,n,y::cs,Y::l,h,h' =>by
  have:=vZ q o n cs l (by simp at h;omega) (by simpa using h')
  have e:cutAt (o+1) n (y::cs)=y::cutAt o n cs:=by cases n<;>rfl
  simp only[e,V2,aH,aK]
  omega
theorem wA {q:eC}:∀(off n:Nat) (cs:List V) (l:List Value),q∈aH aS (cutAt off n cs) l→q∈aH aS cs l
 |0,0,cs,l,h=>by simpa[cutAt]using h
 |0,n+1,[],l,h=>by simp[cutAt,aH]at h
 |0,n+1,y::cs,[],h=>by simp[aH]at h
 |0,n+1,y::cs,Y::l,h=>by
  simp only[cutAt,aH,lE,UV,TV]at h ⊢
  exact .inr (wA 0 n cs l h)
 |o+1,n,[],l,h=>by cases n<;>simp[cutAt,aH]at h
 |o+1,n,y::cs,[],h=>by simp[aH]at h
 |o+1,n,y::cs,Y::l,h=>by
  have e:cutAt (o+1) n (y::cs)=y::cutAt o n cs:=by cases n<;>rfl
  simp only[e,aH,TV]at h ⊢
  exact h.imp id (wA o n cs l)
theorem BK {q:eC}:∀(off n:Nat) (cs:List V) (l:List Value),q∈aH aS ((cs.drop off).take n) ((l.drop off).take n)→q∈aH aS cs l:=by
 intro off n cs l h
 refine mV aS off cs l ?_
 generalize cs.drop off=cs at*
 generalize l.drop off=l at*
 induction n generalizing cs l with
 |zero=>simp[aH]at h
 |succ n ih=>
  cases cs with
  |nil=>simp[aH]at h
  |cons y cs=>cases l with
   |nil=>simp[aH]at h
   |cons Y l=>
    simp only[V1,aH,TV]at h ⊢
    exact h.imp id (ih cs l)
theorem Jr {off n:Nat} {cs:List V} {elem:TypeId} (h:EE c cs elem):EE c (cutAt off n cs) elem:=by
 intro i o ho
 refine h i o ?_
 cases off with
 |succ off=>cases cs with
  |nil=>simp[cutAt]at ho
  |cons a r=>simpa[cutAt]using ho
 |zero=>cases n with
  |zero=>simpa[cutAt]using ho
  |succ n=>cases cs with
   |nil=>simp[cutAt]at ho
   |cons a r=>
    simp only[cutAt,List.head?_cons,Option.some.injEq]at ho ⊢
    cases a<;>simp_all [V.cut1]
theorem Sim.takeOb {env:List V} {tmps:List Value} {objs:List Ob} (h:Sim c E w G μ env tmps objs) {i b off n:Nat} {cs:List V} {v:V} {u:Value} {l:List Value} (ho:objs[i]? =some (.cells cs)) (hb:μ[i]? =some b)
  (hcat:cC w b=l) (hll:l.length=cs.length) (hle:off+n≤cs.length) (hr:Rep c w G μ v u) (hvc:v.cells=(cs.drop off).take n) (huc:u.cells.toList=(l.drop off).take n)
  (hlf:aH aS v.cells u.cells.toList=aG v u):Sim c E w G μ (v::env) (u::tmps) (objs.set i (.cells (cutAt off n cs))):=by
 have hzz:aH aG (v::env) (u::tmps)=aG v u++aH aG env tmps:=rfl
 obtain⟨l',elem,fr,h1,h2,h3,h4,h5,h6⟩:=h.inv.obs i _ b ho hb
 have hl' :l' =l:=by rw[←hcat];unfold cC;rw[h1]
 subst hl'
 refine h.reob (w' :=w) (o' := .cells (cutAt off n cs)) ho hb (fun _ _=>rfl) rfl rfl rfl rfl (by simpa using h.inv.len) (fun j p y hp hy=>?_) ?_ (fun q=>?_) (fun q hq=>?_)
 ·cases j with
  |zero=>simp at hp hy;subst hp;subst hy;exact hr
  |succ j=>exact h.inv.rep j p y (by simpa using hp) (by simpa using hy)
 ·exact⟨l',elem,fr,h1,h2,by rw[h3,oO],h4,vY off n cs l' h5,Jr h6⟩
 ·simp only[bF,hcat,hzz,aK]
  have:=vZ q off n cs l' hle hll.symm
  rw[←hvc,←huc,hlf]at this
  omega
 ·simp only[bF,hcat,hzz,TV]at hq ⊢
  rcases hq with(hq|hq)|hq
  ·rw[←hlf,hvc,huc]at hq
   exact .inr (BK off n cs l' hq)
  ·exact .inl hq
  ·exact .inr (wA off n cs l' hq)
theorem St.ob_get {S:St} {i:Nat} {cs:List V} (h:S.ob i= .cells cs):S.objs[i]? =some (.cells cs):=by
 unfold St.ob at h
 simp only[Ul]at h
 cases hi:S.objs[i]? with
 |none=>simp[hi]at h
 |some o=>simp[hi]at h;rw[h]
theorem μ_get {S:St} {a:Act} (h:cV c E w G μ S a) {i:Nat} {o:Ob} (ho:S.objs[i]? =some o):∃b,μ[i]? =some b:=by
 have h1:=(TQ.1 ho).1
 rw[h.inv.olen]at h1
 exact⟨_,TP h1⟩
theorem bS {v:V} {x:Value} {k:IntKind} {n:Int} (h:Rep c w G μ v x) (hv:v= .int k n):x= .int k n:=by subst hv;cases h;rfl
theorem mH {v:V} {x:Value} {b:Bool} (h:Rep c w G μ v x) (hv:v= .bool b):x= .bool b:=by subst hv;cases h;rfl
theorem lG {v:V} {x:Value} {s:List UInt8} (h:Rep c w G μ v x) (hv:v= .str s):x= .string ⟨s.toArray⟩:=by subst hv;cases h;rfl
theorem Js {e:TypeId} (hc:bA c) (h:isByte c e=true) {v:V} (hv:cI c e v=true):∃n,v= .int .u8 n:=by
 unfold isByte at h
 split at h
 ·rename_i d size bytes agg zero eq hy
  have hag:agg=false:=by have:=(hc.ty _ _ hy).agg;simpa[pX]using this
  subst hag
  simp only[cI,hy,RSh.fits,TL,if_false,dB,TR]at hv
  have hv:=hv.1
  cases v with
  |int k n=>
   have:UT=k:=eq_of_beq hv
   subst this;exact⟨n,rfl⟩
  |_=>simp[CSh.fits]at hv
 ·cases h
theorem bytes_foldl:∀(ns:List Int) (s:ByteArray),ns.foldl (fun r n=>r.push (Uo n.toNat)) s=⟨(s.data.toList++ns.map fun n=>Uo n.toNat).toArray⟩
 |[],s=>by simp
 |n::ns,s=>by
  rw[V9,bytes_foldl ns]
  congr 1
  simp[ByteArray.push]
theorem Jt (hc:bA c) {e:TypeId} (he:isByte c e=true) {tp:Bool} {xs:List V} {X:Value} (h:Rep c w G μ (.lst e tp xs) X):
  (Conv.bytesToString X).run c.P w= .ok (.string ⟨(bytesOf xs).toArray⟩) w∧∃a n m,X= .slice a n m:=by
 cases h with
 |lst _ _ _ a m l hl hr hf hs hz hcap ha hrow=>
 refine⟨?_,_,_,_,rfl⟩
 have hl2:l=(xs.map V.getI).map (Value.int .u8):=by
  apply UK
  intro i
  by_cases hi:i<xs.length
  ·obtain⟨n,hn⟩:=Js hc he (hf xs[i] (U3 hi))
   have hrx:=hr i xs[i] l[i] (TP hi) (TP (by omega))
   have:=bS hrx hn
   rw[TP (show i<l.length by omega),this]
   simp[TP hi,hn,V.getI]
  ·rw[Ut (by omega),Ut (by simp;omega)]
 have hfl:flat l=l:=by
  rw[hl2]
  generalize xs.map V.getI=ns
  induction ns with
  |nil=>rfl
  |cons n ns ih=>simp only[flat,UE,U8,Value.cells]at ih ⊢;rw[ih];rfl
 have hres:(xs.map V.getI).foldl (fun r n=>r.push (Uo n.toNat)) ByteArray.empty=⟨(bytesOf xs).toArray⟩:=by
  rw[bytes_foldl]
  show(⟨([]++_).toArray⟩:ByteArray)=_
  simp[bytesOf,Function.comp_def]
 cases a with
 |none=>
  have:=ha.1 rfl
  have h0:xs=[]:=Ue (by omega)
  subst h0
  rfl
 |some p=>
  rw[←hres]
  refine run_bytesToString w p xs.length m _ ?_
  by_cases hne:xs=[]
  ·subst hne;simp[loadCells,loadCellsFrom]
  ·obtain⟨hsp,hrw⟩:=hrow p rfl hne
   obtain⟨pb,po,ps⟩:=p
   simp only at hsp;subst hsp
   rw[hfl]at hrw
   have:=run_loadCells_list (P:=c.P) w ⟨pb,po,none⟩ l (fun j v hj=>by rw[Addr.add_lit];exact(hrw j v hj).1)
   rw[hl]at this
   rw[this,hl2]
theorem Hd {v:V} {u:Value} (hr:Rep c w G μ v u) (h:(∃q,u= .agg q∧∃q',v= .agg q')∨(single u=true∧∃z,v.cells=[z])):aH aS v.cells u.cells.toList=aG v u:=by
 rcases h with⟨q,rfl,q',rfl⟩|⟨hs,z,hz⟩
 ·simp[aG,bK,V.cells,Value.cells]
 ·rw[eE hs,hz]
  simp only[aH,UI]
  by_cases ha:∃cs,v= .agg cs
  ·obtain⟨cs,rfl⟩:=ha
   cases hr;simp[single]at hs
  ·have:z=v:=by
    have hvc:v.cells=[v]:=by cases v<;>first|rfl|exact absurd ⟨_,rfl⟩ ha
    rw[hvc]at hz;simpa using hz.symm
   subst this
   by_cases ht:∃cs,z= .tup cs
   ·obtain⟨cs,rfl⟩:=ht
    cases hr;simp[single]at hs
   ·cases z<;>first|exact absurd ⟨_,rfl⟩ ha|exact absurd ⟨_,rfl⟩ ht|skip
    all_goals (cases u<;>rfl)
theorem mX {v:V} {x:Value} {i off:Nat} (h:Rep c w G μ v x) (hv:v= .ref i off):∃b,μ[i]? =some b∧x= .pointer (some ⟨b,off,none⟩):=by
 subst hv;cases h with|ref _ _ b hb=>exact⟨b,hb,rfl⟩
theorem DG {v:V} {x:Value} {cs:List V} (h:Rep c w G μ v x) (hv:v= .cpt cs):∃b off l,x= .pointer (some ⟨b,off,none⟩)∧l.length=cs.length∧(∀y∈l,single y=true)∧
  (∀(i:Nat) v x,cs[i]? =some v→l[i]? =some x→Rep c w G [] v x)∧pO w G b off l:=by
 subst hv;cases h with|cpt _ b off l hl hs hr hrow=>exact⟨b,off,l,rfl,hl,hs,hr,hrow⟩
theorem wB {v:V} {x:Value} {cs:List V} (h:Rep c w G μ v x) (hv:v= .agg cs):∃l:List Value,x= .agg l.toArray∧l.length=cs.length∧(∀y∈l,single y=true)∧
  (∀(i:Nat) v x,cs[i]? =some v→l[i]? =some x→Rep c w G μ v x):=by
 subst hv;cases h with|agg _ l hl hs hr=>exact⟨l,rfl,hl,hs,hr⟩
theorem OX {v:V} {x:Value} {cs:List V} (h:Rep c w G μ v x) (hv:v= .tup cs):∃l:List Value,x= .tuple l.toArray∧l.length=cs.length∧
  (∀(i:Nat) v x,cs[i]? =some v→l[i]? =some x→Rep c w G μ v x):=by
 subst hv;cases h with|tup _ l hl hr=>exact⟨l,rfl,hl,hr⟩
theorem oP {v:V} {x:Value} {e:TypeId} {t:Bool} {xs:List V} (h:Rep c w G μ v x) (hv:v= .lst e t xs):∃(a:Option Addr) (m:Nat) (l:List Value),x= .slice a xs.length m∧l.length=xs.length∧
  (∀(i:Nat) v x,xs[i]? =some v→l[i]? =some x→Rep c w G [] v x)∧(∀v∈xs,cI c e v=true)∧(∀x∈l,x.cells.size=aE c e)∧0<aE c e∧xs.length≤m∧((a=none→m=0)∧∀p,a=some p→p.block<w.heap.size)∧
  (∀p,a=some p→xs≠[]→p.spot=none∧pO w G p.block p.off (flat l)):=by
 subst hv;cases h with|lst _ _ _ a m l hl hr hf hs hz hc ha hrow=>exact⟨a,m,l,rfl,hl,hr,hf,hs,hz,hc,ha,hrow⟩
theorem wC (hc:bA c) {e:TypeId} {y:Ty} (hy:c.ty e=some y):∀(n:Nat) (cs:List V) (l:List Value) (xs:List V),iI c e n cs=some xs→l.length=cs.length→(∀x∈l,single x=true)→
  (∀(i:Nat) v x,cs[i]? =some v→l[i]? =some x→Rep c w G μ v x)→
  ∃L:List Value,L.length=xs.length∧xs.length=n∧(∀(i:Nat) v x,xs[i]? =some v→L[i]? =some x→Rep c w G μ v x)∧(∀x∈L,x.cells.size=y.size)∧flat L=l
 |0,cs,l,xs,h,hl,_,_=>by
  cases cs with
  |nil=>
   simp[iI]at h;subst h
   have:l=[]:=Ue (by simpa using hl)
   subst this
   exact⟨[],rfl,rfl,by simp,by simp,rfl⟩
  |cons a b=>simp[iI]at h
 |n+1,cs,l,xs,h,hl,hs,hr=>by
  simp only[iI]at h
  split at h
  ·rename_i v r hv hrr
   cases h
   have hsz:aE c e=y.size:=by simp[aE,hy]
   obtain⟨u,_,hru,hcl,hle,_⟩:=gW hc hv hl hs hr hy
   simp only[U7,UD]at hcl hle
   rw[hsz]at hrr
   obtain⟨L,g1,g2,g3,g4,g5⟩:=wC hc hy n (cs.drop y.size) (l.drop y.size) r hrr (by simp[hl]) (fun x hx=>hs x (U1 hx)) (fun i p q hp hq=>by
    rw[UN]at hp hq;exact hr _ p q hp hq)
   refine⟨u::L,by simp[g1],by simp[g2],fun i p q hp hq=>?_,fun q hq=>?_,?_⟩
   ·cases i with
    |zero=>simp at hp hq;subst hp;subst hq;exact hru
    |succ i=>exact g3 i p q (by simpa using hp) (by simpa using hq)
   ·rcases UH.1 hq with rfl|hq
    ·have:=congrArg US hcl
     simp at this;omega
    ·exact g4 q hq
   ·simp only[flat,U8]at g5 ⊢
    rw[g5,hcl,U9]
  ·cases h
theorem iU {α:Type} [Inhabited α] (n:Nat) (l:List α):(TZ n l).flatten=(Vr (n*l.length)).map fun i=>l[i % l.length]! :=by
 by_cases h0:l.length=0
 ·have:l=[]:=Ue h0
  subst this;simp
 induction n with
 |zero=>simp
 |succ n ih=>
  rw[List.replicate_succ',List.flatten_append,ih,List.flatten_cons,List.flatten_nil,UI,Nat.succ_mul,List.range_add,V0]
  congr 1
  apply UK
  intro i
  by_cases hi:i<l.length
  ·simp[TP hi,hi,Vz hi]
  ·rw[Ut (by omega),Ut (by simp;omega)]
theorem zM (hc:bA c) {e:TypeId} {y:Ty} (hy:c.ty e=some y) (w:World) (G:Gh) (μ:List Nat) (n:Nat) {z:Value} (hzf:fB c y.zero z.cells.toList=true):
  let CS:=(TZ n z.cells.toList).flatten
  let cs:=(TZ n (y.zero.map V.cut1)).flatten
  CS.length=cs.length∧(∀x∈CS,single x=true)∧(∀(i:Nat) v x,cs[i]? =some v→CS[i]? =some x→Rep c w G μ v x)∧aH aS cs CS=[]:=by
 obtain⟨g1,g2,g3,g4⟩:=eF y.zero z.cells.toList hzf w G μ
 induction n with
 |zero=>simp[aH]
 |succ n ih=>
  obtain⟨i1,i2,i3,i4⟩:=ih
  simp only[VR,List.flatten_cons]
  refine⟨by simp only[Ug,Ui,g1,i1],fun x hx=>?_,fun i v x hv hx=>?_,?_⟩
  ·rw[TV]at hx;exact hx.elim (g2 x) (i2 x)
  ·by_cases hi:i<y.zero.length
   ·rw[TU (by simpa using hi)]at hv
    rw[TU (by omega)]at hx
    obtain⟨v0,hv0,rfl⟩:=bQ hv
    exact(g3 i v0 x hv0 hx).cut1
   ·rw[Ub (by simp;omega)]at hv
    rw[Ub (by omega)]at hx
    simp only[Ui]at hv
    rw[g1]at hx
    exact i3 _ v x hv hx
  ·rw[eJ aS _ _ _ _ (by simp[g1]),i4,pW aS V.cut1 lE];rfl
theorem BL (hc:bA c) {S:St} {a:Act} (hS:cV c E w G μ S a) {t e:TypeId} (he:elemOf c t=some e) {n:Nat} {parts:Array (Nat×Operand)} {xs:List V}
  (hxs:(kZ c e n (parts.toList.map fun p=>(p.1,(opd c S e p.2).cut))).bind (iI c e n)=some xs)
  (hall:∀x∈xs,cI c e x=true) (href:V.refsL xs=[]) (hsmall:n*aE c e≤16777216) (hz0:0<aE c e)
  {K:V→St→Option R} {r:R} (hk:K (.lst e true xs) S=some r) {o:Oper} (ho:o.op= .buildSlice t n parts):
  ∃u w',(execOp a.eval o).run c.P w= .ok (.value u) w'∧EH c E K r a.tmps.toList u w' :=by
 obtain⟨y,hy,hysz⟩:=dD (c:=c) (t:=e) (by omega)
 have hok:=hc.ty e y hy
 have hund:=eX he hc
 obtain⟨cells,hcells,hch⟩:=T0.1 hxs
 unfold kZ at hcells
 rw[hy]at hcells
 simp only at hcells
 obtain⟨z,hz,hzf,hza⟩:=hok.zero w
 obtain⟨g1,g2,g3,g4⟩:=zM hc hy w G μ n hzf
 have hzl:z.cells.toList.length=y.size:=by rw[(eF y.zero _ hzf w G μ).1,hok.size]
 generalize hps:(parts.toList.map fun p=>(p.1,(opd c S e p.2).cut))=ps at hcells
 have hpp:∀(i:Nat) p q,ps[i]? =some p→((parts.map fun(i,x)=>(i,a.eval x)).toList)[i]? =some q→p.1=q.1∧Rep c w G μ p.2 q.2:=by
  intro i p q hp hq
  rw[←hps]at hp
  obtain⟨p0,h0,rfl⟩:=bQ hp
  simp only[Array.toList_map]at hq
  obtain⟨q0,h1,rfl⟩:=bQ hq
  rw[h0]at h1;cases h1
  exact⟨rfl,(aT hS _ _).cut⟩
 have hpl:ps.length=(parts.map fun(i,x)=>(i,a.eval x)).toList.length:=by rw[←hps];simp
 obtain⟨CS',f1,f2,f3,f4,f5⟩:=zC (c:=c) (w:=w) (G:=G) (μ:=μ) _ ps _ _ cells (TZ n z.cells.toList).flatten.toArray hpl hpp (by simpa using g1) (by simpa using g2) (by simpa using g3) hcells
 obtain⟨L,l1,l2,l3,l4,l5⟩:=wC hc hy n cells CS'.toList xs hch f2 f3 f4
 have hinit:(Array.range (n*y.size)).map (fun i=>z.cells[i % z.cells.size]!)=(TZ n z.cells.toList).flatten.toArray:=by
  apply Vl
  rw[iU]
  simp only[Array.toList_map,Array.toList_range,hzl,List.toList_toArray]
  have hzs:z.cells.size=y.size:=by simpa using hzl
  simp only[hzs]
  apply VB
  intro i _
  simp only[List.getElem!_eq_getElem?_getD,Array.getElem!_eq_getD,Un,Array.getElem?_toList]
 have hpos:0<y.size:=by omega
 have hnot:¬(n*y.size>2 ^ 24):=by rw[hysz];omega
 have hrun:(execOp a.eval o).run c.P w= .ok (.value (.slice (some ⟨w.heap.size,0,none⟩) n n)) (w.alloc (.cells CS' e)):=by
  rw[←hysz]at f1
  have hzr:(if n*y.size=0 then(Pure.pure #[]:Sem (Array Value))else do Pure.pure (←zeroValue e).cells).run c.P w= .ok (if n*y.size=0 then #[]else z.cells) w:=by
   split<;>simp[hz]
  have hinit2:(Array.range (n*y.size)).map (fun i=>(if n*y.size=0 then #[]else z.cells)[i % (if n*y.size=0 then #[]else z.cells).size]!)=(TZ n z.cells.toList).flatten.toArray:=by
   rw[←hinit]
   by_cases h0:n*y.size=0
   ·rw[h0]
    apply Array.ext
    ·simp
    ·intro i h1 h2;simp at h1
   ·simp only[if_neg h0]
  simp only[execOp,ho,Instr.buildSlice,Sem.run_bind,run_underlying hund,Result.andThen_ok,hok.sizeOf,Sem.run_ite,if_neg hnot,Sem.run_pure]
  simp only[Sem.run_ite,Sem.run_bind,hz,Result.andThen_ok,Sem.run_pure]at hzr ⊢
  split
  ·rename_i h0
   rw[if_pos h0]at hinit2
   simp only[Result.andThen_ok,hinit2,f1,Sem.run_bind,newRow,run_newObj,Sem.run_pure]
   rfl
  ·rename_i h0
   rw[if_neg h0]at hinit2
   simp only[Result.andThen_ok,hinit2,f1,Sem.run_bind,newRow,run_newObj,Sem.run_pure]
   rfl
 have hx:=eH.of_alloc (w:=w) (G:=G) hS.inv.none (.cells CS' e) (flat L).length
 have hseal:=hx.sealed hS.inv.none
 have hfl:(flat L).length=xs.length*aE c e:=by rw[flat_length L l4,l1,hysz]
 have hnr:∀(i:Nat) v,xs[i]? =some v→v.refs=[]:=by
  intro i v hv
  refine List.eq_nil_iff_forall_not_mem.2 fun k hk=>?_
  have:∀(cs:List V) (i:Nat),cs[i]? =some v→k∈V.refsL cs:=by
   intro cs
   induction cs with
   |nil=>intro i h;simp at h
   |cons b cs ih=>
    intro i h
    simp only[V.refsL,TV]
    cases i with
    |zero=>simp at h;subst h;exact .inl hk
    |succ i=>exact .inr (ih i (by simpa using h))
  have:=this xs i hv
  rw[href]at this;cases this
 have hs:=hS.newList hx (e:=e) (t:=true) (xs:=xs) (l:=L) (cap:=n) (cs:=CS') (fr:=(0,0))
  (by show(w.heap.push _)[w.heap.size]? =_;simp) (by simp) (fun j q hq=>by rw[l5]at hq;simpa using hq) l1
  (fun i v x hv hxx=>((l3 i v x hv hxx).mono hseal).more fun k b hk _=>by rw[hnr i v hv]at hk;cases hk)
  hall (fun q hq=>by rw[l4 q hq,hysz]) hz0 (by omega) (by
   have h9:=congrArg US l5
   rw[hfl,l2]at h9
   simpa using Nat.le_of_eq h9) (.inl rfl) hfl
 rw[l2]at hs
 exact⟨_,_,hrun,_,S,_,μ,hk,hs⟩
theorem BM {w:World} {t e:TypeId} {y:Ty} (hok:iM c e y) {z:Value} (hz:(zeroValue e).run c.P w= .ok z w) (hzs:z.cells.size=y.size) (hund:c.P.underlying t=some (.slice e)) (n:Nat) (h0:0<y.size) (hb:n* (y.bytes+1)≤70368744177664) (k k' :IntKind):
  (Instr.makeSlice t (.int k n) (.int k' n)).run c.P w= .ok (.slice (some ⟨w.heap.size,0,none⟩) n n) (w.alloc (.cells (TZ n z.cells.toList).flatten.toArray e)):=by
 obtain⟨i,hi,hisz,hib,_⟩:=hok.info
 have hmul:n* (y.bytes+1)=n*y.bytes+n:=by rw[Nat.mul_add,Nat.mul_one]
 have wn:IntKind.i64.wrap (n:Int)=n:=by rw[IntKind.wrap_i64];omega
 have hbi:((y.bytes:Int)* (n:Int))≤70368744177664:=by
  have:((n*y.bytes:Nat):Int)≤70368744177664:=by omega
  rwa [Int.natCast_mul,Int.mul_comm]at this
 have n1:¬(n:Int)<0:=by omega
 have n2:¬((y.bytes:Int)* (n:Int)>2 ^ 48):=by
  have:(2:Int) ^ 48=281474976710656:=by decide
  omega
 have n3:¬(n*y.bytes>roomBytes):=by unfold roomBytes;omega
 have hinit:(Array.range (n*y.size)).map (fun i=>z.cells[i % z.cells.size]!)=(TZ n z.cells.toList).flatten.toArray:=by
  apply Vl
  rw[iU]
  simp only[Array.toList_map,Array.toList_range,List.toList_toArray,Vq,hzs]
  apply VB
  intro i _
  simp only[List.getElem!_eq_getElem?_getD,Array.getElem!_eq_getD,Un,Array.getElem?_toList]
 have hti:(typeInfo e).run c.P w= .ok i w:=by simp[typeInfo,Sem.run_bind,hi,Result.andThen]
 have hinit2:n*y.size=0→(Array.range (n*y.size)).map (fun i=>(#[]:Array Value)[i % (#[]:Array Value).size]!)=(TZ n z.cells.toList).flatten.toArray:=by
  intro hz0
  rw[←hinit,hz0]
  apply Array.ext
  ·simp
  ·intro i h1 h2;simp at h1
 simp only[Instr.makeSlice,asInt,asIntOf,Sem.run_bind,run_underlying hund,Result.andThen_ok,Sem.run_pure,hti,hib,wn,n1,n2,Int.lt_irrefl,gt_iff_lt]
 have hask:(askRoom (n*y.bytes)).run c.P w= .ok () w:=by simp[askRoom,n3]
 simp only[decide_false,Bool.or_false,TL,if_false,Sem.run_bind,TW,hask,Result.andThen_ok,hok.sizeOf,Sem.run_ite]
 split
 ·rename_i hz0
  simp only[Sem.run_bind,Sem.run_pure,Result.andThen_ok,hinit2 hz0,newRow,run_newObj]
  rfl
 ·simp only[Sem.run_bind,Sem.run_pure,Result.andThen_ok,hz,hinit,newRow,run_newObj]
  rfl
theorem DI (hc:bA c) {S:St} {a:Act} (hS:cV c E w G μ S a) {t e:TypeId} (he:elemOf c t=some e) {y:Ty} (hy:c.ty e=some y) {z:V} (hz:dZ c e (y.zero.map V.cut1)=some z) (h0:0<y.size) (hfit:cI c e z=true) (href:V.refs z=[])
  {n:Nat} (hb:n* (y.bytes+1)≤70368744177664) {k k' :IntKind} {K:V→St→Option R} {r:R} (hk:K (.own e (TZ n z)) S=some r) {u v:Value} (hu:u= .int k n) (hv:v= .int k' n):
  ∃u' w',(Instr.makeSlice t u v).run c.P w= .ok u' w'∧EH c E K r a.tmps.toList u' w' :=by
 subst hu hv
 have hysz:aE c e=y.size:=by simp[aE,hy]
 have hok:=hc.ty e y hy
 have hund:=eX he hc
 obtain⟨x,hx,hxf,hxa⟩:=hok.zero w
 have hxs:x.cells.toList.length=y.size:=by rw[(eF y.zero _ hxf w G μ).1,hok.size]
 obtain⟨g1,g2,g3,g4⟩:=zM hc hy w G [] n hxf
 have hch:∀n:Nat,iI c e n ((TZ n (y.zero.map V.cut1)).flatten)=some (TZ n z):=by
  intro n
  induction n with
  |zero=>rfl
  |succ n ih=>
   have hl:(y.zero.map V.cut1).length=aE c e:=by rw[Ui,hok.size,hysz]
   rw[VR,List.flatten_cons,iI,List.drop_left' hl,ih]
   have:partV c e 0 (y.zero.map V.cut1++(TZ n (y.zero.map V.cut1)).flatten)=some z:=by
    unfold partV
    rw[if_pos (by rw[Ug,hl];omega),U7,List.take_left' hl,hz]
   rw[this]
   rfl
 obtain⟨L,l1,l2,l3,l4,l5⟩:=wC hc hy n _ (TZ n x.cells.toList).flatten _ (hch n) g1 g2 g3
 have hrun:=BM (w:=w) hok hx (by simpa using hxs) hund n h0 hb k k'
 have hfl:(flat L).length=(TZ n z).length*aE c e:=by rw[flat_length L l4,l1,hysz]
 have hrl:(TZ n z).length=n:=by simp
 have hnr:∀(i:Nat) v,(TZ n z)[i]? =some v→v.refs=[]:=fun i v hv=>by
  have:=Uu hv
  rw[List.mem_replicate]at this
  rw[this.2,href]
 have hall:∀v∈TZ n z,cI c e v=true:=fun v hv=>by rw[(List.mem_replicate.1 hv).2];exact hfit
 have hnew:∀o:Obj,(w.alloc o).heap[w.heap.size]? =some o:=fun o=>by show(w.heap.push _)[w.heap.size]? =_;simp
 have hcap:n*aE c e≤((TZ n x.cells.toList).flatten.toArray).size:=by
  rw[←l5,Vj,hfl,hrl];omega
 have hxx:=eH.of_alloc (w:=w) (G:=G) hS.inv.none (.cells (TZ n x.cells.toList).flatten.toArray e) 0
 have hs:=hS.newOwn hxx (e:=e) (xs:=TZ n z) (l:=L) (cap:=n) (fr:=(0,0)) (hnew _) (by simp) (fun j q hq=>by rw[l5]at hq;simpa using hq) l1
  (fun i v q hv hq=>((l3 i v q hv hq).mono (hxx.sealed hS.inv.none)).more fun k b hk _=>by rw[hnr i v hv]at hk;cases hk)
  hall (fun q hq=>by rw[l4 q hq,hysz]) (by omega) (by omega) hcap (.inl rfl)
 rw[hrl]at hs
 exact⟨_,_,hrun,_,S,_,μ,hk,hs⟩
theorem CSh.eta_of {s:CSh} {v:V} (h:s.fits v=true):s.eta v=v∧v.single=true:=by
 cases s<;>cases v<;>first
  |exact⟨rfl,rfl⟩
  |(simp[CSh.fits]at h;done)
  |(simp_all [CSh.fits,CSh.eta,V.getB,V.getI,V.getS,V.getL,V.single];done)
  |(rename_i x;cases x<;>first
   |exact⟨rfl,rfl⟩
   |(simp[CSh.fits]at h;done))
theorem mJ:∀(sh:List CSh) (cs:List V),dB sh cs=true→nH sh cs=cs∧cs.all V.single=true
 |[],[],_=>⟨rfl,rfl⟩
 |[],_::_,h=>by simp[dB]at h
 |_::_,[],h=>by simp[dB]at h
 |s::r,v::cs,h=>by
  simp only[dB,TR]at h
  obtain⟨h1,h2⟩:=CSh.eta_of h.1
  obtain⟨h3,h4⟩:=mJ r cs h.2
  simp[nH,h1,h2,h3,h4]
theorem RSh.eta_of {s:RSh} {v:V} (h:s.fits v=true):s.eta v=v∧v.cells.all V.single=true:=by
 unfold RSh.fits at h
 unfold RSh.eta
 split at h
 ·rename_i ha
  split at h
  ·rename_i cs
   obtain⟨h1,h2⟩:=mJ _ _ h
   rw[if_pos ha]
   exact⟨by simp only[V.cells,h1],h2⟩
  ·cases h
 ·rename_i ha
  obtain⟨h1,h2⟩:=mJ _ _ h
  rw[if_neg ha,h1]
  have hs:v.single=true:=by simpa using h2
  have hv:v.cells=[v]:=by cases v<;>first|rfl|simp[V.single]at hs
  exact⟨rfl,by rw[hv];exact h2⟩
theorem gJ {e:TypeId} {v:V} (h:cI c e v=true):vT c e v=v∧v.cells.all V.single=true:=by
 unfold cI at h
 unfold vT
 split at h
 ·rename_i y hy
  exact RSh.eta_of h
 ·cases h
theorem wE {s:Nat} {l:List Value} (h:∀x∈l,x.cells.size=s) {k m:Nat} (j:Nat) (z:Value) (hj:(flat ((l.take m).drop k))[j]? =some z):(flat l)[k*s+j]? =some z:=by
 by_cases hk:k≤(l.take m).length
 ·have e1:flat l=flat (l.take m)++flat (l.drop m):=by rw[←fO,U9]
  have e2:flat (l.take m)=flat ((l.take m).take k)++flat ((l.take m).drop k):=by rw[←fO,U9]
  have e3:(flat ((l.take m).take k)).length=k*s:=by
   rw[flat_length (size:=s) _ (fun x hx=>h x (U0 (U0 hx)))]
   rw[Vo,Nat.min_eq_left hk]
  have hj2:=(TQ.1 hj).1
  rw[e1,e2,Ud,Ub (by omega),e3,TU (by omega)]
  rw[show k*s+j - k*s=j by omega]
  exact hj
 ·rw[UB (by omega)]at hj
  simp[flat]at hj
theorem oQ {e:TypeId} {tp:Bool} {xs:List V} {X:Value} (hr:Rep c w G μ (.lst e tp xs) X) {l h:Nat} (hlh:l≤h) (hh:h≤xs.length):
  ∃(a:Option Addr) (m:Nat),X= .slice a xs.length m∧xs.length≤m∧Rep c w G μ (.lst e false ((xs.take h).drop l)) (sliced a l h m (aE c e)):=by
 obtain⟨a,m,L,hx,hl,hr,hf,hs,hz,hcap,ha,hrow⟩:=oP hr rfl
 refine⟨a,m,hx,hcap,?_⟩
 have hlen:h - l=((xs.take h).drop l).length:=by simp;omega
 unfold sliced
 rw[hlen]
 have hget:∀{α:Type} (q:List α) (i:Nat) (z:α),((q.take h).drop l)[i]? =some z→q[l+i]? =some z:=by
  intro α q i z hz
  rw[UN,Uw]at hz
  split at hz
  ·exact hz
  ·cases hz
 refine Rep.lst e false _ _ _ ((L.take h).drop l) (by simp;omega) (fun i v x hv hx=>hr (l+i) v x (hget _ _ _ hv) (hget _ _ _ hx)) (fun v hv=>hf v (U0 (U1 hv)))
  (fun x hx=>hs x (U0 (U1 hx))) hz (by rw[←hlen];omega) ⟨fun h0=>?_,fun p hp=>?_⟩ (fun p hp hne=>?_)
 ·split at h0
  ·omega
  ·cases a with
   |none=>have:=ha.1 rfl;omega
   |some p=>simp at h0
 ·cases a with
  |none=>split at hp<;>simp at hp
  |some p0=>
   have:=ha.2 p0 rfl
   split at hp
   ·cases hp;exact this
   ·have hp' :p0.add (l*aE c e)=p:=by simpa using hp
    subst hp'
    unfold Addr.add
    split<;>exact this
 ·have hne' :xs≠[]:=by intro h0;subst h0;simp at hne
  have hlt:l<h:=by
   have:((xs.take h).drop l).length≠0:=by intro h0;exact hne (Ue h0)
   omega
  rw[if_neg (by omega)]at hp
  cases a with
  |none=>simp at hp
  |some p0=>
   simp at hp
   obtain⟨h1,h2⟩:=hrow p0 rfl hne'
   obtain⟨pb,po,ps⟩:=p0
   simp only at h1;subst h1
   rw[Addr.add_lit]at hp
   subst hp
   refine⟨rfl,fun j z hj=>?_⟩
   have:=h2 _ z (wE hs j z hj)
   simp only at this ⊢
   rwa [Vf]
theorem oR (s:List UInt8) (l h:Nat):(⟨s.toArray⟩:ByteArray).extract l h=⟨((s.take h).drop l).toArray⟩:=by
 rw[Go.ByteArray.extract_mk,List.drop_take]
theorem Ju (hc:bA c) {t:TypeId} {x:V} {X:Value} {lo hi mx:Option Operand} {f:Operand→V} {F:Operand→Value} (hf:∀o,Rep c w G μ (f o) (F o)) (hx:Rep c w G μ x X)
  (hok:tZ c t x=true) (hlo:BI (lo.map f)=true) (hhi:BI (hi.map f)=true) (hmx:BI (mx.map f)=true) {K:V→Option R} {r:R} (h:fE x (lo.map f) (hi.map f) (mx.map f) K=some r):
  ∃v u,K v=some r∧(Instr.sliceAt t X (lo.map F) (hi.map F) (mx.map F)).run c.P w= .ok u w∧Rep c w G μ v u∧aG v u=[]:=by
 have hint:∀o:Operand,BI (some (f o))=true→∃k n,f o= .int k n∧F o= .int k n:=by
  intro o ho
  cases hfo:f o with
  |int k n=>exact⟨k,n,rfl,bS (hf o) hfo⟩
  |_=>rw[hfo]at ho;cases ho
 cases mx with
 |some o=>
  unfold tZ at hok
  split at hok
  ·simp[fE]at h
  ·rename_i e tp xs
   have hel:elemOf c t=some e:=by simpa using hok
   have hu:=eX hel hc
   have hpe:c.P.elem t=e:=by simp[Program.elem,hu]
   have hu' :c.P.underlying t=some (.slice (c.P.elem t)):=by rw[hpe];exact hu
   obtain⟨a,m,l,rfl,_,_,_,_,hz,_,hna,_⟩:=oP hx rfl
   obtain⟨y,hy,hys⟩:=dD (c:=c) (t:=e) (by omega)
   have hso:(Go.sizeOf (c.P.elem t)).run c.P w= .ok (aE c e) w:=by rw[hpe,←hys];exact(hc.ty _ _ hy).sizeOf w
   obtain⟨km,nm,m1,m2⟩:=hint o hmx
   cases hi with
   |none=>simp[fE]at h
   |some oh=>
    obtain⟨kh,nh,h1',h2'⟩:=hint oh hhi
    have hrep:Rep c w G μ (.lst e true []) (.slice a 0 0):= .lst e true [] a 0 [] rfl (fun i v x hv=>by simp at hv) (fun v hv=>by cases hv) (fun x hx=>by cases hx) hz (TY _) ⟨fun _=>rfl,hna.2⟩ (fun p _ hne=>absurd rfl hne)
    have hlf:aG (.lst e true []) (.slice a 0 0)=[]:=by cases a<;>rfl
    cases lo with
    |none=>
     unfold fE at h
     simp only[UO,UF,h1',m1,V.getI]at h
     by_cases hcnd:nh=0∧nm=0
     ·obtain⟨rfl,rfl⟩:=hcnd
      have h:K (.lst e true [])=some r:=h
      simp only[UF,UO,h2',m2]
      refine⟨_, .slice a 0 0,h,?_,hrep,hlf⟩
      rw[run_sliceAt_slice w t _ _ _ _ hu']
      rw[hpe]at hso
      simp[Instr.slice,run_underlying hu,Instr.sliceBounds,Instr.sliceBound,asIntOf,hso]
     ·simp[hcnd]at h
    |some ol=>
     obtain⟨kl,nl,l1,l2⟩:=hint ol hlo
     unfold fE at h
     simp only[UF,l1,h1',m1,V.getI]at h
     by_cases hcnd:nl=0∧nh=0∧nm=0
     ·obtain⟨rfl,rfl,rfl⟩:=hcnd
      have h:K (.lst e true [])=some r:=h
      simp only[UF,l2,h2',m2]
      refine⟨_, .slice a 0 0,h,?_,hrep,hlf⟩
      rw[run_sliceAt_slice w t _ _ _ _ hu']
      rw[hpe]at hso
      simp[Instr.slice,run_underlying hu,Instr.sliceBounds,Instr.sliceBound,asIntOf,hso]
     ·simp[hcnd]at h
      omega
  ·cases hok
 |none=>
  unfold tZ at hok
  split at hok
  ·rename_i s
   have hu:=kV hok hc
   have hX:=lG hx rfl
   subst hX
   have hsz:(⟨s.toArray⟩:ByteArray).size=s.length:=by simp[ByteArray.size]
   simp only[UO]
   rw[run_sliceAt_string w t _ _ _ _ hu]
   cases lo with
   |none=>
    cases hi with
    |none=>
     simp only[fE,UO]at h
     obtain⟨_,h⟩:=aP h
     obtain⟨_,h⟩:=aP h
     refine⟨_,_,h,run_slice_string_all w t _ hu,?_,rfl⟩
     rw[oR,hsz]
     simpa using Rep.str s
    |some o=>
     obtain⟨k,n,h1,h2⟩:=hint o hhi
     simp only[fE,UO,UF,h1,V.getI]at h
     obtain⟨g1,h⟩:=aP h
     obtain⟨g2,h⟩:=aP h
     obtain⟨g3,h⟩:=aP h
     obtain⟨g4,h⟩:=aP h
     have g1:=of_decide_eq_true g1
     have g2:=of_decide_eq_true g2
     have g3:=of_decide_eq_true g3
     have g4:=of_decide_eq_true g4
     simp only[UF,UO,h2]
     refine⟨_,_,h,run_slice_string_h w t _ hu k n g1 (by rw[hsz];exact g2),?_,rfl⟩
     rw[oR]
     exact Rep.str _
   |some ol=>
    obtain⟨k,n,h1,h2⟩:=hint ol hlo
    cases hi with
    |none=>
     simp only[fE,UO,UF,h1,V.getI]at h
     obtain⟨g1,h⟩:=aP h
     obtain⟨g2,h⟩:=aP h
     have g1:=of_decide_eq_true g1
     have g2:=of_decide_eq_true g2
     simp only[UF,UO,h2]
     refine⟨_,_,h,run_slice_string_l w t _ hu k n g1 (by rw[hsz];exact g2),?_,rfl⟩
     rw[oR,hsz]
     simpa using Rep.str (s.drop n.toNat)
    |some oh=>
     obtain⟨k',n',h1',h2'⟩:=hint oh hhi
     simp only[fE,UO,UF,h1,h1',V.getI]at h
     obtain⟨g1,h⟩:=aP h
     obtain⟨g2,h⟩:=aP h
     obtain⟨g3,h⟩:=aP h
     obtain⟨g4,h⟩:=aP h
     have g1:=of_decide_eq_true g1
     have g2:=of_decide_eq_true g2
     have g3:=of_decide_eq_true g3
     have g4:=of_decide_eq_true g4
     simp only[UF,UO,h2,h2']
     refine⟨_,_,h,run_slice_string w t _ k k' n n' hu g3 g4 (by rw[hsz];exact g2),?_,rfl⟩
     rw[oR]
     exact Rep.str _
  ·rename_i e tp xs
   have hel:elemOf c t=some e:=by simpa using hok
   have hu:=eX hel hc
   have hpe:c.P.elem t=e:=by simp[Program.elem,hu]
   have hu' :c.P.underlying t=some (.slice (c.P.elem t)):=by have:c.P.elem t=e:=hpe;rw[this];exact hu
   have hpe' :c.P.elem t=e:=hpe
   have hz:0<aE c e:=by cases hx;assumption
   obtain⟨y,hy,hys⟩:=dD (c:=c) (t:=e) (by omega)
   have hso:(Go.sizeOf (c.P.elem t)).run c.P w= .ok (aE c e) w:=by rw[hpe',←hys];exact(hc.ty _ _ hy).sizeOf w
   simp only[UO]
   cases lo with
   |none=>
    cases hi with
    |none=>
     simp only[fE,UO]at h
     obtain⟨_,h⟩:=aP h
     obtain⟨_,h⟩:=aP h
     obtain⟨a,m,rfl,hcap,hrep⟩:=oQ hx (Wd _) (TY _)
     refine⟨_,_,h,?_,by simpa using hrep,rfl⟩
     simp only[UO]
     rw[run_sliceAt_slice w t _ _ _ _ hu',run_slice_all w t a _ m hu',hso]
     rfl
    |some o=>
     obtain⟨k,n,h1,h2⟩:=hint o hhi
     simp only[fE,UO,UF,h1,V.getI]at h
     obtain⟨g1,h⟩:=aP h
     obtain⟨g2,h⟩:=aP h
     obtain⟨g3,h⟩:=aP h
     obtain⟨g4,h⟩:=aP h
     have g1:=of_decide_eq_true g1
     have g2:=of_decide_eq_true g2
     have g3:=of_decide_eq_true g3
     have g4:=of_decide_eq_true g4
     obtain⟨a,m,rfl,hcap,hrep⟩:=oQ hx (l:=0) (h:=n.toNat) (Wd _) (by omega)
     simp only[UF,UO,h2]
     refine⟨_,_,h,?_,by simpa using hrep,rfl⟩
     rw[run_sliceAt_slice w t _ _ _ _ hu',run_slice_h w t a _ m hu' k n g1 (by omega),hso]
     rfl
   |some ol=>
    obtain⟨k,n,h1,h2⟩:=hint ol hlo
    cases hi with
    |none=>
     simp only[fE,UO,UF,h1,V.getI]at h
     obtain⟨g1,h⟩:=aP h
     obtain⟨g2,h⟩:=aP h
     have g1:=of_decide_eq_true g1
     have g2:=of_decide_eq_true g2
     obtain⟨a,m,rfl,hcap,hrep⟩:=oQ hx (l:=n.toNat) (h:=xs.length) (by omega) (TY _)
     simp only[UF,UO,h2]
     refine⟨_,_,h,?_,by simpa using hrep,rfl⟩
     rw[run_sliceAt_slice w t _ _ _ _ hu',run_slice_l w t a _ m hu' k n g1 g2,hso]
     rfl
    |some oh=>
     obtain⟨k',n',h1',h2'⟩:=hint oh hhi
     simp only[fE,UO,UF,h1,h1',V.getI]at h
     obtain⟨g1,h⟩:=aP h
     obtain⟨g2,h⟩:=aP h
     obtain⟨g3,h⟩:=aP h
     obtain⟨g4,h⟩:=aP h
     have g1:=of_decide_eq_true g1
     have g2:=of_decide_eq_true g2
     have g3:=of_decide_eq_true g3
     have g4:=of_decide_eq_true g4
     obtain⟨a,m,rfl,hcap,hrep⟩:=oQ hx (l:=n.toNat) (h:=n'.toNat) (by omega) (by omega)
     simp only[UF,UO,h2,h2']
     refine⟨_,_,h,?_,by simpa using hrep,rfl⟩
     rw[run_sliceAt_slice w t _ _ _ _ hu',run_slice_lh w t a _ m hu' k k' n n' g3 g4 (by omega),hso]
     rfl
  ·cases hok
theorem Sim.mark {env:List V} {tmps:List Value} {objs:List Ob} {e:TypeId} {xs:List V} {x:Value} {s:Nat} (h:Sim c E w G μ env tmps objs) (hs:env[s]? =some (.lst e true xs)) (hx:tmps[s]? =some x) (hne:xs≠[]):
  ∃(p:Addr) (m:Nat) (cs:Array Value) (elem:TypeId) (fr:Nat×Nat),x= .slice (some p) xs.length m∧w.heap[p.block]? =some (.cells cs elem fr)∧
   Sim c E (w.freeze ⟨p.block,cs.size,none⟩ 1) G μ env tmps objs:=by
 obtain⟨a,m,l,rfl,hl,hr,hf,hsz,hz,hm,hna,hrow⟩:=oP (h.inv.rep s _ x hs hx) rfl
 have hpos:0<xs.length:=U6.2 hne
 cases a with
 |none=>have:=hna.1 rfl;omega
 |some p=>
  have hlf:aG (.lst e true xs) (.slice (some p) xs.length m)=[⟨e,p,xs.length,m,none⟩]:=by
   simp only[aG,bK,aS,if_pos (show 0<m by omega)]
  have hmem:(⟨e,p,xs.length,m,none⟩:eC)∈aH aG env tmps:=by
   have key:∀(vs:List V) (ys:List Value) (i:Nat),vs[i]? =some (.lst e true xs)→ys[i]? =some (.slice (some p) xs.length m)→(⟨e,p,xs.length,m,none⟩:eC)∈aH aG vs ys:=by
    intro vs
    induction vs with
    |nil=>intro ys i hi;simp at hi
    |cons v vs ih=>
     intro ys i hi hy
     cases ys with
     |nil=>simp at hy
     |cons y ys=>
      cases i with
      |zero=>simp at hi hy;subst hi hy;simp only[aH,hlf];simp
      |succ i=>simp only[aH,TV];exact .inr (ih ys i (by simpa using hi) (by simpa using hy))
   exact key env tmps s hs hx
  obtain⟨hsp,cs,elem,fr,hb,hGa,hcap,hfr,hee⟩:=h.inv.ok _ (List.mem_append_left _ hmem)
  simp only[eA]at hsp hb hGa hcap hfr
  refine⟨p,m,cs,elem,fr,rfl,hb,?_⟩
  have hlt:=eI hb
  obtain⟨fr',hfr',hw⟩:∃fr' :Nat×Nat,(fr'.1=fr'.2∨cs.size≤fr'.1)∧w.freeze ⟨p.block,cs.size,none⟩ 1=blk w p.block (.cells cs elem fr'):=by
   obtain⟨lo,hi⟩:=fr
   refine⟨if lo==hi then(cs.size,cs.size+1)else(min lo cs.size,max hi (cs.size+1)),?_,?_⟩
   ·simp only at hfr
    split
    ·exact .inr (TY _)
    ·rename_i hne'
     have:lo≠hi:=by simpa using hne'
     exact .inr (by simp only[];omega)
   ·unfold World.freeze blk
    rw[if_neg (by decide)]
    congr 1
    apply Array.ext_getElem?
    intro k
    rw[Vs]
    by_cases hk:p.block=k
    ·subst hk
     rw[if_pos rfl,Array.getElem?_setIfInBounds_self_of_lt hlt,hb]
     rfl
    ·rw[if_neg hk,VU hk]
  rw[hw]
  have hseal:iT w G (blk w p.block (.cells cs elem fr')) G:=by
   refine⟨fun k o ho=>?_,fun k=>TY _,by rw[bV];exact TY _⟩
   by_cases hk:k=p.block
   ·subst hk;simp only[World.cell?,dJ hlt,hb]
   ·exact bU (bD hk)
  have hone:=h.inv.one p.block
  have hpos' :0<cnt p.block (aH aG env tmps):=cP.2 ⟨_,hmem,rfl⟩
  have hμ:∀b∈μ,b≠p.block:=fun b hbm e=>by rw[e]at hbm;have:=UQ.2 hbm;omega
  have hO:aM (blk w p.block (.cells cs elem fr')) objs μ=aM w objs μ:=cG objs μ fun b hbm=>bD (hμ b hbm)
  refine⟨⟨h.inv.len,fun i u y hu hy=>(h.inv.rep i u y hu hy).mono hseal,h.inv.olen,fun i o b ho hb' =>?_,fun q=>by rw[hO];exact h.inv.one q,fun l hl=>?_,fun b hbm=>?_,fun b hbs=>?_,fun g k hg=>(h.inv.glob g k hg).mono hseal⟩,
   ⟨by rw[bV];exact h.stp.size,h.stp.sealed.trans hseal,fun b hbs hu=>?_,h.stp.os,h.stp.out,h.stp.tape⟩,fun b hbs hcc=>?_,h.pre⟩
  ·exact(h.inv.obs i o b ho hb').mono hseal (bD (hμ b (Uu hb')))
  ·rw[hO]at hl
   obtain⟨g1,cs2,el2,fr2,g2,g3,g4,g5⟩:=h.inv.ok l hl
   by_cases hk:l.a.block=p.block
   ·rw[hk,hb]at g2;cases g2
    exact⟨g1,cs,elem,fr',by rw[hk];exact dJ hlt,g3.same (fun o=>by rw[hk];simp only[World.cell?,dJ hlt,hb]) rfl hseal,g4,hfr',g5.2⟩
   ·exact⟨g1,cs2,el2,fr2,by rw[bD hk];exact g2,g3.same (fun o=>bU (bD hk)) rfl hseal,g4,g5⟩
  ·have:=h.inv.mine b hbm
   exact⟨by rw[bV];exact this.1,this.2⟩
  ·rw[bV]at hbs;exact h.inv.none b hbs
  ·have hne' :b≠p.block:=fun e=>by subst e;exact hu (h.own _ hbs (by omega))
   have:=h.stp.keep b hbs hu
   exact⟨(bD hne').trans this.1,this.2⟩
  ·rw[hO]at hcc;exact h.own b hbs hcc
theorem Sim.newSit {env:List V} {tmps:List Value} {objs:List Ob} (h:Sim c E w G μ env tmps objs) (s:List UInt8):
  Sim c E (w.alloc (.stringIter ⟨s.toArray⟩ 0)) (fun b=>if b=w.heap.size then 0 else G b) (μ++[w.heap.size]) (.ref objs.length 0::env) (.pointer (some ⟨w.heap.size,0,none⟩)::tmps) (objs++[.sit s 0]):=by
 have hx:=eH.of_alloc (w:=w) (G:=G) h.inv.none (.stringIter ⟨s.toArray⟩ 0) 0
 have h' :=h.ext hx
 have hnew:(w.alloc (.stringIter ⟨s.toArray⟩ 0)).heap[w.heap.size]? =some (.stringIter ⟨s.toArray⟩ 0):=by show(w.heap.push _)[w.heap.size]? =_;simp
 have hO:aM (w.alloc (.stringIter ⟨s.toArray⟩ 0)) objs μ=aM w objs μ:=cG objs μ fun b hb=>(hx.keep b (h.inv.mine b hb).1).1
 have hlen:=h.inv.olen
 have hmore:∀{u:V} {y:Value},Rep c (w.alloc (.stringIter ⟨s.toArray⟩ 0)) (fun b=>if b=w.heap.size then 0 else G b) μ u y→
   Rep c (w.alloc (.stringIter ⟨s.toArray⟩ 0)) (fun b=>if b=w.heap.size then 0 else G b) (μ++[w.heap.size]) u y:=fun hh=>
  hh.more fun i b _ hb=>by
   rw[TU (TQ.1 hb).1];exact hb
 have hLO:aM (w.alloc (.stringIter ⟨s.toArray⟩ 0)) (objs++[.sit s 0]) (μ++[w.heap.size])=aM w objs μ:=by
  rw[kN _ _ _ _ _ hlen,hO]
  simp[aM]
 have hzz' :aH aG (.ref objs.length 0::env) (.pointer (some ⟨w.heap.size,0,none⟩)::tmps)=aH aG env tmps:=by simp[aH,aG,bK,aS]
 have hold:cnt w.heap.size (aH aG env tmps)+cnt w.heap.size (aM w objs μ)+μ.count w.heap.size=0:=by
  rcases VH (cnt w.heap.size (aH aG env tmps)+cnt w.heap.size (aM w objs μ)+μ.count w.heap.size)with h0|h0
  ·exact h0
  ·exact absurd (h.leaf_lt h0) (Wg _)
 refine⟨⟨by simpa using h'.inv.len,fun i u y hu hy=>?_,by simp[hlen],fun i o b ho hb=>?_,fun b=>?_,fun q hq=>?_,fun b hb=>?_,h'.inv.none,h'.inv.glob⟩,h'.stp,fun b hb hcc=>?_,?_⟩
 ·cases i with
  |zero=>
   simp at hu hy;subst hu;subst hy
   exact .ref _ 0 _ (by simp[hlen])
  |succ i=>exact hmore (h'.inv.rep i u y (by simpa using hu) (by simpa using hy))
 ·by_cases hi:i<objs.length
  ·rw[TU hi]at ho
   rw[TU (by omega)]at hb
   have:=h'.inv.obs i o b ho hb
   cases o with
   |cells cs=>
    obtain⟨l,e,fr,h1,h2,h3,h4,h5,h6⟩:=this
    exact⟨l,e,fr,h1,h2,h3,h4,fun i v x hv hx=>hmore (h5 i v x hv hx),h6⟩
   |sit s p=>exact this
   |mp kd vd es=>exact this
   |dead=>trivial
  ·have hi' :i=objs.length:=by
    have:=(TQ.1 ho).1;simp at this;omega
   subst hi'
   rw[hlen]at hb
   simp at ho hb;subst ho;subst hb
   exact⟨0,rfl,hnew⟩
 ·rw[hzz',hLO,VK]
  have h1:=h.inv.one b
  by_cases hb:b=w.heap.size
  ·subst hb
   simp;omega
  ·have:(w.heap.size==b)=false:=by simp;exact fun e=>hb e.symm
   simp[Vx,this];omega
 ·rw[hzz',hLO]at hq
  refine h'.inv.ok q ?_
  rw[hO];exact hq
 ·rw[TV]at hb
  rcases hb with hb|hb
  ·exact h'.inv.mine b hb
  ·simp at hb;subst hb;simp
 ·rw[hzz',hLO,VK]at hcc
  refine h'.own b hb ?_
  rw[hO]
  have:(w.heap.size==b)=false:=by
   have:=h.stp.size
   simp;omega
  simp[Vx,this]at hcc
  omega
 ·obtain⟨ν,hν⟩:=h.pre
  exact⟨ν++[w.heap.size],by rw[hν];simp⟩
theorem St.sit_get {S:St} {i:Nat} {s:List UInt8} {p:Int} (h:S.ob i= .sit s p):S.objs[i]? =some (.sit s p):=by
 unfold St.ob at h
 rw[Ul]at h
 cases ho:S.objs[i]? with
 |none=>rw[ho]at h;cases h
 |some o=>rw[ho]at h;simp at h;rw[h]
theorem Sim.newMap {env:List V} {tmps:List Value} {objs:List Ob} (h:Sim c E w G μ env tmps objs) (kd vd:SK):
  Sim c E (w.alloc (.map #[] 0)) (fun b=>if b=w.heap.size then 0 else G b) (μ++[w.heap.size]) (.mref objs.length::env) (.map (some w.heap.size)::tmps) (objs++[.mp kd vd []]):=by
 have hx:=eH.of_alloc (w:=w) (G:=G) h.inv.none (.map #[] 0) 0
 have h' :=h.ext hx
 have hnew:(w.alloc (.map #[] 0)).heap[w.heap.size]? =some (.map #[] 0):=by show(w.heap.push _)[w.heap.size]? =_;simp
 have hO:aM (w.alloc (.map #[] 0)) objs μ=aM w objs μ:=cG objs μ fun b hb=>(hx.keep b (h.inv.mine b hb).1).1
 have hlen:=h.inv.olen
 have hmore:∀{u:V} {y:Value},Rep c (w.alloc (.map #[] 0)) (fun b=>if b=w.heap.size then 0 else G b) μ u y→
   Rep c (w.alloc (.map #[] 0)) (fun b=>if b=w.heap.size then 0 else G b) (μ++[w.heap.size]) u y:=fun hh=>
  hh.more fun i b _ hb=>by
   rw[TU (TQ.1 hb).1];exact hb
 have hLO:aM (w.alloc (.map #[] 0)) (objs++[.mp kd vd []]) (μ++[w.heap.size])=aM w objs μ:=by
  rw[kN _ _ _ _ _ hlen,hO]
  simp[aM]
 have hzz' :aH aG (.mref objs.length::env) (.map (some w.heap.size)::tmps)=aH aG env tmps:=by simp[aH,aG,bK,aS]
 have hold:cnt w.heap.size (aH aG env tmps)+cnt w.heap.size (aM w objs μ)+μ.count w.heap.size=0:=by
  rcases VH (cnt w.heap.size (aH aG env tmps)+cnt w.heap.size (aM w objs μ)+μ.count w.heap.size)with h0|h0
  ·exact h0
  ·exact absurd (h.leaf_lt h0) (Wg _)
 refine⟨⟨by simpa using h'.inv.len,fun i u y hu hy=>?_,by simp[hlen],fun i o b ho hb=>?_,fun b=>?_,fun q hq=>?_,fun b hb=>?_,h'.inv.none,h'.inv.glob⟩,h'.stp,fun b hb hcc=>?_,?_⟩
 ·cases i with
  |zero=>
   simp at hu hy;subst hu;subst hy
   exact .mref _ _ (by simp[hlen])
  |succ i=>exact hmore (h'.inv.rep i u y (by simpa using hu) (by simpa using hy))
 ·by_cases hi:i<objs.length
  ·rw[TU hi]at ho
   rw[TU (by omega)]at hb
   have:=h'.inv.obs i o b ho hb
   cases o with
   |cells cs=>
    obtain⟨l,e,fr,h1,h2,h3,h4,h5,h6⟩:=this
    exact⟨l,e,fr,h1,h2,h3,h4,fun i v x hv hx=>hmore (h5 i v x hv hx),h6⟩
   |sit s p=>exact this
   |mp kd vd es=>exact this
   |dead=>trivial
  ·have hi' :i=objs.length:=by
    have:=(TQ.1 ho).1;simp at this;omega
   subst hi'
   rw[hlen]at hb
   simp at ho hb;subst ho;subst hb
   exact⟨⟨#[],0,hnew,rfl⟩,fun p hp=>by simp at hp⟩
 ·rw[hzz',hLO,VK]
  have h1:=h.inv.one b
  by_cases hb:b=w.heap.size
  ·subst hb
   simp;omega
  ·have:(w.heap.size==b)=false:=by simp;exact fun e=>hb e.symm
   simp[Vx,this];omega
 ·rw[hzz',hLO]at hq
  refine h'.inv.ok q ?_
  rw[hO];exact hq
 ·rw[TV]at hb
  rcases hb with hb|hb
  ·exact h'.inv.mine b hb
  ·simp at hb;subst hb;simp
 ·rw[hzz',hLO,VK]at hcc
  refine h'.own b hb ?_
  rw[hO]
  have:(w.heap.size==b)=false:=by
   have:=h.stp.size
   simp;omega
  simp[Vx,this]at hcc
  omega
 ·obtain⟨ν,hν⟩:=h.pre
  exact⟨ν++[w.heap.size],by rw[hν];simp⟩
theorem St.mp_get {S:St} {i:Nat} {kd vd:SK} {es:List (Sc×Sc)} (h:S.ob i= .mp kd vd es):S.objs[i]? =some (.mp kd vd es):=by
 unfold St.ob at h
 rw[Ul]at h
 cases ho:S.objs[i]? with
 |none=>rw[ho]at h;cases h
 |some o=>rw[ho]at h;simp at h;rw[h]
theorem KB {v:V} {x:Value} {k:Sc} (h:Rep c w G μ v x) (hv:v.toSc=some k):x=k.val:=by
 cases v with
 |bool b=>cases h;simp[V.toSc]at hv;subst hv;rfl
 |int k n=>cases h;simp[V.toSc]at hv;subst hv;rfl
 |str s=>cases h;simp[V.toSc]at hv;subst hv;rfl
 |clo fn first caps=>
  cases fn with
  |func f=>
   cases first with
   |cons=>simp[V.toSc]at hv
   |nil=>cases caps with
    |cons=>simp[V.toSc]at hv
    |nil=>cases h with
     |clo _ _ _ lf lc hl hl' =>
      have h1:lf=[]:=Ue hl
      have h2:lc=[]:=Ue hl'
      simp[V.toSc]at hv
      subst hv h1 h2
      rfl
  |_=>simp[V.toSc]at hv
 |agg cs=>
  match cs,hv with
  |[.str a, .str b],hv=>
   simp[V.toSc]at hv
   subst hv
   cases h with
   |agg _ l hl hs hr=>
    match l,hl with
    |[x,y],_=>
     have h1:=lG (hr 0 _ x rfl rfl) rfl
     have h2:=lG (hr 1 _ y rfl rfl) rfl
     subst h1 h2
     rfl
 |_=>simp[V.toSc]at hv
theorem EL {R:Type} (x:Sc):∀(es:List (Sc×Sc)) (K:Option Sc→Option R),Ik x es K=K (jP x es)
 |[],K=>rfl
 |(k,v)::r,K=>by
  rw[Ik,jP]
  split
  ·rfl
  ·exact EL x r K
theorem look_eq {R:Type} (vd:SK) (k:Sc) (es:List (Sc×Sc)) (ok:Bool) (K:V→Option R):Kq vd k es ok K=K (if ok then .tup [pN vd k es, .bool (Du k es)]else pN vd k es):=by
 cases vd
 ·rfl
 ·rfl
 ·rfl
 ·simp only[Kq,EL,pN,Du]
 ·rfl
theorem Is {v:V} {x:Value} {i:Nat} (h:Rep c w G μ v x) (hv:v= .mref i):∃b,μ[i]? =some b∧x= .map (some b):=by
 subst hv;cases h with|mref _ b hb=>exact⟨b,hb,rfl⟩
theorem eS (x:Value):aG .bot x=[]:=by cases x<;>rfl
theorem zO (hc:bA c) {t:TypeId} {k:SK} (h:GX c t=some k):∃d,c.P.underlying t=some d∧skD d=some k:=by
 unfold GX at h
 split at h
 ·rename_i y hy
  split at h
  ·rename_i k' hk
   split at h
   ·cases h;exact⟨_,(hc.ty _ _ hy).und,hk⟩
   ·cases h
  ·cases h
 ·cases h
theorem DJ {d:TypeDesc}:skD d≠some .two:=by cases d<;>simp[skD]
theorem run_checkKey {P:Program} (w:World) {t:TypeId} {d:TypeDesc} {k:SK} (h:P.underlying t=some d) (hd:skD d=some k) (hnf:k≠ .fn) (e:Bool) (n:Nat) (v:Value):
  (Instr.checkKey e (n+1) t v).run P w= .ok () w:=by
 unfold Instr.checkKey
 rw[Sem.run_bind,run_underlying h,Result.andThen_ok]
 cases d<;>simp[skD]at hd<;>first|rfl|exact absurd hd.symm hnf
def rY (x:Sc):List (Sc×Sc)→Nat→Option (Nat×Sc)
 |[],_=>none
 |(k,v)::r,i=>if x.same k then some (i,v)else rY x r (i+1)
theorem zQ (x:Sc):∀(es:List (Sc×Sc)) (i:Nat),jP x es=(rY x es i).map (·.2)
 |[],_=>rfl
 |(k,v)::r,i=>by
  simp only[jP,rY]
  split
  ·rfl
  ·exact zQ x r (i+1)
theorem EM (x u:Sc):∀(es:List (Sc×Sc)) (i:Nat),match rY x es i with
  |none=>rW x u es=es++[(x,u)]
  |some (j,_)=>∃n k v,j=i+n∧es[n]? =some (k,v)∧x.same k=true∧rW x u es=es.set n (x,u)
 |[],i=>by simp[rY,rW]
 |(k,v)::r,i=>by
  simp only[rY,rW]
  cases hk:x.same k
  ·have:=EM x u r (i+1)
   cases hm:rY x r (i+1)with
   |none=>
    rw[hm]at this
    simp[hm,this]
   |some p=>
    rw[hm]at this
    obtain⟨n,k',v'',e1,e2,e3,e4⟩:=this
    simp only[hm,TL,if_false]
    exact⟨n+1,k',v'',by omega,by simpa using e2,e3,by rw[e4];rfl⟩
  ·simp only[if_true]
   exact⟨0,k,v,rfl,rfl,hk,rfl⟩
theorem bytes_beq (a b:List UInt8):((⟨a.toArray⟩:ByteArray)==⟨b.toArray⟩)=(a==b):=by
 show(a.toArray==b.toArray)=_
 simp
theorem He {d:TypeDesc} {x k:Sc} {s:SK} (hd:skD d=some s) (hnf:s≠ .fn) (hx:x.kind=s) (hk:k.kind=s):Instr.sameNow d x.val k.val=some (x.same k):=by
 subst hk
 cases k with
 |fn f=>exact absurd rfl hnf
 |two a b=>exact absurd hd DJ
 |_=>
  clear hnf
  cases x<;>simp[Sc.kind]at hx<;>cases d<;>simp[skD]at hd<;>simp_all [Instr.sameNow,Sc.val,Sc.same,Sc.kind]
  try exact bytes_beq _ _
theorem zR {d:TypeDesc} {x:Sc} {s:SK} (hd:skD d=some s) (hnf:s≠ .fn) (hx:x.kind=s):∀(l:List MapEntry) (es:List (Sc×Sc)) (i:Nat),
  l.map (fun e=>(e.key,e.val))=es.map (fun p=>(p.1.val,p.2.val))→(∀p∈es,p.1.kind=s)→Instr.findNow d x.val l i=some ((rY x es i).map fun p=>(p.1,p.2.val))
 |[],[],_,_,_=>rfl
 |[],_::_,_,h,_=>by simp at h
 |_::_,[],_,h,_=>by simp at h
 |e::l,(k,v)::es,i,h,hk=>by
  simp only[UE,List.cons.injEq,Prod.mk.injEq]at h
  simp only[Instr.findNow,h.1.1,h.1.2,He hd hnf hx (hk (k,v) (by simp)),rY]
  cases hs:x.same k
  ·simp only[TL,if_false]
   exact zR hd hnf hx l es (i+1) h.2 fun p hp=>hk p (by simp[hp])
  ·simp
theorem run_findKey {P:Program} (w:World) {t:TypeId} {d:TypeDesc} {x:Sc} {s:SK} (hu:P.underlying t=some d) (hd:skD d=some s) (hnf:s≠ .fn) (hx:x.kind=s) {l:List MapEntry} {es:List (Sc×Sc)}
  (h:l.map (fun e=>(e.key,e.val))=es.map (fun p=>(p.1.val,p.2.val))) (hk:∀p∈es,p.1.kind=s):
  (Instr.findKey t x.val l).run P w= .ok ((rY x es 0).map fun p=>(p.1,p.2.val)) w:=by
 unfold Instr.findKey
 rw[Sem.run_bind,run_underlying hu,Result.andThen_ok,zR hd hnf hx l es 0 h hk]
 rfl
def KC (P:Program) (kt:TypeId) (s:SK):Prop:=(∀(w:World) (em:Bool) (x:Sc),x.kind=s→(Instr.checkKey em 10000 kt x.val).run P w= .ok () w)∧
 ∀(w:World) (x:Sc) (l:List MapEntry) (es:List (Sc×Sc)),x.kind=s→l.map (fun e=>(e.key,e.val))=es.map (fun p=>(p.1.val,p.2.val))→(∀p∈es,p.1.kind=s)→
  (Instr.findKey kt x.val l).run P w= .ok ((rY x es 0).map fun p=>(p.1,p.2.val)) w
theorem KD {P:Program} {t:TypeId} {d:TypeDesc} {k:SK} (h:P.underlying t=some d) (hd:skD d=some k) (hnf:k≠ .fn):KC P t k:=
 ⟨fun w em x _=>run_checkKey w h hd hnf em _ _,fun w x l es hx hl hk=>run_findKey w h hd hnf hx hl hk⟩
theorem Iu {w:World} {G:Gh} {μ:List Nat} (a b:List UInt8):Rep c w G μ (.agg [.str a, .str b]) (Sc.two a b).val:=by
 refine .agg _ [.string ⟨a.toArray⟩, .string ⟨b.toArray⟩] rfl (fun x hx=>?_) (fun i v x hv hx=>?_)
 ·simp at hx
  rcases hx with rfl|rfl<;>rfl
 ·match i,hv,hx with
  |0,hv,hx=>simp at hv hx;subst hv;subst hx;exact .str _
  |1,hv,hx=>simp at hv hx;subst hv;subst hx;exact .str _
theorem Jv (hc:bA c) {t:TypeId} (h:Ks c t=true):KC c.P t .two:=by
 unfold Ks at h
 split at h
 ·rename_i fs _ _ _ _ _ hy
  split at h
  ·rename_i f g hfs
   simp only[TR,bne_iff_ne,beq_iff_eq]at h
   obtain⟨⟨⟨⟨⟨⟨⟨⟨n1,n2⟩,o1⟩,o2⟩,s1⟩,s2⟩,z1⟩,z2⟩,hag⟩:=h
   have hok:=hc.ty _ _ hy
   have hund:c.P.underlying t=some (.struct fs):=hok.und
   have hfa:fs= #[f,g]:=by
    obtain⟨l⟩:=fs
    simp at hfs
    rw[hfs]
   split at hag
   ·rename_i yf yg hyf hyg
    simp only[TR,UX]at hag
    have uf:=kV s1 hc
    have ug:=kV s2 hc
    have df:yf.d= .string:=by
     unfold jQ at s1
     rw[hyf]at s1
     split at s1
     ·rename_i h;cases h;rfl
     ·cases s1
    have dg:yg.d= .string:=by
     unfold jQ at s2
     rw[hyg]at s2
     split at s2
     ·rename_i h;cases h;rfl
     ·cases s2
    have p1:∀a b:List UInt8,partV c f.type f.offset [.str a, .str b]=some (.str a):=by
     intro a b
     unfold partV
     rw[o1,z1,if_pos (by simp)]
     unfold dZ kD
     rw[hyf]
     simp[hag.1]
    have p2:∀a b:List UInt8,partV c g.type g.offset [.str a, .str b]=some (.str b):=by
     intro a b
     unfold partV
     rw[o2,z2,if_pos (by simp)]
     unfold dZ kD
     rw[hyg]
     simp[hag.2]
    have e1:∀(d:Nat) (a a' :List UInt8),eqT c (d+1) f.type (.str a) (.str a')=some (sEq a a'):=by
     intro d a a'
     rw[eqT,hyf]
     simp only[df]
    have e2:∀(d:Nat) (a a' :List UInt8),eqT c (d+1) g.type (.str a) (.str a')=some (sEq a a'):=by
     intro d a a'
     rw[eqT,hyg]
     simp only[dg]
    have eq:∀(a b a' b' :List UInt8),eqT c 10000 t (.agg [.str a, .str b]) (.agg [.str a', .str b'])=some (sEq a a' &&(sEq b b' &&true)):=by
     intro a b a' b'
     show eqT c (9998+1+1) t _ _=_
     rw[eqT,hy]
     simp only[hfs,List.all_cons,List.all_nil,bne_iff_ne,n1,n2,Bool.true_and,Bool.and_true,Dw,p1,p2,e1,e2]
     simp[n1,n2]
    have rows:∀(w:World) (a b:List UInt8),(∃u,(part f.type (#[.string ⟨a.toArray⟩, .string ⟨b.toArray⟩]:Array Value) f.offset).run c.P w= .ok u w)∧
      ∃u,(part g.type (#[.string ⟨a.toArray⟩, .string ⟨b.toArray⟩]:Array Value) g.offset).run c.P w= .ok u w:=by
     intro w a b
     have hl:([.string ⟨a.toArray⟩, .string ⟨b.toArray⟩]:List Value).length=([.str a, .str b]:List V).length:=rfl
     have hsg:∀x∈([.string ⟨a.toArray⟩, .string ⟨b.toArray⟩]:List Value),single x=true:=fun x hx=>by
      simp at hx
      rcases hx with rfl|rfl<;>rfl
     have hr:∀(i:Nat) v x,([.str a, .str b]:List V)[i]? =some v→([.string ⟨a.toArray⟩, .string ⟨b.toArray⟩]:List Value)[i]? =some x→Rep c w (fun _=>0) [] v x:=fun i v x hv hx=>by
      match i,hv,hx with
      |0,hv,hx=>simp at hv hx;subst hv;subst hx;exact .str _
      |1,hv,hx=>simp at hv hx;subst hv;subst hx;exact .str _
     obtain⟨u,h1,_⟩:=gW hc (p1 a b) hl hsg hr hyf
     obtain⟨u',h2,_⟩:=gW hc (p2 a b) hl hsg hr hyg
     exact⟨⟨u,h1 w⟩,⟨u',h2 w⟩⟩
    refine⟨fun w em x hx=>?_,fun w x l es hx hl hk=>?_⟩
    ·cases x<;>simp[Sc.kind]at hx
     rename_i a b
     obtain⟨⟨u,h1⟩,⟨u',h2⟩⟩:=rows w a b
     have k1:∀v,(Instr.checkKey em 9999 f.type v).run c.P w= .ok () w:=fun v=>run_checkKey (k:= .str) w uf rfl (by simp) em 9998 v
     have k2:∀v,(Instr.checkKey em 9999 g.type v).run c.P w= .ok () w:=fun v=>run_checkKey (k:= .str) w ug rfl (by simp) em 9998 v
     show(Instr.checkKey em (9999+1) t (Value.agg #[.string ⟨a.toArray⟩, .string ⟨b.toArray⟩])).run c.P w= .ok () w
     unfold Instr.checkKey
     rw[Sem.run_bind,run_underlying hund,Result.andThen_ok,hfa]
     simp[n1,n2,h1,h2,k1,k2]
    ·rw[run_findKey_eq w (by rw[hund])]
     have ask:∀(l:List MapEntry) (es:List (Sc×Sc)) (i:Nat),l.map (fun e=>(e.key,e.val))=es.map (fun p=>(p.1.val,p.2.val))→(∀p∈es,p.1.kind= .two)→
       (Instr.findAsking t x.val l i).run c.P w= .ok ((rY x es i).map fun p=>(p.1,p.2.val)) w:=by
      intro l
      induction l with
      |nil=>
       intro es i hl _
       cases es with
       |nil=>simp[Instr.findAsking,rY]
       |cons _ _=>simp at hl
      |cons e l ih=>
       intro es i hl hk
       cases es with
       |nil=>simp at hl
       |cons p es=>
        obtain⟨k,v⟩:=p
        simp only[UE,List.cons.injEq,Prod.mk.injEq]at hl
        have hkk:k.kind= .two:=hk (k,v) (by simp)
        cases x<;>simp[Sc.kind]at hx
        cases k<;>simp[Sc.kind]at hkk
        rename_i a b a' b'
        have heq:(Op.equal t (Sc.two a b).val (Sc.two a' b').val).run c.P w= .ok (sEq a a' &&(sEq b b' &&true)) w:=
         Ir (w:=w) (G:=fun _=>0) (μ:=[]) hc 10000 t _ _ _ _ _ (eq a b a' b') (Iu a b) (Iu a' b') w
        have hs:(sEq a a' &&(sEq b b' &&true))=(Sc.two a b).same (Sc.two a' b'):=by simp[sEq,Sc.same]
        rw[hs]at heq
        simp only[Instr.findAsking,Sem.run_bind,hl.1.1,heq,Result.andThen_ok,rY]
        cases(Sc.two a b).same (Sc.two a' b')with
        |true=>simp[hl.1.2]
        |false=>
         simp only[TL,if_false]
         exact ih es (i+1) hl.2 fun p hp=>hk p (by simp[hp])
     exact ask l es 0 hl hk
   ·cases hag
  ·cases h
 ·cases h
theorem wF (hc:bA c) {t:TypeId} {p:SK×SK} (h:mapOf c t=some p):∃kt et,c.P.underlying t=some (.map kt et)∧KC c.P kt p.1∧GX c et=some p.2:=by
 unfold mapOf at h
 split at h
 ·rename_i kt et _ _ _ _ _ _ hy
  split at h
  ·cases h
  ·rename_i k v hnf hk hv
   cases h
   refine⟨kt,et,(hc.ty _ _ hy).und,?_,hv⟩
   unfold keyOf at hk
   split at hk
   ·rename_i k' hk'
    cases hk
    obtain⟨dk,h1,h2⟩:=zO hc hk'
    exact KD h1 h2 fun e=>hnf e
   ·split at hk
    ·rename_i h2;cases hk;exact Jv hc h2
    ·cases hk
  ·cases h
 ·cases h
theorem DK (n:Nat) (x k:Sc) (h:x.same k=true) (hk:x.kind=k.kind):Instr.sameBits (n+1) k.val x.val=true:=by
 cases x<;>cases k<;>simp[Sc.kind]at hk<;>simp[Sc.same]at h<;>simp_all [Instr.sameBits,Sc.val]
 ·exact(bytes_beq _ _).trans (by simp)
 ·exact⟨(bytes_beq _ _).trans (by simp),(bytes_beq _ _).trans (by simp)⟩
theorem KE {w:World} {G:Gh} {μ:List Nat} (k:Sc) (es:List (Sc×Sc)) (vd:SK) (h:∀p∈es,p.2.kind=vd) {v:Sc} (hv:jP k es=some v):pN vd k es=v.toV∧Rep c w G μ v.toV v.val:=by
 have hkd:v.kind=vd:=by
  induction es with
  |nil=>simp[jP]at hv
  |cons p r ih=>
   obtain⟨a,b⟩:=p
   simp only[jP]at hv
   split at hv
   ·cases hv;exact h (a,v) (by simp)
   ·exact ih (fun p hp=>h p (by simp[hp])) hv
 refine⟨?_,?_⟩
 ·cases v<;>simp[Sc.kind]at hkd<;>subst hkd<;>simp[pN,hv,Sc.getB,Sc.getI,Sc.getS,Sc.getF,Sc.toV]
 ·cases v
  ·exact .bool _
  ·exact .int _ _
  ·exact .str _
  ·exact .clo _ [] [] [] [] rfl rfl (fun i v x hv=>by simp at hv) (fun i v x hv=>by simp at hv)
  ·rename_i a b
   refine .agg _ [.string ⟨a.toArray⟩, .string ⟨b.toArray⟩] rfl (fun x hx=>?_) (fun i v x hv hx=>?_)
   ·simp at hx
    rcases hx with rfl|rfl<;>rfl
   ·match i,hv,hx with
    |0,hv,hx=>simp at hv hx;subst hv;subst hx;exact .str _
    |1,hv,hx=>simp at hv hx;subst hv;subst hx;exact .str _
theorem MR (hc:bA c) {t:TypeId} {k:SK} (w:World) (h:GX c t=some k) (k0:Sc) (es:List (Sc×Sc)) (hn:jP k0 es=none):
  ∃z,(zeroValue t).run c.P w= .ok z w∧∀(G:Gh) (μ:List Nat),Rep c w G μ (pN k k0 es) z:=by
 unfold GX at h
 split at h
 ·rename_i y hy
  split at h
  ·rename_i k' hk
   split at h
   ·rename_i hz
    cases h
    simp only[TR,UX]at hz
    obtain⟨z,hz1,hz2,hz3⟩:=(hc.ty _ _ hy).zero w
    refine⟨z,hz1,fun G μ=>?_⟩
    obtain⟨g1,g2,g3,_⟩:=eF _ _ hz2 w G μ
    have hzz:y.zero=[pN k k0 es]:=by
     have h2:=hz.2
     unfold Kr at h2
     split at h2<;>first
      |(rename_i e;rw[e];simp[pN,Sc.getF,hn];done)
      |(rename_i e;simp at h2;simp_all [pN,Sc.getB,Sc.getI,Sc.getS])
      |(rename_i e;simp at h2;obtain⟨rfl,rfl⟩:=h2;simp_all [pN,Sc.getB,Sc.getI,Sc.getS])
      |cases h2
    have hag:¬∃l,z= .agg l:=fun e=>by have:=hz3.2 e;rw[hz.1]at this;cases this
    have hcl:z.cells.toList=[z]:=by
     cases z<;>first
      |rfl
      |exact absurd ⟨_,rfl⟩ hag
    rw[hzz,hcl]at g3
    exact g3 0 _ _ rfl rfl
   ·cases h
  ·cases h
 ·cases h
theorem Rep.nif {v:V} {x:Value} (h:Rep c w G μ v x):Rep c w G μ v.nif x:=by
 unfold V.nif
 split
 ·cases h;exact .ifoN _ _
 ·exact h
theorem Jw (v:V) (x:Value):aS v.nif x=aS v x:=by
 unfold V.nif
 split
 ·cases x<;>rfl
 ·rfl
theorem zT:∀(vs:List V) (xs:List Value),aH aS (vs.map V.nif) xs=aH aS vs xs
 |[],_=>by simp[aH]
 |_::_,[]=>by simp[aH]
 |v::vs,x::xs=>by simp only[UE,aH,Jw,zT vs xs]
theorem B8 {v:V} (h:v.solid=true):v.nif.solid=true:=by
 unfold V.nif
 split
 ·rfl
 ·exact h
def MS:V→V
 | .agg cs=> .agg (cs.map V.nif)
 |v=>v.nif
theorem zU (v:V):(MS v).cells=v.cells.map V.nif:=by
 cases v<;>first
  |rfl
  |(rename_i x;cases x<;>rfl)
theorem zV (v:V) (x:Value):aG (MS v) x=aG v x:=by
 cases v with
 |agg cs=>cases x<;>simp only[MS,aG,bK,aS,zT]
 |raw y=>cases y<;>cases x<;>rfl
 |_=>rfl
theorem KF {v:V} {x:Value} (h:Rep c w G μ v x):Rep c w G μ (MS v) x:=by
 cases v with
 |agg cs=>
  cases h with
  |agg _ l hl hs hr=>
   refine .agg _ l (by simpa using hl) hs fun i u x hu hx=>?_
   obtain⟨v,hv,rfl⟩:=bQ hu
   exact(hr i v x hv hx).nif
 |_=>exact h.nif
theorem OY {v:V} {x:Value} {t:TypeId} {u:V} (h:Rep c w G μ v x) (hv:v= .ifc t u):∃X,x= .iface t X∧Rep c w G μ u X:=by
 subst hv;cases h with|ifc _ _ X h=>exact⟨X,rfl,h⟩
theorem Jy (hc:bA c) {t:TypeId} {v:V} (h:zeroV c t=some v) (w:World):∃z,(zeroValue t).run c.P w= .ok z w∧∀(G:Gh) (μ:List Nat),Rep c w G μ v z:=by
 unfold zeroV at h
 split at h
 ·rename_i y hy
  obtain⟨z,hz1,hz2,hz3⟩:=(hc.ty _ _ hy).zero w
  refine⟨z,hz1,fun G μ=>?_⟩
  obtain⟨g1,g2,g3,_⟩:=eF _ _ hz2 w G μ
  have hag:kD c t=y.agg:=by simp[kD,hy]
  unfold dZ at h
  rw[hag]at h
  split at h
  ·rename_i ha
   cases h
   obtain⟨l,rfl⟩:=hz3.1 ha
   have:(Value.agg l)= .agg l.toList.toArray:=by simp
   rw[this]
   exact .agg _ l.toList g1 g2 g3
  ·rename_i ha
   have hna:¬∃l,z= .agg l:=fun e=>ha (hz3.2 e)
   have hcl:z.cells.toList=[z]:=by
    cases z<;>first
     |rfl
     |exact absurd ⟨_,rfl⟩ hna
   split at h
   ·rename_i x hx
    cases h
    rw[hx,hcl]at g3
    exact g3 0 _ _ rfl rfl
   ·cases h
 ·cases h
theorem EN {w:World} {t:TypeId} {d:TypeDesc} {X:Value} (h1:c.P.underlying t=some d) (h2:∀ms,d≠ .interface ms):(Instr.makeInterface t X).run c.P w= .ok (.iface t X) w:=by
 unfold Instr.makeInterface
 rw[Sem.run_bind,run_underlying h1,Result.andThen_ok]
 cases d<;>simp
 exact absurd rfl (h2 _)
theorem pG {w:World} {t xt:TypeId} {d:TypeDesc} {X:Value} {ok:Bool} (h1:c.P.underlying t=some d) (h2:∀ms,d≠ .interface ms):
  (Instr.typeAssert (.iface t X) xt t ok).run c.P w= .ok (if ok then .tuple #[X, .bool true]else X) w:=by
 unfold Instr.typeAssert
 rw[Sem.run_bind,run_underlying h1,Result.andThen_ok]
 cases d<;>simp
 exact absurd rfl (h2 _)
theorem wG {w:World} {t u xt:TypeId} {d:TypeDesc} {X Z:Value} (h1:c.P.underlying t=some d) (h2:∀ms,d≠ .interface ms) (hne:¬u=t) (hz:(zeroValue t).run c.P w= .ok Z w):
  (Instr.typeAssert (.iface u X) xt t true).run c.P w= .ok (.tuple #[Z, .bool false]) w:=by
 unfold Instr.typeAssert
 rw[Sem.run_bind,run_underlying h1,Result.andThen_ok]
 cases d<;>simp[hne,hz]
 exact absurd rfl (h2 _)
theorem OZ (hc:bA c) {call:FuncId→Fun} {icall:aN R} {ops:List Oper} {o:Oper} {S:St} {a:Act} {K:V→St→Option R} {r:R}
  (h:opK c call icall ops o S K=some r) (hn:∀cl,o.op≠ .call cl) (hS:cV c E w G μ S a):Ha c E o a w K r:=by
 obtain⟨dst,op,type,pos,after,guard⟩:=o
 unfold opK at h
 cases op<;>simp only at h
 case call cl=>exact absurd rfl (hn cl)
 case move x=>
  split at h
  ·obtain⟨S',hk,ho,hs⟩:=jD (t:=type) h hS
   exact .inl ⟨a.eval x,w,rfl,_,S',G,μ,hk,by rw[ho];exact hs⟩
  ·exact .pure hS h rfl (aT hS type x).cut (bH _ _)
 case assign x=>
  obtain⟨S',hk,ho,hs⟩:=jD (t:=type) h hS
  refine .inl ⟨a.eval x,w,rfl,_,S',G,μ,hk,?_⟩
  rw[ho]
  split
  ·unfold GZ
   split
   ·rename_i hv
    split
    ·rw[hv]at hs;exact hs.ownNil
    ·rw[hv]at hs;exact hs
   ·exact hs
  ·exact hs
 case pick cx x y=>
  have hrc:=aT hS 0 cx
  split at h
  ·rename_i hg
   have:=mH hrc hg
   exact .pure hS h (by simp[execOp,this,asBool]) (aT hS type x).cut (bH _ _)
  ·rename_i hg
   have:=mH hrc hg
   exact .pure hS h (by simp[execOp,this,asBool]) (aT hS type y).cut (bH _ _)
  ·cases h
 case binOp op t x y ty=>
  obtain⟨v,u,hk,hrun,hr,ht⟩:=Ky hc x y h (aT hS t x) (aT hS ty y)
  refine .pure hS hk ?_ (hr w G μ) (bE _ ht)
  have:=hrun w
  simp only[execOp,Sem.run_bind,this,Result.andThen_ok,Sem.run_pure]
 case makeInterface t x=>
  split at h
  ·rename_i y hy
   split at h
   ·cases h
   ·rename_i hni
    refine .pure hS h (u:= .iface t (a.eval x)) ?_ (.ifc t _ _ (aT hS t x).cut) ?_
    ·simp only[execOp,EN (hc.ty _ _ hy).und (fun ms e=>hni (by rw[e];rfl)),Sem.run_bind,Result.andThen_ok,Sem.run_pure]
    ·rfl
  ·cases h
 case typeAssert x xt t ok=>
  have hrx:=aT hS 0 x
  generalize opd c S 0 x=p at h hrx
  unfold rC at h
  split at h
  ·rename_i q hq1 u v y hy
   obtain⟨X,hX,hv⟩:=OY hrx rfl
   have hok:=hc.ty _ _ hy
   split at h
   ·cases h
   ·rename_i hni
    have hund:∃d,c.P.underlying t=some d∧∀ms,d≠ .interface ms:=⟨y.d,hok.und,fun ms e=>by rw[e]at hni;exact hni rfl⟩
    obtain⟨d,hd1,hd2⟩:=hund
    split at h
    ·rename_i hok1
     subst hok1
     split at h
     ·rename_i z hz
      split at h
      ·rename_i he
       have he:=eq_of_beq he
       subst he
       obtain⟨hf,h⟩:=aP h
       rw[(gJ hf).1]at h
       refine .pure hS h (u:= .tuple #[X, .bool true]) ?_ ?_ ?_
       ·simp only[execOp,hX,pG hd1 hd2,Sem.run_bind,Result.andThen_ok,Sem.run_pure,if_true]
       ·refine .tup _ [X, .bool true] rfl fun j v' y' hv' hy' =>?_
        match j with
        |0=>simp at hv' hy';subst hv';subst hy';exact hv.cut2
        |1=>simp at hv' hy';subst hv';subst hy';exact .bool _
        |j+2=>simp at hv'
       ·exact bH (.tup [v, .bool true]) _
      ·rename_i he
       have he:¬u=t:=by simpa using he
       obtain⟨Z,hZ,hZr⟩:=Jy hc hz w
       refine .pure hS h (u:= .tuple #[Z, .bool false]) ?_ ?_ ?_
       ·simp only[execOp,hX,wG hd1 hd2 he hZ,Sem.run_bind,Result.andThen_ok,Sem.run_pure]
       ·refine .tup _ [Z, .bool false] rfl fun j v' y' hv' hy' =>?_
        match j with
        |0=>simp at hv' hy';subst hv';subst hy';exact(hZr G μ).cut2
        |1=>simp at hv' hy';subst hv';subst hy';exact .bool _
        |j+2=>simp at hv'
       ·exact bH (.tup [z, .bool false]) _
     ·cases h
    ·split at h
     ·rename_i hno he
      have he:=eq_of_beq he
      subst he
      obtain⟨hf,h⟩:=aP h
      rw[(gJ hf).1]at h
      have hok2:ok=false:=by simpa using hno
      subst hok2
      refine .pure hS h (u:=X) ?_ hv.cut (bH _ _)
      simp only[execOp,hX,pG hd1 hd2,Sem.run_bind,Result.andThen_ok,Sem.run_pure,TL,if_false]
     ·cases h
  ·cases h
 case unOp op t x=>
  have hrx:=aT hS type x
  cases op<;>simp only at h
  case not=>
   split at h
   ·rename_i b hg
    have:=mH hrx hg
    exact .pure hS h (by simp[execOp,this,Op.unary]) (.bool _) rfl
   ·cases h
  case neg=>
   split at h
   ·rename_i k n hg
    have:=bS hrx hg
    exact .pure hS h (by simp[execOp,this,Op.unary,Op.intArith]) (.int _ _) rfl
   ·cases h
  case xor=>
   split at h
   ·rename_i k n hg
    have:=bS hrx hg
    exact .pure hS h (by simp only[execOp,this,Op.unary];rfl) (.int _ _) rfl
   ·cases h
  case plus=>cases h
 case convert src dst' x=>
  have hrx:=aT hS src x
  split at h
  ·rename_i hfl
   simp only[TR,beq_iff_eq]at hfl
   obtain⟨hsd,_⟩:=hfl
   subst hsd
   split at h
   ·rename_i v hv
    unfold Im at hv
    split at hv
    ·rename_i e2 xs e' hg hel
     split at hv
     ·rename_i hby
      cases hv
      simp only[TR,beq_iff_eq,UX,List.isEmpty_eq_false_iff]at hby
      obtain⟨⟨rfl,hby⟩,hne⟩:=hby
      obtain⟨ye,hye,hue,hse,hfe⟩:=nN hby hc
      have u1:c.P.underlying src=some (.slice e2):=by
       unfold elemOf at hel
       split at hel
       ·rename_i e1 _ _ _ _ _ _ hty
        cases hel
        exact(hc.ty _ _ hty).und
       ·cases hel
      cases x with
      |tmp s=>
       rw[show opd c S src (.tmp s)=S.get s from rfl]at hg
       have hs:S.env[s]? =some (.lst e2 true xs):=by
        unfold St.get at hg
        by_cases hsl:s<S.env.length
        ·rw[Ur,TP hsl]at hg
         rw[TP hsl];simpa using hg
        ·rw[Ur,Ut (UZ hsl)]at hg;cases hg
       obtain⟨p,m,cs,elem,fr,hX,hb,hsim⟩:=hS.mark (x:=a.eval (.tmp s)) hs (by
        have hlen:=hS.inv.len
        have h1:=(TQ.1 hs).1
        have h2:s<a.tmps.size:=Up h1 (by simpa using hlen)
        simp[Act.eval,Un,Uj h2]) hne
       obtain⟨S',hk,ho,hs'⟩:=jD (t:=src) h hsim
       rw[show opd c S src (.tmp s)=S.get s from rfl,hg]at hs'
       refine .inl ⟨a.eval (.tmp s),_,?_,_,S',G,μ,hk,by rw[ho];exact hs'⟩
       have hsh:w.shape? p.block=some (elem,cs.size):=by unfold World.shape?;rw[hb]
       have hrun:(convert src src (a.eval (.tmp s))).run c.P w= .ok (a.eval (.tmp s)) (w.freeze ⟨p.block,cs.size,none⟩ 1):=by
        rw[hX]
        simp[convert,run_underlying u1,run_underlying hue,markStringish,hsh]
       simp only[execOp,Sem.run_bind,hrun,Result.andThen_ok,Sem.run_pure]
      |const v=>
       exfalso
       rw[show opd c S src (.const v)=nZ c src v from rfl]at hg
       unfold nZ at hg
       split at hg
       all_goals first|(cases hg;done)|skip
       all_goals (repeat' split at hg)<;>first|(cases hg;done)|(cases hg;exact hne rfl)
      |func f=>cases hg
      |global g=>
       simp only[opd]at hg
       split at hg<;>cases hg
     ·cases hv
    ·cases hv
   ·cases h
  unfold B0 at h
  split at h
  ·rename_i ys yd h1 h2
   have u1:=(hc.ty _ _ h1).und
   have u2:=(hc.ty _ _ h2).und
   generalize ys.d=ds at h u1
   generalize yd.d=dd at h u2
   generalize hg:opd c S src x=vx at h
   split at h
   ·have:=bS hrx hg
    exact .pure hS h (by simp[execOp,this,convert,run_underlying u1,run_underlying u2,Conv.intToInt]) (.int _ _) rfl
   ·rename_i n
    have:=bS hrx hg
    refine .pure hS h (u:= .string (Utf8.encode n)) (by simp[execOp,this,convert,run_underlying u1,run_underlying u2,Conv.intToString]) ?_ rfl
    have:=Rep.str (c:=c) (w:=w) (G:=G) (μ:=μ) (Utf8.encode n).data.toList
    simpa using this
   ·have:=lG hrx hg
    exact .pure hS h (by simp[execOp,this,convert,run_underlying u1,run_underlying u2]) (.str _) rfl
   ·rename_i e s
    split at h
    ·rename_i hby
     obtain⟨ye,hye,hue,hse,hfe⟩:=nN hby hc
     have hx:=lG hrx hg
     have hrun:=Lib.run_convert_string_bytes (P:=c.P) w src dst' e ⟨s.toArray⟩ u1 u2 hue
     have hsz:(⟨s.toArray⟩:ByteArray).size=s.length:=by simp[ByteArray.size]
     rw[hsz]at hrun
     have hcells:(Lib.bytesCells w e ⟨s.toArray⟩).toList=(s.map fun b=>Value.int .u8 b.toNat)++TZ (grownCap w s.length 0 e - s.length) (.int .u8 0):=by
      simp[Lib.bytesCells,hsz]
     have hge:=grownCap_ge w s.length 0 e
     have hcs:(Lib.bytesCells w e ⟨s.toArray⟩).size=grownCap w s.length 0 e:=by
      have:=congrArg US hcells
      simp at this;omega
     have hnew:=Lib.bytesWorld_at_new w e ⟨s.toArray⟩
     have hx2:eH w G (Lib.bytesWorld w e ⟨s.toArray⟩) (fun k=>if k=w.heap.size then s.length else G k):=by
      refine⟨by rw[Lib.bytesWorld_size];omega,fun b hb=>⟨Lib.bytesWorld_at_old w e _ b hb,by simp[Nat.ne_of_lt hb]⟩,fun b hb=>?_,?_,?_,?_⟩
      ·rw[Lib.bytesWorld_size]at hb
       have:b≠w.heap.size:=by omega
       simp[this,hS.inv.none b (by omega)]
      all_goals (unfold Lib.bytesWorld World.freeze;split<;>rfl)
     have hfl:flat (s.map fun b=>Value.int .u8 b.toNat)=s.map fun b=>Value.int .u8 b.toNat:=nM s
     have:=hS.newList hx2 (e:=e) (t:=true) (xs:=ofBytes s) (l:=s.map fun b=>Value.int .u8 b.toNat) (cap:=grownCap w s.length 0 e) hnew
      (by rw[hfl];simp) (fun j y hj=>by
       rw[hfl]at hj
       have hjl:=(TQ.1 hj).1
       have e1:(Lib.bytesCells w e ⟨s.toArray⟩).toList[j]? =some y:=by rw[hcells,TU hjl];exact hj
       simpa using e1)
      (by simp[ofBytes]) (fun i v y hv hy=>qA _ _ s i v y hv hy) ((fP hby hc).2 s) (fun y hy=>by
       obtain⟨b,_,rfl⟩:=Vy.1 hy
       rw[(fP hby hc).1];rfl)
      (by rw[(fP hby hc).1];omega) (by simpa[ofBytes]using hge) (by rw[(fP hby hc).1,hcs];omega)
      (.inr (by simp only[];omega)) (by rw[hfl,(fP hby hc).1];simp[ofBytes])
     refine .inl ⟨_,_,?_,_,S,_,μ,h,by simpa[ofBytes]using this⟩
     simp only[execOp,hx,Sem.run_bind,hrun,Result.andThen_ok,Sem.run_pure]
    ·cases h
   ·rename_i e1 e2 e' xs
    split at h
    ·rename_i hby
     simp only[TR,beq_iff_eq,UX,List.isEmpty_eq_false_iff]at hby
     obtain⟨⟨⟨⟨hsd,h1e⟩,h2e⟩,hby⟩,hne⟩:=hby
     subst hsd h1e h2e
     obtain⟨ye,hye,hue,hse,hfe⟩:=nN hby hc
     cases x with
     |tmp s=>
      rw[show opd c S src (.tmp s)=S.get s from rfl]at hg
      have hs:S.env[s]? =some (.lst e2 true xs):=by
       unfold St.get at hg
       by_cases hsl:s<S.env.length
       ·rw[Ur,TP hsl]at hg
        rw[TP hsl];simpa using hg
       ·rw[Ur,Ut (UZ hsl)]at hg;cases hg
      obtain⟨p,m,cs,elem,fr,hX,hb,hsim⟩:=hS.mark (x:=a.eval (.tmp s)) hs (by
       have hlen:=hS.inv.len
       have h1:=(TQ.1 hs).1
       have h2:s<a.tmps.size:=Up h1 (by simpa using hlen)
       simp[Act.eval,Un,Uj h2]) hne
      have hr2:Rep c (w.freeze ⟨p.block,cs.size,none⟩ 1) G μ (.lst e2 false xs) (a.eval (.tmp s)):=by
       have:=aT (S:=S) hsim 0 (.tmp s)
       rw[show opd c S 0 (.tmp s)=S.get s from rfl,hg]at this
       exact this.cut
      refine .inl ⟨a.eval (.tmp s),_,?_,_,S,G,μ,h,hsim.push hr2 (bE _ rfl)⟩
      have hsh:w.shape? p.block=some (elem,cs.size):=by unfold World.shape?;rw[hb]
      have hrun:(convert src src (a.eval (.tmp s))).run c.P w= .ok (a.eval (.tmp s)) (w.freeze ⟨p.block,cs.size,none⟩ 1):=by
       rw[hX]
       simp[convert,run_underlying u1,run_underlying hue,markStringish,hsh]
      simp only[execOp,Sem.run_bind,hrun,Result.andThen_ok,Sem.run_pure]
     |const v=>
      exfalso
      rw[show opd c S src (.const v)=nZ c src v from rfl]at hg
      unfold nZ at hg
      split at hg
      all_goals first|(cases hg;done)|skip
      all_goals (repeat' split at hg)<;>first|(cases hg;done)|(cases hg;exact hne rfl)
     |func f=>cases hg
     |global g=>
      simp only[opd]at hg
      split at hg<;>cases hg
    ·cases h
   ·rename_i e e' tp xs
    split at h
    ·rename_i hby
     simp only[TR,beq_iff_eq]at hby
     obtain⟨hby,rfl⟩:=hby
     obtain⟨ye,hye,hue,hse,hfe⟩:=nN hby hc
     rw[hg]at hrx
     obtain⟨hrun,q,n,m,hX⟩:=Jt hc hby hrx
     refine .pure hS h ?_ (.str _) rfl
     have e1:=run_convert_bytes_string (P:=c.P) w src dst' e q n m u1 hue u2
     rw[←hX]at e1
     simp only[execOp,Sem.run_bind,e1,hrun,Result.andThen_ok,Sem.run_pure]
    ·cases h
   ·cases h
  ·cases h
 case build t parts=>
  split at h
  ·rename_i v hv
   generalize hps:(parts.toList.map fun p=>(p.1,opd c S (match c.ty t with|some { d:= .struct fs, .. }=>((fs[p.1]?).map (·.type)).getD 0|some { d:= .array _ e, .. }=>e|_=>0) p.2 |>.cut))=ps at hv
   have hpp:∀(i:Nat) p q,ps[i]? =some p→((parts.map fun(i,x)=>(i,a.eval x)).toList)[i]? =some q→p.1=q.1∧Rep c w G μ p.2 q.2:=by
    intro i p q hp hq
    rw[←hps]at hp
    obtain⟨p0,h0,rfl⟩:=bQ hp
    simp only[Array.toList_map]at hq
    obtain⟨q0,h1,rfl⟩:=bQ hq
    rw[h0]at h1;cases h1
    exact⟨rfl,(aT hS _ _).cut⟩
   have hpl:ps.length=(parts.map fun(i,x)=>(i,a.eval x)).toList.length:=by rw[←hps];simp
   unfold Dy at hv
   split at hv
   ·rename_i fs size bytes agg sh zero eq hy
    have hok:=hc.ty _ _ hy
    obtain⟨cs',hfill,rfl⟩:=UG.1 hv
    obtain⟨z,hz,hzf,hza⟩:=hok.zero w
    obtain⟨g1,g2,g3,g4⟩:=eF zero z.cells.toList hzf w G μ
    have hplaces:(fun(i:Nat)=>(fs[i]?).map fun(f:Field)=>(f.offset,aE c f.type))=fun(i:Nat)=>(fs.map fun(f:Field)=>(f.offset,aE c f.type))[i]? :=by
     funext i;simp
    rw[hplaces]at hfill
    obtain⟨CS',f1,f2,f3,f4,f5⟩:=zC (c:=c) (w:=w) (G:=G) (μ:=μ) _ ps _ zero cs' z.cells hpl hpp g1 g2 g3 hfill
    refine .pure hS h (u:= .agg CS') ?_ ?_ ?_
    ·have hpm:(fs.mapM fun(f:Field)=>(do pure (f.offset,←Go.sizeOf f.type):Sem (Nat×Nat))).run c.P w= .ok (fs.map fun(f:Field)=>(f.offset,aE c f.type)) w:=by
      refine Jq fs fun f hf=>?_
      obtain⟨yf,hyf⟩:=hok.fields fs rfl f hf
      simp[(hc.ty _ _ hyf).sizeOf,aE,hyf]
     simp only[execOp,Instr.build,Sem.run_bind,hz,Result.andThen_ok,run_underlying hok.und,hpm,f1,Sem.run_pure]
    ·have:=Rep.agg (c:=c) (w:=w) (G:=G) (μ:=μ) cs' CS'.toList f2 f3 f4
     simpa using this
    ·simp only[aG,bK]
     exact f5 (fun i p q hp hq=>by
      rw[←hps]at hp
      obtain⟨p0,h0,rfl⟩:=bQ hp
      exact bH _ _) g4
   ·rename_i n e size bytes agg sh zero eq hy
    have hok:=hc.ty _ _ hy
    obtain⟨cs',hfill,rfl⟩:=UG.1 hv
    obtain⟨z,hz,hzf,hza⟩:=hok.zero w
    obtain⟨g1,g2,g3,g4⟩:=eF zero z.cells.toList hzf w G μ
    obtain⟨CS',f1,f2,f3,f4,f5⟩:=zC (c:=c) (w:=w) (G:=G) (μ:=μ) _ ps _ zero cs' z.cells hpl hpp g1 g2 g3 hfill
    obtain⟨ye,hye⟩:=hok.elem n e rfl
    have hse:aE c e=ye.size:=by simp[aE,hye]
    refine .pure hS h (u:= .agg CS') ?_ ?_ ?_
    ·rw[hse]at f1
     simp only[execOp,Instr.build,Sem.run_bind,hz,Result.andThen_ok,run_underlying hok.und,(hc.ty _ _ hye).sizeOf,f1,Sem.run_pure]
    ·have:=Rep.agg (c:=c) (w:=w) (G:=G) (μ:=μ) cs' CS'.toList f2 f3 f4
     simpa using this
    ·simp only[aG,bK]
     exact f5 (fun i p q hp hq=>by
      rw[←hps]at hp
      obtain⟨p0,h0,rfl⟩:=bQ hp
      exact bH _ _) g4
   ·cases hv
  ·cases h
 case buildSlice t n parts=>
  split at h
  ·cases h
  ·rename_i e he
   split at h
   ·cases h
   ·rename_i xs hxs
    split at h
    ·rename_i hcnd
     simp only[TR,decide_eq_true_eq,Ux,V4]at hcnd
     obtain⟨⟨⟨hall,href⟩,hsmall⟩,hz0⟩:=hcnd
     exact .inl (BL hc hS he hxs hall href hsmall hz0 h rfl)
    ·cases h
 case makeSlice t l m=>
  have hrl:=aT hS 0 l
  have hrm:=aT hS 0 m
  generalize opd c S 0 l=p at h hrl
  generalize opd c S 0 m=q at h hrm
  split at h
  ·rename_i e k n k' n' he
   split at h
   ·rename_i y hy
    split at h
    ·rename_i z hz
     split at h
     ·rename_i hcnd
      simp only[TR,decide_eq_true_eq,V4]at hcnd
      obtain⟨⟨h0,hfit⟩,href⟩:=hcnd
      obtain⟨b1,h1⟩:=aP h
      obtain⟨b2,h2⟩:=aP h1
      obtain⟨b3,h3⟩:=aP h2
      clear h h1 h2
      simp only[beq_iff_eq,decide_eq_true_eq]at b1 b2 b3
      subst b1
      obtain⟨N,rfl⟩:∃N:Nat,n=N:=⟨n.toNat,by omega⟩
      have b4:N* (y.bytes+1)≤70368744177664:=by
       have:((N* (y.bytes+1):Nat):Int)≤70368744177664:=by rw[Int.natCast_mul];exact b3
       omega
      rw[TW]at h3
      obtain⟨u',w',hr,hw⟩:=DI hc hS he hy hz h0 hfit href b4 h3 (bS hrl rfl) (bS hrm rfl)
      refine .inl ⟨u',w',?_,hw⟩
      simp only[execOp,Sem.run_bind,hr,Result.andThen_ok,Sem.run_pure]
     ·cases h
    ·cases h
   ·cases h
  ·cases h
 case alloc t=>
  split at h
  ·rename_i y hy
   rw[gP]at h
   have hok:=hc.ty t y hy
   obtain⟨z,hz,hzf,hza⟩:=hok.zero w
   obtain⟨g1,g2,g3,g4⟩:=eF y.zero z.cells.toList hzf w G μ
   have mk:∀Z:List V,z.cells.toList.length=Z.length→(∀(i:Nat) v x,Z[i]? =some v→z.cells.toList[i]? =some x→Rep c w G μ v x)→aH aS Z z.cells.toList=[]→(∀v∈Z,v.solid=true)→
     Sim c E (w.alloc (.cells z.cells t)) (fun b=>if b=w.heap.size then 0 else G b) (μ++[w.heap.size]) (.ref S.objs.length 0::S.env) (.pointer (some ⟨w.heap.size,0,none⟩)::a.tmps.toList) (S.objs++[.cells Z]):=by
    intro Z k1 k3 k4 k5
    have hag:Rep c w G μ (.agg Z) (.agg z.cells.toList.toArray):= .agg Z z.cells.toList k1 g2 k3
    have hs:=(hS.push hag (by simp only[aG,bK,List.toList_toArray];exact k4)).newObj (elem:=t) (by simpa[V.cells,Ux]using k5)
    simpa only[V.cells,Value.cells,Array.toArray_toList]using hs
   have hsol:∀v∈y.zero,v.solid=true:=by
    intro v hv
    obtain⟨i,hi⟩:=List.getElem?_of_mem hv
    have hlt:=(TQ.1 hi).1
    have key:∀(a:List V) (b:List Value),fB c a b=true→∀v∈a,v.solid=true:=by
     intro a
     induction a with
     |nil=>intro b _ v h;cases h
     |cons u a ih=>
      intro b hb v hv
      cases b with
      |nil=>simp[fB]at hb
      |cons x b=>
       simp only[fB,TR]at hb
       rcases UH.1 hv with rfl|hv
       ·have:=hb.1
        unfold MO at this
        split at this<;>first|rfl|cases this
       ·exact ih b hb.2 v hv
    exact key _ _ hzf v hv
   have hs:=mk y.zero g1 g3 g4 hsol
   have hs' :Sim c E (w.alloc (.cells z.cells t)) (fun b=>if b=w.heap.size then 0 else G b) (μ++[w.heap.size]) (.ref S.objs.length 0::S.env) (.pointer (some ⟨w.heap.size,0,none⟩)::a.tmps.toList) (S.objs++[.cells (uA c t S.objs.length y.zero)]):=by
    unfold uA
    split
    ·split
     ·rename_i r hr
      rw[hr]at hs
      exact hs.weakOpt rfl fun b cs elem fr hb hh=>by
       have hol:=hS.inv.olen
       rw[hol]at hb
       have hb' :w.heap.size=b:=by simpa using hb
       subst hb'
       have hn:(w.alloc (.cells z.cells t)).heap[w.heap.size]? =some (.cells z.cells t):=by show(w.heap.push _)[w.heap.size]? =_;simp
       have e:=hn.symm.trans hh
       simp only[Option.some.injEq,Obj.cells.injEq]at e
       rw[←e.2.1]
       assumption
     ·exact hs
    ·refine mk _ (by simpa using g1) (fun i v x hv hx=>?_) ?_ (fun v hv=>?_)
     ·obtain⟨u,hu,rfl⟩:=bQ hv
      exact(g3 i u x hu hx).nif
     ·rw[zT];exact g4
     ·obtain⟨u,hu,rfl⟩:=Vy.1 hv
      exact B8 (hsol u hu)
   refine .inl ⟨_,_,?_,_,_,_,_,h,hs'⟩
   simp[execOp,Instr.alloc,hz,newVar,newRow,Value.cells]
  ·cases h
 case box t x=>
  split at h
  ·rename_i hcnd
   simp only[TR]at hcnd
   obtain⟨S',hk,ho,hs⟩:=jD (t:=t) h hS
   rw[gP,ho]at hk
   have hs1:=hs.refront (KF (hs.inv.rep 0 _ _ rfl rfl)) (fun b=>by rw[zV];exact TY _) (fun l hl=>hs.inv.ok l (by rw[zV]at hl;exact List.mem_append_left _ (List.mem_append_left _ hl)))
   have hs2:=hs1.newObj (by
    rw[zU,List.all_map,Ux]
    intro v hv
    exact B8 (Ux.1 hcnd.2 v hv)) t
   rw[zU]at hs2
   refine .inl ⟨_,_,?_,_,_,_,_,hk,hs2⟩
   simp[execOp,Instr.box,newVar,newRow]
  ·cases h
 case load t x=>
  have hrx:=aT hS 0 x
  simp only[uI]at h
  split at h
  ·rename_i v hv
   generalize opd c S 0 x=p at hv h hrx
   unfold jR at hv
   split at hv
   ·rename_i i off
    split at hv
    ·rename_i cs hob
     have hobs:=St.ob_get hob
     obtain⟨b,hb⟩:=μ_get hS hobs
     obtain⟨l,elem,fr,h1,h2,h3,h4,h5,h6⟩:=hS.inv.obs i _ b hobs hb
     have hx:a.eval x= .pointer (some ⟨b,0+off,none⟩):=by
      obtain⟨b',hb',hx'⟩:=mX hrx rfl
      rw[hb]at hb';cases hb';simpa using hx'
     obtain⟨u,y,hy,hrun,hru,huc,hle,hvc,hag⟩:=oN (w:=w) (b:=b) (o0:=0) hc hv h3 h4 h5 (fun j z hj=>by
      simp only[World.cell?,h1,UD];simpa using hj)
     have hrunO:(execOp a.eval ⟨dst, .load t x,type,pos,after,guard⟩).run c.P w= .ok (.value u) w:=by
      simp only[execOp,hx,Instr.loadAt,Instr.sureAddr,Sem.run_bind,Sem.run_pure,Result.andThen_ok,hrun]
     have hlf:aH aS v.cells u.cells.toList=aG v u:=Hd hru (hag.imp id fun⟨g1,g2⟩=>⟨g1,by
      have hle2:off+y.size≤cs.length:=by omega
      have:v.cells.length=1:=by rw[hvc];simp;omega
      match hvv:v.cells,this with
      |[z],_=>exact⟨z,rfl⟩⟩)
     simp only[V.isRef,Bool.and_true]at h
     split at h
     ·have hcat:cC w b=l:=by unfold cC;rw[h1]
      have hsz:aE c t=y.size:=by simp[aE,hy]
      unfold tY at h
      simp only[hob,eR,hsz]at h
      exact .inl ⟨u,w,hrunO,v,_,G,μ,h,hS.takeOb hobs hb hcat h3 (by omega) hru hvc huc hlf⟩
     ·exact .pure hS h hrunO hru.cut (bH _ _)
    ·cases hv
   ·rename_i cs
    obtain⟨b,off,l,hx,hl,hs,hr,hrow⟩:=DG hrx rfl
    ·obtain⟨u,y,hy,hrun,hru,huc,hle,hvc,hag⟩:=oN (w:=w) (G:=G) (μ:=[]) (b:=b) (o0:=off) hc hv hl hs hr (fun j z hj=>(hrow j z hj).1)
     have hru' :Rep c w G μ v u:=hru.more fun i b _ h=>by simp at h
     have hrunO:(execOp a.eval ⟨dst, .load t x,type,pos,after,guard⟩).run c.P w= .ok (.value u) w:=by
      simp only[U2]at hrun
      simp only[execOp,hx,Instr.loadAt,Instr.sureAddr,Sem.run_bind,Sem.run_pure,Result.andThen_ok,hrun]
     simp only[V.isRef,Bool.and_false,TL,if_false]at h
     exact .pure hS h hrunO hru'.cut (bH _ _)
   ·cases hv
  ·cases h
 case store t x y=>
  obtain⟨S',hk,ho,hs⟩:=jD (t:=t) h hS
  have hrx:=aT hS 0 x
  generalize opd c S 0 x=p at hk hrx
  unfold Dz at hk
  split at hk
  ·rename_i i off
   split at hk
   ·rename_i cs hob
    split at hk
    ·rename_i hcnd
     simp only[TR,decide_eq_true_eq,beq_iff_eq]at hcnd
     obtain⟨⟨⟨hty,hle⟩,hvl⟩,hsg⟩:=hcnd
     obtain⟨yt,hyt⟩:=Vp.1 hty
     have hsz:aE c t=yt.size:=by simp[aE,hyt]
     have hobs:S.objs[i]? =some (.cells cs):=by
      have:S'.ob i=S.ob i:=by simp only[St.ob,ho]
      rw[this]at hob;exact St.ob_get hob
     obtain⟨b,hb,hx⟩:=mX hrx rfl
     obtain⟨w',hrun,hsim⟩:=hs.store hobs hb hsg (by rw[hvl];exact hle)
     rw[eR,ho]at hk
     have hxc:(a.eval y).cells.size=yt.size:=by
      have:=(eQ (hs.inv.rep 0 _ _ rfl rfl) (jC hsg)).1
      rw[this,hvl,hsz]
     refine .inr (.inl ⟨w',?_, .bot,_,G,μ,hk,hsim.push (.bot _) (by cases a.eval y<;>rfl)⟩)
     have hnn:¬(a.eval y).cells.size≠yt.size:=by simp[hxc]
     simp only[execOp,hx,Instr.storeAt,Instr.sureAddr,storeVar,Sem.run_bind,Sem.run_pure,Result.andThen_ok,(hc.ty _ _ hyt).sizeOf,Sem.run_ite,if_neg hnn,hrun]
    ·cases hk
   ·cases hk
  ·cases hk
 case nilCheck x=>
  have hrx:=aT hS 0 x
  generalize hg:opd c S 0 x=p at h hrx
  split at h
  ·rename_i i f
   obtain⟨b,hb,hx⟩:=mX hrx rfl
   exact .pure hS h (by simp only[execOp,hx];rfl) (.ref i f b hb) rfl
  ·rename_i cs
   obtain⟨b,off,l,hx,_⟩:=DG hrx rfl
   exact .pure hS h (u:=a.eval x) (by simp only[execOp,hx];rfl) hrx (bE _ rfl)
  ·rename_i f fa fb
   split at h
   ·rename_i f
    have hx:∃q1 q2,a.eval x= .func (.func f) q1 q2:=by
     generalize a.eval x=X at hrx
     cases hrx;exact⟨_,_,rfl⟩
    obtain⟨q1,q2,hx⟩:=hx
    exact .pure hS h (u:=a.eval x) (by simp only[execOp,hx];rfl) hrx (bE _ rfl)
   ·cases h
  ·cases h
 case fieldAddr t x f=>
  split at h
  ·cases h
  ·rename_i fs hfs
   obtain⟨y,hy,hyd,hund,hft⟩:=mG hfs hc
   split at h
   ·cases h
   ·rename_i fd hfd
    split at h
    ·cases h
    ·rename_i hsz
     have hne:aE c fd.type≠0:=by simpa using hsz
     obtain⟨yf,hyf,hys⟩:=dD hne
     have hplace:∀b off,(fieldPlace ⟨b,off,none⟩ fd).run c.P w= .ok ⟨b,off+fd.offset,none⟩ w:=by
      intro b off
      have h0:¬yf.size=0:=by omega
      simp only[fieldPlace,Sem.run_bind,(hc.ty _ _ hyf).sizeOf,Result.andThen_ok,Sem.run_ite,if_neg h0,Sem.run_pure,Addr.add_lit]
     have hrx:=aT hS 0 x
     generalize hg:opd c S 0 x=p at h hrx
     split at h
     ·rename_i i off
      obtain⟨b,hb,hx⟩:=mX hrx rfl
      refine .pure hS h (u:= .pointer (some ⟨b,off+fd.offset,none⟩)) ?_ (.ref i _ b hb) rfl
      simp only[execOp,Instr.fieldAt,Sem.run_bind,run_underlying hund,Result.andThen_ok,hfd,hx,Instr.sureAddr,Sem.run_pure,hplace]
     ·rename_i cs
      obtain⟨b,off,l,hx,hl,hs,hr,hrow⟩:=DG hrx rfl
      refine .pure hS h (u:= .pointer (some ⟨b,off+fd.offset,none⟩)) ?_ (.cpt _ b _ (l.drop fd.offset) (by simp[hl]) (fun z hz=>hs z (U1 hz)) (fun j p q hp hq=>by
       rw[UN]at hp hq;exact hr _ p q hp hq) (fun j q hq=>by
       rw[UN]at hq
       have:=hrow _ q hq
       rwa [Vf])) (bE _ rfl)
      simp only[execOp,Instr.fieldAt,Sem.run_bind,run_underlying hund,Result.andThen_ok,hfd,hx,Instr.sureAddr,Sem.run_pure,hplace]
     ·cases h
 case field t x f=>
  split at h
  ·cases h
  ·rename_i fs hfs
   obtain⟨y,hy,hyd,hund,hft⟩:=mG hfs hc
   have hrx:=aT hS t x
   generalize hg:opd c S t x=p at h hrx
   split at h
   ·rename_i fd cs hfd
    split at h
    ·rename_i v hv
     obtain⟨l,hx,hl,hs,hr⟩:=wB hrx rfl
     obtain⟨yf,hyf⟩:=oM hv
     obtain⟨u,hu,hru,_⟩:=gW hc hv hl hs hr hyf
     refine .pure hS h (u:=u) ?_ hru.cut (bH _ _)
     simp only[execOp,Instr.field,Sem.run_bind,run_underlying hund,Result.andThen_ok,hfd,hx,asAgg,Sem.run_pure,hu]
    ·cases h
   ·cases h
 case indexAddr t x i=>
  have hrx:=aT hS t x
  have hri:=aT hS 0 i
  generalize hg:opd c S t x=p at h hrx
  generalize hgi:opd c S 0 i=pi at h hri
  split at h
  ·rename_i e tp xs k n
   split at h
   ·rename_i e' he'
    split at h
    ·rename_i hcnd
     simp only[TR,beq_iff_eq,decide_eq_true_eq]at hcnd
     obtain⟨rfl,hz⟩:=hcnd
     obtain⟨hn0,h⟩:=aP h
     obtain⟨hn1,h⟩:=aP h
     have hn0:0≤n:=by simpa using hn0
     have hn1:n<xs.length:=by simpa using hn1
     have hi:=bS hri rfl
     obtain⟨q,m,l,hx,hl,hr,hf,hs,hz',hcap,hq,hrow⟩:=oP hrx rfl
     have hund:=eX he' hc
     obtain⟨y,hy,hys⟩:=dD (c:=c) (t:=e) (by omega)
     have hlt:n.toNat<xs.length:=by omega
     cases q with
     |none=>have:=hq.1 rfl;omega
     |some p=>
      obtain⟨hsp,hrw⟩:=hrow p rfl (fun h0=>by rw[h0]at hlt;simp at hlt)
      obtain⟨pb,po,ps⟩:=p
      simp only at hsp hrw;subst hsp
      have hxi:xs.getD n.toNat .bot=xs[n.toNat]:=by simp[Ul,TP hlt]
      have hfe:=hf xs[n.toNat] (U3 hlt)
      have heta:vT c e xs[n.toNat]=xs[n.toNat]:=by
       exact(gJ hfe).1
      have hli:l[n.toNat]? =some l[n.toNat]:=TP (by omega)
      have hre:=hr n.toNat _ _ (TP hlt) hli
      have hflat:∀j z,(l[n.toNat].cells.toList)[j]? =some z→(flat l)[n.toNat*aE c e+j]? =some z:=by
       intro j z hj
       refine wE hs (k:=n.toNat) (m:=n.toNat+1) j z ?_
       have hone:(l.take (n.toNat+1)).drop n.toNat=[l[n.toNat]]:=by
        rw[List.drop_take,show n.toNat+1 - n.toNat=1 by omega,UM (by omega)]
        rfl
       rw[hone]
       simpa[flat]using hj
      have hsg:xs[n.toNat].cells.all V.single=true:=(gJ hfe).2
      obtain⟨c1,c2,c3⟩:=eQ hre hsg
      rw[hxi,heta]at h
      refine .pure hS h (u:= .pointer (some ⟨pb,po+n.toNat*aE c e,none⟩)) ?_ (.cpt _ pb _ l[n.toNat].cells.toList (by simpa using c1) c2 c3 (fun j z hj=>by
       have:=hrw _ z (hflat j z hj)
       rwa [Vf])) (bE _ rfl)
      have hcond:0≤n∧n<(xs.length:Int):=⟨hn0,hn1⟩
      simp only[execOp,Instr.indexAt,hi,hx,asIntOf,Sem.run_bind,Sem.run_pure,run_underlying hund,Result.andThen_ok,if_pos hcond,Sem.run_ite,(hc.ty _ _ hy).sizeOf,Addr.add_lit,hys]
    ·cases h
   ·cases h
  ·rename_i o off k n
   split at h
   ·rename_i m e hae
    split at h
    ·rename_i hz
     obtain⟨hn,h⟩:=aP h
     have hn:0≤n∧n<(m:Int):=by simpa using hn
     have hi:=bS hri rfl
     obtain⟨b,hb,hx⟩:=mX hrx rfl
     have hund:=vX hae hc
     obtain⟨y,hy,hys⟩:=dD (c:=c) (t:=e) (by omega)
     refine .pure hS h (u:= .pointer (some ⟨b,off+n.toNat*aE c e,none⟩)) ?_ (.ref o _ b hb) rfl
     simp only[execOp,Instr.indexAt,hi,hx,asIntOf,Instr.sureAddr,Sem.run_bind,Sem.run_pure,run_underlying hund,Result.andThen_ok,if_pos hn,Sem.run_ite,(hc.ty _ _ hy).sizeOf,Addr.add_lit,hys]
    ·cases h
   ·cases h
  ·rename_i cs k n
   split at h
   ·rename_i m e hae
    split at h
    ·rename_i hcnd
     simp only[TR,beq_iff_eq,Ux]at hcnd
     obtain⟨⟨hz,hcm⟩,hfit⟩:=hcnd
     obtain⟨hn0,h⟩:=aP h
     obtain⟨hn1,h⟩:=aP h
     have hn0:0≤n:=by simpa using hn0
     have hn1:n<cs.length:=by simpa using hn1
     have hn:0≤n∧n<(m:Int):=⟨hn0,by omega⟩
     have hi:=bS hri rfl
     obtain⟨b,off,l,hx,hl,hs,hr,hrow⟩:=DG hrx rfl
     have hund:=vX hae hc
     obtain⟨y,hy,hys⟩:=dD (c:=c) (t:=e) (by omega)
     have hlt:n.toNat<cs.length:=by omega
     have hxi:cs.getD n.toNat .bot=cs[n.toNat]:=by simp[Ul,TP hlt]
     have hli:l[n.toNat]? =some l[n.toNat]:=TP (by omega)
     have heta:vT c e cs[n.toNat]=cs[n.toNat]:=(gJ (hfit _ (U3 hlt))).1
     rw[hxi,heta]at h
     refine .pure hS h (u:= .pointer (some ⟨b,off+n.toNat*aE c e,none⟩)) ?_ (.cpt _ b _ [l[n.toNat]] rfl (fun x hx=>?_) (fun i v x hv hx=>?_) (fun j z hj=>?_)) (bE _ rfl)
     ·simp only[execOp,Instr.indexAt,hi,hx,asIntOf,Instr.sureAddr,Sem.run_bind,Sem.run_pure,run_underlying hund,Result.andThen_ok,if_pos hn,Sem.run_ite,(hc.ty _ _ hy).sizeOf,Addr.add_lit,hys]
     ·rw[Wl]at hx;subst hx
      exact hs _ (U3 _)
     ·cases i with
      |zero=>
       simp at hv hx;subst hv;subst hx
       exact hr n.toNat _ _ (TP hlt) hli
      |succ i=>simp at hv
     ·cases j with
      |zero=>
       simp at hj;subst hj
       rw[hz,Nat.mul_one,U2]
       exact hrow n.toNat _ hli
      |succ j=>simp at hj
    ·cases h
   ·cases h
  ·cases h
 case index t x i=>
  have hrx:=aT hS 0 x
  have hri:=aT hS 0 i
  generalize hg:opd c S 0 x=p at h hrx
  generalize hgi:opd c S 0 i=pi at h hri
  split at h
  ·rename_i s k n
   split at h
   ·rename_i hst
    obtain⟨hn0,h⟩:=aP h
    obtain⟨hn1,h⟩:=aP h
    have hn0:0≤n:=by simpa using hn0
    have hn1:n<s.length:=by simpa using hn1
    have hi:=bS hri rfl
    have hx:=lG hrx rfl
    have hund:=kV hst hc
    refine .pure hS h (u:= .int .u8 (s.getD n.toNat 0).toNat) ?_ (.int _ _) rfl
    have hlt:n.toNat<(⟨s.toArray⟩:ByteArray).size:=by simp[ByteArray.size];omega
    have hget:(⟨s.toArray⟩:ByteArray)[n.toNat]? =some (s.getD n.toNat 0):=by
     rw[ByteArray.getElem?_lt' _ _ hlt]
     have:n.toNat<s.length:=by omega
     simp[Ul,TP this]
     rfl
    simp only[execOp,Instr.index,hi,hx,asIntOf,Sem.run_bind,Sem.run_pure,run_underlying hund,Result.andThen_ok,if_pos hn0,hget]
   ·cases h
  ·rename_i cs k n
   split at h
   ·rename_i m e hae
    obtain⟨hn,h⟩:=aP h
    have hn:0≤n∧n<(m:Int):=by simpa using hn
    have hi:=bS hri rfl
    obtain⟨l,hx,hl,hs,hr⟩:=wB hrx rfl
    have hund:=vX hae hc
    split at h
    ·rename_i v hv
     obtain⟨y,hy⟩:=oM hv
     have hys:aE c e=y.size:=by simp[aE,hy]
     rw[hys]at hv
     obtain⟨u,hu,hru,_⟩:=gW hc hv hl hs hr hy
     refine .pure hS h (u:=u) ?_ hru.cut (bH _ _)
     simp only[execOp,Instr.index,hi,hx,asIntOf,Sem.run_bind,Sem.run_pure,run_underlying hund,Result.andThen_ok,if_pos hn,(hc.ty _ _ hy).sizeOf,hu]
    ·cases h
   ·cases h
  ·cases h
 case slice t x lo hi mx=>
  split at h
  ·rename_i hcnd
   simp only[TR]at hcnd
   have h0:∀o,Rep c w G μ (opd c S 0 o) (a.eval o):=fun o=>aT hS 0 o
   obtain⟨v,u,hk,hrun,hrep,htip⟩:=Ju hc h0 (aT hS t x) hcnd.1.1.1 hcnd.1.1.2 hcnd.1.2 hcnd.2 h
   refine .pure hS hk (u:=u) ?_ hrep htip
   simp only[execOp,Sem.run_bind,hrun,Result.andThen_ok,Sem.run_pure]
  ·cases h
 case extract x n=>
  have hrx:=aT hS 0 x
  generalize hg:opd c S 0 x=p at h hrx
  split at h
  ·rename_i cs
   split at h
   ·rename_i hn
    obtain⟨l,hx,hl,hr⟩:=OX hrx rfl
    have e1:cs.getD n .bot=cs[n]:=by simp[Ul,TP hn]
    have hln:l[n]? =some l[n]:=TP (by omega)
    rw[e1]at h
    refine .pure hS h (u:=l[n]) ?_ (hr n _ _ (TP hn) hln).cut (bH _ _)
    have:l.toArray[n]? =some l[n]:=by simp
    simp only[execOp,Instr.extract,hx,this,Sem.run_bind,Sem.run_pure,Result.andThen_ok]
   ·cases h
  ·cases h
 case makeFunc fn first caps=>
  refine .pure hS h (u:= .func fn (first.map a.eval) (caps.map a.eval)) (by simp[execOp,Instr.makeFunc]) ?_ (bE _ rfl)
  have:=Rep.clo (c:=c) (w:=w) (G:=G) (μ:=μ) fn (first.toList.map fun x=>(opd c S 0 x).cut) (caps.toList.map fun x=>(opd c S 0 x).cut) (first.toList.map a.eval) (caps.toList.map a.eval) (by simp) (by simp)
   (fun i v x hv hx=>by
    obtain⟨o1,h1,rfl⟩:=bQ hv
    obtain⟨o2,h2,rfl⟩:=bQ hx
    rw[h1]at h2;cases h2
    exact(aT hS 0 o1).cut)
   (fun i v x hv hx=>by
    obtain⟨o1,h1,rfl⟩:=bQ hv
    obtain⟨o2,h2,rfl⟩:=bQ hx
    rw[h1]at h2;cases h2
    exact(aT hS 0 o1).cut)
  have e1:(first.toList.map a.eval).toArray=first.map a.eval:=by apply Vl;simp
  have e2:(caps.toList.map a.eval).toArray=caps.map a.eval:=by apply Vl;simp
  rw[e1,e2]at this
  exact this
 case makeMap t n=>
  split at h
  ·rename_i kd vd hm
   obtain⟨kt,et,hu,_⟩:=wF hc hm
   rw[gP]at h
   refine .inl ⟨.map (some w.heap.size),w.alloc (.map #[] 0),?_,_,_,_,_,h,hS.newMap kd vd⟩
   simp only[execOp,Instr.makeMap,UO,Sem.run_bind,Result.andThen_ok,Sem.run_pure,newObj,Sem.run]
   rfl
  ·cases h
 case lookup t x i ok=>
  have hrx:=aT hS t x
  have hri:=aT hS 0 i
  generalize opd c S t x=p at h hrx
  generalize opd c S 0 i=q at h hri
  split at h
  ·rename_i j kd vd k hm hk
   split at h
   ·rename_i kd' vd' es hob
    split at h
    ·rename_i hcnd
     simp only[TR,beq_iff_eq]at hcnd
     obtain⟨⟨rfl,rfl⟩,hkd⟩:=hcnd
     rw[look_eq vd k es ok fun v=>K v S]at h
     obtain⟨kt,et,hu,hkey,hsk⟩:=wF hc hm
     have hobs:=St.mp_get hob
     obtain⟨b,hb,hX⟩:=Is hrx rfl
     have hI:=KB hri hk
     obtain⟨⟨l,n,hheap,hl⟩,hes⟩:=hS.inv.obs j _ b hobs hb
     have hget:(getObj b).run c.P w= .ok (.map l n) w:=by simp[getObj,Sem.run,hheap]
     have hfk:=hkey.2 w k l.toList es hkd hl (fun p hp=>(hes p hp).1)
     have hck:=fun em=>hkey.1 w em k hkd
     have hmain:∃u f,(Instr.lookup t (a.eval x) (a.eval i) ok).run c.P w= .ok (if ok then .tuple #[u, .bool f]else u) w∧Rep c w G μ (pN vd k es) u∧f=Du k es:=by
      cases hmi:rY k es 0 with
      |none=>
       have hn:jP k es=none:=by rw[zQ k es 0,hmi];rfl
       obtain⟨z,hz,hzr⟩:=MR hc w hsk k es hn
       refine⟨z,false,?_,hzr G μ,by simp[Du,hn]⟩
       simp only[Instr.lookup,hX,hI,Sem.run_bind,run_underlying hu,Result.andThen_ok,hget,Sem.run_pure,hck,hfk,hmi,UO,hz]
      |some p=>
       have hn:jP k es=some p.2:=by rw[zQ k es 0,hmi];rfl
       obtain⟨e1,e2⟩:=KE (c:=c) (w:=w) (G:=G) (μ:=μ) k es vd (fun p hp=>(hes p hp).2) hn
       refine⟨p.2.val,true,?_,by rw[e1];exact e2,by simp[Du,hn]⟩
       simp only[Instr.lookup,hX,hI,Sem.run_bind,run_underlying hu,Result.andThen_ok,hget,Sem.run_pure,hck,hfk,hmi,UF]
     obtain⟨u,f,hrun,hru,rfl⟩:=hmain
     have hlm:∀y,aG (pN vd k es) y=[]:=by
      intro y
      cases vd
      ·cases y<;>rfl
      ·cases y<;>rfl
      ·cases y<;>rfl
      ·simp only[pN,Sc.getF]
       split<;>cases y<;>rfl
      ·obtain⟨d,_,hd⟩:=zO hc hsk
       exact absurd hd DJ
     refine .pure hS h (u:=if ok then .tuple #[u, .bool (Du k es)]else u) ?_ ?_ ?_
     ·simp only[execOp,hrun,Sem.run_bind,Result.andThen_ok,Sem.run_pure]
     ·cases ok
      ·exact hru
      ·refine .tup _ [u, .bool (Du k es)] rfl fun j v y hv hy=>?_
       match j with
       |0=>simp at hv hy;subst hv;subst hy;exact hru
       |1=>simp at hv hy;subst hv;subst hy;exact .bool _
       |j+2=>simp at hv
     ·cases ok
      ·exact hlm _
      ·cases vd
       ·rfl
       ·rfl
       ·rfl
       ·simp only[if_true,pN,Sc.getF]
        split<;>rfl
       ·obtain⟨d,_,hd⟩:=zO hc hsk
        exact absurd hd DJ
    ·cases h
   ·cases h
  ·cases h
 case mapUpdate t x i v|insert t x i v=>
  have hrx:=aT hS t x
  have hri:=aT hS 0 i
  have hrv:=aT hS 0 v
  generalize opd c S t x=p at h hrx
  generalize opd c S 0 i=q at h hri
  generalize opd c S 0 v=q' at h hrv
  split at h
  ·rename_i j kd vd k u hm hk hv
   split at h
   ·rename_i kd' vd' es hob
    split at h
    ·rename_i hcnd
     simp only[TR,beq_iff_eq]at hcnd
     obtain⟨⟨⟨rfl,rfl⟩,hkd⟩,hvd⟩:=hcnd
     obtain⟨kt,et,hu,hkey,_⟩:=wF hc hm
     have hobs:=St.mp_get hob
     obtain⟨b,hb,hX⟩:=Is hrx rfl
     have hI:=KB hri hk
     have hV:=KB hrv hv
     obtain⟨⟨l,n,hheap,hl⟩,hes⟩:=hS.inv.obs j _ b hobs hb
     have hget:(getObj b).run c.P w= .ok (.map l n) w:=by simp[getObj,Sem.run,hheap]
     have hfk:=hkey.2 w k l.toList es hkd hl (fun p hp=>(hes p hp).1)
     have hck:=fun em=>hkey.1 w em k hkd
     have hset:∀o,(setObj b o).run c.P w= .ok () (blk w b o):=by intro o;simp[setObj,Sem.run,hheap,blk]
     have hbl:=eI hheap
     rw[eR]at h
     have hput:=EM k u es 0
     have hmain:∃l' n',(Instr.mapUpdate t (a.eval x) (a.eval i) (a.eval v)).run c.P w= .ok () (blk w b (.map l' n'))∧l'.toList.map (fun e=>(e.key,e.val))=(rW k u es).map (fun p=>(p.1.val,p.2.val))∧
       ∀p∈rW k u es,p.1.kind=kd∧p.2.kind=vd:=by
      cases hmi:rY k es 0 with
      |none=>
       rw[hmi]at hput
       refine⟨l.push { key:=k.val,val:=u.val,born:=n },n+1,?_,?_,fun p hp=>?_⟩
       ·simp only[Instr.mapUpdate,hX,hI,hV,Sem.run_bind,run_underlying hu,Result.andThen_ok,hget,hck,hfk,hmi,UO,hset]
       ·rw[hput];simp[hl]
       ·rw[hput,TV]at hp
        rcases hp with hp|hp
        ·exact hes p hp
        ·simp at hp;subst hp;exact⟨hkd,hvd⟩
      |some m=>
       rw[hmi]at hput
       obtain⟨n',k',v',e1,e2,e3,e4⟩:=hput
       have hlm:l.toList[n']?.map (fun e=>(e.key,e.val))=some (k'.val,v'.val):=by
        have:=congrArg (fun q=>q[n']?) hl
        simpa[UC,e2]using this
       obtain⟨e,he,hee⟩:=UG.1 hlm
       have he' :l[n']? =some e:=by simpa using he
       have hm1:m.1=n' :=by omega
       have hkk:k'.kind=kd:=(hes (k',v') (Uu e2)).1
       have hsb:Instr.sameBits 10000 (((l[n']?).map (·.key)).getD k.val) k.val=true:=by
        rw[he']
        simp only[UF,Vg]
        have:e.key=k'.val:=congrArg Prod.fst hee
        rw[this]
        exact DK 9999 k k' e3 (by rw[hkd,hkk])
       refine⟨l.modify n' fun e=>{ e with key:=k.val,val:=u.val },n,?_,?_,fun p hp=>?_⟩
       ·simp only[Instr.mapUpdate,hX,hI,hV,Sem.run_bind,run_underlying hu,Result.andThen_ok,hget,hck,hfk,hmi,UF,hm1,Instr.keyThatStays,hsb,if_true,Sem.run_pure,hset]
       ·rw[e4]
        apply UK
        intro r
        rw[UC,UC]
        by_cases hr:n' =r
        ·subst hr
         have hlt:n' <es.length:=(TQ.1 e2).1
         rw[Us hlt]
         simp[Vs,he']
        ·rw[Uq hr]
         have:=congrArg (fun q=>q[r]?) hl
         simp only[UC]at this
         simpa[Vs,hr]using this
       ·rw[e4]at hp
        rcases V8 hp with hp|hp
        ·exact hes p hp
        ·subst hp;exact⟨hkd,hvd⟩
     obtain⟨l',n',hrun,hl',hes'⟩:=hmain
     have hs:Sim c E (blk w b (.map l' n')) G μ S.env a.tmps.toList (S.objs.set j (.mp kd vd (rW k u es))):=by
      refine hS.reob hobs hb (fun k hk=>bD hk) bV rfl rfl rfl hS.inv.len hS.inv.rep ⟨⟨l',n',dJ hbl,hl'⟩,hes'⟩ (fun q=>?_) (fun l hl=>hl)
      exact TY _
     refine .inr (.inl ⟨blk w b (.map l' n'),?_,_,_,G,μ,h,hs.push (.bot _) (eS _)⟩)
     simp only[execOp,hrun,Sem.run_bind,Result.andThen_ok,Sem.run_pure]
    ·cases h
   ·cases h
  ·cases h
 case range t x=>
  have hrx:=aT hS t x
  generalize opd c S t x=p at h hrx
  split at h
  ·rename_i s
   split at h
   ·rename_i hst
    rw[gP]at h
    have hX:=lG hrx rfl
    refine .inl ⟨.pointer (some ⟨w.heap.size,0,none⟩),w.alloc (.stringIter ⟨s.toArray⟩ 0),?_,_,_,_,_,h,hS.newSit s⟩
    simp only[execOp,Instr.range,hX,Sem.run_bind,run_underlying (kV hst hc),Result.andThen_ok,Sem.run_pure,newObj,Sem.run]
    rfl
   ·cases h
  ·cases h
 case next it str=>
  have hri:=aT hS 0 it
  generalize opd c S 0 it=p at h hri
  split at h
  ·rename_i i off
   split at h
   ·rename_i hcnd
    simp only[TR,beq_iff_eq]at hcnd
    obtain⟨rfl,rfl⟩:=hcnd
    split at h
    ·rename_i s pos hob
     have hobs:=St.sit_get hob
     obtain⟨b,hb,hX⟩:=mX hri rfl
     obtain⟨n,rfl,hheap⟩:=hS.inv.obs i _ b hobs hb
     have hsz:(⟨s.toArray⟩:ByteArray).size=s.length:=by simp[ByteArray.size]
     simp only[TW]at h
     have hget:(getObj b).run c.P w= .ok (.stringIter ⟨s.toArray⟩ n) w:=by simp[getObj,Sem.run,hheap]
     have hset:∀o,(setObj b o).run c.P w= .ok () (blk w b o):=by intro o;simp[setObj,Sem.run,hheap,blk]
     split at h
     ·rename_i hlt
      rw[eR]at h
      have hbl:=eI hheap
      have hs:Sim c E (blk w b (.stringIter ⟨s.toArray⟩ (n+(Utf8.decode ⟨s.toArray⟩ n).2))) G μ S.env a.tmps.toList (S.objs.set i (.sit s ((n+(Utf8.decode ⟨s.toArray⟩ n).2:Nat):Int))):=by
       refine hS.reob hobs hb (fun k hk=>bD hk) bV rfl rfl rfl hS.inv.len hS.inv.rep ⟨_,rfl,dJ hbl⟩ (fun q=>?_) (fun l hl=>hl)
       exact TY _
      refine .inl ⟨.tuple #[.bool true,goInt n, .int .i32 (Utf8.decode ⟨s.toArray⟩ n).1],blk w b (.stringIter ⟨s.toArray⟩ (n+(Utf8.decode ⟨s.toArray⟩ n).2)),?_,_,_,G,μ,h,?_⟩
      ·simp only[execOp,Instr.next,hX,Sem.run_bind,hget,Result.andThen_ok,hsz,if_pos hlt,Sem.run_pure,hset]
      ·refine hs.push (.tup _ [.bool true,goInt n, .int .i32 (Utf8.decode ⟨s.toArray⟩ n).1] rfl fun j v x hv hx=>?_) rfl
       match j with
       |0=>simp at hv hx;subst hv;subst hx;exact .bool _
       |1=>simp at hv hx;subst hv;subst hx;exact .int _ _
       |2=>simp at hv hx;subst hv;subst hx;exact .int _ _
       |j+3=>simp at hv
     ·rename_i hlt
      refine .pure hS h (u:= .tuple #[.bool false]) ?_ (.tup _ [.bool false] rfl fun j v x hv hx=>?_) rfl
      ·simp only[execOp,Instr.next,hX,Sem.run_bind,hget,Result.andThen_ok,hsz,if_neg hlt,Sem.run_pure]
      ·match j with
       |0=>simp at hv hx;subst hv;subst hx;exact .bool _
       |j+1=>simp at hv
    ·cases h
   ·cases h
  ·cases h
 all_goals cases h
end
end Go.Ev
end
section
namespace Go.Ev
section sums
def iG:(Nat→Nat)→Nat→Nat
 |_,0=>0
 |f,n+1=>f 0+iG (fun i=>f (i+1)) n
def yV (f:Nat→Nat):List Nat→Nat
 |[]=>0
 |j::r=>f j+yV f r
theorem lH:∀(n:Nat) (f g:Nat→Nat),(∀i,i<n→f i=g i)→iG f n=iG g n
 |0,_,_,_=>rfl
 |n+1,f,g,h=>by
  simp only[iG]
  rw[h 0 (by omega),lH n _ _ (fun i hi=>h (i+1) (by omega))]
theorem wH:∀(n:Nat) (f:Nat→Nat) (j:Nat),j<n→iG f n=f j+iG (fun i=>if i=j then 0 else f i) n
 |0,_,j,h=>by omega
 |n+1,f,0,_=>by
  simp only[iG]
  have:iG (fun i=>if i+1=0 then 0 else f (i+1)) n=iG (fun i=>f (i+1)) n:=lH n _ _ fun i _=>by simp
  rw[this];simp
 |n+1,f,j+1,h=>by
  simp only[iG]
  rw[wH n (fun i=>f (i+1)) j (by omega)]
  have:iG (fun i=>if i+1=j+1 then 0 else f (i+1)) n=iG (fun i=>if i=j then 0 else f (i+1)) n:=lH n _ _ fun i _=>by simp
  rw[this];simp;omega
theorem zW:∀(js:List Nat) (f g:Nat→Nat),(∀i∈js,f i=g i)→yV f js=yV g js
 |[],_,_,_=>rfl
 |j::r,f,g,h=>by simp only[yV];rw[h j (by simp),zW r f g (fun i hi=>h i (by simp[hi]))]
theorem wI:∀(js:List Nat) (n:Nat) (f:Nat→Nat),js.Nodup→(∀j∈js,j<n)→iG f n=yV f js+iG (fun i=>if i∈js then 0 else f i) n
 |[],n,f,_,_=>by simp[yV]
 |j::r,n,f,hnd,hlt=>by
  rw[Wr]at hnd
  rw[wH n f j (hlt j (by simp)),wI r n _ hnd.2 (fun i hi=>hlt i (by simp[hi]))]
  have e1:yV (fun i=>if i=j then 0 else f i) r=yV f r:=zW r _ _ fun i hi=>by
   have:i≠j:=by rintro rfl;exact hnd.1 hi
   simp[this]
  have e2:iG (fun i=>if i∈r then 0 else if i=j then 0 else f i) n=iG (fun i=>if i∈j::r then 0 else f i) n:=lH n _ _ fun i _=>by
   by_cases h1:i∈r<;>by_cases h2:i=j<;>simp[h1,h2]
  rw[e1,e2];simp only[yV];omega
theorem EO:∀(n:Nat) (f:Nat→Nat),0<iG f n→∃i,i<n∧0<f i
 |0,_,h=>by simp[iG]at h
 |n+1,f,h=>by
  simp only[iG]at h
  by_cases h0:0<f 0
  ·exact⟨0,by omega,h0⟩
  ·obtain⟨i,hi,hf⟩:=EO n (fun i=>f (i+1)) (by omega)
   exact⟨i+1,by omega,hf⟩
theorem zX:∀(n:Nat) (f:Nat→Nat) (i:Nat),i<n→f i≤iG f n:=by
 intro n f i hi
 rw[wH n f i hi];omega
end sums
section
variable {c : Cfg} {E : Ent} {w w' : World} {G G' : Gh} {μ : List Nat} {R : Type}
def wt (w:World) (objs:List Ob) (μ:List Nat) (b i:Nat):Nat:=
 cnt b (bF w (objs.getD i .dead) (μ.getD i 0))+(if μ.getD i 0=b then 1 else 0)
theorem Hf (b:Nat):∀(objs:List Ob) (μ:List Nat),objs.length=μ.length→cnt b (aM w objs μ)+μ.count b=iG (wt w objs μ b) objs.length
 |[],[],_=>rfl
 |[],_::_,h=>by simp at h
 |_::_,[],h=>by simp at h
 |o::os,m::ms,h=>by
  have ih:=Hf b os ms (by simpa using h)
  rw[cH,aK,Vx,Ua]
  simp only[iG]
  have e0:wt w (o::os) (m::ms) b 0=cnt b (bF w o m)+(if m=b then 1 else 0):=by simp[wt]
  have e1:(fun i=>wt w (o::os) (m::ms) b (i+1))=wt w os ms b:=by funext i;simp[wt]
  rw[e0,e1,←ih]
  have:(if(m==b)=true then 1 else 0)=(if m=b then 1 else 0:Nat):=by simp
  rw[this];omega
theorem Hg (b:Nat) (objs:List Ob) (μ:List Nat):∀js:List Nat,
  cnt b (aM w (js.map fun j=>objs.getD j .dead) (js.map fun j=>μ.getD j 0))+(js.map fun j=>μ.getD j 0).count b=yV (wt w objs μ b) js
 |[]=>rfl
 |j::r=>by
  have ih:=Hg b objs μ r
  simp only[UE]
  rw[cH,aK,Vx]
  simp only[yV]
  rw[←ih]
  have:(if(μ.getD j 0==b)=true then 1 else 0)=(if μ.getD j 0=b then 1 else 0:Nat):=by simp
  rw[this];simp only[wt];omega
theorem wJ {l:eC}:∀(objs:List Ob) (μ:List Nat),l∈aM w objs μ→∃i,i<objs.length∧i<μ.length∧l∈bF w (objs.getD i .dead) (μ.getD i 0)
 |[],_,h=>by simp[aM]at h
 |_::_,[],h=>by simp[aM]at h
 |o::os,m::ms,h=>by
  rw[cH,TV]at h
  rcases h with h|h
  ·exact⟨0,by simp,by simp,by simpa using h⟩
  ·obtain⟨i,h1,h2,h3⟩:=wJ os ms h
   exact⟨i+1,by simp;omega,by simp;omega,by simpa using h3⟩
theorem nO (ρ:Nat→Nat):∀(cs:List V) (i:Nat),(V.renL ρ cs)[i]? =(cs[i]?).map (V.ren ρ)
 |[],i=>by simp[V.renL]
 |v::r,0=>by simp[V.renL]
 |v::r,i+1=>by simp[V.renL,nO ρ r i]
theorem mL (ρ:Nat→Nat):∀(cs:List V),(V.renL ρ cs).length=cs.length
 |[]=>rfl
 |v::r=>by simp[V.renL,mL ρ r]
theorem B9 (ρ:Nat→Nat) (v:V) (x:Value):aS (v.ren ρ) x=aS v x:=by cases v<;>simp[V.ren,aS]
theorem qB (f:V→Value→List eC) (ρ:Nat→Nat) (hf:∀v x,f (v.ren ρ) x=f v x):∀(vs:List V) (xs:List Value),aH f (V.renL ρ vs) xs=aH f vs xs
 |[],_=>by simp[V.renL,aH]
 |_::_,[]=>by simp[V.renL,aH]
 |v::vs,x::xs=>by simp[V.renL,aH,hf,qB f ρ hf vs xs]
theorem Ca (ρ:Nat→Nat) (v:V) (x:Value):bK (v.ren ρ) x=bK v x:=by
 cases v with
 |agg cs=>cases x<;>simp only[V.ren,bK,aS];exact qB aS ρ (B9 ρ) _ _
 |_=>cases x<;>simp[V.ren,bK,aS]
theorem wK (ρ:Nat→Nat) (v:V) (x:Value):aG (v.ren ρ) x=aG v x:=by
 cases v with
 |tup cs=>cases x<;>simp only[V.ren,aG,bK,aS];exact qB bK ρ (Ca ρ) _ _
 |agg cs=>cases x<;>(simp only[V.ren,aG];exact Ca ρ (.agg cs) _)
 |_=>cases x<;>simp[V.ren,aG,bK,aS]
theorem sX (ρ:Nat→Nat) (o:Ob) (b:Nat):bF w (o.ren ρ) b=bF w o b:=by
 cases o with
 |cells cs=>simp only[Ob.ren,bF];exact qB aS ρ (B9 ρ) _ _
 |_=>rfl
theorem wL (ρ:Nat→Nat):∀(os:List Ob) (bs:List Nat),aM w (os.map (Ob.ren ρ)) bs=aM w os bs
 |[],_=>by simp[aM]
 |_::_,[]=>by simp[aM]
 |o::os,b::bs=>by rw[UE,cH,cH,sX,wL ρ os bs]
theorem gX:∀(cs:List V) (i:Nat) (v:V) (k:Nat),cs[i]? =some v→k∈v.refs→k∈V.refsL cs
 |[],i,v,k,h,_=>by simp at h
 |a::r,0,v,k,h,hk=>by simp at h;subst h;simp[V.refsL,hk]
 |a::r,i+1,v,k,h,hk=>by
  simp at h
  simp only[V.refsL,TV]
  exact .inr (gX r i v k h hk)
theorem uH.mapped {o:Ob} {b:Nat} {μ' :List Nat} (h:uH c w G μ o b) (ρ:Nat→Nat) (hm:∀i b,i∈o.refs→μ[i]? =some b→μ'[ρ i]? =some b):uH c w G μ' (o.ren ρ) b:=by
 cases o with
 |cells cs=>
  obtain⟨l,e,fr,h1,h2,h3,h4,h5,h6⟩:=h
  refine⟨l,e,fr,h1,h2,by rw[mL];exact h3,h4,fun i v x hv hx=>?_,fun i o ho=>?_⟩
  rotate_left
  ·cases cs with
   |nil=>simp[V.renL]at ho
   |cons a r=>
    simp only[V.renL,List.head?_cons,Option.some.injEq]at ho
    cases a<;>simp[V.ren]at ho
    exact h6 _ _ rfl
  rw[nO]at hv
  obtain⟨u,hu,rfl⟩:=UG.1 hv
  exact(h5 i u x hu hx).mapped ρ fun k b hk hb=>hm k b (gX cs i u k hu hk) hb
 |sit s p=>exact h
 |mp kd vd es=>exact h
 |dead=>trivial
theorem gY:∀(l:List Nat),nodupB l=true→l.Nodup
 |[],_=>List.nodup_nil
 |x::r,h=>by
  simp only[nodupB,TR,UX,VI,decide_eq_false_iff_not]at h
  exact Wr.2 ⟨h.1,gY r h.2⟩
theorem lI:∀(os:List Ob) (i:Nat) (o:Ob) (k:Nat),os[i]? =some o→k∈o.refs→k∈lA os
 |[],i,o,k,h,_=>by simp at h
 |a::r,0,o,k,h,hk=>by simp at h;subst h;simp[lA,hk]
 |a::r,i+1,o,k,h,hk=>by
  simp at h
  simp only[lA,TV]
  exact .inr (lI r i o k h hk)
theorem zY:∀(js:List Nat) (os objs:List Ob) (K:List Ob→Option R),js.length=os.length→js.Nodup→(∀j∈js,j<objs.length)→
  ∃objs',dM js os objs K=K objs'∧objs'.length=objs.length∧(∀(k:Nat) j o,js[k]? =some j→os[k]? =some o→objs'[j]? =some o)∧∀i,i∉js→objs'[i]? =objs[i]?
 |[],os,objs,K,_,_,_=>⟨objs,rfl,rfl,fun k j o h=>by simp at h,fun _ _=>rfl⟩
 |j::js,[],objs,K,h,_,_=>by simp at h
 |j::js,o::os,objs,K,h,hnd,hlt=>by
  rw[Wr]at hnd
  obtain⟨objs',h1,h2,h3,h4⟩:=zY js os (objs.set j o) K (by simpa using h) hnd.2 (fun i hi=>by simpa using hlt i (by simp[hi]))
  refine⟨objs',?_,by simpa using h2,fun k j' o' hj ho=>?_,fun i hi=>?_⟩
  ·simp only[dM,oL];exact h1
  ·cases k with
   |zero=>
    simp at hj ho;subst hj;subst ho
    rw[h4 j hnd.1,Us (hlt j (by simp))]
   |succ k=>exact h3 k j' o' (by simpa using hj) (by simpa using ho)
  ·simp only[UH,not_or]at hi
   rw[h4 i hi.2,Uq (Ne.symm hi.1)]
theorem MU (ρ σ:Nat→Nat) (v:V):(v.ren σ).ren ρ=v.ren (fun i=>ρ (σ i)):=by
 have key:∀n:Nat,∀v:V,SizeOf.sizeOf v≤n→(v.ren σ).ren ρ=v.ren (fun i=>ρ (σ i)):=by
  intro n
  induction n with
  |zero=>intro v hv;cases v<;>simp at hv
  |succ n ih=>
   have ihL:∀cs:List V,SizeOf.sizeOf cs≤n→V.renL ρ (V.renL σ cs)=V.renL (fun i=>ρ (σ i)) cs:=by
    intro cs
    induction cs with
    |nil=>intros;rfl
    |cons a r ih2=>
     intro hs
     simp only[List.cons.sizeOf_spec]at hs
     simp only[V.renL,ih a (by omega),ih2 (by omega)]
   intro v hv
   cases v with
   |agg cs=>simp at hv;simp only[V.ren,ihL cs (by omega)]
   |tup cs=>simp at hv;simp only[V.ren,ihL cs (by omega)]
   |cpt cs=>simp at hv;simp only[V.ren,ihL cs (by omega)]
   |clo f a b=>simp at hv;simp only[V.ren,ihL a (by omega),ihL b (by omega)]
   |ifc t u=>simp at hv;simp only[V.ren,ih u (by omega)]
   |_=>rfl
 exact key _ v (TY _)
theorem MV (ρ σ:Nat→Nat) (o:Ob) (h:∀i∈o.refs,ρ (σ i)=i):(o.ren σ).ren ρ=o:=by
 cases o with
 |cells cs=>
  simp only[Ob.ren]
  congr 1
  apply UK
  intro j
  rw[nO,nO]
  cases hj:cs[j]? with
  |none=>rfl
  |some v=>
   simp only[UF,MU]
   rw[G7 _ v fun i hi=>h i (gX cs j v i hj hi)]
 |_=>rfl
theorem set_self {α:Type} {l:List α} {i:Nat} {x:α} (h:l[i]? =some x):l.set i x=l:=by
 apply UK
 intro j
 by_cases hj:i=j
 ·subst hj;rw[Us (TQ.1 h).1,h]
 ·rw[Uq hj]
theorem zZ:∀(js:List Nat) (os objs:List Ob) (K:List Ob→Option R),(∀(k:Nat) j o,js[k]? =some j→os[k]? =some o→objs[j]? =some o)→dM js os objs K=K objs
 |[],_,_,_,_=>by simp[dM]
 |_::_,[],_,_,_=>by simp[dM]
 |j::js,o::os,objs,K,h=>by
  simp only[dM,oL]
  rw[set_self (h 0 j o rfl rfl)]
  exact zZ js os objs K fun k j' o' hj ho=>h (k+1) j' o' (by simpa using hj) (by simpa using ho)
theorem EP:∀(l:List RSh) (cs:List V),vR l cs=true→EA l cs=cs
 |[],[],_=>rfl
 |[],_::_,h=>by simp[vR]at h
 |_::_,[],h=>by simp[vR]at h
 |s::r,v::cs,h=>by
  simp only[vR,TR]at h
  simp[EA,(RSh.eta_of h.1).1,EP r cs h.2]
theorem Jz {l:List RSh} {v:V} (h:jK l v=true):vS l v=v:=by
 unfold jK at h
 split at h
 ·simp only[vS];exact(RSh.eta_of h).1
 ·rename_i cs hne
  have:vS l (.tup cs)= .tup (EA l cs):=by
   unfold vS
   split
   ·exact absurd rfl (hne _)
   ·rfl
  rw[this,EP l cs h]
 ·cases h
theorem OSh.eta_of {s:OSh} {o:Ob} (h:s.fits o=true):s.eta o=o:=by
 cases s<;>cases o<;>simp_all [OSh.fits,OSh.eta,Ob.getC,Ob.getM,Ob.getS,Ob.getP]
 exact(mJ _ _ h).1
theorem Cb:∀(l:List OSh) (os:List Ob),iH l os=true→Dt l os=os∧os.length=l.length
 |[],[],_=>⟨rfl,rfl⟩
 |[],_::_,h=>by simp[iH]at h
 |_::_,[],h=>by simp[iH]at h
 |s::r,o::os,h=>by
  simp only[iH,TR]at h
  obtain⟨h1,h2⟩:=Cb r os h.2
  simp[Dt,OSh.eta_of h.1,h1,h2]
theorem sY (c:Cfg) (f:FuncId) (l:List OSh):(c.osh f l).length=l.length:=by unfold Cfg.osh;split<;>simp
def entry (w:World) (G:Gh) (μ:List Nat) (args:List V) (cargs:List Value) (objs:List Ob):Ent:=
 ⟨w,G,fun b=>0<cnt b (aH aG args cargs)+cnt b (aM w objs μ)+μ.count b,μ⟩
def bW (c:Cfg) (f:FuncId) (F:Fun):Prop:=
 (∀args objs v objs',(c.ro f=true∨(c.pur f=true∧objs=[]))→F args objs=some (v,objs')→objs' =objs)∧∀fn rsh,c.fn f=some fn→fZ c f fn=some rsh→∀args objs v objs',F args objs=some (v,objs')→
  ∀w G μ cargs,cargs.length=args.length→Inv c w G μ args cargs objs→
   jK rsh v=true∧iH (c.osh f (objs.map OSh.of)) objs' =true∧Calls c.P f cargs.toArray w fun e w' =>∃u G',e= .returned u∧Sim c (entry w G μ args cargs objs) w' G' μ [v] [u] objs'
theorem Hh {call:FuncId→Fun} {f:FuncId} (hcall:bW c f (call f)) {rsh:List RSh} {args:List V} {S:St} {K:V→St→Option R} {r:R} {fn:Func}
  (hfn:c.fn f=some fn) (hrsh:fZ c f fn=some rsh) (h:lZ c call rsh f args S K=some r) {cargs tmps:List Value} (hlen:cargs.length=args.length)
  (hS:Sim c E w G μ (args++S.env) (cargs++tmps) S.objs):
  Calls c.P f cargs.toArray w fun e w' =>∃u,e= .returned u∧EH c E K r tmps u w' :=by
 obtain⟨hro,hcall⟩:=hcall
 obtain⟨env,objs⟩:=S
 unfold lZ at h
 simp only at h hS
 generalize gG objs 100 (V.refsL args) []=js at h
 split at h
 case isFalse=>cases h
 rename_i hcnd
 simp only[TR,Ux,decide_eq_true_eq,VI]at hcnd
 obtain⟨⟨⟨⟨hlt,hnd⟩,hargs⟩,hobr⟩,hpur⟩:=hcnd
 have hnd:=gY js hnd
 obtain⟨⟨v,out⟩,hcl,hk⟩:=T0.1 h
 clear h
 have hsubeq:(js.map fun j=>(St.ob ⟨env,objs⟩ j).ren fun i=>js.idxOf i)=(js.map fun j=>objs.getD j .dead).map (Ob.ren fun i=>js.idxOf i):=by simp[St.ob]
 rw[hsubeq]at hcl hk
 simp only at hk
 generalize hto:(fun i=>js.idxOf i)=to at hcl hk
 generalize hback:(fun i=>js.getD i 0)=back at hk
 generalize hsub:(js.map fun j=>objs.getD j .dead).map (Ob.ren to)=sub at hcl hk
 have hsublen:sub.length=js.length:=by rw[←hsub];simp
 generalize hμs:(js.map fun j=>μ.getD j 0)=μs
 have hμsl:μs.length=js.length:=by rw[←hμs];simp
 have hol:=hS.inv.olen
 have hidx:∀i∈js,js[to i]? =some i:=by
  intro i hi
  rw[←hto]
  have hl:=List.idxOf_lt_length_iff.2 hi
  rw[TP hl,List.getElem_idxOf]
 have hto' :∀i b,i∈js→μ[i]? =some b→μs[to i]? =some b:=by
  intro i b hi hb
  rw[←hμs,UC,hidx i hi]
  simp[Ul,hb]
 have hback' :∀i b,μs[i]? =some b→μ[back i]? =some b:=by
  intro i b hb
  rw[←hμs]at hb
  obtain⟨j,hj,rfl⟩:=bQ hb
  rw[←hback]
  have hjl:=hlt j (Uu hj)
  have:js.getD i 0=j:=by simp[Ul,hj]
  simp only[this]
  have:j<μ.length:=by omega
  simp[Ul,TP this]
 have hzz:aH aG (args++env) (cargs++tmps)=aH aG args cargs++aH aG env tmps:=eJ aG _ _ _ _ hlen.symm
 have hargl:aH aG (V.renL to args) cargs=aH aG args cargs:=qB aG to (wK to) _ _
 have hsubsum:∀b,cnt b (aM w sub μs)+μs.count b=yV (wt w objs μ b) js:=by
  intro b
  rw[←Hg,←hsub,wL,hμs]
 have htot:∀b,cnt b (aM w objs μ)+μ.count b=(cnt b (aM w sub μs)+μs.count b)+iG (fun i=>if i∈js then 0 else wt w objs μ b i) objs.length:=by
  intro b
  rw[Hf b objs μ hol,hsubsum,wI js objs.length _ hnd hlt]
 have hone:∀b,(cnt b (aH aG args cargs)+(cnt b (aM w sub μs)+μs.count b))+(cnt b (aH aG env tmps)+iG (fun i=>if i∈js then 0 else wt w objs μ b i) objs.length)≤1:=by
  intro b
  have:=hS.inv.one b
  rw[hzz,aK]at this
  have:=htot b
  omega
 have hsubget:∀(i:Nat) o,sub[i]? =some o→∃j,js[i]? =some j∧o=(objs.getD j .dead).ren to∧j<objs.length∧objs[j]? =some (objs.getD j .dead):=by
  intro i o ho
  rw[←hsub]at ho
  obtain⟨o1,h1,rfl⟩:=bQ ho
  obtain⟨j,hj,rfl⟩:=bQ h1
  have hjl:=hlt j (Uu hj)
  exact⟨j,hj,rfl,hjl,by simp[Ul,TP hjl]⟩
 have hinv:Inv c w G μs (V.renL to args) cargs sub:=by
  refine⟨by rw[mL];omega,fun i u x hu hx=>?_,by rw[hsublen,hμsl],fun i o b ho hb=>?_,fun b=>?_,fun l hl=>?_,fun b hb=>?_,hS.inv.none,hS.inv.glob⟩
  ·rw[nO]at hu
   obtain⟨v0,hv0,rfl⟩:=UG.1 hu
   have hil:=(TQ.1 hv0).1
   refine(hS.inv.rep i v0 x (by rw[TU hil];exact hv0) (by rw[TU (by omega)];exact hx)).mapped to fun k b hk hb=>?_
   exact hto' k b (hargs k (gX args i v0 k hv0 hk)) hb
  ·obtain⟨j,hj,rfl,hjl,hjo⟩:=hsubget i o ho
   have hbj:=hback' i b hb
   have hbi:back i=j:=by rw[←hback];simp[Ul,hj]
   rw[hbi]at hbj
   refine(hS.inv.obs j _ b hjo hbj).mapped to fun k b' hk hb' =>hto' k b' (hobr k (lI _ i (objs.getD j .dead) k ?_ hk)) hb'
   simp[St.ob,hj]
  ·rw[hargl];have:=hone b;omega
  ·rw[hargl]at hl
   refine hS.inv.ok l ?_
   rw[hzz]
   simp only[TV]at hl ⊢
   rcases hl with hl|hl
   ·exact .inl (.inl hl)
   ·refine .inr ?_
    obtain⟨i,h1,h2,h3⟩:=wJ sub μs hl
    have hs:sub[i]? =some (sub.getD i .dead):=by simp[Ul,TP h1]
    obtain⟨j,hj,he,hjl,hjo⟩:=hsubget i _ hs
    have hm:μs[i]? =some (μs.getD i 0):=by simp[Ul,TP h2]
    have hbj:=hback' i _ hm
    have hbi:back i=j:=by rw[←hback];simp[Ul,hj]
    rw[hbi]at hbj
    rw[he,sX]at h3
    exact gR w objs μ j _ _ hjo hbj h3
  ·obtain⟨i,hi⟩:=List.getElem?_of_mem hb
   exact hS.inv.mine b (Uu (hback' i b hi))
 obtain⟨hfv,hfo,hrun⟩:=hcall fn rsh hfn hrsh _ _ _ _ hcl w G μs cargs (by rw[mL];exact hlen) hinv
 obtain⟨heo,holen⟩:=Cb _ _ hfo
 rw[heo,Jz hfv]at hk
 replace hk:dM js (out.map (Ob.ren back)) objs (fun objs=>K (v.ren back) ⟨env,objs⟩)=some r:=by
  cases hr:c.still f with
  |false=>rw[hr]at hk;exact hk
  |true=>
   rw[hr]at hk
   have he:=hro _ _ _ _ (by
    simp only[Cfg.still,Va]at hr
    rcases hr with hr|hr
    ·exact .inl hr
    ·refine .inr ⟨hr,?_⟩
     have hj:js=[]:=by simpa[hr]using hpur
     rw[←hsub,hj];rfl) hcl
   rw[zZ js _ objs _ fun k j o hj ho=>?_]
   ·exact hk
   ·obtain⟨o1,h1,rfl⟩:=bQ ho
    rw[he]at h1
    obtain⟨j',hj',rfl,hjl,hjo⟩:=hsubget k o1 h1
    rw[hj]at hj';cases hj'
    rw[MV back to _ fun i hi=>?_]
    ·exact hjo
    ·have hij:=hobr i (lI _ k (objs.getD j .dead) i (by simp[St.ob,hj]) hi)
     have:=hidx i hij
     rw[←hback];simp[Ul,this]
 have holen' :out.length=js.length:=by rw[holen,sY];simpa using hsublen
 refine Calls.mono hrun ?_
 rintro e w' ⟨u,G',rfl,hs⟩
 refine⟨u,rfl,?_⟩
 obtain⟨objs',hbk,hol',hin,hout⟩:=zY js (out.map (Ob.ren back)) objs (fun objs=>K (v.ren back) ⟨env,objs⟩) (by simpa using holen'.symm) hnd hlt
 rw[hbk]at hk
 refine⟨_,_,G',μ,hk,?_⟩
 have hU:∀b,(entry w G μs (V.renL to args) cargs sub).U b↔0<cnt b (aH aG args cargs)+(cnt b (aM w sub μs)+μs.count b):=by
  intro b;simp only[entry,hargl];omega
 have hkeep:∀b,b<w.heap.size→0<cnt b (aH aG env tmps)+iG (fun i=>if i∈js then 0 else wt w objs μ b i) objs.length→w'.heap[b]? =w.heap[b]?∧G' b=G b:=by
  intro b hb hp
  refine hs.stp.keep b hb ?_
  rw[hU];have:=hone b;omega
 have hrestb:∀i,i<objs.length→i∉js→w'.heap[μ.getD i 0]? =w.heap[μ.getD i 0]?∧G' (μ.getD i 0)=G (μ.getD i 0)∧μ[i]? =some (μ.getD i 0)∧μ.getD i 0<w.heap.size:=by
  intro i hi hij
  have him:i<μ.length:=by omega
  have h1:μ[i]? =some (μ.getD i 0):=by simp[Ul,TP him]
  have h2:=(hS.inv.mine _ (Uu h1)).1
  have h3:=hkeep (μ.getD i 0) h2 (by
   have:=zX objs.length (fun k=>if k∈js then 0 else wt w objs μ (μ.getD i 0) k) i hi
   simp only[if_neg hij]at this
   have h4:1≤wt w objs μ (μ.getD i 0) i:=by simp[wt]
   omega)
  exact⟨h3.1,h3.2,h1,h2⟩
 have hwt:∀b i,i<objs.length→i∉js→wt w' objs' μ b i=wt w objs μ b i:=by
  intro b i hi hij
  have h1:=(hrestb i hi hij).1
  have h2:objs'.getD i .dead=objs.getD i .dead:=by simp[Ul,hout i hij]
  have h3:bF w' (objs.getD i .dead) (μ.getD i 0)=bF w (objs.getD i .dead) (μ.getD i 0):=by
   unfold bF cC;rw[h1]
  simp only[wt,h2,h3]
 have hjsmap:(js.map fun j=>objs'.getD j .dead)=out.map (Ob.ren back):=by
  apply UK
  intro k
  rw[UC,UC]
  cases hj:js[k]? with
  |none=>
   have:out[k]? =none:=by
    rw[List.getElem?_eq_none_iff]at hj ⊢;omega
   simp[this]
  |some j=>
   have hkl:=(TQ.1 hj).1
   have ho:out[k]? =some out[k]:=TP (by omega)
   have:=hin k j (out[k].ren back) hj (by rw[UC,ho];rfl)
   simp[Ul,this,ho]
 have htot' :∀b,cnt b (aM w' objs' μ)+μ.count b=(cnt b (aM w' out μs)+μs.count b)+iG (fun i=>if i∈js then 0 else wt w objs μ b i) objs.length:=by
  intro b
  rw[Hf b objs' μ (by omega),hol',wI js objs.length _ hnd hlt,←Hg,hjsmap,hμs,wL]
  congr 1
  refine lH _ _ _ fun i hi=>?_
  by_cases hij:i∈js
  ·simp[hij]
  ·simp only[if_neg hij];exact hwt b i hi hij
 have hlive:∀b,0<cnt b (aH aG env tmps)+iG (fun i=>if i∈js then 0 else wt w objs μ b i) objs.length→b<w.heap.size:=by
  intro b hp
  by_cases h1:0<cnt b (aH aG env tmps)
  ·obtain⟨l,hl,rfl⟩:=cP.1 h1
   exact(hS.inv.ok l (by rw[hzz];simp[hl])).lt
  ·obtain⟨i,hi,hp⟩:=EO objs.length (fun i=>if i∈js then 0 else wt w objs μ b i) (by omega)
   by_cases hij:i∈js
   ·simp[hij]at hp
   ·simp only[if_neg hij]at hp
    obtain⟨_,_,hm,h2⟩:=hrestb i hi hij
    unfold wt at hp
    by_cases hb:μ.getD i 0=b
    ·rw[←hb];exact h2
    ·simp only[if_neg hb,U2]at hp
     obtain⟨l,hl,rfl⟩:=cP.1 hp
     have hjo:objs[i]? =some (objs.getD i .dead):=by simp[Ul,TP hi]
     exact(hS.inv.ok l (by rw[TV];exact .inr (gR w objs μ i _ _ hjo hm hl))).lt
 have hvz:∀b,cnt b (aH aG [v] [u])=cnt b (aG v u):=by intro b;simp[aH]
 have hsplit:∀b,cnt b (aH aG (v.ren back::env) (u::tmps))+cnt b (aM w' objs' μ)+μ.count b=
   (cnt b (aH aG [v] [u])+cnt b (aM w' out μs)+μs.count b)+(cnt b (aH aG env tmps)+iG (fun i=>if i∈js then 0 else wt w objs μ b i) objs.length):=by
  intro b
  have e:aH aG (v.ren back::env) (u::tmps)=aG v u++aH aG env tmps:=by simp[aH,wK]
  rw[e,aK,hvz]
  have:=htot' b
  omega
 have hentry:∀b,b<w.heap.size→0<cnt b (aH aG [v] [u])+cnt b (aM w' out μs)+μs.count b→0<cnt b (aH aG args cargs)+(cnt b (aM w sub μs)+μs.count b):=fun b hb hp=>(hU b).1 (hs.own b hb hp)
 have hold:∀b,b<w.heap.size→0<cnt b (aH aG args cargs)+(cnt b (aM w sub μs)+μs.count b)→b<E.w.heap.size→E.U b:=by
  intro b _ hp hb
  refine hS.own b hb ?_
  rw[hzz,aK]
  have:=htot b
  omega
 refine⟨⟨?_,?_,by rw[hol',hol],?_,?_,?_,?_,hs.inv.none,hs.inv.glob⟩,⟨Uy hS.stp.size hs.stp.size,hS.stp.sealed.trans hs.stp.sealed,?_,hs.stp.os.trans hS.stp.os,hs.stp.out.trans hS.stp.out,hs.stp.tape.trans hS.stp.tape⟩,?_,hS.pre⟩
 ·have:=hS.inv.len
  simp at this ⊢
  omega
 ·intro i v0 x hv hx
  cases i with
  |zero=>
   simp at hv hx;subst hv;subst hx
   exact(hs.inv.rep 0 v u rfl rfl).mapped back fun k b _ hb=>hback' k b hb
  |succ i=>
   simp only[Ve]at hv hx
   refine(hS.inv.rep (args.length+i) v0 x ?_ ?_).mono hs.stp.sealed
   ·rw[Ub (by omega)];simpa using hv
   ·rw[Ub (by omega),hlen];simpa using hx
 ·intro i o b ho hb
  by_cases hij:i∈js
  ·have hk1:=hidx i hij
   have hkl:=(TQ.1 hk1).1
   have ho1:out[to i]? =some out[to i]:=TP (by omega)
   have h2:=hin (to i) i (out[to i].ren back) hk1 (by rw[UC,ho1];rfl)
   rw[h2]at ho;cases ho
   exact(hs.inv.obs (to i) _ b ho1 (hto' i b hij hb)).mapped back fun k b' _ hb' =>hback' k b' hb'
  ·rw[hout i hij]at ho
   have hi:=(TQ.1 ho).1
   obtain⟨h1,h2,h3,h4⟩:=hrestb i hi hij
   rw[h3]at hb;cases hb
   exact(hS.inv.obs i o _ ho h3).mono hs.stp.sealed h1
 ·intro b
  rw[hsplit]
  have h1:=hs.inv.one b
  have h2:=hone b
  by_cases hp:0<cnt b (aH aG env tmps)+iG (fun i=>if i∈js then 0 else wt w objs μ b i) objs.length
  ·have hb:=hlive b hp
   have:=hentry b hb
   omega
  ·omega
 ·intro l hl
  have e:aH aG (v.ren back::env) (u::tmps)=aG v u++aH aG env tmps:=by simp[aH,wK]
  rw[e]at hl
  have hrestok:l∈aH aG env tmps++aM w objs μ→w'.heap[l.a.block]? =w.heap[l.a.block]?→G' l.a.block=G l.a.block→oK c w' G' l:=by
   intro hl h1 h2
   refine(hS.inv.ok l ?_).same h1 h2 hs.stp.sealed
   rw[hzz]
   simp only[TV]at hl ⊢
   rcases hl with hl|hl
   ·exact .inl (.inr hl)
   ·exact .inr hl
  simp only[TV]at hl
  rcases hl with(hl|hl)|hl
  ·exact hs.inv.ok l (by simp[aH,hl])
  ·have hp:0<cnt l.a.block (aH aG env tmps):=cP.2 ⟨l,hl,rfl⟩
   have hb:=hlive l.a.block (by omega)
   have:=hkeep l.a.block hb (by omega)
   exact hrestok (by simp[hl]) this.1 this.2
  ·obtain⟨i,h1,h2,h3⟩:=wJ objs' μ hl
   have hi:i<objs.length:=by omega
   by_cases hij:i∈js
   ·have hk1:=hidx i hij
    have hkl:=(TQ.1 hk1).1
    have ho1:out[to i]? =some out[to i]:=TP (by omega)
    have h4:=hin (to i) i (out[to i].ren back) hk1 (by rw[UC,ho1];rfl)
    have h5:objs'.getD i .dead=out[to i].ren back:=by simp[Ul,h4]
    have h6:μ[i]? =some (μ.getD i 0):=by simp[Ul,TP h2]
    rw[h5,sX]at h3
    exact hs.inv.ok l (by rw[TV];exact .inr (gR w' out μs (to i) _ _ ho1 (hto' i _ hij h6) h3))
   ·obtain⟨g1,g2,g3,g4⟩:=hrestb i hi hij
    have h5:objs'.getD i .dead=objs.getD i .dead:=by simp[Ul,hout i hij]
    have h6:bF w' (objs.getD i .dead) (μ.getD i 0)=bF w (objs.getD i .dead) (μ.getD i 0):=by
     unfold bF cC;rw[g1]
    rw[h5,h6]at h3
    have hp:0<wt w objs μ l.a.block i:=by
     have:0<cnt l.a.block (bF w (objs.getD i .dead) (μ.getD i 0)):=cP.2 ⟨l,h3,rfl⟩
     unfold wt;omega
    have hp2:0<iG (fun i=>if i∈js then 0 else wt w objs μ l.a.block i) objs.length:=by
     have:=zX objs.length (fun i=>if i∈js then 0 else wt w objs μ l.a.block i) i hi
     simp only[if_neg hij]at this
     omega
    have hb:=hlive l.a.block (by omega)
    have:=hkeep l.a.block hb (by omega)
    have hjo:objs[i]? =some (objs.getD i .dead):=by simp[Ul,TP hi]
    exact hrestok (by rw[TV];exact .inr (gR w objs μ i _ _ hjo g3 h3)) this.1 this.2
 ·intro b hb
  obtain⟨i,hi⟩:=List.getElem?_of_mem hb
  by_cases hij:i∈js
  ·exact hs.inv.mine b (Uu (hto' i b hij hi))
  ·have hil:=(TQ.1 hi).1
   obtain⟨g1,g2,g3,g4⟩:=hrestb i (by omega) hij
   rw[g3]at hi;cases hi
   exact⟨Up g4 hs.stp.size,by rw[g2];exact(hS.inv.mine _ hb).2⟩
 ·intro b hb hu
  have h1:=hS.stp.keep b hb hu
  have hbw:=Up hb hS.stp.size
  have h2:=hs.stp.keep b hbw (by
   rw[hU]
   intro hp
   exact hu (hold b hbw hp hb))
  exact⟨h2.1.trans h1.1,h2.2.trans h1.2⟩
 ·intro b hb hp
  rw[hsplit]at hp
  have hbw:=Up hb hS.stp.size
  by_cases h1:0<cnt b (aH aG [v] [u])+cnt b (aM w' out μs)+μs.count b
  ·exact hold b hbw (hentry b hbw h1) hb
  ·refine hS.own b hb ?_
   rw[hzz,aK]
   have:=htot b
   omega
end
end Go.Ev
end
section
namespace Go.Ev
section
variable {c : Cfg} {E : Ent} {w w' : World} {G G' : Gh} {μ : List Nat} {R : Type}
theorem Sim.drops:∀{fr:List V} {cfr:List Value} {env:List V} {tmps:List Value} {objs:List Ob},cfr.length=fr.length→Sim c E w G μ (fr++env) (cfr++tmps) objs→Sim c E w G μ env tmps objs
 |[],[],_,_,_,_,h=>h
 |[],_::_,_,_,_,hl,_=>by simp at hl
 |_::_,[],_,_,_,hl,_=>by simp at hl
 |v::fr,x::cfr,_,_,_,hl,h=>Sim.drops (fr:=fr) (cfr:=cfr) (by simpa using hl) (Sim.pop h)
theorem Hi {S:St} {x:Operand} {t:TypeId} {K:St→Option R} {r:R} {fr:List V} {cfr:List Value} {a:Act} (h:lY S x K=some r) (hl:cfr.length=fr.length)
  (hS:Sim c E w G μ (fr++S.env) (cfr++a.tmps.toList) S.objs):
  ∃S',K S' =some r∧S'.objs=S.objs∧Sim c E w G μ (opd c S t x::(fr++S'.env)) (a.eval x::(cfr++a.tmps.toList)) S.objs:=by
 classical
 let S2:St:=⟨fr++S.env,S.objs⟩
 let a2:Act:=⟨(cfr++a.tmps.toList).toArray,a.defers⟩
 let K2:St→Option R:=fun T=>if T.env.take fr.length=fr then K ⟨T.env.drop fr.length,T.objs⟩else none
 let x2:Operand:=match x with| .tmp s=> .tmp (fr.length+s)|x=>x
 have hK2:∀env objs,K2 ⟨fr++env,objs⟩=K ⟨env,objs⟩:=by intro env objs;simp[K2]
 have hget:∀s,S2.get (fr.length+s)=S.get s:=by
  intro s
  simp only[S2,St.get,Ul]
  rw[Ub (by omega)]
  simp
 have hset:∀s v,S2.putK (some (fr.length+s)) v K2=S.putK (some s) v K:=by
  intro s v
  rw[bC,bC]
  have:S2.env.set (fr.length+s) v=fr++S.env.set s v:=by
   simp only[S2]
   rw[List.set_append_right _ _ (by omega)]
   simp
  rw[this,hK2]
 have h2:lY S2 x2 K2=some r:=by
  rw[←h]
  cases x with
  |tmp s=>
   simp only[x2,lY,hget]
   have hid:K2 S2=K S:=hK2 S.env S.objs
   split<;>simp only[hset,hid]<;>first|rfl|skip
  |_=>exact hK2 S.env S.objs
 have hS2:cV c E w G μ S2 a2:=by simpa[S2,a2]using hS
 obtain⟨S',hk,ho,hs⟩:=jD (t:=t) h2 hS2
 have hev:a2.eval x2=a.eval x:=by
  cases x with
  |tmp s=>
   simp only[x2,Act.eval,getD_toList,a2,Ul]
   rw[Ub (by omega),hl]
   simp
  |_=>rfl
 have hop:opd c S2 t x2=opd c S t x:=by
  cases x with
  |tmp s=>exact hget s
  |_=>rfl
 rw[hev,hop]at hs
 simp only[K2]at hk
 split at hk
 ·rename_i hfr
  refine⟨⟨S'.env.drop fr.length,S'.objs⟩,hk,ho,?_⟩
  have he:fr++S'.env.drop fr.length=S'.env:=by
   conv=>lhs;lhs;rw[←hfr]
   exact U9 _ _
  simp only[he]
  simpa[a2]using hs
 ·cases hk
theorem EQ {f:FuncId} {a:Act} {fr:List V} {cfr:List Value} (hl:cfr.length=fr.length):∀(l:List Operand) (ts:List TypeId) (i:Nat) (S:St) (K:List V→St→Option R) (r:R),
  ED c f i S l ts K=some r→Sim c E w G μ (fr++S.env) (cfr++a.tmps.toList) S.objs→
  ∃vs S',K vs S' =some r∧S'.objs=S.objs∧vs.length=l.length∧Sim c E w G μ (vs++(fr++S'.env)) (l.map a.eval++(cfr++a.tmps.toList)) S'.objs
 |[],ts,i,S,K,r,h,hS=>⟨[],S,h,rfl,rfl,hS⟩
 |x::l,ts,i,S,K,r,h,hS=>by
  obtain⟨vs,S',hk,ho,hvl,hs⟩:=EQ hl l ts.tail (i+1) S _ r h hS
  have hl' :(l.map a.eval++cfr).length=(vs++fr).length:=by simp[hvl,hl]
  rw[←Ud,←Ud]at hs
  split at hk
  ·obtain⟨S'',hk',ho',hs'⟩:=Hi (t:=ts.headD 0) (a:=a) hk hl' hs
   refine⟨_,S'',hk',by rw[ho',ho],by simp[hvl],?_⟩
   rw[ho']
   simpa using hs'
  ·have hd:cV c E w G μ S' a:=Sim.drops hl' hs
   refine⟨_,S',hk,ho,by simp[hvl],?_⟩
   have:=hs.push (aT hd (ts.headD 0) x).cut (bH _ _)
   simpa using this
theorem Sim.pushes {env:List V} {tmps:List Value} {objs:List Ob}:∀(vs:List V) (xs:List Value),xs.length=vs.length→(∀(i:Nat) v x,vs[i]? =some v→xs[i]? =some x→Rep c w G μ v x∧aG v x=[])→
  Sim c E w G μ env tmps objs→Sim c E w G μ (vs++env) (xs++tmps) objs
 |[],[],_,_,h=>h
 |[],_::_,hl,_,_=>by simp at hl
 |_::_,[],hl,_,_=>by simp at hl
 |v::vs,x::xs,hl,hr,h=>by
  have h0:=hr 0 v x rfl rfl
  exact(Sim.pushes vs xs (by simpa using hl) (fun i v x hv hx=>hr (i+1) v x hv hx) h).push h0.1 h0.2
theorem Aa:∀(l:List V) (i:Nat),(V.cutL l)[i]? =(l[i]?).map V.cut
 |[],i=>by simp[V.cutL]
 |v::r,0=>by simp[V.cutL]
 |v::r,i+1=>by simp[V.cutL,Aa r i]
theorem gZ:∀(l:List V),(V.cutL l).length=l.length
 |[]=>rfl
 |v::r=>by simp[V.cutL,gZ r]
theorem mY (S:St):∀(l:List Operand) (ts:List TypeId),(eO c S l ts).length=l.length
 |[],_=>rfl
 |x::r,ts=>by simp[eO,mY S r ts.tail]
theorem sZ (S:St):∀(l:List Operand) (ts:List TypeId) (i:Nat) (v:V),(eO c S l ts)[i]? =some v→∃x t,l[i]? =some x∧v=opd c S t x
 |[],_,i,v,h=>by simp[eO]at h
 |x::r,ts,0,v,h=>by simp[eO]at h;exact⟨x,_,rfl,h.symm⟩
 |x::r,ts,i+1,v,h=>by
  simp only[eO,Ve]at h
  obtain⟨y,t,h1,h2⟩:=sZ S r ts.tail i v h
  exact⟨y,t,by simpa using h1,h2⟩
theorem O0 {v:V} {x:Value} {fn:Fn} {first caps:List V} (h:Rep c w G μ v x) (hv:v= .clo fn first caps):∃lf lc:List Value,x= .func fn lf.toArray lc.toArray∧lf.length=first.length∧lc.length=caps.length∧
  (∀(i:Nat) v x,first[i]? =some v→lf[i]? =some x→Rep c w G μ v x)∧(∀(i:Nat) v x,caps[i]? =some v→lc[i]? =some x→Rep c w G μ v x):=by
 subst hv
 cases h with
 |clo _ _ _ lf lc hl hl' hr hr' =>exact⟨lf,lc,rfl,hl,hl',hr,hr'⟩
theorem uL (hc:bA c) {f:FuncId} {fn:Func} (hf:c.fn f=some fn) (args:Array Value):(callFunc f args).run c.P w= .ok (.enter f args) w:=by
 obtain⟨h1,h2,h3⟩:=hc.fn f fn hf
 have h4:fn.body≠none:=by intro hb;simp[hb]at h3
 simp[callFunc,h1,h2,h4]
theorem ER (hc:bA c) {call:FuncId→Fun} (hcall:∀f,bW c f (call f)) {icall:aN R} {f:FuncId} {args:List V} {S:St} {K:V→St→Option R} {r:R} {cargs tmps:List Value}
  (h:enter c call icall f args S K=some r) (hlen:cargs.length=args.length) (hS:Sim c E w G μ (args++S.env) (cargs++tmps) S.objs):
  (callFunc f cargs.toArray).run c.P w= .ok (.enter f cargs.toArray) w∧Calls c.P f cargs.toArray w fun e w' =>∃u,e= .returned u∧EH c E K r tmps u w' :=by
 unfold enter at h
 rw[hc.inl f]at h
 simp only[TL,if_false]at h
 split at h
 ·cases h
 ·rename_i fn hfn
  split at h
  ·cases h
  ·rename_i rsh hrsh
   exact⟨uL hc hfn _,Hh (hcall f) hfn hrsh h hlen hS⟩
theorem Ab {P:Program} {w:World} {fv:V→V→Option V} {fm:Value→Value→Sem Value}
  (hf:∀k x k' y v,fv (.int k x) (.int k' y)=some v→∃n,v= .int k n∧∀w,(fm (.int k x) (.int k' y)).run P w= .ok (.int k n) w)
  (hb:∀v v',(∀k n,v≠ .int k n)∨(∀k n,v'≠ .int k n)→fv v v' =none) {G:Gh} {μ:List Nat}:
  ∀(l:List V) (L:List Value) (v v' :V) (X:Value),L.length=l.length→sD fv v l=some v'→Rep c w G μ v X→(∀(i:Nat) v x,l[i]? =some v→L[i]? =some x→Rep c w G μ v x)→
   ∃X',(L.foldlM fm X).run P w= .ok X' w∧Rep c w G μ v' X'
 |[],[],v,v',X,_,h,hX,_=>by simp only[sD,Option.some.injEq]at h;subst h;exact⟨X,by simp,hX⟩
 |[],_::_,_,_,_,hl,_,_,_=>by simp at hl
 |_::_,[],_,_,_,hl,_,_,_=>by simp at hl
 |y::l,Y::L,v,v',X,hl,h,hX,hr=>by
  simp only[sD]at h
  obtain⟨z,hz,h⟩:=T0.1 h
  by_cases h1:∃k n,v= .int k n
  ·obtain⟨k,n,rfl⟩:=h1
   by_cases h2:∃k n,y= .int k n
   ·obtain⟨k',n',rfl⟩:=h2
    have hY:=hr 0 _ Y rfl rfl
    have e1:=bS hX rfl
    have e2:=bS hY rfl
    subst e1;subst e2
    obtain⟨m,rfl,hm⟩:=hf _ _ _ _ _ hz
    obtain⟨X',h3,h4⟩:=Ab hf hb l L (.int k m) v' (.int k m) (by simpa using hl) h (.int _ _) (fun i v x hv hx=>hr (i+1) v x hv hx)
    exact⟨X',by simp[List.foldlM_cons,hm,h3],h4⟩
   ·rw[hb _ _ (.inr fun k n h=>h2 ⟨k,n,h⟩)]at hz;cases hz
  ·rw[hb _ _ (.inl fun k n h=>h1 ⟨k,n,h⟩)]at hz;cases hz
theorem KG (hc:bA c) {call:FuncId→Fun} (hcall:∀f,bW c f (call f)) {icall:aN R} {o:Oper} {cl:Call} (ho:o.op= .call cl) {S:St} {a:Act} {K:V→St→Option R} {r:R}
  (h:gI c call icall cl S K=some r) (hS:cV c E w G μ S a):Ha c E o a w K r:=by
 obtain⟨dst,op,type,pos,after,guard⟩:=o
 simp only at ho
 subst ho
 obtain⟨callee,args,argTypes⟩:=cl
 unfold gI at h
 simp only at h
 have hargs:∀(i:Nat) v x,(eO c S args.toList argTypes.toList)[i]? =some v→(args.toList.map a.eval)[i]? =some x→Rep c w G μ v x:=by
  intro i v x hv hx
  obtain⟨y,t,h1,rfl⟩:=sZ S _ _ i v hv
  obtain⟨y',h2,rfl⟩:=bQ hx
  rw[h1]at h2;cases h2
  exact aT hS t y
 have hal:=mY (c:=c) S args.toList argTypes.toList
 split at h
 ·-- len
  split at h
  ·rename_i y t h1 h2
   have ha:args= #[y]:=by apply Vl;simpa using h1
   have ht:argTypes= #[t]:=by apply Vl;simpa using h2
   subst ha;subst ht
   split at h
   ·rename_i v hv
    have hry:=aT hS t y
    generalize opd c S t y=yv at hv hry
    unfold lenV at hv
    split at hv
    ·rename_i s
     split at hv
     ·rename_i hst
      cases hv
      have hX:=lG hry rfl
      have hsz:(⟨s.toArray⟩:ByteArray).size=s.length:=by simp[ByteArray.size]
      have hrun:=run_len_string w t type ⟨s.toArray⟩ (kV hst hc)
      rw[hsz]at hrun
      refine .pure hS h (u:=goInt s.length) ?_ (.int _ _) rfl
      simp only[execOp,resolve,invoke,builtin,List.map_toArray,UE,VL,hX,Sem.run_bind,Sem.run_pure,Result.andThen_ok,hrun]
     ·cases hv
    ·rename_i e tp xs
     split at hv
     ·rename_i hst
      cases hv
      obtain⟨e',he'⟩:=Vp.1 hst
      obtain⟨p,m,l,hX,_⟩:=oP hry rfl
      have hu:=eX he' hc
      have hpe:c.P.elem t=e' :=by simp[Program.elem,hu]
      have hrun:=run_len_slice w t type p xs.length m (by rw[hpe];exact hu)
      refine .pure hS h (u:=goInt xs.length) ?_ (.int _ _) rfl
      simp only[execOp,resolve,invoke,builtin,List.map_toArray,UE,VL,hX,Sem.run_bind,Sem.run_pure,Result.andThen_ok,hrun]
     ·cases hv
    ·cases hv
   ·cases h
  ·cases h
 ·-- append
  split at h
  ·rename_i so xo st xt h1 h2
   have ha:args= #[so,xo]:=by apply Vl;simpa using h1
   have ht:argTypes= #[st,xt]:=by apply Vl;simpa using h2
   subst ha;subst ht
   have hrx:=aT hS xt xo
   obtain⟨S',hk,hob,hs⟩:=jD (t:=st) h hS
   generalize hg:opd c S st so=sv at hk hs
   generalize hg2:opd c S xt xo=xv at hk hrx
   unfold rD at hk
   split at hk
   ·rename_i e xs e' tp ys
    split at hk
    ·rename_i y hy
     split at hk
     ·rename_i hcnd
      simp only[TR,beq_iff_eq,decide_eq_true_eq]at hcnd
      obtain⟨⟨⟨rfl,hst⟩,hxt⟩,hpos⟩:=hcnd
      obtain⟨hb,hk⟩:=aP hk
      obtain⟨l,hl,hr,hf,hsz,hsrc⟩:=Src.of_lst hc hrx hxt
      obtain⟨u,w',G',hrun,hsim⟩:=zK hc (ty:=type) hy hst hs hsrc hl hr hf hsz (by simpa[cE,oC]using hb)
      refine .inl ⟨u,w',?_,_,S',G',μ,hk,by rw[hob];exact hsim⟩
      simp[execOp,resolve,invoke,builtin,hrun]
     ·cases hk
    ·cases hk
   ·rename_i e xs e' tp ys
    split at hk
    ·rename_i y hy
     split at hk
     ·rename_i hcnd
      simp only[TR,beq_iff_eq,decide_eq_true_eq]at hcnd
      obtain⟨⟨⟨rfl,hst⟩,hxt⟩,hpos⟩:=hcnd
      obtain⟨hb,hk⟩:=aP hk
      obtain⟨l,hl,hr,hf,hsz,hsrc⟩:=Src.of_lst hc hrx hxt
      obtain⟨u,w',G',hrun,hsim⟩:=sG hc (ty:=type) hy hst hs hsrc hl hr hf hsz (by simpa[cE,oC]using hb)
      refine .inl ⟨u,w',?_,_,S',G',μ,hk,by rw[hob];exact hsim⟩
      simp[execOp,resolve,invoke,builtin,hrun]
     ·cases hk
    ·cases hk
   ·rename_i e xs t
    split at hk
    case h_2=>cases hk
    rename_i y hy
    split at hk
    ·rename_i hcnd
     simp only[TR,beq_iff_eq]at hcnd
     obtain⟨⟨hby,hst⟩,hxt⟩:=hcnd
     obtain⟨hb,hk⟩:=aP hk
     have hX:=lG hrx rfl
     rw[hX]at hrx
     obtain⟨hsz1,hfb⟩:=fP hby hc
     have hsrc:=Src.of_str (w:=w) hc hby hxt (t:=t)
     obtain⟨u,w',G',hrun,hsim⟩:=sG hc (ty:=type) (ys:=ofBytes t) (l:=t.map fun b=>Value.int .u8 b.toNat) hy hst hs (by rw[nM];simpa[ofBytes]using hsrc) (by simp[ofBytes])
      (fun i v x hv hx=>qA w G t i v x hv hx) (hfb t) (fun x hx=>by
       obtain⟨b,_,rfl⟩:=Vy.1 hx
       rw[hsz1];rfl) (by simpa[ofBytes,oC]using hb)
     refine .inl ⟨u,w',?_,_,S',G',μ,hk,by rw[hob];exact hsim⟩
     simp[execOp,resolve,invoke,builtin,hX,hrun]
    ·cases hk
   ·rename_i e xs t
    split at hk
    case h_2=>cases hk
    rename_i y hy
    split at hk
    ·rename_i hcnd
     simp only[TR,beq_iff_eq]at hcnd
     obtain⟨⟨hby,hst⟩,hxt⟩:=hcnd
     obtain⟨hb,hk⟩:=aP hk
     have hX:=lG hrx rfl
     rw[hX]at hrx
     obtain⟨hsz1,hfb⟩:=fP hby hc
     have hsrc:=Src.of_str (w:=w) hc hby hxt (t:=t)
     obtain⟨u,w',G',hrun,hsim⟩:=zK hc (ty:=type) (ys:=ofBytes t) (l:=t.map fun b=>Value.int .u8 b.toNat) hy hst hs (by rw[nM];simpa[ofBytes]using hsrc) (by simp[ofBytes])
      (fun i v x hv hx=>qA w G t i v x hv hx) (hfb t) (fun x hx=>by
       obtain⟨b,_,rfl⟩:=Vy.1 hx
       rw[hsz1];rfl) (by simpa[ofBytes,oC]using hb)
     refine .inl ⟨u,w',?_,_,S',G',μ,hk,by rw[hob];exact hsim⟩
     simp[execOp,resolve,invoke,builtin,hX,hrun]
    ·cases hk
   ·cases hk
  ·cases h
 ·-- max
  split at h
  ·rename_i x rest hx
   split at h
   ·rename_i v hv
    have hlist:∃y ys,args.toList=y::ys:=by
     rw[hx]at hal
     match h1:args.toList,hal with
     |y::ys,_=>exact⟨y,ys,rfl⟩
    obtain⟨y,ys,hy⟩:=hlist
    rw[hx,hy]at hargs
    rw[hx,hy]at hal
    obtain⟨X',hrun,hrep⟩:=Ab (P:=c.P) (w:=w) (fv:=Jm) (fm:=Builtin.max2) (fun k x k' y v hv=>by
      simp only[Jm,Option.some.injEq]at hv
      exact⟨_,hv.symm,fun w=>by simp[Builtin.max2]⟩) (fun v v' hvv=>by
      unfold Jm
      split
      ·rcases hvv with h|h
       ·exact absurd rfl (h _ _)
       ·exact absurd rfl (h _ _)
      ·rfl) rest (ys.map a.eval) x v (a.eval y) (by simpa using hal.symm) hv (hargs 0 _ _ rfl rfl) (fun i v x hv hx=>hargs (i+1) v x hv hx)
    refine .pure hS h (u:=X') ?_ hrep.cut (bH _ _)
    have e:(Ww a.eval args).toList=a.eval y::ys.map a.eval:=by simp[hy]
    have e2:(Builtin.max_ argTypes type (Ww a.eval args))=(ys.map a.eval).foldlM Builtin.max2 (a.eval y):=by
     simp only[Builtin.max_,e]
    simp only[execOp,resolve,invoke,builtin,Sem.run_bind,Sem.run_pure,Result.andThen_ok,e2,hrun]
   ·cases h
  ·cases h
 ·-- min
  split at h
  ·rename_i x rest hx
   split at h
   ·rename_i v hv
    have hlist:∃y ys,args.toList=y::ys:=by
     rw[hx]at hal
     match h1:args.toList,hal with
     |y::ys,_=>exact⟨y,ys,rfl⟩
    obtain⟨y,ys,hy⟩:=hlist
    rw[hx,hy]at hargs
    rw[hx,hy]at hal
    obtain⟨X',hrun,hrep⟩:=Ab (P:=c.P) (w:=w) (fv:=Jn) (fm:=Builtin.min2) (fun k x k' y v hv=>by
      simp only[Jn,Option.some.injEq]at hv
      exact⟨_,hv.symm,fun w=>by simp[Builtin.min2]⟩) (fun v v' hvv=>by
      unfold Jn
      split
      ·rcases hvv with h|h
       ·exact absurd rfl (h _ _)
       ·exact absurd rfl (h _ _)
      ·rfl) rest (ys.map a.eval) x v (a.eval y) (by simpa using hal.symm) hv (hargs 0 _ _ rfl rfl) (fun i v x hv hx=>hargs (i+1) v x hv hx)
    refine .pure hS h (u:=X') ?_ hrep.cut (bH _ _)
    have e:(Ww a.eval args).toList=a.eval y::ys.map a.eval:=by simp[hy]
    have e2:(Builtin.min_ argTypes type (Ww a.eval args))=(ys.map a.eval).foldlM Builtin.min2 (a.eval y):=by
     simp only[Builtin.min_,e]
    simp only[execOp,resolve,invoke,builtin,Sem.run_bind,Sem.run_pure,Result.andThen_ok,e2,hrun]
   ·cases h
  ·cases h
 ·-- a function's value
  rename_i fo
  have hrf:=aT hS 0 fo
  generalize hg:opd c S 0 fo=fv at h hrf
  split at h
  ·rename_i f first caps
   obtain⟨lf,lc,hX,hlf,hlc,hrfirst,hrcaps⟩:=O0 hrf rfl
   split at h
   ·rename_i hfe
    have hf0:first=[]:=by simpa using hfe
    subst hf0
    have hlf0:lf=[]:=Ue (by simpa using hlf)
    subst hlf0
    have hs0:Sim c E w G μ (V.cutL caps++S.env) (lc++a.tmps.toList) S.objs:=hS.pushes _ _ (by rw[gZ];exact hlc) fun i v x hv hx=>by
     rw[Aa]at hv
     obtain⟨v0,hv0,rfl⟩:=UG.1 hv
     exact⟨(hrcaps i v0 x hv0 hx).cut,bH _ _⟩
    obtain⟨vs,S',hk,hob,hvl,hs⟩:=EQ (by rw[gZ];exact hlc) _ _ _ _ _ _ h hs0
    rw[←Ud,←Ud]at hs
    obtain⟨h1,h2⟩:=ER hc hcall (cargs:=args.toList.map a.eval++lc) hk (by simp[hvl,gZ,hlc]) hs
    refine .inr (.inr ⟨f,_,?_,h2⟩)
    simp only[execOp,resolve,hX,Deferred.ofValue,Sem.run_bind,Sem.run_pure,Result.andThen_ok,invoke]
    have e:(#[]:Array Value)++Ww a.eval args++lc.toArray=(args.toList.map a.eval++lc).toArray:=by apply Vl;simp
    simp only[List.toArray]at e ⊢
    rw[show(([]:List Value).toArray++Ww a.eval args++lc.toArray)=(args.toList.map a.eval++lc).toArray by apply Vl;simp]
    exact h1
   ·have hs0:Sim c E w G μ (V.cutL (first++eO c S args.toList argTypes.toList++caps)++S.env) ((lf++args.toList.map a.eval++lc)++a.tmps.toList) S.objs:=
     hS.pushes _ _ (by rw[gZ];simp[hlf,hlc,hal]) fun i v x hv hx=>by
      rw[Aa]at hv
      obtain⟨v0,hv0,rfl⟩:=UG.1 hv
      refine⟨Rep.cut ?_,bH _ _⟩
      by_cases h1:i<first.length
      ·rw[Ud,TU h1]at hv0
       rw[Ud,TU (by omega)]at hx
       exact hrfirst i v0 x hv0 hx
      ·by_cases h2:i<first.length+args.toList.length
       ·rw[Ud,Ub (by omega),TU (by omega)]at hv0
        rw[Ud,Ub (by omega),TU (by rw[Ui];omega),hlf]at hx
        exact hargs _ v0 x hv0 hx
       ·rw[Ub (by simp[hal];simp at h2;omega)]at hv0
        rw[Ub (by simp[hlf];simp at h2;omega)]at hx
        simp only[Ug,hal,hlf,Ui]at hv0 hx
        exact hrcaps _ v0 x hv0 hx
    obtain⟨h1,h2⟩:=ER hc hcall (cargs:=lf++args.toList.map a.eval++lc) h (by rw[gZ];simp[hlf,hlc,hal]) hs0
    refine .inr (.inr ⟨f,_,?_,h2⟩)
    simp only[execOp,resolve,hX,Deferred.ofValue,Sem.run_bind,Sem.run_pure,Result.andThen_ok,invoke]
    rw[show(lf.toArray++Ww a.eval args++lc.toArray)=(lf++args.toList.map a.eval++lc).toArray by apply Vl;simp]
    exact h1
  ·cases h
 ·cases h
end
end Go.Ev
end
section
namespace Go.Ev
section
variable {c : Cfg} {R : Type}
theorem Ac (b:Bool) (v:V) (K:V→Option R):chk b (K v)=(chk b (some v)).bind K:=by cases b<;>rfl
theorem Hj (op:BinOp) (k:IntKind) (a b:Int) (K:V→Option R):BY op k a b K=(BY op k a b some).bind K:=by
 unfold BY;cases op<;>first|rfl|exact Ac _ _ _
theorem uM (op:BinOp) (k:IntKind) (a b:Int) (K:V→Option R):rB op k a b K=(rB op k a b some).bind K:=by
 unfold rB;cases op<;>first|rfl|exact Ac _ _ _
theorem Hk (op:BinOp) (x y:List UInt8) (K:V→Option R):BZ op x y K=(BZ op x y some).bind K:=by
 unfold BZ;cases op<;>first|rfl|exact Ac _ _ _
theorem JA (op:BinOp) (t:TypeId) (x y:V) (K:V→Option R):Jl c op t x y K=(Jl c op t x y some).bind K:=by
 unfold Jl
 split
 ·split
  ·exact uM _ _ _ _ _
  ·exact uM _ _ _ _ _
  ·split
   ·exact Hj _ _ _ _ _
   ·rfl
 ·exact Hk _ _ _ _
 ·split
  ·split<;>rfl
  ·split<;>rfl
  ·rfl
theorem rH {R:Type} (t1:TypeId) (v1:V) (t2:TypeId) (v2:V) (K:Bool→Option R):Dx c t1 v1 t2 v2 K=(Dx c t1 v1 t2 v2 some).bind K:=by
 unfold Dx
 split
 ·split
  ·unfold chk;split<;>rfl
  ·rfl
 ·split
  ·unfold chk;split<;>rfl
  ·rfl
 ·rfl
theorem JB {R:Type} (op:BinOp) (t:TypeId) (k:Bool) (x y:V) (K:V→Option R):GY c op t k x y K=(GY c op t k x y some).bind K:=by
 unfold GY
 split
 ·split
  ·split
   ·rw[rH,rH (K:=fun b=>some (V.bool b))]
    cases Dx c _ _ _ _ some<;>rfl
   ·rw[rH,rH (K:=fun b=>some (V.bool !b))]
    cases Dx c _ _ _ _ some<;>rfl
   ·rfl
  ·rfl
 ·split
  ·split<;>rfl
  ·rfl
 ·exact JA _ _ _ _ _
theorem DL {R:Type} (t:TypeId) (ok:Bool) (x:V) (K:V→Option R):rC c t ok x K=(rC c t ok x some).bind K:=by
 unfold rC
 split
 ·split
  ·rfl
  ·split
   ·split
    ·split
     ·unfold chk;split<;>rfl
     ·rfl
    ·rfl
   ·split
    ·unfold chk;split<;>rfl
    ·rfl
 ·rfl
theorem Hl (s d:TypeId) (x:V) (K:V→Option R):B0 c s d x K=(B0 c s d x some).bind K:=by
 unfold B0
 split
 ·split<;>first|rfl|(split<;>rfl)
 ·rfl
theorem ES (x:V) (lo hi mx:Option V) (K:V→Option R):fE x lo hi mx K=(fE x lo hi mx some).bind K:=by
 unfold fE chk
 repeat' split
 all_goals first|rfl|skip
 all_goals dsimp only
 all_goals repeat' split
 all_goals rfl
theorem DN (st xt:TypeId) (s x:V) (K:V→Option R):rD c st xt s x K=(rD c st xt s x some).bind K:=by
 unfold rD
 split
 ·split
  ·split
   ·exact Ac _ _ _
   ·rfl
  ·rfl
 ·split
  ·split
   ·exact Ac _ _ _
   ·rfl
  ·rfl
 ·split
  ·split
   ·exact Ac _ _ _
   ·rfl
  ·rfl
 ·split
  ·split
   ·exact Ac _ _ _
   ·rfl
  ·rfl
 ·rfl
theorem Iv (v:V) (h:v.tip1=false):v.cut1=v:=by cases v<;>simp_all [V.cut1,V.tip1]
theorem tA {g:V→V} {p:V→Bool} (hg:∀v,p v=false→g v=v):∀cs:List V,cs.any p=false→cs.map g=cs
 |[],_=>rfl
 |v::r,h=>by
  simp only[List.any_cons,Bool.or_eq_false_iff]at h
  simp[hg v h.1,tA hg r h.2]
theorem DO (v:V) (h:v.tip2=false):v.cut2=v:=by
 cases v with
 |agg cs=>simp only[V.tip2]at h;simp only[V.cut2,tA Iv cs h]
 |lst e t xs=>simp only[V.tip2]at h;exact Iv _ h
 |own e xs=>simp[V.tip2,V.tip1]at h
 |_=>rfl
theorem O1 (v:V) (h:v.tips=false):v.cut=v:=by
 cases v with
 |tup cs=>simp only[V.tips]at h;simp only[V.cut,tA DO cs h]
 |agg cs=>simp only[V.tips]at h;exact DO (.agg cs) h
 |lst e t xs=>simp only[V.tips]at h;exact DO (.lst e t xs) h
 |own e xs=>simp[V.tips,V.tip2,V.tip1]at h
 |_=>rfl
def cY (S:St):Operand→St
 | .tmp s=>⟨S.env.set s (S.get s).cut,S.objs⟩
 |_=>S
theorem Iw (env:List V) (s:Nat):env.set s (env.getD s .bot)=env:=by
 apply UK
 intro i
 by_cases h:s=i
 ·subst h
  by_cases hs:s<env.length
  ·rw[Us hs];simp[Ul,TP hs]
  ·rw[We (UZ hs)]
 ·rw[Uq h]
theorem iN (S:St) (x:Operand) (K:St→Option R):lY S x K=K (cY S x):=by
 cases x with
 |tmp s=>
  have same:(S.get s).tips=false→K S=K (cY S (.tmp s)):=by
   intro h
   have:cY S (.tmp s)=S:=by
    simp only[cY,O1 _ h]
    simp only[St.get,Iw]
   rw[this]
  simp only[lY]
  split
  ·rename_i e xs hg
   rw[bC];simp only[cY,hg,V.cut,V.cut2,V.cut1]
  ·rename_i e xs hg
   rw[bC];simp only[cY,hg,V.cut,V.cut2,V.cut1]
  ·rename_i cs hg
   split
   ·rw[bC];simp only[cY,hg,V.cut,V.cut2]
   ·rename_i h;exact same (by rw[hg];simpa[V.tips,V.tip2]using h)
  ·rename_i cs hg
   split
   ·rw[bC];simp only[cY,hg,V.cut]
   ·rename_i h;exact same (by rw[hg];simpa[V.tips]using h)
  ·rename_i h1 h4 h2 h3
   refine same ?_
   generalize S.get s=v at h1 h2 h3 h4
   cases v with
   |lst e t xs=>cases t with
    |true=>exact absurd rfl (h1 _ _)
    |false=>rfl
   |agg cs=>exact absurd rfl (h2 _)
   |tup cs=>exact absurd rfl (h3 _)
   |own e xs=>exact absurd rfl (h4 _ _)
   |_=>rfl
 |_=>rfl
def Agr (L:List Nat) (S S2:St):Prop:=S2.env.length=S.env.length∧∀t∈L,S2.env[t]? =S.env[t]?
theorem Agr.get {L:List Nat} {S S2:St} (h:Agr L S S2) {t:Nat} (ht:t∈L):S2.get t=S.get t:=by
 simp only[St.get,Ul,h.2 t ht]
theorem Agr.opd {L:List Nat} {S S2:St} (h:Agr L S S2) {x:Operand} (hx:∀t,x= .tmp t→t∈L) (ty:TypeId):opd c S2 ty x=opd c S ty x:=by
 cases x with
 |tmp s=>exact h.get (hx s rfl)
 |_=>rfl
theorem Agr.shed {L:List Nat} {S S2:St} (h:Agr L S S2) {x:Operand} (hx:∀t,x= .tmp t→t∈L):Agr L (cY S x) (cY S2 x):=by
 cases x with
 |tmp s=>
  refine⟨by simp[cY,h.1],fun t ht=>?_⟩
  simp only[cY,h.get (hx s rfl),List.getElem?_set,h.1]
  by_cases hst:s=t
  ·simp[hst]
  ·simp[hst,h.2 t ht]
 |_=>exact h
theorem fQ (S:St) (x:Operand):(cY S x).objs=S.objs:=by cases x<;>rfl
theorem rI (S:St) (x:Operand):(cY S x).env.length=S.env.length:=by cases x<;>simp[cY]
theorem rJ (S:St) (x:Operand) (t:Nat) (h:x≠ .tmp t):(cY S x).env[t]? =S.env[t]? :=by
 cases x with
 |tmp s=>
  simp only[cY]
  rw[Uq (fun e=>h (by rw[e]))]
 |_=>rfl
structure Loc (F:St→Option (V×St)) (looks writes:List Nat) (k:Nat):Prop where
 frame:∀S v S',F S=some (v,S')→(∀t,t∉writes→S'.env[t]? =S.env[t]?)∧S'.env.length=S.env.length∧(k≠2→S'.objs=S.objs)
 dep:∀L S S2 v S',F S=some (v,S')→Agr L S S2→(∀t∈looks,t∈L)→(k≠0→S2.objs=S.objs)→∃S2',F S2=some (v,S2')∧Agr L S' S2'∧(k=2→S2'.objs=S'.objs)
theorem Loc.mono {F:St→Option (V×St)} {l w:List Nat} {k:Nat} (h:Loc F l w k) {l' w' :List Nat} {k' :Nat} (hl:∀t∈l,t∈l') (hw:∀t∈w,t∈w') (hk:k' =k∨k=0∨k' =2):Loc F l' w' k' :=by
 refine⟨fun S v S' hf=>?_,fun L S S2 v S' hf ha hL ho=>?_⟩
 ·obtain⟨h1,h2,h3⟩:=h.frame S v S' hf
  refine⟨fun t ht=>h1 t fun hm=>ht (hw t hm),h2,fun hne=>?_⟩
  rcases hk with rfl|rfl|rfl
  ·exact h3 hne
  ·exact h3 (by omega)
  ·exact absurd rfl hne
 ·rcases hk with rfl|rfl|rfl
  ·exact h.dep L S S2 v S' hf ha (fun t ht=>hL t (hl t ht)) ho
  ·obtain⟨S2',h1,h2,h3⟩:=h.dep L S S2 v S' hf ha (fun t ht=>hL t (hl t ht)) (fun h=>absurd rfl h)
   refine⟨S2',h1,h2,fun hk2=>?_⟩
   have e1:=(h.frame S v S' hf).2.2 (by omega)
   have e2:=(h.frame S2 v S2' h1).2.2 (by omega)
   rw[e1,e2];exact ho (by omega)
  ·have hobj:=ho (by omega)
   obtain⟨S2',h1,h2,h3⟩:=h.dep L S S2 v S' hf ha (fun t ht=>hL t (hl t ht)) (fun _=>hobj)
   refine⟨S2',h1,h2,fun _=>?_⟩
   by_cases hk2:k=2
   ·exact h3 hk2
   ·rw[(h.frame S v S' hf).2.2 hk2,(h.frame S2 v S2' h1).2.2 hk2,hobj]
theorem Loc.val {f:St→Option V} {looks:List Nat} (h:∀S S2,Agr looks S S2→f S2=f S):Loc (fun S=>(f S).bind fun v=>some (v,S)) looks [] 0:=by
 refine⟨fun S v S' hf=>?_,fun L S S2 v S' hf ha hL _=>?_⟩
 ·obtain⟨u,_,h2⟩:=T0.1 hf
  cases h2
  exact⟨fun _ _=>rfl,rfl,fun _=>rfl⟩
 ·obtain⟨u,h1,h2⟩:=T0.1 hf
  cases h2
  refine⟨S2,?_,ha,fun h=>by omega⟩
  simp only[h S S2 ⟨ha.1,fun t ht=>ha.2 t (hL t ht)⟩,h1]
  rfl
theorem Loc.valShed {f:St→Option V} {looks:List Nat} (h:∀S S2,Agr looks S S2→f S2=f S) (x:Operand) (hx:∀t,x= .tmp t→t∈looks):
  Loc (fun S=>(f S).bind fun v=>some (v,cY S x)) looks (bP [x]) 0:=by
 refine⟨fun S v S' hf=>?_,fun L S S2 v S' hf ha hL _=>?_⟩
 ·obtain⟨u,_,h2⟩:=T0.1 hf
  cases h2
  exact⟨fun t ht=>rJ S x t (by rintro rfl;simp[bP]at ht),rI S x,fun _=>fQ S x⟩
 ·obtain⟨u,h1,h2⟩:=T0.1 hf
  cases h2
  refine⟨cY S2 x,?_,ha.shed (fun t ht=>hL t (hx t ht)),fun h=>by omega⟩
  simp only[h S S2 ⟨ha.1,fun t ht=>ha.2 t (hL t ht)⟩,h1]
  rfl
theorem Loc.obj {f:St→Option (V×List Ob)} {looks:List Nat} (h:∀S S2,Agr looks S S2→S2.objs=S.objs→f S2=f S) (xs:List Operand) (hx:∀x∈xs,∀t,x= .tmp t→t∈looks):
  Loc (fun S=>(f S).bind fun p=>some (p.1,⟨(xs.foldl cY S).env,p.2⟩)) looks (bP xs) 2:=by
 have hout:∀(xs:List Operand) (S:St),(∀t,t∉bP xs→(xs.foldl cY S).env[t]? =S.env[t]?)∧(xs.foldl cY S).env.length=S.env.length:=by
  intro xs
  induction xs with
  |nil=>intro S;exact⟨fun _ _=>rfl,rfl⟩
  |cons x xs ih=>
   intro S
   obtain⟨h1,h2⟩:=ih (cY S x)
   refine⟨fun t ht=>?_,h2.trans (rI S x)⟩
   have ht' :t∉bP xs∧x≠ .tmp t:=by
    constructor
    ·intro h;apply ht;simp only[bP,VW]at h ⊢;obtain⟨y,h1,h2⟩:=h;exact⟨y,by simp[h1],h2⟩
    ·rintro rfl;apply ht;simp[bP]
   rw[V9,h1 t ht'.1,rJ S x t ht'.2]
 have hagr:∀(xs:List Operand) (L:List Nat) (S S2:St),(∀x∈xs,∀t,x= .tmp t→t∈L)→Agr L S S2→Agr L (xs.foldl cY S) (xs.foldl cY S2):=by
  intro xs
  induction xs with
  |nil=>intro L S S2 _ h;exact h
  |cons x xs ih=>intro L S S2 hx h;exact ih L _ _ (fun y hy=>hx y (by simp[hy])) (h.shed (hx x (by simp)))
 refine⟨fun S v S' hf=>?_,fun L S S2 v S' hf ha hL ho=>?_⟩
 ·obtain⟨u,_,h2⟩:=T0.1 hf
  cases h2
  exact⟨(hout xs S).1,(hout xs S).2,fun h=>absurd rfl h⟩
 ·obtain⟨u,h1,h2⟩:=T0.1 hf
  cases h2
  refine⟨⟨(xs.foldl cY S2).env,u.2⟩,?_,hagr xs L S S2 (fun x hx' t ht=>hL t (hx x hx' t ht)) ha,fun _=>rfl⟩
  simp only[h S S2 ⟨ha.1,fun t ht=>ha.2 t (hL t ht)⟩ (ho (by omega)),h1]
  rfl
theorem Loc.look {f:St→Option V} {looks:List Nat} (h:∀S S2,Agr looks S S2→S2.objs=S.objs→f S2=f S):Loc (fun S=>(f S).bind fun v=>some (v,S)) looks [] 1:=by
 refine⟨fun S v S' hf=>?_,fun L S S2 v S' hf ha hL ho=>?_⟩
 ·obtain⟨u,_,h2⟩:=T0.1 hf
  cases h2
  exact⟨fun _ _=>rfl,rfl,fun _=>rfl⟩
 ·obtain⟨u,h1,h2⟩:=T0.1 hf
  cases h2
  refine⟨S2,?_,ha,fun h=>by omega⟩
  simp only[h S S2 ⟨ha.1,fun t ht=>ha.2 t (hL t ht)⟩ (ho (by omega)),h1]
  rfl
def qC:Ob→Ob| .cells cs=> .cells (cs.map V.cut1)|o=>o
def dK (l:List Ob):List Ob:=l.map qC
theorem JC (v:V):v.cut1.cut1=v.cut1:=by cases v<;>rfl
theorem ET (v:V):v.cut1.cut=v.cut:=by cases v<;>rfl
theorem tB:∀(o n:Nat) (cs:List V),(cutAt o n cs).map V.cut1=cs.map V.cut1
 |0,0,[]=>rfl
 |0,0,_::_=>rfl
 |0,n+1,[]=>rfl
 |0,n+1,x::cs=>by simp only[cutAt,UE,JC,tB 0 n cs]
 |o+1,n,[]=>rfl
 |o+1,n,x::cs=>by simp only[cutAt,UE,tB o n cs]
theorem Hm (t:TypeId) (off:Nat) {cs cs' :List V} (h:cs.map V.cut1=cs'.map V.cut1):(partV c t off cs).map V.cut=(partV c t off cs').map V.cut:=by
 have hl:cs.length=cs'.length:=by simpa using congrArg US h
 have hd:((cs.drop off).take (aE c t)).map V.cut1=((cs'.drop off).take (aE c t)).map V.cut1:=by
  rw[Wm,List.map_drop,h,←List.map_drop,←Wm]
 unfold partV
 rw[hl]
 split
 ·generalize(cs.drop off).take (aE c t)=a at hd ⊢
  generalize(cs'.drop off).take (aE c t)=b at hd ⊢
  unfold dZ
  split
  ·simp only[UF,V.cut,V.cut2,hd]
  ·match a,b,hd with
   |[],[],_=>rfl
   |[x],[y],hd=>
    simp only[UE,VL,List.cons.injEq,and_true]at hd
    simp only[UF,←ET x,←ET y,hd]
   |_::_::_,_::_::_,_=>rfl
   |[],_::_,hd=>simp at hd
   |_::_,[],hd=>simp at hd
   |[_],_::_::_,hd=>simp at hd
   |_::_::_,[_],hd=>simp at hd
 ·rfl
theorem EU {l l' :List Ob} (h:dK l=dK l') (i:Nat):qC (l.getD i .dead)=qC (l'.getD i .dead):=by
 have e:∀l:List Ob,qC (l.getD i .dead)=(dK l).getD i .dead:=by
  intro l
  simp only[dK,Ul,UC]
  cases l[i]? <;>rfl
 rw[e,e,h]
theorem Hn (t:TypeId) (p:V) {S S2:St} (h:dK S2.objs=dK S.objs):(jR c S2 t p).map V.cut=(jR c S t p).map V.cut:=by
 unfold jR
 cases p with
 |ref i off=>
  have:=EU h i
  simp only[St.ob]
  generalize S2.objs.getD i .dead=a at this ⊢
  generalize S.objs.getD i .dead=b at this ⊢
  cases a<;>cases b<;>simp[qC]at this
  ·exact Hm t off (by simpa using this)
  ·rfl
  ·rfl
  ·rfl
 |cpt cs=>rfl
 |_=>rfl
theorem JD {l:List Ob} {i:Nat} {o o' :Ob} (h:l[i]? =some o) (hs:qC o' =qC o):dK (l.set i o')=dK l:=by
 unfold dK
 apply UK
 intro j
 rw[UC,UC]
 by_cases e:i=j
 ·subst e
  rw[Us (TQ.1 h).1,h]
  simp[hs]
 ·rw[Uq e]
end
end Go.Ev
end
section
namespace Go.Ev
section
variable {c : Cfg}
theorem dE {t:Nat} {l:List Operand}:t∈bP l↔Operand.tmp t∈l:=by
 simp only[bP,VW]
 constructor
 ·rintro⟨x,hx,h⟩
  cases x<;>simp at h
  subst h;exact hx
 ·intro h;exact⟨_,h,rfl⟩
def nP (c:Cfg) (call:FuncId→Fun) (f:FuncId) (args:List V) (objs:List Ob):Option (V×List Ob):=
 match c.fn f with
 |none=>none
 |some fn=>match fZ c f fn with
  |none=>none
  |some rsh=>lZ c call rsh f args ⟨[],objs⟩ fun v S=>some (v,S.objs)
theorem kO {R:Type}:∀(js:List Nat) (os objs:List Ob) (K:List Ob→Option R),dM js os objs K=(dM js os objs some).bind K
 |[],_,_,_=>by simp[dM]
 |_::_,[],_,_=>by simp[dM]
 |j::js,o::os,objs,K=>by simp only[dM,oL];exact kO js os _ K
theorem tC (hinl:∀f,c.inl f=false) {R:Type} (call:FuncId→Fun) (icall:aN R) (f:FuncId) (args:List V) (S:St) (K:V→St→Option R):
  enter c call icall f args S K=(nP c call f args S.objs).bind fun p=>K p.1 ⟨S.env,p.2⟩:=by
 obtain⟨env,objs⟩:=S
 unfold enter nP
 rw[hinl f]
 simp only[TL,if_false]
 cases c.fn f with
 |none=>rfl
 |some fn=>
  simp only
  cases fZ c f fn with
  |none=>rfl
  |some rsh=>
   simp only
   unfold lZ
   have e1:St.ob ⟨env,objs⟩=fun j=>objs.getD j .dead:=rfl
   have e2:St.ob ⟨[],objs⟩=fun j=>objs.getD j .dead:=rfl
   simp only[e1,e2]
   split
   ·rw[Vu]
    congr 1
    funext p
    cases c.still f with
    |true=>rfl
    |false=>
     simp only[TL,if_false]
     rw[kO]
     conv=>rhs;rw[kO]
     rw[Vu]
     rfl
   ·rfl
theorem KH {call:FuncId→Fun} {f:FuncId} {args:List V} {objs:List Ob} {p:V×List Ob} (h:nP c call f args objs=some p) (hr:c.still f=true):p.2=objs:=by
 unfold nP at h
 split at h
 ·cases h
 ·split at h
  ·cases h
  ·unfold lZ at h
   dsimp only at h
   split at h
   ·obtain⟨q,_,h2⟩:=T0.1 h
    simp only[hr,if_true,Option.some.injEq]at h2
    rw[←h2]
   ·cases h
theorem wM (objs:List Ob):∀(n:Nat) (l acc:List Nat),acc≠[]→gG objs n l acc≠[]
 |0,_,_,h=>h
 |_+1,[],_,h=>h
 |n+1,i::r,acc,h=>by
  unfold gG
  split
  ·exact wM objs n r acc h
  ·exact wM objs n _ _ (by simp)
theorem JE (objs:List Ob) (n:Nat) (l:List Nat) (h:(gG objs (n+1) l []).isEmpty=true):l=[]:=by
 cases l with
 |nil=>rfl
 |cons i r=>
  exfalso
  rw[V4]at h
  unfold gG at h
  simp only[List.contains_nil,TL,if_false]at h
  exact wM objs n _ _ (by simp) h
theorem JF {call:FuncId→Fun} {f:FuncId} {args:List V} {objs objs2:List Ob} {p:V×List Ob} (hp:c.pur f=true) (h:nP c call f args objs=some p):nP c call f args objs2=some (p.1,objs2):=by
 unfold nP at h ⊢
 split at h
 ·cases h
 ·rename_i fn hfn
  split at h
  ·cases h
  ·rename_i rsh hrsh
   unfold lZ at h ⊢
   dsimp only at h ⊢
   split at h
   case isFalse=>cases h
   rename_i hc
   have hcc:=hc
   simp only[TR,hp,UP,VF]at hcc
   have hargs:=JE objs 99 _ hcc.2
   have e1:∀o:List Ob,gG o 100 (V.refsL args) []=[]:=by intro o;rw[hargs];rfl
   rw[e1]at h
   rw[e1,if_pos (by simp[hargs,nodupB,lA])]
   have hst:c.still f=true:=by simp[Cfg.still,hp]
   obtain⟨q,h1,h2⟩:=T0.1 h
   simp only[hst,if_true,Option.some.injEq]at h2
   subst h2
   rw[T0]
   exact⟨q,h1,by simp[hst]⟩
def jV (c:Cfg) (f:FuncId):Nat→St→List Operand→List TypeId→List V×St
 |_,S,[],_=>([],S)
 |i,S,x::r,ts=>
  let p:=jV c f (i+1) S r ts.tail
  if c.wants f i then(opd c p.2 (ts.headD 0) x::p.1,cY p.2 x)else((opd c p.2 (ts.headD 0) x).cut::p.1,p.2)
theorem Ad {R:Type} (f:FuncId):∀(l:List Operand) (i:Nat) (S:St) (ts:List TypeId) (K:List V→St→Option R),ED c f i S l ts K=K (jV c f i S l ts).1 (jV c f i S l ts).2
 |[],i,S,ts,K=>rfl
 |x::r,i,S,ts,K=>by
  simp only[ED,jV,Ad f r]
  split
  ·rw[iN]
  ·rfl
theorem qD (f:FuncId):∀(l:List Operand) (i:Nat) (S:St) (ts:List TypeId),(∀t,t∉bP l→(jV c f i S l ts).2.env[t]? =S.env[t]?)∧(jV c f i S l ts).2.env.length=S.env.length∧(jV c f i S l ts).2.objs=S.objs
 |[],i,S,ts=>⟨fun _ _=>rfl,rfl,rfl⟩
 |x::r,i,S,ts=>by
  obtain⟨h1,h2,h3⟩:=qD f r (i+1) S ts.tail
  have hr:∀t,t∉bP (x::r)→t∉bP r∧x≠ .tmp t:=fun t ht=>by
   rw[dE]at ht ⊢
   simp only[UH,not_or]at ht
   exact⟨ht.2,fun h=>ht.1 h.symm⟩
  simp only[jV]
  split
  ·exact⟨fun t ht=>by rw[rJ _ _ _ (hr t ht).2,h1 t (hr t ht).1],by rw[rI,h2],by rw[fQ,h3]⟩
  ·exact⟨fun t ht=>h1 t (hr t ht).1,h2,h3⟩
theorem Cc {L:List Nat} (f:FuncId):∀(l:List Operand) (i:Nat) (S S2:St) (ts:List TypeId),(∀t∈bP l,t∈L)→Agr L S S2→(jV c f i S2 l ts).1=(jV c f i S l ts).1∧Agr L (jV c f i S l ts).2 (jV c f i S2 l ts).2
 |[],i,S,S2,ts,_,h=>⟨rfl,h⟩
 |x::r,i,S,S2,ts,hl,h=>by
  have hx:∀t,x= .tmp t→t∈L:=fun t ht=>hl t (by rw[dE,ht];simp)
  obtain⟨h1,h2⟩:=Cc f r (i+1) S S2 ts.tail (fun t ht=>hl t (by rw[dE]at ht ⊢;exact List.mem_cons_of_mem _ ht)) h
  simp only[jV]
  split
  ·exact⟨by simp only[h2.opd hx,h1],h2.shed hx⟩
  ·exact⟨by simp only[h2.opd hx,h1],h2⟩
theorem fW {S S2:St}:∀(l:List Operand) (ts:List TypeId),(∀x∈l,∀t,opd c S2 t x=opd c S t x)→eO c S2 l ts=eO c S l ts
 |[],_,_=>rfl
 |x::r,ts,h=>by simp only[eO,h x (by simp),fW r ts.tail (fun y hy=>h y (by simp[hy]))]
def BN (c:Cfg) (ops:List Oper) (o:Oper) (F:St→Option (V×St)):Prop:=
 yU o=true→(∀S v S',F S=some (v,S')→dK S'.objs=dK S.objs)∧
  (aQ c ops o=1→∀L S S2 v S',F S=some (v,S')→Agr L S S2→(∀t∈bY o.op,t∈L)→dK S2.objs=dK S.objs→∃S2',F S2=some (v,S2')∧Agr L S' S2')
theorem BN.no {c:Cfg} {ops:List Oper} {o:Oper} {F:St→Option (V×St)} (h:yU o=false):BN c ops o F:=fun h' =>by rw[h]at h';cases h'
def yW (c:Cfg) (call:FuncId→Fun) (ops:List Oper) (o:Oper):Prop:=
 ∃F:St→Option (V×St),(∀(R:Type) (icall:aN R) (S:St) (K:V→St→Option R),opK c call icall ops o S K=(F S).bind fun p=>K p.1 p.2)∧
  Loc F (bY o.op) (eW c ops o) (aQ c ops o)∧BN c ops o F
theorem yW.val {call:FuncId→Fun} {ops:List Oper} {o:Oper} (f:St→Option V)
  (he:∀(R:Type) (icall:aN R) (S:St) (K:V→St→Option R),opK c call icall ops o S K=(f S).bind fun v=>K v S)
  (h:∀S S2,(∀x∈o.op.operands.toList,∀t,opd c S2 t x=opd c S t x)→f S2=f S) (hn:yU o=false:=by rfl):yW c call ops o:=
 ⟨fun S=>(f S).bind fun v=>some (v,S),fun R icall S K=>by rw[he,Vu];rfl,
  (Loc.val (looks:=bY o.op) fun S S2 ha=>h S S2 fun x hx t=>ha.opd (fun s hs=>by rw[bY,dE,←hs];exact hx) t).mono (fun _ h=>h) (fun _ h=>by cases h) (.inr (.inl rfl)),BN.no hn⟩
theorem yW.valShed {call:FuncId→Fun} {ops:List Oper} {o:Oper} (f:St→Option V) (x:Operand) (hx:x∈o.op.operands.toList) (hs:eW c ops o=bP [x])
  (he:∀(R:Type) (icall:aN R) (S:St) (K:V→St→Option R),opK c call icall ops o S K=(f S).bind fun v=>K v (cY S x))
  (h:∀S S2,(∀x∈o.op.operands.toList,∀t,opd c S2 t x=opd c S t x)→f S2=f S) (hn:yU o=false:=by rfl):yW c call ops o:=
 ⟨fun S=>(f S).bind fun v=>some (v,cY S x),fun R icall S K=>by rw[he,Vu];rfl,
  (Loc.valShed (looks:=bY o.op) (fun S S2 ha=>h S S2 fun x hx t=>ha.opd (fun s hs=>by rw[bY,dE,←hs];exact hx) t) x (fun t ht=>by rw[bY,dE,←ht];exact hx)).mono
   (fun _ h=>h) (fun _ h=>by rw[hs];exact h) (.inr (.inl rfl)),BN.no hn⟩
theorem yW.obj {call:FuncId→Fun} {ops:List Oper} {o:Oper} (f:St→Option (V×List Ob)) (xs:List Operand) (hx:∀x∈xs,x∈o.op.operands.toList) (hs:eW c ops o=bP xs) (hk:aQ c ops o=2)
  (he:∀(R:Type) (icall:aN R) (S:St) (K:V→St→Option R),opK c call icall ops o S K=(f S).bind fun p=>K p.1 ⟨(xs.foldl cY S).env,p.2⟩)
  (h:∀S S2,S2.objs=S.objs→(∀x∈o.op.operands.toList,∀t,opd c S2 t x=opd c S t x)→f S2=f S)
  (hn:BN c ops o (fun S=>(f S).bind fun p=>some (p.1,⟨(xs.foldl cY S).env,p.2⟩)):=by exact BN.no rfl):yW c call ops o:=
 ⟨fun S=>(f S).bind fun p=>some (p.1,⟨(xs.foldl cY S).env,p.2⟩),fun R icall S K=>by rw[he];rw[Vu];rfl,
  (Loc.obj (looks:=bY o.op) (fun S S2 ha ho=>h S S2 ho fun x hx t=>ha.opd (fun s hs=>by rw[bY,dE,←hs];exact hx) t) xs (fun x hx' t ht=>by rw[bY,dE,←ht];exact hx x hx')).mono
   (fun _ h=>h) (fun _ h=>by rw[hs];exact h) (.inl hk),hn⟩
theorem yW.look {call:FuncId→Fun} {ops:List Oper} {o:Oper} (f:St→Option V) (hk:aQ c ops o=1)
  (he:∀(R:Type) (icall:aN R) (S:St) (K:V→St→Option R),opK c call icall ops o S K=(f S).bind fun v=>K v S)
  (h:∀S S2,S2.objs=S.objs→(∀x∈o.op.operands.toList,∀t,opd c S2 t x=opd c S t x)→f S2=f S)
  (hn:BN c ops o (fun S=>(f S).bind fun v=>some (v,S)):=by exact BN.no rfl):yW c call ops o:=
 ⟨fun S=>(f S).bind fun v=>some (v,S),fun R icall S K=>by rw[he,Vu];rfl,
  (Loc.look (looks:=bY o.op) fun S S2 ha ho=>h S S2 ho fun x hx t=>ha.opd (fun s hs=>by rw[bY,dE,←hs];exact hx) t).mono (fun _ h=>h) (fun _ h=>by cases h) (.inl hk),hn⟩
theorem yW.none {call:FuncId→Fun} {ops:List Oper} {o:Oper} (he:∀(R:Type) (icall:aN R) (S:St) (K:V→St→Option R),opK c call icall ops o S K=Option.none) (hn:yU o=false:=by rfl):yW c call ops o:=
 yW.val (fun _=>Option.none) (fun R icall S K=>he R icall S K) (fun _ _ _=>rfl) hn
theorem St.cells_get {S:St} {i:Nat} {cs:List V} (h:S.ob i= .cells cs):S.objs[i]? =some (.cells cs):=by
 unfold St.ob at h
 rw[Ul]at h
 cases ho:S.objs[i]? with
 |none=>rw[ho]at h;cases h
 |some o=>rw[ho]at h;simp at h;rw[h]
theorem St.ob_of {S S2:St} (h:S2.objs=S.objs) (i:Nat):S2.ob i=S.ob i:=by simp[St.ob,h]
theorem DR (hinl:∀f,c.inl f=false) (call:FuncId→Fun) (ops:List Oper) (o:Oper):yW c call ops o:=by
 obtain⟨dst,op,type,pos,after,guard⟩:=o
 cases op
 case move x=>
  by_cases ho:sU c ops dst=true
  ·refine .valShed (fun S=>some (opd c S type x)) x (by simp[Op.operands]) (by simp[eW,ho]) (fun R icall S K=>?_) fun S S2 h=>by simp[h x (by simp[Op.operands])]
   simp[opK,ho,iN]
  ·refine .val (fun S=>some (opd c S type x).cut) (fun R icall S K=>?_) fun S S2 h=>by simp[h x (by simp[Op.operands])]
   simp[opK,ho]
 case assign x=>
  refine .valShed (fun S=>some (if isConst x then GZ c (opd c S type x)else opd c S type x)) x (by simp[Op.operands]) rfl (fun R icall S K=>?_) fun S S2 h=>by simp[h x (by simp[Op.operands])]
  simp[opK,iN]
 case pick cx x y=>
  refine .val (fun S=>match opd c S 0 cx with| .bool true=>some (opd c S type x).cut| .bool false=>some (opd c S type y).cut|_=>none) (fun R icall S K=>?_) fun S S2 h=>?_
  ·simp only[opK];cases opd c S 0 cx<;>first|rfl|(rename_i b;cases b<;>rfl)
  ·simp only[h cx (by simp[Op.operands]),h x (by simp[Op.operands]),h y (by simp[Op.operands])]
 case binOp op t x y ty=>
  refine .val (fun S=>GY c op t (isConst y) (opd c S t x) (opd c S ty y) some) (fun R icall S K=>?_) fun S S2 h=>?_
  ·simp only[opK];exact JB _ _ _ _ _ _
  ·simp only[h x (by simp[Op.operands]),h y (by simp[Op.operands])]
 case makeInterface t x=>
  refine .val (fun S=>match c.ty t with|some y=>if Il y.d then none else some (.ifc t (opd c S t x).cut)|none=>none) (fun R icall S K=>?_) fun S S2 h=>?_
  ·simp only[opK]
   cases c.ty t with
   |none=>rfl
   |some y=>simp only;split<;>rfl
  ·simp only[h x (by simp[Op.operands])]
 case typeAssert x xt t ok=>
  refine .val (fun S=>rC c t ok (opd c S 0 x) some) (fun R icall S K=>?_) fun S S2 h=>?_
  ·simp only[opK];exact DL _ _ _ _
  ·simp only[h x (by simp[Op.operands])]
 case unOp op t x=>
  cases op
  case not=>
   refine .val (fun S=>match opd c S type x with| .bool b=>some (.bool !b)|_=>none) (fun R icall S K=>?_) fun S S2 h=>?_
   ·simp only[opK];cases opd c S type x<;>rfl
   ·simp only[h x (by simp[Op.operands])]
  case neg=>
   refine .val (fun S=>match opd c S type x with| .int k n=>some (.int k (k.wrap (0 - n)))|_=>none) (fun R icall S K=>?_) fun S S2 h=>?_
   ·simp only[opK];cases opd c S type x<;>rfl
   ·simp only[h x (by simp[Op.operands])]
  case xor=>
   refine .val (fun S=>match opd c S type x with| .int k n=>some (.int k (bits .xor k (if k.signed then -1 else k.max) n))|_=>none) (fun R icall S K=>?_) fun S S2 h=>?_
   ·simp only[opK];cases opd c S type x<;>rfl
   ·simp only[h x (by simp[Op.operands])]
  all_goals exact .none fun R icall S K=>rfl
 case convert s d x=>
  by_cases ho:(s==d&&sU c ops dst)=true
  ·refine .valShed (fun S=>Im c s (opd c S s x)) x (by simp[Op.operands]) (by simp only[eW,ho,if_true]) (fun R icall S K=>?_) fun S S2 h=>by simp only[h x (by simp[Op.operands])]
   simp only[opK,ho,if_true,iN]
   cases Im c s (opd c S s x)<;>rfl
  ·refine .val (fun S=>B0 c s d (opd c S s x) some) (fun R icall S K=>?_) fun S S2 h=>?_
   ·simp only[opK,ho,TL,if_false];exact Hl _ _ _ _
   ·simp only[h x (by simp[Op.operands])]
 case build t parts=>
  refine .val (fun S=>Dy c t (parts.toList.map fun p=>(p.1,opd c S (match c.ty t with|some { d:= .struct fs, .. }=>((fs[p.1]?).map (·.type)).getD 0|some { d:= .array _ e, .. }=>e|_=>0) p.2 |>.cut))) (fun R icall S K=>?_) fun S S2 h=>?_
  ·simp only[opK];generalize Dy c t _=v;cases v<;>rfl
  ·congr 1
   refine VB fun p hp=>?_
   rw[h p.2 (by simp[Op.operands];exact⟨p.1,by simpa using hp⟩)]
 case buildSlice t n parts=>
  refine .val (fun S=>match elemOf c t with
   |none=>none
   |some e=>match(kZ c e n (parts.toList.map fun p=>(p.1,(opd c S e p.2).cut))).bind (iI c e n)with
    |none=>none
    |some xs=>if xs.all (cI c e)&&(V.refsL xs).isEmpty&&n*aE c e≤16777216&&0<aE c e then some (.lst e true xs)else none) (fun R icall S K=>?_) fun S S2 h=>?_
  ·simp only[opK]
   cases elemOf c t with
   |none=>rfl
   |some e=>
    simp only
    generalize TN (kZ c e n _) (iI c e n)=q
    cases q with
    |none=>rfl
    |some xs=>
     simp only
     split<;>rfl
  ·have:∀e,(parts.toList.map fun p=>(p.1,(opd c S2 e p.2).cut))=(parts.toList.map fun p=>(p.1,(opd c S e p.2).cut)):=fun e=>
    VB fun p hp=>by rw[h p.2 (by simp[Op.operands];exact⟨p.1,by simpa using hp⟩)]
   simp only[this]
 case makeSlice t l m=>
  refine .val (fun S=>match elemOf c t,opd c S 0 l,opd c S 0 m with
   |some e, .int _ n, .int _ n' =>match c.ty e with
    |some y=>match dZ c e (y.zero.map V.cut1)with
     |some z=>if 0<y.size&&cI c e z&&(V.refs z).isEmpty then chk (n==n') (chk (decide (0≤n)) (chk (decide (n* ((y.bytes+1:Nat):Int)≤70368744177664)) (some (.own e (TZ n.toNat z)))))else none
     |none=>none
    |none=>none
   |_,_,_=>none) (fun R icall S K=>?_) fun S S2 h=>?_
  ·simp only[opK]
   generalize opd c S 0 l=p
   generalize opd c S 0 m=q
   cases elemOf c t with
   |none=>rfl
   |some e=>
    cases p<;>try rfl
    cases q<;>try rfl
    simp only
    cases c.ty e with
    |none=>rfl
    |some y=>
     simp only
     cases dZ c e (y.zero.map V.cut1)with
     |none=>rfl
     |some z=>
      simp only[chk]
      repeat (split<;>try rfl)
  ·rw[h l (by simp[Op.operands]),h m (by simp[Op.operands])]
 case alloc t=>
  refine .obj (fun S=>match c.ty t with|some y=>some (.ref S.objs.length 0,S.objs++[.cells (uA c t S.objs.length y.zero)])|none=>none) [] (by simp) rfl rfl (fun R icall S K=>?_) fun S S2 ho h=>?_
  ·simp only[opK];cases c.ty t with
   |none=>rfl
   |some y=>simp only[gP];rfl
  ·simp only[ho]
 case box t x=>
  refine .obj (fun S=>if(opd c S t x).cells.length==aE c t&&(opd c S t x).cells.all V.solid then some (.ref S.objs.length 0,S.objs++[.cells ((opd c S t x).cells.map V.nif)])else none) [x] (by simp[Op.operands]) rfl rfl (fun R icall S K=>?_) fun S S2 ho h=>?_
  ·simp only[opK,iN,gP,fQ]
   generalize(((opd c S t x).cells.length==aE c t)&&(opd c S t x).cells.all V.solid)=b
   cases b<;>rfl
  ·simp only[ho,h x (by simp[Op.operands])]
 case load t x=>
  have hl:∀S S2:St,S2.objs=S.objs→∀p,jR c S2 t p=jR c S t p:=fun S S2 ho p=>by unfold jR;split<;>simp only[St.ob_of ho]
  by_cases ho:owned c ops dst=true
  ·refine .obj (fun S=>match jR c S t (opd c S 0 x)with
    |some v=>if(opd c S 0 x).isRef then(match opd c S 0 x with
     | .ref i off=>(match S.ob i with| .cells cs=>some (v,S.objs.set i (.cells (cutAt off (aE c t) cs)))|_=>some (v,S.objs))
     |_=>some (v,S.objs))else some (v.cut,S.objs)
    |none=>none) [] (by simp) rfl (by simp[aQ,ho]) (fun R icall S K=>?_) (fun S S2 hob h=>?_) (fun _=>⟨fun S v S' hf=>?_,fun h1=>by simp[aQ,ho]at h1⟩)
   ·simp only[opK,uI,ho,Bool.true_and]
    cases jR c S t (opd c S 0 x)with
    |none=>rfl
    |some v=>
     simp only
     cases opd c S 0 x with
     |ref i off=>
      simp only[V.isRef,if_true,tY,eR]
      cases S.ob i<;>rfl
     |_=>rfl
   ·simp only[h x (by simp[Op.operands]),hl S S2 hob,hob,St.ob_of hob]
   ·obtain⟨p,h1,h2⟩:=T0.1 hf
    cases h2
    split at h1
    ·split at h1
     ·split at h1
      ·split at h1
       ·rename_i cs hob
        cases h1
        exact JD (St.cells_get hob) (by simp only[qC,tB])
       ·cases h1;rfl
      ·cases h1;rfl
     ·cases h1;rfl
    ·cases h1
  ·have ho:owned c ops dst=false:=by simpa using ho
   refine .look (fun S=>(jR c S t (opd c S 0 x)).map V.cut) (by simp[aQ,ho]) (fun R icall S K=>?_) (fun S S2 hob h=>?_) (fun _=>⟨fun S v S' hf=>?_,fun _ L S S2 v S' hf ha hL hsoft=>?_⟩)
   ·simp only[opK,uI,ho,Bool.false_and,TL,if_false]
    cases jR c S t (opd c S 0 x)<;>rfl
   ·simp only[h x (by simp[Op.operands]),hl S S2 hob]
   ·obtain⟨u,_,h2⟩:=T0.1 hf
    cases h2;rfl
   ·obtain⟨u,h1,h2⟩:=T0.1 hf
    cases h2
    refine⟨S2,?_,ha⟩
    have hx:opd c S2 0 x=opd c S 0 x:=ha.opd (fun s hs=>hL s (by rw[bY,dE,←hs];simp[Op.operands])) 0
    simp only[hx]
    rw[Hn t _ hsoft,h1]
    rfl
 case store t x y=>
  refine .obj (fun S=>match opd c S 0 x with
   | .ref i off=>match S.ob i with
    | .cells cs=>if(c.ty t).isSome&&off+aE c t≤cs.length&&(opd c S t y).cells.length==aE c t&&(opd c S t y).cells.all V.solid then some (.bot,S.objs.set i (.cells (over off (opd c S t y).cells cs)))else none
    |_=>none
   |_=>none) [y] (by simp[Op.operands]) rfl rfl (fun R icall S K=>?_) fun S S2 ho h=>?_
  ·simp only[opK]
   rw[iN]
   unfold Dz
   have:∀i,(cY S y).ob i=S.ob i:=fun i=>by simp[St.ob,fQ]
   simp only[this,eR,fQ]
   cases opd c S 0 x with
   |ref i off=>
    simp only
    cases S.ob i with
    |cells cs=>
     simp only
     split<;>rfl
    |_=>rfl
   |_=>rfl
  ·simp only[h x (by simp[Op.operands]),h y (by simp[Op.operands]),St.ob_of ho,ho]
 case nilCheck x=>
  refine .val (fun S=>match opd c S 0 x with
   | .ref i f=>some (.ref i f)
   | .cpt cs=>some (.cpt cs)
   | .clo f a b=>(match f with| .func _=>some (.clo f a b)|_=>none)
   |_=>none) (fun R icall S K=>?_) fun S S2 h=>?_
  ·simp only[opK];cases opd c S 0 x with
   |clo f a b=>cases f<;>rfl
   |_=>rfl
  ·simp only[h x (by simp[Op.operands])]
 case fieldAddr t x f=>
  refine .val (fun S=>match fieldsOf c t with
   |none=>none
   |some fs=>match fs[f]? with
    |none=>none
    |some fd=>if aE c fd.type==0 then none else
     match opd c S 0 x with
     | .ref i off=>some (.ref i (off+fd.offset))
     | .cpt cs=>some (.cpt (cs.drop fd.offset))
     |_=>none) (fun R icall S K=>?_) fun S S2 h=>?_
  ·simp only[opK];cases fieldsOf c t with
   |none=>rfl
   |some fs=>
    simp only
    cases fs[f]? with
    |none=>rfl
    |some fd=>
     simp only
     generalize(aE c fd.type==0)=b
     cases b with
     |true=>rfl
     |false=>simp only[TL,if_false];cases opd c S 0 x<;>rfl
  ·simp only[h x (by simp[Op.operands])]
 case field t x f=>
  refine .val (fun S=>match fieldsOf c t with
   |none=>none
   |some fs=>match fs[f]?,opd c S t x with
    |some fd, .agg cs=>(match partV c fd.type fd.offset cs with|some v=>some v.cut|none=>none)
    |_,_=>none) (fun R icall S K=>?_) fun S S2 h=>?_
  ·simp only[opK];cases fieldsOf c t with
   |none=>rfl
   |some fs=>
    simp only
    cases fs[f]? with
    |none=>rfl
    |some fd=>
     cases opd c S t x with
     |agg cs=>simp only;cases partV c fd.type fd.offset cs<;>rfl
     |_=>rfl
  ·simp only[h x (by simp[Op.operands])]
 case indexAddr t x i=>
  refine .val (fun S=>match opd c S t x,opd c S 0 i with
   | .lst e _ xs, .int _ n=>(match elemOf c t with
    |some e' =>if e==e' &&0<aE c e then chk (decide (0≤n)) (chk (decide (n<xs.length)) (some (.cpt (vT c e (xs.getD n.toNat .bot)).cells)))else none
    |none=>none)
   | .ref o off, .int _ n=>(match pS c t with
    |some (m,e)=>if 0<aE c e then chk (decide (0≤n∧n<(m:Int))) (some (.ref o (off+n.toNat*aE c e)))else none
    |none=>none)
   | .cpt cs, .int _ n=>(match pS c t with
    |some (m,e)=>if(aE c e==1&&cs.length==m)&&cs.all (fun v=>cI c e v)then chk (decide (0≤n)) (chk (decide (n<cs.length)) (some (.cpt [vT c e (cs.getD n.toNat .bot)])))else none
    |none=>none)
   |_,_=>none) (fun R icall S K=>?_) fun S S2 h=>?_
  ·simp only[opK];cases opd c S t x with
   |ref o off=>
    cases opd c S 0 i with
    |int k n=>
     simp only
     cases pS c t with
     |none=>rfl
     |some p=>
      simp only
      split
      ·unfold chk;split<;>rfl
      ·rfl
    |_=>rfl
   |cpt cs=>
    cases opd c S 0 i with
    |int k n=>
     simp only
     cases pS c t with
     |none=>rfl
     |some p=>
      simp only
      generalize((aE c p.2==1&&cs.length==p.1)&&cs.all fun v=>cI c p.2 v)=b
      generalize decide (0≤n)=b1
      generalize decide (n<(cs.length:Int))=b2
      cases b<;>cases b1<;>cases b2<;>rfl
    |_=>rfl
   |lst e tp xs=>
    cases opd c S 0 i with
    |int k n=>
     simp only
     cases elemOf c t with
     |none=>rfl
     |some e' =>
      simp only
      generalize(e==e' &&decide (0<aE c e))=b
      generalize decide (0≤n)=b1
      generalize decide (n<(xs.length:Int))=b2
      cases b<;>cases b1<;>cases b2<;>rfl
    |_=>rfl
   |_=>rfl
  ·simp only[h x (by simp[Op.operands]),h i (by simp[Op.operands])]
 case index t x i=>
  refine .val (fun S=>match opd c S 0 x,opd c S 0 i with
   | .str s, .int _ n=>if jQ c t then chk (decide (0≤n)) (chk (decide (n<s.length)) (some (.int .u8 (s.getD n.toNat 0).toNat)))else none
   | .agg cs, .int _ n=>(match pS c t with
    |some (m,e)=>chk (decide (0≤n∧n<(m:Int))) (match partV c e (n.toNat*aE c e) cs with|some v=>some v.cut|none=>none)
    |none=>none)
   |_,_=>none) (fun R icall S K=>?_) fun S S2 h=>?_
  ·simp only[opK];cases opd c S 0 x with
   |agg cs=>
    cases opd c S 0 i with
    |int k n=>
     simp only
     cases pS c t with
     |none=>rfl
     |some p=>
      simp only
      unfold chk
      split
      ·cases partV c p.snd (n.toNat*aE c p.snd) cs<;>rfl
      ·rfl
    |_=>rfl
   |str s=>
    cases opd c S 0 i with
    |int k n=>
     simp only
     generalize jQ c t=b
     generalize decide (0≤n)=b1
     generalize decide (n<(s.length:Int))=b2
     cases b<;>cases b1<;>cases b2<;>rfl
    |_=>rfl
   |_=>rfl
  ·simp only[h x (by simp[Op.operands]),h i (by simp[Op.operands])]
 case slice t x lo hi mx=>
  refine .val (fun S=>if tZ c t (opd c S t x)&&BI (lo.map (opd c S 0))&&BI (hi.map (opd c S 0))&&BI (mx.map (opd c S 0))then fE (opd c S t x) (lo.map (opd c S 0)) (hi.map (opd c S 0)) (mx.map (opd c S 0)) some else none) (fun R icall S K=>?_) fun S S2 h=>?_
  ·simp only[opK];split
   ·exact ES _ _ _ _ _
   ·rfl
  ·have h1:lo.map (opd c S2 0)=lo.map (opd c S 0):=by cases lo with|none=>rfl|some y=>simp[h y (by simp[Op.operands])]
   have h2:hi.map (opd c S2 0)=hi.map (opd c S 0):=by cases hi with|none=>rfl|some y=>simp[h y (by simp[Op.operands])]
   have h3:mx.map (opd c S2 0)=mx.map (opd c S 0):=by cases mx with|none=>rfl|some y=>simp[h y (by simp[Op.operands])]
   simp only[h x (by simp[Op.operands]),h1,h2,h3]
 case extract x n=>
  refine .val (fun S=>match opd c S 0 x with| .tup cs=>if n<cs.length then some (cs.getD n .bot).cut else none|_=>none) (fun R icall S K=>?_) fun S S2 h=>?_
  ·simp only[opK];cases opd c S 0 x with
   |tup cs=>simp only;split<;>rfl
   |_=>rfl
  ·simp only[h x (by simp[Op.operands])]
 case makeFunc fn first caps=>
  refine .val (fun S=>some (.clo fn (first.toList.map fun x=>(opd c S 0 x).cut) (caps.toList.map fun x=>(opd c S 0 x).cut))) (fun R icall S K=>?_) fun S S2 h=>?_
  ·rfl
  ·have h1:(first.toList.map fun x=>(opd c S2 0 x).cut)=(first.toList.map fun x=>(opd c S 0 x).cut):=VB fun x hx=>by rw[h x (by simp[Op.operands];exact .inl (by simpa using hx))]
   have h2:(caps.toList.map fun x=>(opd c S2 0 x).cut)=(caps.toList.map fun x=>(opd c S 0 x).cut):=VB fun x hx=>by rw[h x (by simp[Op.operands];exact .inr (by simpa using hx))]
   simp only[h1,h2]
 case call cl=>
  obtain⟨callee,args,argTypes⟩:=cl
  have hmem:∀x∈args.toList,x∈(Op.call ⟨callee,args,argTypes⟩).operands.toList:=fun x hx=>by
   simp only[Op.operands,Call.operands]
   cases callee<;>simp<;>first|exact .inr (by simpa using hx)|exact(by simpa using hx)
  cases callee with
  |builtin b=>
   cases b
   case len=>
    rcases hl:args.toList with _|⟨x,_|⟨y,r⟩⟩
    ·exact .none fun R icall S K=>by simp only[opK,gI,hl]
    ·rcases ht:argTypes.toList with _|⟨t,_|⟨t',r⟩⟩
     ·exact .none fun R icall S K=>by simp only[opK,gI,hl,ht]
     ·refine .val (fun S=>lenV c t (opd c S t x)) (fun R icall S K=>?_) fun S S2 h=>by simp only[h x (hmem x (by simp[hl]))]
      simp only[opK,gI,hl,ht]
      cases lenV c t (opd c S t x)<;>rfl
     ·exact .none fun R icall S K=>by simp only[opK,gI,hl,ht]
    ·exact .none fun R icall S K=>by simp only[opK,gI,hl]
   case append=>
    rcases hl:args.toList with _|⟨x,_|⟨y,_|⟨z,r⟩⟩⟩
    ·exact .none fun R icall S K=>by simp only[opK,gI,hl]
    ·exact .none fun R icall S K=>by simp only[opK,gI,hl]
    ·rcases ht:argTypes.toList with _|⟨t,_|⟨t',_|⟨t'',r⟩⟩⟩
     ·exact .none fun R icall S K=>by simp only[opK,gI,hl,ht]
     ·exact .none fun R icall S K=>by simp only[opK,gI,hl,ht]
     ·refine .valShed (fun S=>rD c t t' (opd c S t x) (opd c S t' y) some) x (hmem x (by simp[hl])) (by simp[eW,hl]) (fun R icall S K=>?_) fun S S2 h=>by
       simp only[h x (hmem x (by simp[hl])),h y (hmem y (by simp[hl]))]
      simp only[opK,gI,hl,ht,iN]
      exact DN _ _ _ _ _
     ·exact .none fun R icall S K=>by simp only[opK,gI,hl,ht]
    ·exact .none fun R icall S K=>by simp only[opK,gI,hl]
   case max=>
    refine .val (fun S=>match eO c S args.toList argTypes.toList with|x::r=>(match sD Jm x r with|some v=>some v.cut|none=>none)|_=>none) (fun R icall S K=>?_) fun S S2 h=>by
     simp only[fW args.toList argTypes.toList fun x hx t=>h x (hmem x hx) t]
    simp only[opK,gI]
    cases eO c S args.toList argTypes.toList with
    |nil=>rfl
    |cons x r=>simp only;cases sD Jm x r<;>rfl
   case min=>
    refine .val (fun S=>match eO c S args.toList argTypes.toList with|x::r=>(match sD Jn x r with|some v=>some v.cut|none=>none)|_=>none) (fun R icall S K=>?_) fun S S2 h=>by
     simp only[fW args.toList argTypes.toList fun x hx t=>h x (hmem x hx) t]
    simp only[opK,gI]
    cases eO c S args.toList argTypes.toList with
    |nil=>rfl
    |cons x r=>simp only;cases sD Jn x r<;>rfl
   all_goals exact .none fun R icall S K=>rfl
  |invoke a b=>exact .none fun R icall S K=>rfl
  |value fo=>
   have hfo:fo∈(Op.call ⟨.value fo,args,argTypes⟩).operands.toList:=by simp[Op.operands,Call.operands]
   let ag:=fun(S:St) (f:FuncId) (first caps:List V)=>if first.isEmpty then(jV c f 0 S args.toList argTypes.toList).1++V.cutL caps else V.cutL (first++eO c S args.toList argTypes.toList++caps)
   let en:=fun(S:St) (f:FuncId) (first:List V)=>if first.isEmpty then(jV c f 0 S args.toList argTypes.toList).2.env else S.env
   let F:St→Option (V×St):=fun S=>match opd c S 0 fo with
    | .clo (.func f) first caps=>(nP c call f (ag S f first caps) S.objs).bind fun p=>some (p.1,⟨en S f first,p.2⟩)
    |_=>none
   have hcong:∀L S S2,Agr L S S2→(∀t∈bY (Op.call ⟨.value fo,args,argTypes⟩),t∈L)→opd c S2 0 fo=opd c S 0 fo∧(∀f first caps,ag S2 f first caps=ag S f first caps)∧
     ∀f first,(en S2 f first).length=(en S f first).length∧∀t∈L,(en S2 f first)[t]? =(en S f first)[t]? :=by
    intro L S S2 ha hL
    have hx:∀x∈(Op.call ⟨.value fo,args,argTypes⟩).operands.toList,∀t,opd c S2 t x=opd c S t x:=fun x hx t=>ha.opd (fun s hs=>hL s (by rw[bY,dE,←hs];exact hx)) t
    have hp:=fun f=>Cc (c:=c) f args.toList 0 S S2 argTypes.toList (fun t ht=>hL t (by rw[bY,dE];rw[dE]at ht;exact hmem _ ht)) ha
    refine⟨hx fo hfo 0,fun f first caps=>?_,fun f first=>?_⟩
    ·simp only[ag]
     split
     ·rw[(hp f).1]
     ·rw[fW args.toList argTypes.toList fun x hx' t=>hx x (hmem x hx') t]
    ·simp only[en]
     split
     ·exact(hp f).2
     ·exact ha
   have hk0:aQ c ops ⟨dst, .call ⟨.value fo,args,argTypes⟩,type,pos,after,guard⟩=0→∃g,fo= .func g∧c.pur g=true:=by
    intro h
    cases fo with
    |func g=>
     refine⟨g,rfl,?_⟩
     simp only[aQ]at h
     split at h
     ·assumption
     ·split at h<;>omega
    |_=>simp only[aQ,rE]at h;omega
   have hk2:aQ c ops ⟨dst, .call ⟨.value fo,args,argTypes⟩,type,pos,after,guard⟩≠2→∃g,fo= .func g∧c.still g=true:=by
    intro h
    cases fo with
    |func g=>
     refine⟨g,rfl,?_⟩
     simp only[aQ]at h
     split at h
     ·rename_i hp;simp[Cfg.still,hp]
     ·split at h
      ·assumption
      ·exact absurd rfl h
    |_=>exact absurd rfl h
   refine⟨F,fun R icall S K=>?_,⟨fun S v S' hf=>?_,fun L S S2 v S' hf ha hL ho=>?_⟩,BN.no rfl⟩
   ·simp only[opK,gI,F]
    cases opd c S 0 fo with
    |clo fn first caps=>
     cases fn with
     |func f=>
      simp only
      cases first with
      |nil=>
       simp only[List.isEmpty_nil,if_true,Ad,ag,en]
       rw[tC hinl,(qD f args.toList 0 S argTypes.toList).2.2,Vu]
       rfl
      |cons y ys=>
       simp only[List.isEmpty_cons,TL,if_false,ag,en]
       rw[tC hinl,Vu]
       rfl
     |_=>rfl
    |_=>rfl
   ·simp only[F]at hf
    split at hf
    ·rename_i f first caps _
     obtain⟨p,h1,h2⟩:=T0.1 hf
     cases h2
     have hfr:=qD (c:=c) f args.toList 0 S argTypes.toList
     refine⟨fun t ht=>?_,?_,fun h=>?_⟩
     ·simp only[en]
      split
      ·exact hfr.1 t ht
      ·rfl
     ·simp only[en]
      split
      ·exact hfr.2.1
      ·rfl
     ·obtain⟨g,hg,hrg⟩:=hk2 h
      subst hg
      rename_i hclo
      simp only[opd,V.clo.injEq,Fn.func.injEq]at hclo
      obtain⟨rfl,_,_⟩:=hclo
      exact KH h1 hrg
    ·cases hf
   ·obtain⟨h1,h2,h3⟩:=hcong L S S2 ha hL
    simp only[F]at hf ⊢
    rw[h1]
    split at hf
    ·rename_i f first caps hg
     obtain⟨p,h4,h5⟩:=T0.1 hf
     cases h5
     by_cases hz:aQ c ops ⟨dst, .call ⟨.value fo,args,argTypes⟩,type,pos,after,guard⟩=0
     ·obtain⟨g,hg',hpu⟩:=hk0 hz
      subst hg'
      have hg2:=hg
      simp only[opd,V.clo.injEq,Fn.func.injEq]at hg2
      obtain⟨rfl,_,_⟩:=hg2
      have h6:=JF (objs2:=S2.objs) hpu h4
      refine⟨⟨en S2 g first,S2.objs⟩,?_,h3 g first,fun h=>by omega⟩
      simp only[hg,h2,h6]
      rfl
     ·have hobj:=ho hz
      refine⟨⟨en S2 f first,p.2⟩,?_,h3 f first,fun _=>rfl⟩
      simp only[hg,h2,hobj,h4]
      rfl
    ·cases hf
 case makeMap t n=>
  refine .obj (fun S=>match mapOf c t,n with|some (kd,vd),none=>some (.mref S.objs.length,S.objs++[.mp kd vd []])|_,_=>none) [] (by simp) rfl rfl (fun R icall S K=>?_) fun S S2 ho h=>?_
  ·simp only[opK,gP]
   cases mapOf c t with
   |none=>cases n<;>rfl
   |some p=>cases n<;>rfl
  ·simp only[ho]
 case lookup t x i ok=>
  refine .look (fun S=>match opd c S t x,mapOf c t,(opd c S 0 i).toSc with
   | .mref j,some (kd,vd),some k=>match S.ob j with
    | .mp kd' vd' es=>if kd==kd' &&vd==vd' &&k.kind==kd then some (if ok then .tup [pN vd k es, .bool (Du k es)]else pN vd k es)else none
    |_=>none
   |_,_,_=>none) rfl (fun R icall S K=>?_) fun S S2 ho h=>?_
  ·simp only[opK]
   generalize opd c S t x=X
   generalize mapOf c t=M
   generalize(opd c S 0 i).toSc=Q
   cases X with
   |mref j=>
    cases M with
    |none=>rfl
    |some p=>
     cases Q with
     |none=>rfl
     |some k=>
      simp only
      cases S.ob j with
      |mp a b es=>
       simp only
       split
       ·exact look_eq p.2 k es ok fun v=>K v S
       ·rfl
      |_=>rfl
   |_=>rfl
  ·simp only[h x (by simp[Op.operands]),h i (by simp[Op.operands]),St.ob_of ho]
 case mapUpdate t x i v|insert t x i v=>
  refine .obj (fun S=>match opd c S t x,mapOf c t,(opd c S 0 i).toSc,(opd c S 0 v).toSc with
   | .mref j,some (kd,vd),some k,some u=>match S.ob j with
    | .mp kd' vd' es=>if kd==kd' &&vd==vd' &&k.kind==kd&&u.kind==vd then some (.bot,S.objs.set j (.mp kd vd (rW k u es)))else none
    |_=>none
   |_,_,_,_=>none) [] (by simp) rfl rfl (fun R icall S K=>?_) fun S S2 ho h=>?_
  ·simp only[opK,eR]
   generalize opd c S t x=X
   generalize mapOf c t=M
   generalize(opd c S 0 i).toSc=Q
   generalize(opd c S 0 v).toSc=Q'
   cases X with
   |mref j=>
    cases M with
    |none=>rfl
    |some p=>
     cases Q with
     |none=>rfl
     |some k=>
      cases Q' with
      |none=>rfl
      |some u=>
       simp only
       cases S.ob j with
       |mp a b es=>simp only;split<;>rfl
       |_=>rfl
   |_=>rfl
  ·simp only[h x (by simp[Op.operands]),h i (by simp[Op.operands]),h v (by simp[Op.operands]),St.ob_of ho,ho]
 case range t x=>
  refine .obj (fun S=>match opd c S t x with| .str s=>if jQ c t then some (.ref S.objs.length 0,S.objs++[.sit s 0])else none|_=>none) [] (by simp) rfl rfl (fun R icall S K=>?_) fun S S2 ho h=>?_
  ·simp only[opK,gP]
   cases opd c S t x with
   |str s=>simp only;split<;>rfl
   |_=>rfl
  ·simp only[h x (by simp[Op.operands]),ho]
 case next it str=>
  refine .obj (fun S=>match opd c S 0 it with
   | .ref i off=>if str&&off==0 then(match S.ob i with
    | .sit s pos=>if pos.toNat<s.length
     then some (.tup [.bool true, .int .i64 pos.toNat, .int .i32 (Utf8.decode ⟨s.toArray⟩ pos.toNat).1],S.objs.set i (.sit s ((pos.toNat+(Utf8.decode ⟨s.toArray⟩ pos.toNat).2:Nat):Int)))
     else some (.tup [.bool false],S.objs)
    |_=>none)else none
   |_=>none) [] (by simp) rfl rfl (fun R icall S K=>?_) fun S S2 ho h=>?_
  ·simp only[opK,eR]
   cases opd c S 0 it with
   |ref i off=>
    simp only
    generalize(str&&off==0)=b
    cases b with
    |false=>rfl
    |true=>
     simp only[if_true]
     cases S.ob i with
     |sit s pos=>simp only;split<;>rfl
     |_=>rfl
   |_=>rfl
  ·simp only[h it (by simp[Op.operands]),ho,St.ob_of ho]
 all_goals exact .none fun R icall S K=>rfl
end
end Go.Ev
end
section
namespace Go.Ev
section
variable {c : Cfg}
def putS (S:St) (d:Option Tmp) (v:V):St:=match d with|none=>S|some d=>⟨S.env.set d v,S.objs⟩
theorem kW {R:Type} (S:St) (d:Option Tmp) (v:V) (K:St→Option R):S.putK d v K=K (putS S d v):=by
 cases d with
 |none=>rfl
 |some d=>rw[bC];rfl
def hD (ops:List Oper) (j:Nat):Option Tmp:=(ops[j]?).bind (·.dst)
def iO {R:Type} (c:Cfg) (call:FuncId→Fun) (icall:aN R) (ops:List Oper) (o:Oper) (S:St) (K:St→Option R):Option R:=
 match o.guard with
 |none=>opK c call icall ops o S fun v S' =>K (putS S' o.dst v)
 |some (j,want)=>
  match hD ops j with
  |none=>none
  |some t=>match S.get t with
   | .bool b=>if b=want then opK c call icall ops o S fun v S' =>K (putS S' o.dst v)else K (putS S o.dst iJ)
   | .raw (.tuple ⟨[]⟩)=>K (putS S o.dst iJ)
   |_=>none
theorem bI {R:Type} (call:FuncId→Fun) (icall:aN R) (ops:List Oper) (o:Oper) (r:List Oper) (S:St) (K:St→Option R):
  dR c call icall ops (o::r) S K=iO c call icall ops o S fun S' =>dR c call icall ops r S' K:=by
 simp only[dR,iO,kW]
 cases o.guard with
 |none=>rfl
 |some p=>
  obtain⟨j,want⟩:=p
  simp only[hD]
  cases(ops[j]?).bind (·.dst)with
  |none=>rfl
  |some t=>
   simp only
   cases hg:S.get t with
   |bool b=>
    simp only
    have hsame:∀b',b' =b→putS S (some t) (.bool b')=S:=by
     intro b' hb;subst hb
     simp only[putS,←hg,St.get,Iw]
    split
    ·rename_i hb;rw[hsame want hb.symm]
    ·rename_i hb;rw[hsame (!want) (by cases b<;>cases want<;>simp_all)]
   |raw v=>
    cases v with
    |tuple a=>obtain⟨l⟩:=a;cases l<;>rfl
    |_=>rfl
   |_=>rfl
structure qE (c:Cfg) (ops:List Oper) (o:Oper) (F:St→Option St):Prop where
 frame:∀S S',F S=some S'→(∀t,t∉aO c ops o→S'.env[t]? =S.env[t]?)∧S'.env.length=S.env.length∧(aQ c ops o≠2→S'.objs=S.objs)
 dep:∀L S S2 S',F S=some S'→Agr L S S2→(∀t∈bN ops o,t∈L)→(aQ c ops o≠0→S2.objs=S.objs)→
  ∃S2',F S2=some S2'∧Agr L S' S2'∧(∀t∈aO c ops o,t∉L→t∈eW c ops o∨S2'.env[t]? =S'.env[t]?)∧(aQ c ops o=2→S2'.objs=S'.objs)
 ld:yU o=true→(∀S S',F S=some S'→dK S'.objs=dK S.objs)∧(aQ c ops o=1→∀L S S2 S',F S=some S'→Agr L S S2→(∀t∈bN ops o,t∈L)→dK S2.objs=dK S.objs→
  ∃S2',F S2=some S2'∧Agr L S' S2'∧(∀t∈aO c ops o,t∉L→t∈eW c ops o∨S2'.env[t]? =S'.env[t]?))
theorem bG (S:St) (d:Option Tmp) (v:V):(putS S d v).env.length=S.env.length∧(putS S d v).objs=S.objs∧(∀t,d≠some t→(putS S d v).env[t]? =S.env[t]?)∧∀t,d=some t→t<S.env.length→(putS S d v).env[t]? =some v:=by
 cases d with
 |none=>exact⟨rfl,rfl,fun _ _=>rfl,fun _ h=>by cases h⟩
 |some d=>
  refine⟨by simp[putS],rfl,fun t h=>?_,fun t h hl=>?_⟩
  ·simp only[putS];rw[Uq (fun e=>h (by rw[e]))]
  ·cases h;simp only[putS];rw[Us hl]
theorem qF {L:List Nat} {S S2:St} (h:Agr L S S2) (d:Option Tmp) (v:V):Agr L (putS S d v) (putS S2 d v)∧∀t,d=some t→(putS S2 d v).env[t]? =(putS S d v).env[t]? :=by
 have key:∀t,d=some t→(putS S2 d v).env[t]? =(putS S d v).env[t]? :=fun t ht=>by
  by_cases hl:t<S.env.length
  ·rw[(bG S2 d v).2.2.2 t ht (by rw[h.1];exact hl),(bG S d v).2.2.2 t ht hl]
  ·have e1:(putS S2 d v).env[t]? =none:=Ut (by rw[(bG S2 d v).1,h.1];exact UZ hl)
   have e2:(putS S d v).env[t]? =none:=Ut (by rw[(bG S d v).1];exact UZ hl)
   rw[e1,e2]
 refine⟨⟨by rw[(bG S2 d v).1,(bG S d v).1,h.1],fun t ht=>?_⟩,key⟩
 by_cases hd:d=some t
 ·exact key t hd
 ·rw[(bG S2 d v).2.2.1 t hd,(bG S d v).2.2.1 t hd,h.2 t ht]
theorem EV (hinl:∀f,c.inl f=false) (call:FuncId→Fun) (ops:List Oper) (o:Oper):
  ∃F:St→Option St,(∀(R:Type) (icall:aN R) (S:St) (K:St→Option R),iO c call icall ops o S K=(F S).bind K)∧qE c ops o F:=by
 obtain⟨G,hG,hloc,hld⟩:=DR hinl call ops o
 have hreads:∀t∈bY o.op,t∈bN ops o:=fun t ht=>by simp[bN,ht]
 have runs:∀S S',((G S).bind fun p=>some (putS p.2 o.dst p.1))=some S'→(∀t,t∉aO c ops o→S'.env[t]? =S.env[t]?)∧S'.env.length=S.env.length∧(aQ c ops o≠2→S'.objs=S.objs):=by
  intro S S' h
  obtain⟨⟨v,T⟩,h1,h2⟩:=T0.1 h
  cases h2
  obtain⟨f1,f2,f3⟩:=hloc.frame S v T h1
  obtain⟨p1,p2,p3,p4⟩:=bG T o.dst v
  refine⟨fun t ht=>?_,by rw[p1,f2],fun hk=>by rw[p2,f3 hk]⟩
  simp only[aO,TV,not_or]at ht
  rw[p3 t (by intro h;apply ht.1;simp[h]),f1 t ht.2]
 have deps:∀L S S2 S',((G S).bind fun p=>some (putS p.2 o.dst p.1))=some S'→Agr L S S2→(∀t∈bN ops o,t∈L)→(aQ c ops o≠0→S2.objs=S.objs)→
   ∃S2',((G S2).bind fun p=>some (putS p.2 o.dst p.1))=some S2'∧Agr L S' S2'∧(∀t∈aO c ops o,t∉L→t∈eW c ops o∨S2'.env[t]? =S'.env[t]?)∧(aQ c ops o=2→S2'.objs=S'.objs):=by
  intro L S S2 S' h ha hL ho
  obtain⟨⟨v,T⟩,h1,h2⟩:=T0.1 h
  cases h2
  obtain⟨T2,d1,d2,d3⟩:=hloc.dep L S S2 v T h1 ha (fun t ht=>hL t (hreads t ht)) ho
  obtain⟨a1,a2⟩:=qF d2 o.dst v
  refine⟨putS T2 o.dst v,by rw[d1];rfl,a1,fun t ht _=>?_,fun hk=>by rw[(bG T2 o.dst v).2.1,(bG T o.dst v).2.1,d3 hk]⟩
  simp only[aO,TV]at ht
  rcases ht with ht|ht
  ·exact .inr (a2 t (by simpa using ht))
  ·exact .inl ht
 have mild:yU o=true→∀S S',((G S).bind fun p=>some (putS p.2 o.dst p.1))=some S'→dK S'.objs=dK S.objs:=by
  intro hl S S' h
  obtain⟨⟨v,T⟩,h1,h2⟩:=T0.1 h
  cases h2
  rw[(bG T o.dst v).2.1]
  exact(hld hl).1 S v T h1
 have softd:yU o=true→aQ c ops o=1→∀L S S2 S',((G S).bind fun p=>some (putS p.2 o.dst p.1))=some S'→Agr L S S2→(∀t∈bN ops o,t∈L)→dK S2.objs=dK S.objs→
   ∃S2',((G S2).bind fun p=>some (putS p.2 o.dst p.1))=some S2'∧Agr L S' S2'∧(∀t∈aO c ops o,t∉L→t∈eW c ops o∨S2'.env[t]? =S'.env[t]?):=by
  intro hl hk L S S2 S' h ha hL ho
  obtain⟨⟨v,T⟩,h1,h2⟩:=T0.1 h
  cases h2
  obtain⟨T2,d1,d2⟩:=(hld hl).2 hk L S S2 v T h1 ha (fun t ht=>hL t (hreads t ht)) ho
  obtain⟨a1,a2⟩:=qF d2 o.dst v
  refine⟨putS T2 o.dst v,by rw[d1];rfl,a1,fun t ht _=>?_⟩
  simp only[aO,TV]at ht
  rcases ht with ht|ht
  ·exact .inr (a2 t (by simpa using ht))
  ·exact .inl ht
 have skips:∀S,(∀t,t∉aO c ops o→(putS S o.dst iJ).env[t]? =S.env[t]?)∧(putS S o.dst iJ).env.length=S.env.length∧(putS S o.dst iJ).objs=S.objs:=by
  intro S
  obtain⟨p1,p2,p3,p4⟩:=bG S o.dst iJ
  refine⟨fun t ht=>?_,p1,p2⟩
  simp only[aO,TV,not_or]at ht
  rw[p3 t (by intro h;apply ht.1;simp[h])]
 have skipd:∀L S S2,Agr L S S2→Agr L (putS S o.dst iJ) (putS S2 o.dst iJ)∧∀t∈aO c ops o,t∉L→t∈eW c ops o∨(putS S2 o.dst iJ).env[t]? =(putS S o.dst iJ).env[t]? :=by
  intro L S S2 ha
  obtain⟨a1,a2⟩:=qF ha o.dst iJ
  refine⟨a1,fun t ht _=>?_⟩
  simp only[aO,TV]at ht
  rcases ht with ht|ht
  ·exact .inr (a2 t (by simpa using ht))
  ·exact .inl ht
 cases hgd:o.guard with
 |none=>
  refine⟨fun S=>(G S).bind fun p=>some (putS p.2 o.dst p.1),fun R icall S K=>?_,⟨runs,deps,fun hl=>⟨mild hl,softd hl⟩⟩⟩
  simp only[iO,hgd,hG,Vu]
  rfl
 |some p=>
  obtain⟨j,want⟩:=p
  refine⟨fun S=>match hD ops j with
   |none=>none
   |some t=>match S.get t with
    | .bool b=>if b=want then(G S).bind fun p=>some (putS p.2 o.dst p.1)else some (putS S o.dst iJ)
    | .raw (.tuple ⟨[]⟩)=>some (putS S o.dst iJ)
    |_=>none,fun R icall S K=>?_,⟨fun S S' h=>?_,fun L S S2 S' h ha hL ho=>?_,fun hl=>⟨fun S S' h=>?_,fun hk L S S2 S' h ha hL ho=>?_⟩⟩⟩
  ·simp only[iO,hgd]
   cases hD ops j with
   |none=>rfl
   |some t=>
    simp only
    cases S.get t with
    |bool b=>
     simp only
     split
     ·simp only[hG,Vu];rfl
     ·rfl
    |raw v=>
     cases v with
     |tuple a=>obtain⟨l⟩:=a;cases l<;>rfl
     |_=>rfl
    |_=>rfl
  ·split at h
   ·cases h
   ·split at h
    ·split at h
     ·exact runs S S' h
     ·cases h
      exact⟨(skips S).1,(skips S).2.1,fun _=>(skips S).2.2⟩
    ·cases h
     exact⟨(skips S).1,(skips S).2.1,fun _=>(skips S).2.2⟩
    ·cases h
  ·split at h
   ·cases h
   ·rename_i t ht
    have hg:S2.get t=S.get t:=ha.get (hL t (by simp[bN,hgd];left;simpa[hD]using ht))
    simp only[hg]
    split at h
    ·rename_i b hbb
     split at h
     ·rename_i hb;simp only[if_pos hb];exact deps L S S2 S' h ha hL ho
     ·rename_i hb
      cases h
      simp only[if_neg hb]
      exact⟨_,rfl,(skipd L S S2 ha).1,(skipd L S S2 ha).2,fun hk=>by rw[(skips S2).2.2,(skips S).2.2];exact ho (by omega)⟩
    ·cases h
     exact⟨_,rfl,(skipd L S S2 ha).1,(skipd L S S2 ha).2,fun hk=>by rw[(skips S2).2.2,(skips S).2.2];exact ho (by omega)⟩
    ·cases h
  ·split at h
   ·cases h
   ·split at h
    ·split at h
     ·exact mild hl S S' h
     ·cases h;rw[(skips S).2.2]
    ·cases h;rw[(skips S).2.2]
    ·cases h
  ·split at h
   ·cases h
   ·rename_i t ht
    have hg:S2.get t=S.get t:=ha.get (hL t (by simp[bN,hgd];left;simpa[hD]using ht))
    simp only[hg]
    split at h
    ·rename_i b hbb
     split at h
     ·rename_i hb;simp only[if_pos hb];exact softd hl hk L S S2 S' h ha hL ho
     ·rename_i hb
      cases h
      simp only[if_neg hb]
      exact⟨_,rfl,(skipd L S S2 ha).1,(skipd L S S2 ha).2⟩
    ·cases h
     exact⟨_,rfl,(skipd L S S2 ha).1,(skipd L S S2 ha).2⟩
    ·cases h
theorem eT {a b:List Nat} (h:vU a b=true):∀t∈a,t∉b:=by
 intro t ht hb
 simp only[vU,Ux,UX,VI,decide_eq_false_iff_not]at h
 exact h t ht hb
theorem DT {ops:List Oper} {x y:Oper} {Fx Fy:St→Option St} (hx:qE c ops x Fx) (hy:qE c ops y Fy) (hs:eP c ops x y=true) {S S1 S12:St} (h1:Fx S=some S1) (h2:Fy S1=some S12):
  ∃S2,Fy S=some S2∧Fx S2=some S12:=by
 simp only[eP,TR,Va,decide_eq_true_eq,beq_iff_eq]at hs
 obtain⟨⟨s1,s2⟩,s3⟩:=hs
 have d1:=eT s1
 have d2:=eT s2
 obtain⟨fx1,fx2,fx3⟩:=hx.frame S S1 h1
 obtain⟨fy1,fy2,fy3⟩:=hy.frame S1 S12 h2
 have ha:Agr (aO c ops y++bN ops y) S1 S:=by
  refine⟨fx2.symm,fun t ht=>?_⟩
  rw[fx1 t (fun hw=>d1 t hw ht)]
 have hyS:∃S2,Fy S=some S2∧Agr (aO c ops y++bN ops y) S12 S2∧(aQ c ops y=2→S2.objs=S12.objs):=by
  by_cases hkx:aQ c ops x=2∧aQ c ops y≠0
  ·rcases s3 with s3|s3
   ·omega
   ·have hy1:aQ c ops y=1:=by rcases s3.2 with h|h<;>omega
    obtain⟨S2,y1,y2,_⟩:=(hy.ld s3.1.2).2 hy1 _ S1 S S12 h2 ha (fun t ht=>by simp[ht]) (((hx.ld s3.1.1).1 S S1 h1).symm)
    exact⟨S2,y1,y2,fun h=>by omega⟩
  ·obtain⟨S2,y1,y2,_,y4⟩:=hy.dep _ S1 S S12 h2 ha (fun t ht=>by simp[ht]) (fun hk=>(fx3 (by intro e;exact hkx ⟨e,hk⟩)).symm)
   exact⟨S2,y1,y2,y4⟩
 obtain⟨S2,y1,y2,y4⟩:=hyS
 obtain⟨gy1,gy2,gy3⟩:=hy.frame S S2 y1
 have hb:Agr (aO c ops x++bN ops x) S S2:=by
  refine⟨gy2,fun t ht=>?_⟩
  rw[gy1 t ?_]
  intro hw
  rw[TV]at ht
  rcases ht with ht|ht
  ·exact d1 t ht (by simp[hw])
  ·exact d2 t hw ht
 have hxS:∃S21,Fx S2=some S21∧Agr (aO c ops x++bN ops x) S1 S21∧(aQ c ops x=2→S21.objs=S1.objs):=by
  by_cases hky:aQ c ops y=2∧aQ c ops x≠0
  ·rcases s3 with s3|s3
   ·omega
   ·have hx1:aQ c ops x=1:=by rcases s3.2 with h|h<;>omega
    obtain⟨S21,x1,x2,_⟩:=(hx.ld s3.1.1).2 hx1 _ S S2 S1 h1 hb (fun t ht=>by simp[ht]) ((hy.ld s3.1.2).1 S S2 y1)
    exact⟨S21,x1,x2,fun h=>by omega⟩
  ·obtain⟨S21,x1,x2,_,x4⟩:=hx.dep _ S S2 S1 h1 hb (fun t ht=>by simp[ht]) (fun hk=>gy3 (by intro e;exact hky ⟨e,hk⟩))
   exact⟨S21,x1,x2,x4⟩
 obtain⟨S21,x1,x2,x4⟩:=hxS
 obtain⟨gx1,gx2,gx3⟩:=hx.frame S2 S21 x1
 refine⟨S2,y1,?_⟩
 rw[x1]
 congr 1
 have henv:S21.env=S12.env:=by
  apply UK
  intro t
  by_cases hxw:t∈aO c ops x
  ·rw[x2.2 t (by simp[hxw]),fy1 t (fun h=>d1 t hxw (by simp[h]))]
  ·rw[gx1 t hxw]
   by_cases hyw:t∈aO c ops y
   ·exact y2.2 t (by simp[hyw])
   ·rw[gy1 t hyw,fy1 t hyw,fx1 t hxw]
 have hobj:S21.objs=S12.objs:=by
  by_cases k1:aQ c ops x=2
  ·rw[x4 k1,fy3 (by rcases s3 with s3|s3;omega;rcases s3.2 with h|h<;>omega)]
  ·rw[gx3 k1]
   by_cases k2:aQ c ops y=2
   ·exact y4 k2
   ·rw[gy3 k2,fy3 k2,fx3 k1]
 cases S21;cases S12
 simp_all
theorem fR {R:Type} (hinl:∀f,c.inl f=false) {call:FuncId→Fun} {ops:List Oper} {o:Oper}:∃F,qE c ops o F∧∀(R:Type) (icall:aN R) (S:St) (K:St→Option R),iO c call icall ops o S K=(F S).bind K:=by
 obtain⟨F,h1,h2⟩:=EV hinl call ops o
 exact⟨F,h2,h1⟩
theorem oS {R:Type} (hinl:∀f,c.inl f=false) {call:FuncId→Fun} {icall:aN R} {ops:List Oper} {y:Oper} {post:List Oper} {K:St→Option R} {r:R}:∀(pre:List Oper) (S:St),
  (∀x∈pre,eP c ops x y=true)→dR c call icall ops (pre++y::post) S K=some r→dR c call icall ops (y::(pre++post)) S K=some r
 |[],_,_,h=>h
 |x::pre,S,hs,h=>by
  obtain⟨Fx,hFx,ex⟩:=fR (R:=R) hinl (call:=call) (ops:=ops) (o:=x)
  obtain⟨Fy,hFy,ey⟩:=fR (R:=R) hinl (call:=call) (ops:=ops) (o:=y)
  rw[UA,bI,ex]at h
  obtain⟨S1,h1,h2⟩:=T0.1 h
  have h3:=oS hinl pre S1 (fun z hz=>hs z (by simp[hz])) h2
  rw[bI,ey]at h3
  obtain⟨S12,h4,h5⟩:=T0.1 h3
  obtain⟨S2,h6,h7⟩:=DT hFx hFy (hs x (by simp)) h1 h4
  rw[bI,ey,h6]
  show dR c call icall ops (x::(pre++post)) S2 K=some r
  rw[bI,ex,h7]
  exact h5
end
end Go.Ev
end
section
namespace Go.Ev
section
variable {c : Cfg} {E : Ent} {R : Type}
def kF (c:Cfg) (E:Ent) (K:St→Option R) (r:R) (d:List Deferred) (a:Act) (w:World):Prop:=
 ∃S G μ,K S=some r∧Sim c E w G μ S.env a.tmps.toList S.objs∧a.defers=d
theorem jE (a:Act) (d:Option Tmp) (u:Value):(a.put d u).tmps.toList=(match d with|some d=>a.tmps.toList.set d u|none=>a.tmps.toList)∧(a.put d u).defers=a.defers:=by
 cases d<;>simp[Act.put]
theorem cQ {K:St→Option R} {r:R} {a:Act} {u:Value} {w:World} {dst:Option Tmp} (h:EH c E (fun v S' =>K (putS S' dst v)) r a.tmps.toList u w):kF c E K r a.defers (a.put dst u) w:=by
 obtain⟨v,S',G',μ',hk,hs⟩:=h
 refine⟨putS S' dst v,G',μ',hk,?_,(jE a dst u).2⟩
 rw[(jE a dst u).1]
 cases dst with
 |none=>exact hs.pop
 |some d=>exact hs.put d
theorem Ix (hc:bA c) {call:FuncId→Fun} (hcall:∀f,bW c f (call f)) {icall:aN R} {ops:List Oper} {o:Oper} {S:St} {a:Act} {K:V→St→Option R} {r:R} {w:World} {G:Gh} {μ:List Nat}
  (h:opK c call icall ops o S K=some r) (hS:cV c E w G μ S a):Ha c E o a w K r:=by
 by_cases hcl:∃cl,o.op= .call cl
 ·obtain⟨cl,hcl⟩:=hcl
  refine KG hc hcall (icall:=icall) hcl (S:=S) ?_ hS
  unfold opK at h
  simpa only[hcl]using h
 ·exact OZ hc h (fun cl hcl' =>hcl ⟨cl,hcl'⟩) hS
theorem step_ok (hc:bA c) {call:FuncId→Fun} (hcall:∀f,bW c f (call f)) {icall:aN R} {ops:Array Oper} {Q:Exit→Act→World→Prop} {i:Nat} {o:Oper} (ho:ops[i]? =some o) {S:St} {a:Act} {K:St→Option R} {r:R} {w:World} {G:Gh} {μ:List Nat}
  (h:iO c call icall ops.toList o S K=some r) (hS:cV c E w G μ S a):wpOp c.P ops Q i (kF c E K r a.defers) a w:=by
 have runs:opK c call icall ops.toList o S (fun v S' =>K (putS S' o.dst v))=some r→o.wp c.P a w (kF c E K r a.defers) Q:=by
  intro h
  have hop:=Ix hc hcall h hS
  unfold Oper.wp
  rcases hop with⟨u,w',hr,hw⟩|⟨w',hr,hw⟩|⟨f,args,hr,hcalls⟩
  ·rw[hr];exact cQ hw
  ·rw[hr];exact cQ hw
  ·rw[hr]
   refine Calls.mono hcalls ?_
   rintro e w' ⟨u,rfl,hw⟩
   exact cQ hw
 unfold wpOp
 rw[ho]
 simp only
 unfold iO at h
 cases hg:o.guard with
 |none=>
  simp only[hg]at h
  rw[if_pos (by simp[Region.wanted,hg])]
  exact .inl (runs h)
 |some p=>
  obtain⟨j,want⟩:=p
  simp only[hg]at h
  split at h
  ·cases h
  ·rename_i t ht
   split at h
   ·rename_i b hb
    have hy:yielded ops a.tmps j=some b:=by
     have hr:=aT hS 0 (.tmp t)
     have h1:opd c S 0 (.tmp t)= .bool b:=hb
     have h2:=mH hr h1
     have h3:(ops[j]?).bind (·.dst)=some t:=by simpa[hD]using ht
     have hlt:t<a.tmps.size:=by
      apply Classical.byContradiction
      intro hn
      simp only[Act.eval,Un]at h2
      rw[Vk (UZ hn)]at h2
      cases h2
     have h4:a.tmps[t]? =some (.bool b):=by
      simp only[Act.eval,Un]at h2
      rw[Uj hlt]at h2 ⊢
      simp at h2
      rw[h2]
     simp[yielded,h3,h4]
    have hw:Region.wanted o (yielded ops a.tmps)=(b==want):=by
     simp only[Region.wanted,hg,hy]
     cases b<;>cases want<;>rfl
    rw[hw]
    split at h
    ·rename_i hbw
     rw[if_pos (by simp[hbw])]
     exact .inl (runs h)
    ·rename_i hbw
     rw[if_neg (by simpa using hbw)]
     exact cQ ⟨iJ,S,G,μ,h,hS.push (.raw _) rfl⟩
   ·rename_i hb
    have hy:yielded ops a.tmps j=none:=by
     have hr:=aT hS 0 (.tmp t)
     have h1:opd c S 0 (.tmp t)= .raw (.tuple ⟨[]⟩):=hb
     rw[h1]at hr
     have h2:a.eval (.tmp t)= .tuple ⟨[]⟩:=by
      generalize a.eval (.tmp t)=z at hr
      cases hr;rfl
     have h3:(ops[j]?).bind (·.dst)=some t:=by simpa[hD]using ht
     simp only[yielded,h3,Option.bind_some]
     simp only[Act.eval,Un]at h2
     cases he:a.tmps[t]? with
     |none=>rfl
     |some z=>rw[he]at h2;simp at h2;subst h2;rfl
    have hw:Region.wanted o (yielded ops a.tmps)=false:=by
     simp only[Region.wanted,hg,hy]
     rfl
    rw[hw]
    rw[if_neg (by decide)]
    exact cQ ⟨iJ,S,G,μ,h,hS.push (.raw _) rfl⟩
   ·cases h
theorem Cd (acc:List Nat) (i:Nat):∀(es:List Edge) (s0:Nat),(es.foldl (fun s e=>if Region.binds .any e then s ||| (1 <<< e.on) ||| acc.getD e.on 0 else s) s0).testBit i=true→
  s0.testBit i=true∨∃e∈es,Region.binds .any e=true∧(e.on=i∨(acc.getD e.on 0).testBit i=true)
 |[],s0,h=> .inl h
 |e::es,s0,h=>by
  rw[V9]at h
  rcases Cd acc i es _ h with h|⟨e',h1,h2⟩
  ·split at h
   ·rename_i hb
    rw[Nat.testBit_or,Nat.testBit_or,Va,Va]at h
    rcases h with(h|h)|h
    ·exact .inl h
    ·refine .inr ⟨e,by simp,hb, .inl ?_⟩
     rw[Nat.shiftLeft_eq,Nat.one_mul,Nat.testBit_two_pow]at h
     simpa using h
    ·exact .inr ⟨e,by simp,hb, .inr h⟩
   ·exact .inl h
  ·exact .inr ⟨e',by simp[h1],h2⟩
theorem oU:∀(l:List Oper) (acc:List Nat) (m:Nat),m<acc.length→(ahead l acc).getD m 0=acc.getD m 0
 |[],_,_,_=>rfl
 |o::r,acc,m,h=>by
  simp only[ahead]
  rw[oU r _ m (by simp;omega)]
  simp[Ul,TU h]
theorem gU:∀(l:List Oper) (acc:List Nat) (i k:Nat) (o:Oper),l[k]? =some o→((ahead l acc).getD (acc.length+k) 0).testBit i=true→
  ∃e∈o.after.toList,Region.binds .any e=true∧(e.on=i∨((ahead l acc).getD e.on 0).testBit i=true)
 |[],_,_,_,_,h,_=>by simp at h
 |o' ::r,acc,i,0,o,h,hb=>by
  simp at h;subst h
  simp only[ahead]at hb ⊢
  rw[oU r _ _ (by simp)]at hb
  simp only[Ul,U2,List.getElem?_concat_length,Vg]at hb
  rcases Cd acc i _ _ hb with h|⟨e,h1,h2,h3⟩
  ·simp at h
  ·refine⟨e,h1,h2,h3.imp id fun h=>?_⟩
   by_cases hl:e.on<acc.length
   ·rw[oU r (acc++[_]) e.on (by rw[Ug];omega)]
    simpa[Ul,TU hl]using h
   ·simp[Ul,Ut (UZ hl)]at h
 |o' ::r,acc,i,k+1,o,h,hb=>by
  simp only[ahead]at hb ⊢
  exact gU r _ i k o (by simpa using h) (by simpa[Vf,Nat.add_comm 1 k]using hb)
theorem mZ (ops:List Oper) (b:List Nat) (j:Nat) (y:Oper):∀(l:List Oper) (i0:Nat),lB c ops b j y i0 l=true→∀(k:Nat) x,l[k]? =some x→i0+k<j→(b.getD j 0).testBit (i0+k)=false→eP c ops x y=true
 |[],_,_,k,x,h,_,_=>by simp at h
 |a::r,i0,h,0,x,hx,hlt,hb=>by
  simp at hx;subst hx
  simp only[lB,TR,U2]at h hlt hb
  have:=h.1
  rw[if_pos hlt,hb]at this
  simpa using this
 |a::r,i0,h,k+1,x,hx,hlt,hb=>by
  simp only[lB,TR]at h
  exact mZ ops b j y r (i0+1) h.2 k x (by simpa using hx) (by omega) (by rw[←hb];congr 1;omega)
theorem iP {ops:List Oper} (h:eD c ops=true):(∀(j:Nat) y,ops[j]? =some y→(∀e∈y.after.toList,Region.binds .any e=true→e.on<j)∧
  ∀(i:Nat) x,ops[i]? =some x→i<j→((ahead ops []).getD j 0).testBit i=false→eP c ops x y=true):=by
 have key:∀(l:List Oper) (j0:Nat),eD.go c ops (ahead ops []) j0 l=true→∀(k:Nat) y,l[k]? =some y→(y.after.toList.all fun e=> !Region.binds .any e||decide (e.on<j0+k))=true∧lB c ops (ahead ops []) (j0+k) y 0 ops=true:=by
  intro l
  induction l with
  |nil=>intro j0 _ k y hy;simp at hy
  |cons a r ih=>
   intro j0 h k y hy
   simp only[eD.go,TR]at h
   cases k with
   |zero=>
    simp at hy;subst hy
    exact⟨by simpa using h.1.1,by simpa using h.1.2⟩
   |succ k=>
    have:=ih (j0+1) h.2 k y (by simpa using hy)
    rw[show j0+(k+1)=j0+1+k by omega]
    exact this
 intro j y hy
 obtain⟨h1,h2⟩:=key ops 0 h j y hy
 rw[UD]at h1 h2
 refine⟨fun e he hb=>?_,fun i x hx hlt hb=>?_⟩
 ·rw[Ux]at h1
  have:=h1 e he
  simpa[hb]using this
 ·exact mZ ops _ j y ops 0 h2 i x hx (by omega) (by simpa using hb)
end
end Go.Ev
end
section
namespace Go.Ev
section
variable {c : Cfg} {E : Ent} {R : Type}
def rem (n:Nat) (listed:Array Bool):List Nat:=(Vr n).filter fun i=> !listed.getD i true
theorem dN {n:Nat} {listed:Array Bool} {i:Nat}:i∈rem n listed↔i<n∧listed.getD i true=false:=by
 simp[rem]
theorem eN (n:Nat) (listed:Array Bool):(rem n listed).Pairwise (· < ·):=List.Pairwise.filter _ List.pairwise_lt_range
theorem EW {n:Nat} {listed:Array Bool} {j:Nat} {pre post:List Nat} (h:rem n listed=pre++j::post) (hs:listed.size=n):rem n (listed.setIfInBounds j true)=pre++post:=by
 have h1:rem n (listed.setIfInBounds j true)=(rem n listed).filter fun i=>i != j:=by
  unfold rem
  rw[List.filter_filter]
  refine List.filter_congr fun i hi=>?_
  by_cases hij:j=i
  ·subst hij
   have:j<listed.size:=by rw[hs];simpa using hi
   simp[this]
  ·have:(i != j)=true:=by simp;omega
   rw[getD_set_ne true hij,this];simp
 rw[h1,h]
 have hsort:=eN n listed
 rw[h,VZ]at hsort
 obtain⟨_,h3,h4⟩:=hsort
 rw[VX]at h3
 rw[List.filter_append,List.filter_cons]
 have e1:pre.filter (fun i=>i != j)=pre:=VC.2 fun i hi=>by
  have:=h4 i hi j (by simp);simp;omega
 have e2:post.filter (fun i=>i != j)=post:=VC.2 fun i hi=>by
  have:=h3.1 i hi;simp;omega
 rw[e1,e2];simp
theorem anc {ops:Array Oper} (hof:eD c ops.toList=true) {listed:Array Bool} (hcl:∀j,listed.getD j false=true→∀o,ops[j]? =some o→∀e∈o.after,Region.binds .any e=true→listed.getD e.on false=true):
  ∀(n j:Nat),j≤n→∀o,ops[j]? =some o→(∀e∈o.after,Region.binds .any e=true→listed.getD e.on false=true)→∀i,((ahead ops.toList []).getD j 0).testBit i=true→listed.getD i false=true:=by
 intro n
 induction n with
 |zero=>
  intro j hj o ho hb i hi
  obtain⟨e,h1,h2,h3⟩:=gU ops.toList [] i j o (by simpa using ho) (by simpa using hi)
  have:=(iP hof j o (by simpa using ho)).1 e h1 h2
  omega
 |succ n ih=>
  intro j hj o ho hb i hi
  obtain⟨e,h1,h2,h3⟩:=gU ops.toList [] i j o (by simpa using ho) (by simpa using hi)
  have hlt:=(iP hof j o (by simpa using ho)).1 e h1 h2
  have hle:=hb e (by simpa using h1) h2
  rcases h3 with h3|h3
  ·rw[←h3];exact hle
  ·have hj2:j<ops.size:=(TX.1 ho).1
   have ho2:ops[e.on]? =some ops[e.on]:=Uj (by omega)
   exact ih e.on (by omega) _ ho2 (fun e' he' hb' =>hcl e.on hle _ ho2 e' he' hb') i h3
theorem any_ok (hc:bA c) {call:FuncId→Fun} (hcall:∀f,bW c f (call f)) {icall:aN R} {ops:Array Oper} (hof:eD c ops.toList=true) {K:St→Option R} {r:R} {d:List Deferred}
  {Q:Exit→Act→World→Prop} (hQ:∀a w,kF c E K r d a w→Q .normal a w):
  ∀(fuel:Nat) (listed:Array Bool) (a:Act) (w:World) (G:Gh) (μ:List Nat) (S:St),listed.size=ops.size→(rem ops.size listed).length≤fuel→
   (∀j,listed.getD j false=true→∀o,ops[j]? =some o→∀e∈o.after,Region.binds .any e=true→listed.getD e.on false=true)→
   dR c call icall ops.toList ((rem ops.size listed).filterMap (ops.toList[·]?)) S K=some r→cV c E w G μ S a→a.defers=d→wpAny c.P .any ops Q fuel listed a w:=by
 have hsub:∀(listed:Array Bool) j,j∈Region.ready .any ops listed→j∈rem ops.size listed:=by
  intro listed j hj
  obtain⟨h1,o,h2,_⟩:=mem_ready.1 hj
  exact dN.2 ⟨(TX.1 h2).1,h1⟩
 have hend:∀(listed:Array Bool) (a:Act) (w:World) (G:Gh) (μ:List Nat) (S:St),rem ops.size listed=[]→
   dR c call icall ops.toList ((rem ops.size listed).filterMap (ops.toList[·]?)) S K=some r→cV c E w G μ S a→a.defers=d→Q .normal a w:=by
  intro listed a w G μ S h0 h hS hd
  rw[h0]at h
  exact hQ a w ⟨S,G,μ,h,hS,hd⟩
 intro fuel
 induction fuel with
 |zero=>
  intro listed a w G μ S hs hl hcl h hS hd
  have h0:rem ops.size listed=[]:=Ue (by omega)
  refine⟨?_,hend listed a w G μ S h0 h hS hd⟩
  cases hr:Region.ready .any ops listed with
  |nil=>rfl
  |cons j t=>have:=hsub listed j (by rw[hr];simp);rw[h0]at this;cases this
 |succ fuel ih=>
  intro listed a w G μ S hs hl hcl h hS hd
  refine⟨fun hr=>?_,fun j hj=>?_⟩
  ·cases h0:rem ops.size listed with
   |nil=>exact hend listed a w G μ S h0 h hS hd
   |cons m t=>
    have hm:=dN.1 (by rw[h0];simp:m∈rem ops.size listed)
    have hsort:=eN ops.size listed
    rw[h0,VX]at hsort
    have ho:ops[m]? =some ops[m]:=Uj hm.1
    have:m∈Region.ready .any ops listed:=mem_ready.2 ⟨hm.2,_,ho,fun e he hb=>by
     have hlt:=(iP hof m ops[m] (by simp[hm.1])).1 e (by simpa using he) hb
     apply Classical.byContradiction
     intro hn
     have h1:listed.getD e.on true=false:=by
      have:e.on<listed.size:=by omega
      simp[Un,Uj this]at hn ⊢
      exact hn
     have h2:e.on∈rem ops.size listed:=dN.2 ⟨by omega,h1⟩
     rw[h0,UH]at h2
     rcases h2 with h2|h2
     ·omega
     ·have:=hsort.1 _ h2;omega⟩
    rw[hr]at this;cases this
  ·have hjr:=hsub listed j hj
   obtain⟨hj0,y,hy,hall⟩:=mem_ready.1 hj
   obtain⟨pre,post,hpp⟩:=List.append_of_mem hjr
   have hyl:ops.toList[j]? =some y:=by simpa using hy
   have hsort:=eN ops.size listed
   rw[hpp,VZ]at hsort
   rw[hpp,Vd,VS,hyl]at h
   simp only at h
   have hf:=oS hc.inl (pre.filterMap (ops.toList[·]?)) S (fun x hx=>by
    obtain⟨i,hi,hix⟩:=VW.1 hx
    refine(iP hof j y hyl).2 i x hix (hsort.2.2 i hi j (by simp)) ?_
    cases htb:((ahead ops.toList []).getD j 0).testBit i with
    |false=>rfl
    |true=>
     have h1:=anc hof hcl j j (TY _) y hy hall i htb
     have h2:=(dN.1 (by rw[hpp];simp[hi]:i∈rem ops.size listed))
     have h3:i<listed.size:=by omega
     have h4:=h2.2
     simp[Un,Uj h3]at h1 h4
     rw[h1]at h4;cases h4) h
   rw[bI]at hf
   have hw:=step_ok hc hcall (Q:=Q) hy hf hS
   refine wpOp_mono (fun a' w' hp=>?_) hw
   obtain⟨S',G',μ',hk,hs',hd'⟩:=hp
   have hrt:=EW hpp hs
   refine ih (listed.setIfInBounds j true) a' w' G' μ' S' (by simpa using hs) ?_ (fun k hk' o ho e he hb=>?_) ?_ hs' (by rw[hd',hd])
   ·rw[hrt];rw[hpp]at hl;simp at hl ⊢;omega
   ·by_cases hjk:j=k
    ·subst hjk
     rw[hy]at ho;cases ho
     exact getD_set_true (hall e he hb)
    ·rw[getD_set_ne false hjk]at hk'
     exact getD_set_true (hcl k hk' o ho e he hb)
   ·rw[hrt,Vd];exact hk
theorem EX (hc:bA c) {call:FuncId→Fun} (hcall:∀f,bW c f (call f)) {icall:aN R} {ops:Array Oper} {K:St→Option R} {r:R} {d:List Deferred}
  {Q:Exit→Act→World→Prop} (hQ:∀a w,kF c E K r d a w→Q .normal a w):∀(l:List Nat) (a:Act) (w:World) (G:Gh) (μ:List Nat) (S:St),(∀i∈l,i<ops.size)→
   dR c call icall ops.toList (l.filterMap (ops.toList[·]?)) S K=some r→cV c E w G μ S a→a.defers=d→wpOps c.P ops Q l a w
 |[],a,w,G,μ,S,_,h,hS,hd=>hQ a w ⟨S,G,μ,h,hS,hd⟩
 |i::l,a,w,G,μ,S,hl,h,hS,hd=>by
  have hi:=hl i (by simp)
  have ho:ops[i]? =some ops[i]:=Uj hi
  rw[VS,show ops.toList[i]? =some ops[i]by simp]at h
  simp only at h
  rw[bI]at h
  rw[wpOps_cons]
  refine wpOp_mono (fun a' w' hp=>?_) (step_ok hc hcall (Q:=Q) ho h hS)
  obtain⟨S',G',μ',hk,hs',hd'⟩:=hp
  exact EX hc hcall hQ l a' w' G' μ' S' (fun i hi=>hl i (by simp[hi])) hk hs' (by rw[hd',hd])
theorem eG {α:Type} (l:List α):(Vr l.length).filterMap (l[·]?)=l:=by
 apply UK
 intro i
 have:∀(n:Nat),n≤l.length→(Vr n).filterMap (l[·]?)=l.take n:=by
  intro n
  induction n with
  |zero=>intro _;simp
  |succ n ih=>
   intro hn
   rw[List.range_succ,Vd,ih (by omega),VE]
   simp[TP (by omega:n<l.length)]
 rw[this l.length (TY _),Wj]
theorem Ce (hc:bA c) {call:FuncId→Fun} (hcall:∀f,bW c f (call f)) {icall:aN R} {id:Nat} {ops:Array Oper} {draw:Bool} (hof:(draw&& !eD c ops.toList)=false) {K:St→Option R} {r:R}
  {a:Act} {w:World} {G:Gh} {μ:List Nat} {S:St} (h:dR c call icall ops.toList ops.toList S K=some r) (hS:cV c E w G μ S a):
  (Code.region id ops draw).wp c.P (fun e a' w' =>e= .normal∧kF c E K r a.defers a' w') a w:=by
 cases draw with
 |false=>
  refine wp_region (EX hc hcall (icall:=icall) (d:=a.defers) (fun a' w' h=>⟨rfl,h⟩) _ a w G μ S (fun i hi=>by simpa using hi) ?_ hS rfl)
  have:=eG ops.toList
  rw[Vq]at this
  rw[this];exact h
 |true=>
  have hof:eD c ops.toList=true:=by simpa using hof
  have hx:eH w G { w with drawn:=w.drawn+1 } G:=eH.of_drew hS.inv.none
  have hrem:rem ops.size (VT ops.size false)=Vr ops.size:=by
   unfold rem
   rw[VC]
   intro i hi
   have:i<ops.size:=by simpa using hi
   simp[this]
  refine wp_region_any hc.mixed (any_ok hc hcall (icall:=icall) hof (d:=a.defers) (fun a' w' h=>⟨rfl,h⟩) ops.size _ a _ G μ S (by simp) (by rw[hrem];simp) (fun j hj=>?_) ?_ (hS.ext hx) rfl)
  ·by_cases hl:j<ops.size
   ·simp[hl]at hj
   ·simp[hl]at hj
  ·rw[hrem]
   have:=eG ops.toList
   rw[Vq]at this
   rw[this];exact h
end
end Go.Ev
end
