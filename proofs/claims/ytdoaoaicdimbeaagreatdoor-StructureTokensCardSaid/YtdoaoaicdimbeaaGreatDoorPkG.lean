/- Lemmas for the claim, merged: the plain reading of the program's functions, its soundness, and what they compute. -/
import Derived.Test.YtdoaoaicdimbeaaGreatDoorPkF
import Derived.ChangeSlices
set_option linter.all false
set_option linter.unusedVariables false
set_option linter.unusedSimpArgs false
section
namespace Go.Proofs.YtdoaoaicdimbeaaGreatDoor
open Go.Ev Go
theorem Ff (s:Bs) (hs:s.length≤4294967295):Tx 1 1 (AS s):=rL s _ hs
theorem Iu (l:List Bs):∃q,kO l=40::q:=⟨_,rfl⟩
theorem M5 (a:Ad) (ha:aw1 a≤4294967295):Tx 1 10 (xZ a):=by
 have hs:a.2.1.length≤4294967295∧a.2.2.1.length≤4294967295∧a.2.2.2.length≤4294967295:=by unfold aw1 at ha;omega
 have key:∀x∈AT a,Tx 1 1 x:=by
  have t1:=Ff a.2.1 hs.1
  have t2:=kG a.2.2.1 hs.2.1
  have t3:=Ff a.2.2.2 hs.2.2
  have t4:=kG a.2.1 hs.1
  have t5:=rK
  intro x hx
  unfold AT at hx
  split at hx
  ·simp only[List.mem_cons,List.not_mem_nil,or_false]at hx
   rcases hx with rfl|rfl|rfl|rfl<;>assumption
  ·split at hx
   ·simp only[List.mem_cons,List.not_mem_nil,or_false]at hx
    rcases hx with rfl|rfl|rfl|rfl<;>assumption
   ·simp only[List.mem_cons,List.not_mem_nil,or_false]at hx
    rcases hx with rfl|rfl|rfl|rfl<;>assumption
 have:=uM (mN (AT a) key)
 rw[uI]at this
 exact this
theorem M6 (o:List Ad) (ho:ow o≤4294967295):Tx 1 (10*o.length+2) (wR o):=by
 unfold wR
 split
 ·exact bW rK (by omega)
 ·have hm:∀x∈o.map xZ,Tx 1 10 x:=by
   intro x hx
   obtain⟨a,ha,rfl⟩:=List.mem_map.1 hx
   obtain⟨i,hi,rfl⟩:=List.mem_iff_getElem.1 ha
   exact M5 _ (Nat.le_trans (Ks hi) ho)
  have hq:∀x∈o.map xZ,∃q,x=40::q:=by
   intro x hx
   obtain⟨a,ha,rfl⟩:=List.mem_map.1 hx
   exact Iu _
  have:=Gs (Hp (mN _ hm) hq).1
  rw[List.length_map]at this
  have e:iE o=(o.map xZ).flatten:=rfl
  rw[e]
  exact bW this (by omega)
theorem M7 (e:En) (m:Nat) (hd:e.d.length≤4294967295) (hs:e.s.length≤4294967295) (hr:e.r.length≤4294967295) (hi:e.i.length≤4294967295)
  (g0:ow e.l0≤m) (g1:ow e.l1≤m) (g2:ow e.l2≤m) (g3:ow e.l3≤m) (g4:ow e.l4≤m) (g5:ow e.l5≤m) (hm:m≤4294967295):TxL 10 (10* (10*m+2)) (enL e):=by
 have key:∀x∈enL e,Tx 1 (10*m+2) x:=by
  have q0:=bW (rL e.d e.h0 hd) (show 1≤10*m+2 by omega)
  have q1:=bW (rL e.s e.h1 hs) (show 1≤10*m+2 by omega)
  have q2:=bW (rL e.r e.h2 hr) (show 1≤10*m+2 by omega)
  have q3:=bW (rL e.i e.h3 hi) (show 1≤10*m+2 by omega)
  have ls:∀o:List Ad,ow o≤m→Tx 1 (10*m+2) (wR o):=fun o h=>bW (M6 o (by omega)) (by have:=Ds o;omega)
  have p0:=ls e.l0 g0
  have p1:=ls e.l1 g1
  have p2:=ls e.l2 g2
  have p3:=ls e.l3 g3
  have p4:=ls e.l4 g4
  have p5:=ls e.l5 g5
  intro x hx
  simp only[enL,List.mem_cons,List.not_mem_nil,or_false]at hx
  rcases hx with rfl|rfl|rfl|rfl|rfl|rfl|rfl|rfl|rfl|rfl<;>assumption
 exact mN (enL e) key
theorem M8 (ps:Ps) (hn:ps.length≤1500) (hv:∀p∈ps,p.1.length≤10000000∧p.2.length≤10000000):Tx 1 6010 (oO ps):=by
 unfold oO
 split
 ·exact bW rK (by omega)
 ·have key:∀x∈mM ps,Tx 1 1 x:=by
   intro x hx
   obtain⟨p,hp,hx⟩:=List.mem_flatMap.1 hx
   obtain⟨h1,h2⟩:=hv p hp
   have t1:=kG p.1 (by omega)
   have t2:=kG p.2 (by omega)
   simp only[List.mem_cons,List.not_mem_nil,or_false]at hx
   rcases hx with rfl|rfl<;>assumption
  have h2:=uE ps
  exact bW (uM (mN _ key)) (by omega)
theorem A2 {s:Bs} {two:Bool} {t u:Bs} {ps:Ps} (hs:s.length≤1500) (h:dY s two=some (t,u,ps)):Tx 1 6010 (oO ps):=by
 obtain⟨g1,g2⟩:=fZ h
 obtain⟨_,_,g5⟩:=fU h
 have a3:(s.length+1)*s.length≤1501*1500:=Nat.mul_le_mul (by omega) (by omega)
 refine M8 ps (by omega) fun p hp=>?_
 have:=g2 p hp
 have:=g5 p hp
 omega
theorem Fg (b:Bs) (hb:b.length≤1500) (p:Pt):Tx 1 6010 (dW b p).2.2:=by
 have hv:=bI b (hdL b p) ctN
 have hnil:Tx 1 6010 jG:=bW rK (by omega)
 unfold dW
 generalize p.kd=kd
 cases ho:dY (aT b (hdL b p) ctN) true with
 |none=>
  have e:Tx 1 6010 (kO [dN csW,dN usW]):=bW (uM (mN [dN csW,dN usW] (n:=1) fun x hx=>by
   simp only[List.mem_cons,List.not_mem_nil,or_false]at hx
   rcases hx with rfl|rfl
   ·exact kG _ (by decide)
   ·exact kG _ (by decide))) (by decide)
  rw[AI]
  split
  ·exact hnil
  ·split
   ·exact hnil
   ·exact e
 |some o=>
  obtain⟨t,u,ps⟩:=o
  have own:Tx 1 6010 (oO ps):=A2 (by omega) ho
  rw[AI]
  split
  ·split
   ·exact own
   ·exact hnil
  ·split
   ·split
    ·exact own
    ·exact hnil
   ·split
    ·exact hnil
    ·exact own
theorem A3 (b:Bs) (hb:b.length≤1500) (p:Pt) (n:Bs):Tx 1 1 (qK b p n):=by
 have:=bI b (hdL b p) n
 unfold qK
 exact rL _ _ (by omega)
theorem M9 (b:Bs) (hb:b.length≤1500) (p:Pt):Tx 1 20000 (E5 (dY (aT b (hdL b p) cdN) false)):=by
 have hv:=bI b (hdL b p) cdN
 cases ho:dY (aT b (hdL b p) cdN) false with
 |none=>exact bW rK (by omega)
 |some o=>
  obtain⟨t,u,ps⟩:=o
  have hp:=A2 (by omega) ho
  obtain⟨g3,_⟩:=fU ho
  rw[E5]
  refine bW (uM (mN [dN t,oO ps] (n:=6010) fun x hx=>?_)) (by simp)
  simp only[List.mem_cons,List.not_mem_nil,or_false]at hx
  rcases hx with rfl|rfl
  ·exact bW (kG t (by omega)) (by omega)
  ·exact hp
theorem Fh (b:Bs) (hb:b.length≤1500) (p:Pt):∀x∈jZ b p,Tx 1 20000 x:=by
 intro x hx
 simp only[jZ,List.mem_cons,List.not_mem_nil,or_false]at hx
 rcases hx with rfl|rfl|rfl
 ·exact M9 b hb p
 ·exact bW (A3 b hb p _) (by omega)
 ·exact bW (A3 b hb p _) (by omega)
theorem KX (b:Bs) (hb:b.length≤1500) (p:Pt):TxL 7 140000 (kA b p):=by
 obtain⟨k1,k2,_⟩:=nJ b hb p
 have he:=Do b p
 have e:(kA b p).length=7:=rfl
 have h:=mN (kA b p) (n:=20000) fun x hx=>?_
 ·rw[e]at h;exact h
 simp only[kA,List.mem_cons,List.not_mem_nil,or_false]at hx
 rcases hx with rfl|rfl|rfl|rfl|rfl|rfl|rfl
 ·exact bW (kG _ (by omega)) (by omega)
 ·exact bW (kG _ (by omega)) (by omega)
 ·exact bW (Fg b hb p) (by omega)
 ·exact bW (A3 b hb p _) (by omega)
 ·exact bW (A3 b hb p _) (by omega)
 ·exact bW (kG _ (by omega)) (by omega)
 ·exact bW (Gx _) (by omega)
theorem Na (b:Bs) (hb:b.length≤1500) (p:Pt) (all:Bool):∃k n,TxL k n (rP b p all)∧n≤80000∧(rP b p all).length≤4:=by
 unfold rP
 split
 ·have e:(qK b p cmN::jZ b p).length=4:=rfl
  refine⟨_,_,mN (qK b p cmN::jZ b p) (n:=20000) fun x hx=>?_,by rw[e];omega,by rw[e];omega⟩
  rcases List.mem_cons.1 hx with rfl|hx
  ·exact bW (A3 b hb p _) (by omega)
  ·exact Fh b hb p x hx
 ·exact⟨0,0, .nil,by omega,by simp⟩
theorem KY (b:Bs) (hb:b.length≤1500) (p:Pt) (all:Bool):∃k n,TxL k n (fJ b p all)∧1≤k∧n≤120000∧(fJ b p all).length≤6:=by
 obtain⟨_,k2,_⟩:=nJ b hb p
 have hs:=kG (dW b p).2.1 (by omega)
 unfold fJ
 cases all with
 |true=>
  have hr:=mN ((dW b p).2.2::jZ b p) (n:=20000) fun x hx=>by
   rcases List.mem_cons.1 hx with rfl|hx
   ·exact bW (Fg b hb p) (by omega)
   ·exact Fh b hb p x hx
  have e:((dW b p).2.2::jZ b p).length=4:=rfl
  rw[e]at hr
  have e6:([([]:Bs),dN (dW b p).2.1]++(dW b p).2.2::jZ b p).length=6:=rfl
  exact⟨_,_,TxL.cons A1 (TxL.cons hs hr),by omega,by omega,by rw[if_pos rfl,e6];omega⟩
 |false=>exact⟨_,_,TxL.cons A1 (TxL.cons hs .nil),by omega,by omega,by simp⟩
def tkK:Nat:=1000000
theorem Nb (b:Bs) (hb:b.length≤1500) (q:Pt):Tx 1 300100 (E2 (ofS b q)):=by
 have hv:=fun n=>bI b (hdL b q) n
 have hA:=fun n=>jI b (by omega) (hdL b q) n
 have h2:2*b.length≤3000:=by omega
 have h:TxL 10 (10* (10*3000+2)) (enL (ofS b q)):=by
  refine M7 (ofS b q) 3000 ?_ ?_ ?_ ?_ ?_ ?_ ?_ ?_ ?_ ?_ (by omega)
  ·exact Nat.le_trans (hv _) (by omega)
  ·exact Nat.le_trans (hv _) (by omega)
  ·exact Nat.le_trans (hv _) (by omega)
  ·exact Nat.le_trans (hv _) (by omega)
  ·exact Nat.le_trans (hA _) h2
  ·exact wS _ _ _ (Nat.le_trans (hA _) h2) (Nat.le_trans (hA _) h2)
  ·exact wS _ _ _ (Nat.le_trans (hA _) h2) (Nat.le_trans (hA _) h2)
  ·exact Nat.le_trans (hA _) h2
  ·exact Nat.le_trans (hA _) h2
  ·exact Nat.le_trans (hA _) h2
 have e:(enL (ofS b q)).length=10:=rfl
 have:=uM h
 rw[e]at this
 exact bW this (by omega)
def Nc (b:Bs) (all:Bool) (p:Pt):Prop:=∃k n x,1≤k∧n+2≤tkK*cntF p∧tC b all p=([40]++x)++[41]∧Tx k n x
theorem UX {b:Bs} {all:Bool} {p:Pt} (h:Nc b all p):Tx 1 (tkK*cntF p) (tC b all p)∧∃q,tC b all p=40::q:=by
 obtain⟨k,n,x,_,h2,h3,h4⟩:=h
 rw[h3]
 exact⟨bW (Gs h4) h2,_,rfl⟩
theorem Nf (b:Bs) (hb:b.length≤1500) (all:Bool) (p:Pt) (hs:TxL p.ks.length (tkK*jY p.ks) (bX b all p.ks)) (hq:∀x∈bX b all p.ks,∃q,x=40::q)
  (h0:∀q r,p.ks=q::r→Tx 1 (tkK*cntF q) (tC b all q)):Nc b all p:=by
 have hK:tkK=1000000:=rfl
 have hc:tkK*cntF p=tkK+tkK*jY p.ks:=by cases p;rw[cntF,Nat.mul_add];rfl
 unfold Nc
 rw[Hi,Gq,hc]
 by_cases h1:p.kd=1
 ·rw[if_pos h1]
  obtain⟨k,n,m1,m2,m3,m4⟩:=KY b hb p all
  obtain⟨w,hw⟩:=Gr b p all
  obtain⟨f1,f2⟩:=Hp hs hq
  have hj:=Dx m1
  have:=Dw f1 hj (fun r _=>by rw[hw];exact KJ _ (by simp))
  exact⟨_,_,_,by omega,by omega,by simp only[List.append_assoc],this⟩
 ·rw[if_neg h1]
  have hbs:=KX b hb p
  obtain⟨k2,n2,e1,e2,e3⟩:=Na b hb p all
  have hbl:(kA b p).length=7:=rfl
  have ho:∃k n,TxL k n (oS b p (bX b all p.ks))∧n≤300101+tkK*jY p.ks∧(oS b p (bX b all p.ks)).length≤3:=by
   unfold oS
   split
   ·rename_i h
    cases hk:p.ks with
    |nil=>exact absurd hk h.2
    |cons q r=>
     have h3:=h0 q r hk
     rw[bX,jY,Nat.mul_add]
     exact⟨_,_,TxL.cons (Nb b hb q) (TxL.cons h3 (Hq (Gx _))),by omega,by simp⟩
   ·split
    ·exact⟨_,_,Hq (Gx _),by omega,by simp⟩
    ·exact⟨_,_, .nil,by omega,by simp⟩
  obtain⟨k1,n1,o1,o2,o3⟩:=ho
  have:=Dx (Ho (Ho hbs o1) e1)
  exact⟨_,_,_,by omega,by simp only[List.length_append];omega,rfl,this⟩
mutual
theorem KZ (b:Bs) (hb:b.length≤1500) (all:Bool):∀p:Pt,Nc b all p
 | .mk k h bd ks cs e=>by
  obtain⟨h1,h2,h3⟩:=Hx b hb all ks
  exact Nf b hb all (.mk k h bd ks cs e) h1 h2 h3
theorem Hx (b:Bs) (hb:b.length≤1500) (all:Bool):∀ks:List Pt,TxL ks.length (tkK*jY ks) (bX b all ks)∧(∀x∈bX b all ks,∃q,x=40::q)∧∀q r,ks=q::r→Tx 1 (tkK*cntF q) (tC b all q)
 |[]=>by
  rw[bX,jY]
  exact⟨.nil,by simp,by simp⟩
 |p::r=>by
  obtain⟨h1,h2⟩:=UX (KZ b hb all p)
  obtain⟨i1,i2,_⟩:=Hx b hb all r
  rw[bX,jY,Nat.mul_add,List.length_cons,Nat.add_comm r.length 1]
  refine⟨.cons h1 i1,?_,?_⟩
  ·intro x hx
   rcases List.mem_cons.1 hx with rfl|hx
   ·exact h2
   ·exact i2 x hx
  ·intro q r' e
   cases e
   exact h1
end
end Go.Proofs.YtdoaoaicdimbeaaGreatDoor
end
section
namespace Go.Proofs.YtdoaoaicdimbeaaGreatDoor
open Go.Ev Go
theorem Ng (pre:List Tkn) (t:Tkn) (ts:List Tkn):List.getD ((pre++t::ts).map tkV) pre.length V.bot=tkV t:=by
 have:pre.length=(pre.map tkV).length:=by simp
 rw[List.map_append,List.map_cons,this]
 simp[List.getD]
theorem Nh (e:Nat) (i n:Nat) (h:e=0→n≤i+1) (hn:1≤n) (hn2:n≤1000000000000):
  (if(decide (((e:Nat):Int)<(0:Int)))=false then
    if(((e:Nat):Int)==(0:Int))=true then some (decide (((i:Nat):Int)<(IntKind.wrap IntKind.i64 (((n:Nat):Int) - (1:Int)))))else some false
   else some true)=some false:=by
 have h1:¬(((e:Nat):Int)<0):=by omega
 have hw:IntKind.wrap .i64 (((n:Nat):Int) - 1)=((n - 1:Nat):Int):=by rw[wrap64 (by omega) (by omega)];omega
 simp only[h1,decide_false,if_true,hw]
 by_cases h0:e=0
 ·have:=h h0
  have h2:¬(((i:Nat):Int)<((n - 1:Nat):Int)):=by omega
  simp only[h2,decide_false,ite_self]
 ·have h2:(((e:Nat):Int)==0)=false:=by
   have:¬((e:Nat):Int)=0:=by omega
   simpa using this
  simp only[h2,Bool.false_eq_true,if_false]
theorem K0 (L:List Tkn) (hL:2<L.length) (hL2:L.length≤1000000000000) (k:Nat):∀(ts pre:List Tkn) (d p:Nat),L=pre++ts→d≤pre.length→run d p ts=some (0,k)→
  Evt (fun k j=>L10 (aA cfg k) j (L.map tkV) (d:Nat) (pre.length:Nat)) (.bool true,[])
 |[],pre,d,p,h,hd,hr=>by
  refine NZ (L.map tkV) (d:Nat) (pre.length:Nat) ?_
  have hl:pre.length=L.length:=by rw[h];simp
  have h1:¬((pre.length:Int)<(L.length:Int)):=by omega
  have h2:((L.length:Nat):Int)>2:=by omega
  have hd0:d=0:=by rw[run]at hr;cases hr;rfl
  subst hd0
  have e:(((0:Nat):Int)==0)=true:=rfl
  simp only[Fa,List.length_map,h1,decide_false,Bool.false_eq_true,if_false,h2,decide_true,e,if_true]
  refine bY (v:=true) rfl ?_
  exact aD _
 |t::ts,pre,d,p,h,hd,hr=>by
  have hl:L.length=pre.length+(ts.length+1):=by rw[h];simp
  have h1:((pre.length:Int)<(L.length:Int)):=by omega
  have h2:(0:Int)≤(pre.length:Nat):=by omega
  have g:List.getD (L.map tkV) pre.length V.bot=tkV t:=by rw[h];exact Ng _ _ _
  have hi:V.getI (List.headD (V.cells (tkV t)) V.bot)=((t.1:Nat):Int):=rfl
  have hp1:(pre++[t]).length=pre.length+1:=by simp
  rw[run]at hr
  cases hdn:dn d t.1 with
  |none=>rw[hdn]at hr;cases hr
  |some e=>
   rw[hdn]at hr
   by_cases hc:e=0∧ts≠[]
   ·simp only[if_pos hc]at hr;cases hr
   ·simp only[if_neg hc]at hr
    have hde:e≤pre.length+1:=by
     unfold dn at hdn
     split at hdn
     ·cases hdn;omega
     ·split at hdn
      ·split at hdn
       ·cases hdn
       ·cases hdn;omega
      ·cases hdn;omega
    have hlast:e=0→L.length≤pre.length+1:=fun h0=>by
     have:ts=[]:=Classical.byContradiction fun hn=>hc ⟨h0,hn⟩
     rw[this]at hl;simp at hl;omega
    have ih:=K0 L hL hL2 k ts (pre++[t]) e _ (by rw[h];simp) (by rw[hp1];exact hde) hr
    rw[hp1]at ih
    have dt:=Nh e pre.length L.length hlast (by omega) hL2
    refine NZ (L.map tkV) (d:Nat) (pre.length:Nat) ?_
    simp only[Fa,List.length_map,h1,decide_true,if_true,aH h2,cA,Int.toNat_natCast,g,hi,wr1 (show pre.length≤1000000000000000 by omega),wr1 (show d≤1000000000000000 by omega)]
    unfold dn at hdn
    by_cases h3:t.1=3
    ·rw[if_pos h3]at hdn
     cases hdn
     have z3:(((t.1:Nat):Int)==3)=true:=by rw[h3];rfl
     have z4:(((t.1:Nat):Int)==4)=false:=by rw[h3];rfl
     simp only[z3,z4,if_true,Bool.false_eq_true,if_false]
     refine bY (v:=false) dt ?_
     simp only[Bool.false_eq_true,if_false]
     exact ih
    ·rw[if_neg h3]at hdn
     have z3:(((t.1:Nat):Int)==3)=false:=by
      have:¬((t.1:Nat):Int)=3:=by omega
      simpa using this
     by_cases h4:t.1=4
     ·rw[if_pos h4]at hdn
      split at hdn
      ·cases hdn
      ·cases hdn
       have z4:(((t.1:Nat):Int)==4)=true:=by rw[h4];rfl
       have hw:IntKind.wrap .i64 (((d:Nat):Int) - 1)=((d - 1:Nat):Int):=by rw[wrap64 (by omega) (by omega)];omega
       simp only[z3,z4,if_true,Bool.false_eq_true,if_false,hw]
       refine bY (v:=false) dt ?_
       simp only[Bool.false_eq_true,if_false]
       exact ih
     ·rw[if_neg h4]at hdn
      cases hdn
      have z4:(((t.1:Nat):Int)==4)=false:=by
       have:¬((t.1:Nat):Int)=4:=by omega
       simpa using this
      simp only[z3,z4,Bool.false_eq_true,if_false]
      refine bY (v:=false) dt ?_
      simp only[Bool.false_eq_true,if_false]
      exact ih
theorem RY (b:Bs) (all:Bool):Ret 10 [.lst 5 false (ofBytes b), .bool all] [] (.bool true,[]):=by
 refine M10 (ofBytes b) all ?_
 simp only[T10]
 refine aB Rm ?_
 simp only[aU,Bool.not_true,Bool.false_eq_true,if_false,bB]
 by_cases hb:b.length≤1500
 ·have h1:¬(((b.length:Nat):Int)>1500):=by omega
  simp only[h1,decide_false,Bool.false_eq_true,if_false]
  have cT:=Dm b 32 0 b.length false 1 (by omega)
  have cT2:=AG b 32 0 b.length false 1
  have hfit:=Ii b 32 0 b.length false 1 (by omega) (Nat.le_refl _)
  have hbd:=MH b 100000 (by omega) 32 0 b.length false 1 (by omega) (Nat.le_refl _)
  have hP:=NI b (by omega)
  generalize(eH b 32 0 b.length false 1).1=T at*
  have hput:=Hn b (by omega) all T hfit hbd (by omega)
  have hle:=Hm b (by omega) all T hbd
  obtain⟨k,n,x,x1,x2,x3,x4⟩:=KZ b hb all T
  have hK:tkK=1000000:=rfl
  have hK2:putK=30000000000:=rfl
  have hc1:tkK*cntF T≤1000000*1000:=Nat.mul_le_mul (by omega) (by omega)
  have hc2:putK*cntF T≤30000000000*1000:=Nat.mul_le_mul (by omega) (by omega)
  have hxl:x.length≤99999999999900:=by
   rw[x3]at hle
   simp only[List.length_append,List.length_cons,List.length_nil]at hle
   omega
  obtain⟨ts,t1,t2,t3⟩:=KW x4 hxl
  have htk:=RX t3 (by simp only[List.length_append,List.length_cons,List.length_nil];omega)
  rw[←x3]at htk
  have hpos:1≤ts.length:=by
   cases ts with
   |nil=>cases t1;omega
   |cons _ _=>simp
  have hrun:=MW t1
  have lp:=K0 ((3,[])::(ts++[(4,[])])) (by simp only[List.length_append,List.length_cons,List.length_nil];omega) (by simp only[List.length_append,List.length_cons,List.length_nil];omega) k _ [] 0 0 rfl (Nat.le_refl _) hrun
  refine aB hP ?_
  simp only[bC,List.headD_cons,lJ,Gi,List.tail_cons,cC,bE,eR]
  refine aB hput ?_
  simp only[aR]
  refine aB htk ?_
  have e:((0:Int) != 0)=false:=rfl
  simp only[bC,List.headD_cons,List.tail_cons,cC,bE,e,Bool.false_eq_true,if_false]
  exact lp
 ·have h1:(((b.length:Nat):Int)>1500):=by omega
  simp only[h1,decide_true,if_true]
  exact aD _
end Go.Proofs.YtdoaoaicdimbeaaGreatDoor
end
section
namespace Go.Proofs.YtdoaoaicdimbeaaGreatDoor
open Go.ChangeShapes Go.WideShapes Go.ChangeAt Go.RowKit Go.Ev
theorem cells5:Tryz.prog.cellsOf 5=1:=by kernel_rfl
theorem K3:aF cfg 5=1:=by kernel_rfl
theorem RZ (n:Int):cD cfg 5 (.int .u8 n)=true:=by kernel_rfl
theorem Ni (zs:List Int):flat (zs.map (Value.int .u8))=zs.map (Value.int .u8):=by
 induction zs with
 |nil=>rfl
 |cons z zs ih=>simp only[flat,List.map_cons,List.flatMap_cons,Value.cells]at ih ⊢;rw[ih];rfl
theorem Fi {P:Program} {w:World} {r:Reach} {base:Nat} {t e:TypeId} {a:Addr} {len cap:Nat} (ht:P.underlying t=some (.slice e)) (h:Value.okWide P w r base t (.slice (some a) len cap)):a.block<w.heap.size:=by
 simp only[Value.okWide,ht,Cell.okWide,Cell.ok]at h
 obtain⟨_,_,_,_,row,cells,hs,_⟩:=h
 unfold World.shape? at hs
 by_cases hb:a.block<w.heap.size
 ·exact hb
 ·rw[Array.getElem?_eq_none (by omega)]at hs
  simp at hs
set_option maxRecDepth 100000 in
theorem K4 {H:Type} {enc:TypeId×Value→H} {W:World} {base:Nat} {v:Value} {d:DataW H} {p:List MemPlace} (hval:Value.okWide Tryz.prog W .any base 40 v)
  (h:DataW.Trod enc Tryz.prog W 0 (fun _=>true) true 40 v d p):
  ∃vs:List UInt8,Rep cfg W (rY W) [] (.lst 5 false (ofBytes vs)) v∧
   ∀W',Kept W W'→∀sp:Nat→Bool,(∀x∈p,sp x.block=true)→DataW.Trod enc Tryz.prog W' 0 sp true 40 v d p:=by
 obtain⟨a1,len,cap,rfl⟩:=okWide_slice Tryz.underlying40 hval
 obtain⟨fuel,hf⟩:=h
 rcases open_ints Tryz.underlying40 Tryz.underlying5 cells5 hf with⟨hcs,hx⟩|⟨a,len',cap',zs,hcs,_,hl,hm,hz,hx,hcell,hwz⟩
 ·simp[Value.cells]at hcs
  obtain⟨rfl,rfl,rfl⟩:=hcs
  simp only[Prod.mk.injEq]at hx
  obtain⟨rfl,rfl⟩:=hx
  refine⟨[],?_,fun W' _ sp _=>shut_slice_nil Tryz.underlying40⟩
  exact Rep.lst 5 false [] none 0 [] rfl (fun i v x h=>by simp at h) (fun v h=>by cases h) (fun x h=>by cases h) (by rw[K3];omega) (Nat.le_refl _) ⟨fun _=>rfl,fun p h=>by cases h⟩ (fun p h=>by cases h)
 ·simp[Value.cells]at hcs
  obtain⟨rfl,rfl,rfl⟩:=hcs
  simp only[Prod.mk.injEq]at hx
  obtain⟨rfl,rfl⟩:=hx
  have hblk:a.block<W.heap.size:=Fi Tryz.underlying40 hval
  have hsn:some a=none→cap=0:=fun h=>by cases h
  have hsb:∀p,some a=some p→p.block<W.heap.size:=fun p hp=>by cases hp;exact hblk
  simp only[if_true]at hz
  have hrng:∀n∈zs,0≤n∧n<256:=fun n hn=>by have:=bounds_u8 (hwz n hn);omega
  refine⟨(zs.take len).map fun n=>UInt8.ofNat n.toNat,?_,fun W' hk sp hsp=>?_⟩
  ·have hxs:ofBytes ((zs.take len).map fun n=>UInt8.ofNat n.toNat)=(zs.take len).map (V.int .u8):=by
    unfold ofBytes
    rw[List.map_map]
    refine List.map_congr_left fun n hn=>?_
    have:=hrng n (List.mem_of_mem_take hn)
    simp only[Function.comp,UInt8.toNat_ofNat']
    congr 1
    omega
   have hlen:(ofBytes ((zs.take len).map fun n=>UInt8.ofNat n.toNat)).length=len:=by rw[hxs];simp;omega
   have:=Rep.lst (c:=cfg) (w:=W) (G:=rY W) (μ:=[]) 5 false (ofBytes ((zs.take len).map fun n=>UInt8.ofNat n.toNat)) (some a) cap ((zs.take len).map (Value.int .u8)) (by rw[hlen];simp;omega) (fun i v x hv hx=>by
     rw[hxs]at hv
     obtain⟨n,h1,rfl⟩:=bU hv
     obtain⟨n',h2,rfl⟩:=bU hx
     rw[h1]at h2;cases h2
     exact .int _ _) (fun v hv=>by
     rw[hxs]at hv
     obtain⟨n,_,rfl⟩:=List.mem_map.1 hv
     exact RZ n) (fun x hx=>by
     obtain⟨n,_,rfl⟩:=List.mem_map.1 hx
     rw[K3];rfl) (by rw[K3];omega) (by rw[hlen];exact hl) ⟨hsn,hsb⟩ (fun p hp hne=>by
     cases hp
     have hl0:0<len:=by
      rcases Nat.eq_zero_or_pos len with h0|h0
      ·exact absurd (List.eq_nil_of_length_eq_zero (hlen.trans h0)) hne
      ·exact h0
     obtain⟨ab,ao,spot⟩:=a
     have hspot:spot=none:=by simpa[Addr.add]using World.cell?_spot (hcell 0 (by omega))
     subst hspot
     refine⟨rfl,?_⟩
     rw[Ni]
     refine FZ fun j x hj=>?_
     have hjl:=(List.getElem?_eq_some_iff.1 hj).1
     rw[List.length_map,List.length_take]at hjl
     have hjl:j<len∧j<zs.length:=by omega
     have hc:=hcell j (by omega)
     rw[Addr.add_lit]at hc
     rw[hc]
     rw[List.getElem?_map,List.getElem?_take,if_pos hjl.1,List.getElem?_eq_getElem hjl.2]at hj
     simp at hj
     rw[←hj];simp[List.getD,hjl.2])
   rw[hlen]at this
   exact this
  ·have hzl:zs.length=(if sp a.block then cap else len):=by
    rcases Nat.eq_zero_or_pos zs.length with h0|h0
    ·split<;>omega
    ·have:sp a.block=true:=hsp (.cell a.block (a.off+0)) (by simp only[MemPlace.row,List.mem_map,List.mem_range];exact⟨0,h0,rfl⟩)
     rw[if_pos this];exact hz
   exact⟨2,shut_ints 0 Tryz.underlying40 Tryz.underlying5 cells5 (Nat.zero_le _) hl hm hzl (fun i hi=>hk.cell _ _ (hcell i hi)) hwz⟩
end Go.Proofs.YtdoaoaicdimbeaaGreatDoor
end
