/- Lemmas for the claim, merged: the plain reading of the program's functions, its soundness, and what they compute. -/
import Derived.Test.YtdoaoaicdimbeaaGreatDoorPkE
import Derived.ChangeSlices
set_option linter.all false
set_option linter.unusedVariables false
set_option linter.unusedSimpArgs false
section
namespace Go.Proofs.YtdoaoaicdimbeaaGreatDoor
open Go.Ev Go
theorem pK {x y:Bs} (h:x=y):sEq x y=true:=by subst h;simp[sEq]
theorem xO {x y:Bs} (h:¬x=y):sEq x y=false:=by simp[sEq,h]
theorem DD (t u x y:Bs):(if sEq t x=true then some (sEq u y)else some false)=some (decide (t=x∧u=y)):=by
 by_cases h1:t=x
 ·by_cases h2:u=y
  ·rw[pK h1,pK h2,if_pos rfl,decide_eq_true ⟨h1,h2⟩]
  ·rw[pK h1,xO h2,if_pos rfl,decide_eq_false (fun e=>h2 e.2)]
 ·rw[xO h1,if_neg (by decide),decide_eq_false (fun e=>h1 e.1)]
def hdL (b:Bs) (p:Pt):List Fd:=(fQ b (p.hd.1:Nat) (p.hd.2:Nat)).1
theorem KV (b:Bs) (hb:b.length≤3000) (p:Pt) (name:Bs) (hn:name.length≤1000) (two:Bool):
  Ret 83 [.lst 5 false (ofBytes b),partV p, .str name, .bool two] [] (nP (fJ (dZ b (hdL b p) name) two),[]):=by
 obtain⟨h1,h2⟩:=rF b (p.hd.1:Nat) (p.hd.2:Nat)
 have hv:=jF b (hdL b p) name
 rw[←rI p]
 refine M83 (ofBytes b) (p.kd:Nat) (p.hd.1:Nat) (p.hd.2:Nat) (p.bd.1:Nat) (p.bd.2:Nat) (p.ks.map partV) (p.cs.map cutV) (p.en.1:Nat) (p.en.2:Nat) name two ?_
 simp only[T83]
 refine aC (BW b (by omega) (p.hd.1:Nat) (p.hd.2:Nat)) ?_
 simp only[dW,List.headD_cons,iP]
 refine aC (Du b (by omega) (hdL b p) (by unfold hdL;omega) (fun f hf=>by have:=h1 f hf;omega) name (by omega)) ?_
 simp only[cB]
 refine aC (HU _ (by omega) two) ?_
 cases fJ (dZ b (hdL b p) name) two with
 |none=>exact aD _
 |some o=>obtain⟨t,u,ps⟩:=o;exact aD _
def Jc (b:Bs) (p:Pt) (name:Bs):Bs:=H9 (dZ b (hdL b p) name) (gC (hdL b p) name).isSome
theorem Ia (b:Bs) (hb:b.length≤3000) (p:Pt) (name:Bs) (hn:name.length≤1000):
  Ret 46 [.lst 5 false (ofBytes b),partV p, .str name] [] (.str (Jc b p name),[]):=by
 obtain⟨h1,h2⟩:=rF b (p.hd.1:Nat) (p.hd.2:Nat)
 have hv:=jF b (hdL b p) name
 have hl:(hdL b p).length≤1000000:=by unfold hdL;omega
 have hl2:∀f∈hdL b p,f.1.length≤1000000:=fun f hf=>by have:=h1 f hf;omega
 rw[←rI p]
 refine M46 (ofBytes b) (p.kd:Nat) (p.hd.1:Nat) (p.hd.2:Nat) (p.bd.1:Nat) (p.bd.2:Nat) (p.ks.map partV) (p.cs.map cutV) (p.en.1:Nat) (p.en.2:Nat) name ?_
 simp only[T46]
 refine aC (BW b (by omega) (p.hd.1:Nat) (p.hd.2:Nat)) ?_
 simp only[dW,List.headD_cons,iP]
 refine aC (F3 (hdL b p) hl hl2 name (by omega)) ?_
 refine aC (Du b (by omega) (hdL b p) hl hl2 name (by omega)) ?_
 have hf:V.getB (List.headD (List.tail (V.getT (qE (gC (hdL b p) name)))) V.bot)=(gC (hdL b p) name).isSome:=by cases gC (hdL b p) name<;>rfl
 simp only[cB,hf]
 refine aC (KT _ (by omega) _) ?_
 exact aD _
def El:Bs:=[99,111,110,116,101,110,116,45,116,114,97,110,115,102,101,114,45,101,110,99,111,100,105,110,103]
def Jd (b:Bs) (p:Pt):Bs:=if(dZ b (hdL b p) El).map cX=[]then[55,98,105,116]else(dZ b (hdL b p) El).map cX
theorem KW (b:Bs) (hb:b.length≤3000) (p:Pt):Ret 36 [.lst 5 false (ofBytes b),partV p] [] (.str (Jd b p),[]):=by
 obtain⟨h1,h2⟩:=rF b (p.hd.1:Nat) (p.hd.2:Nat)
 have hv:=jF b (hdL b p) El
 have hl:(hdL b p).length≤1000000:=by unfold hdL;omega
 have hl2:∀f∈hdL b p,f.1.length≤1000000:=fun f hf=>by have:=h1 f hf;omega
 rw[←rI p]
 refine M36 (ofBytes b) (p.kd:Nat) (p.hd.1:Nat) (p.hd.2:Nat) (p.bd.1:Nat) (p.bd.2:Nat) (p.ks.map partV) (p.cs.map cutV) (p.en.1:Nat) (p.en.2:Nat) ?_
 simp only[T36]
 refine aC (BW b (by omega) (p.hd.1:Nat) (p.hd.2:Nat)) ?_
 simp only[dW,List.headD_cons,iP]
 refine aC (Du b (by omega) (hdL b p) hl hl2 El (by simp[El])) ?_
 simp only[cB]
 refine aC (wQ _ (by omega)) ?_
 simp only[cB]
 unfold Jd
 by_cases h:(dZ b (hdL b p) El).map cX=[]
 ·rw[if_pos h]
  simp only[pK h,Bool.not_true,Bool.false_eq_true,if_false]
  exact aD _
 ·rw[if_neg h]
  simp only[xO h,Bool.not_false,if_true]
  exact aD _
def ctN:Bs:=[99,111,110,116,101,110,116,45,116,121,112,101]
def eA:Bs:=[109,117,108,116,105,112,97,114,116]
def Da:Bs:=[109,105,120,101,100]
def eO:Bs:=[109,101,115,115,97,103,101]
def mM:Bs:=[114,102,99,56,50,50]
def textW:Bs:=[116,101,120,116]
def plainW:Bs:=[112,108,97,105,110]
def DF:Bs:=[97,112,112,108,105,99,97,116,105,111,110]
def KX:Bs:=[111,99,116,101,116,45,115,116,114,101,97,109]
def csW:Bs:=[99,104,97,114,115,101,116]
def usW:Bs:=[117,115,45,97,115,99,105,105]
def Cc (kd:Nat):Option (Bs×Bs×Ps)→Bs×Bs×Bs
 |none=>if kd=1 then(eA,Da,xK)else if kd=2 then(eO,mM,xK)else(textW,plainW,C9 [jC csW,jC usW])
 |some (t,u,ps)=>
  if kd=1 then(if t=eA then(t,u,Ek ps)else(eA,Da,xK))
  else if kd=2 then(if t=eO∧u=mM then(t,u,Ek ps)else(eO,mM,xK))
  else if t=eA∨(t=eO∧u=mM)then(DF,KX,xK)else(t,u,Ek ps)
def pL (b:Bs) (p:Pt):Bs×Bs×Bs:=Cc p.kd (fJ (dZ b (hdL b p) ctN) true)
def DG (q:Bs×Bs×Bs):V:= .tup [.str q.1, .str q.2.1, .str q.2.2]
theorem Gi (b:Bs) (hb:b.length≤3000) (p:Pt):Ret 43 [.lst 5 false (ofBytes b),partV p] [] (DG (pL b p),[]):=by
 have hval:=KV b hb p ctN (by simp[ctN]) true
 have hvl:=jF b (hdL b p) ctN
 have hrow:Ret 50 [.lst 9 false [.str (jC csW), .str (jC usW)]] [] (.str (C9 [jC csW,jC usW]),[]):=by
  refine Gf [jC csW,jC usW] (by simp) ?_
  have h1:=uL csW
  have h2:=uL usW
  have:=DC 30 [jC csW,jC usW] (fun x hx=>by
   simp only[List.mem_cons,List.not_mem_nil,or_false]at hx
   rcases hx with rfl|rfl
   ·simp only[csW,List.length_cons,List.length_nil]at h1 ⊢;omega
   ·simp only[usW,List.length_cons,List.length_nil]at h2 ⊢;omega)
  simp only[List.length_cons,List.length_nil]at this
  omega
 unfold pL
 rw[←rI p]at hval ⊢
 refine M43 (ofBytes b) (p.kd:Nat) (p.hd.1:Nat) (p.hd.2:Nat) (p.bd.1:Nat) (p.bd.2:Nat) (p.ks.map partV) (p.cs.map cutV) (p.en.1:Nat) (p.en.2:Nat) ?_
 simp only[T43]
 refine aC hval ?_
 have k1t:p.kd=1→(((p.kd:Nat):Int)==1)=true:=fun h=>by rw[h];rfl
 have k1f:¬p.kd=1→(((p.kd:Nat):Int)==1)=false:=fun h=>by
  have:¬(((p.kd:Nat):Int)=1):=by omega
  simpa using this
 have k2t:p.kd=2→(((p.kd:Nat):Int)==2)=true:=fun h=>by rw[h];rfl
 have k2f:¬p.kd=2→(((p.kd:Nat):Int)==2)=false:=fun h=>by
  have:¬(((p.kd:Nat):Int)=2):=by omega
  simpa using this
 cases ho:fJ (dZ b (hdL b p) ctN) true with
 |none=>
  have e1:sEq ([]:Bs) eO=false:=by decide
  have e2:sEq ([]:Bs) eA=false:=by decide
  have c0:V.cells (.agg [.str [], .str [], .lst 176 false []])=[.str [], .str [], .lst 176 false []]:=rfl
  simp only[nP,dW,List.headD_cons,List.tail_cons,c0,cB,eU,iP]
  refine eD (v:=false) (if_neg (by rw[show sEq ([]:Bs) [109,101,115,115,97,103,101]=false from e1];decide)) ?_
  unfold Cc
  by_cases h1:p.kd=1
  ·rw[if_pos h1]
   simp only[k1t h1,if_true]
   refine eD (v:=false) (by simp only[Bool.false_eq_true,if_false]) ?_
   simp only[Bool.false_eq_true,if_false]
   exact aD _
  ·rw[if_neg h1]
   simp only[k1f h1,Bool.false_eq_true,if_false]
   by_cases h2:p.kd=2
   ·rw[if_pos h2]
    simp only[k2t h2,if_true]
    refine eD (v:=false) rfl ?_
    simp only[Bool.false_eq_true,if_false]
    exact aD _
   ·rw[if_neg h2]
    simp only[k2f h2,Bool.false_eq_true,if_false,Bool.not_false,if_true]
    refine aC (tX csW (by simp[csW])) ?_
    refine aC (tX usW (by simp[usW])) ?_
    simp only[cB]
    refine aC hrow ?_
    exact aD _
 |some o=>
  obtain⟨t,u,ps⟩:=o
  obtain⟨g1,g2⟩:=rG ho
  obtain⟨g3,g4,g5⟩:=Cb ho
  have gp:∀q∈ps,q.1.length≤10000000∧q.2.length≤10000000:=fun q hq=>by
   have a1:=g2 q hq
   have a2:=g5 q hq
   have a3:((dZ b (hdL b p) ctN).length+1)* (dZ b (hdL b p) ctN).length≤3001*3000:=Nat.mul_le_mul (by omega) (by omega)
   omega
  have rp:=KU ps (by omega) gp
  have c0:V.cells (.agg [.str t, .str u, .lst 176 false (ps.map pV)])=[.str t, .str u, .lst 176 false (ps.map pV)]:=rfl
  have tell:∀(a1 a2:Bs),Evt (fun(k _:Nat)=>Option.bind (aA cfg k 84 [.lst 176 false (ps.map pV)] []) fun z3=>some ((V.tup [.str a1, .str a2, .str (V.getS z3.1)]),([]:List Ob))) (.tup [.str a1, .str a2, .str (Ek ps)],[]):=fun a1 a2=>by
   refine aC rp ?_
   exact aD _
  simp only[nP,dW,List.headD_cons,List.tail_cons,c0,cB,eU,iP]
  refine eD (v:=decide (t=eO∧u=mM)) ?_ ?_
  ·exact DD t u eO mM
  unfold Cc
  have mt:t=eA→sEq t [109,117,108,116,105,112,97,114,116]=true:=fun h=>pK h
  have mf:¬t=eA→sEq t [109,117,108,116,105,112,97,114,116]=false:=fun h=>xO h
  by_cases h1:p.kd=1
  ·simp only[if_pos h1,k1t h1,if_true]
   by_cases ht:t=eA
   ·rw[if_pos ht]
    refine eD (v:=true) (by rw[mt ht]) ?_
    simp only[if_true]
    exact tell t u
   ·rw[if_neg ht]
    refine eD (v:=false) (by rw[mf ht]) ?_
    simp only[Bool.false_eq_true,if_false]
    exact aD _
  ·simp only[if_neg h1,k1f h1,Bool.false_eq_true,if_false]
   by_cases h2:p.kd=2
   ·simp only[if_pos h2,k2t h2,if_true]
    refine eD (v:=decide (t=eO∧u=mM)) rfl ?_
    by_cases ht:t=eO∧u=mM
    ·simp only[if_pos ht,decide_eq_true ht,if_true]
     exact tell t u
    ·simp only[if_neg ht,decide_eq_false ht,Bool.false_eq_true,if_false]
     exact aD _
   ·simp only[if_neg h2,k2f h2,Bool.false_eq_true,if_false,Bool.not_true]
    by_cases ht:t=eA
    ·refine eD (v:=true) (by rw[mt ht];rfl) ?_
     rw[if_pos (.inl ht)]
     simp only[if_true]
     exact aD _
    ·refine eD (v:=decide (t=eO∧u=mM)) (by rw[mf ht];rfl) ?_
     by_cases hr:t=eO∧u=mM
     ·rw[if_pos (.inr hr)]
      simp only[decide_eq_true hr,if_true]
      exact aD _
     ·rw[if_neg (by rintro(h|h);exact ht h;exact hr h)]
      simp only[decide_eq_false hr,Bool.false_eq_true,if_false]
      exact tell t u
theorem Em {s t u:Bs} {ps:Ps} (h:fJ s true=some (t,u,ps)):¬t=[]∧¬u=[]:=by
 unfold fJ at h
 split at h
 ·cases h
 ·rename_i h0
  rw[if_pos rfl]at h
  split at h
  ·cases h
  ·split at h
   ·cases h
   ·rename_i h1
    cases h
    exact⟨fun e=>h0 (List.map_eq_nil_iff.1 e),fun e=>h1 (List.map_eq_nil_iff.1 e)⟩
theorem Gj (b:Bs) (p:Pt):((pL b p).1=eA↔p.kd=1)∧((pL b p).1=eO∧(pL b p).2.1=mM↔p.kd=2)∧¬(pL b p).1=[]∧¬(pL b p).2.1=[]:=by
 have d1:¬eA=eO:=by decide
 have d2:¬eO=eA:=by decide
 have d3:¬textW=eA:=by decide
 have d4:¬textW=eO:=by decide
 have d5:¬DF=eA:=by decide
 have d6:¬DF=eO:=by decide
 have n1:¬eA=[]:=by decide
 have n2:¬Da=[]:=by decide
 have n3:¬eO=[]:=by decide
 have n4:¬mM=[]:=by decide
 have n5:¬textW=[]:=by decide
 have n6:¬plainW=[]:=by decide
 have n7:¬DF=[]:=by decide
 have n8:¬KX=[]:=by decide
 unfold pL
 cases ho:fJ (dZ b (hdL b p) ctN) true with
 |none=>
  unfold Cc
  by_cases h1:p.kd=1
  ·rw[if_pos h1];simp[h1,d1,n1,n2]
  ·rw[if_neg h1]
   by_cases h2:p.kd=2
   ·rw[if_pos h2];simp[h2,d2,n3,n4]
   ·rw[if_neg h2];simp[h1,h2,d3,d4,n5,n6]
 |some o=>
  obtain⟨t,u,ps⟩:=o
  obtain⟨q1,q2⟩:=Em ho
  unfold Cc
  by_cases h1:p.kd=1
  ·simp only[if_pos h1]
   by_cases ht:t=eA
   ·rw[if_pos ht];subst ht;simp[h1,d1,n1,q2]
   ·rw[if_neg ht];simp[h1,d1,n1,n2]
  ·simp only[if_neg h1]
   by_cases h2:p.kd=2
   ·simp only[if_pos h2]
    by_cases ht:t=eO∧u=mM
    ·rw[if_pos ht];obtain⟨rfl,rfl⟩:=ht;simp[h2,d2,n3,n4]
    ·rw[if_neg ht];simp[h2,d2,n3,n4]
   ·simp only[if_neg h2]
    by_cases ht:t=eA∨(t=eO∧u=mM)
    ·rw[if_pos ht];simp[h1,h2,d5,d6,n7,n8]
    ·rw[if_neg ht]
     exact⟨⟨fun e=>absurd (.inl e) ht,fun e=>absurd e h1⟩,⟨fun e=>absurd (.inr e) ht,fun e=>absurd e h2⟩,q1,q2⟩
mutual
theorem Ib (b:Bs) (hb:b.length≤3000):∀p:Pt,cntF p≤1000000→Ret 24 [.lst 5 false (ofBytes b),partV p] [] (.bool true,[])
 | .mk k h bd kids cuts e,hc=>by
  have hK:=Gi b hb (.mk k h bd kids cuts e)
  obtain⟨o1,o2,o3,o4⟩:=Gj b (.mk k h bd kids cuts e)
  generalize pL b (.mk k h bd kids cuts e)=q at hK o1 o2 o3 o4
  replace o1:q.1=eA↔k=1:=o1
  replace o2:q.1=eO∧q.2.1=mM↔k=2:=o2
  rw[cntF]at hc
  rw[partV,oL]at hK ⊢
  refine M24 (ofBytes b) (k:Nat) (h.1:Nat) (h.2:Nat) (bd.1:Nat) (bd.2:Nat) (kids.map partV) (cuts.map cutV) (e.1:Nat) (e.2:Nat) ?_
  simp only[T24]
  refine aC hK ?_
  simp only[DG,dW,List.headD_cons,List.tail_cons,cB]
  refine eD (v:=decide (q.1=eO∧q.2.1=mM)) ?_ ?_
  ·exact DD q.1 q.2.1 eO mM
  have e1:(sEq q.1 [109,117,108,116,105,112,97,114,116]==(((k:Nat):Int)==1))=true:=by
   by_cases h1:k=1
   ·rw[pK (show q.1=[109,117,108,116,105,112,97,114,116]from o1.2 h1),h1];rfl
   ·have hk:(((k:Nat):Int)==1)=false:=by
     have:¬(((k:Nat):Int)=1):=by omega
     simpa using this
    rw[xO (show¬q.1=[109,117,108,116,105,112,97,114,116]from fun e=>h1 (o1.1 e)),hk];rfl
  have e2:(decide (q.1=eO∧q.2.1=mM)==(((k:Nat):Int)==2))=true:=by
   by_cases h1:k=2
   ·rw[decide_eq_true (o2.2 h1),h1];rfl
   ·have hk:(((k:Nat):Int)==2)=false:=by
     have:¬(((k:Nat):Int)=2):=by omega
     simpa using this
    rw[decide_eq_false (fun e=>h1 (o2.1 e)),hk];rfl
  refine eD (v:=false) ?_ ?_
  ·simp only[e1,e2,Bool.not_true,if_true,xO o3,xO o4]
  simp only[Bool.false_eq_true,if_false]
  exact Gk b hb kids [] k h bd cuts e (by simpa using(by omega:uG kids≤1000000))
theorem Gk (b:Bs) (hb:b.length≤3000):∀(r pre:List Pt) (k:Nat) (h bd:Nat×Nat) (cuts:List (Nat×Nat)) (e:Nat×Nat),pre.length+uG r≤1000000→
  Evt (fun kk j=>L24 (aA cfg kk) j (ofBytes b) (pre.length:Nat) (k:Nat) (h.1:Nat) (h.2:Nat) (bd.1:Nat) (bd.2:Nat) ((pre++r).map partV) (cuts.map cutV) (e.1:Nat) (e.2:Nat)) (.bool true,[])
 |[],pre,k,h,bd,cuts,e,hp=>by
  refine H5 (ofBytes b) (pre.length:Nat) (k:Nat) (h.1:Nat) (h.2:Nat) (bd.1:Nat) (bd.2:Nat) ((pre++[]).map partV) (cuts.map cutV) (e.1:Nat) (e.2:Nat) ?_
  have h1:¬((pre.length:Int)<(((pre++[]).map partV).length:Nat)):=by simp
  simp only[B5,h1,decide_false,Bool.false_eq_true,if_false]
  exact aD _
 |p::r,pre,k,h,bd,cuts,e,hp=>by
  rw[uG]at hp
  have hpos:=Gb p
  refine H5 (ofBytes b) (pre.length:Nat) (k:Nat) (h.1:Nat) (h.2:Nat) (bd.1:Nat) (bd.2:Nat) ((pre++p::r).map partV) (cuts.map cutV) (e.1:Nat) (e.2:Nat) ?_
  have h1:((pre.length:Int)<(((pre++p::r).map partV).length:Nat)):=by simp;omega
  have h2:(0:Int)≤(pre.length:Nat):=by omega
  have hw:IntKind.wrap .i64 (((pre.length:Nat):Int)+1)=((pre.length+1:Nat):Int):=by rw[wrap64 (by omega) (by omega)];omega
  simp only[B5,h1,decide_true,if_true,aO h2,cK,Int.toNat_natCast,Gc,lE,hw]
  refine aC (Ib b hb p (by omega)) ?_
  have:=Gk b hb r (pre++[p]) k h bd cuts e (by simp;omega)
  simp only[List.append_assoc,List.singleton_append,List.length_append,List.length_cons,List.length_nil,Nat.zero_add]at this
  simp only[eU,Bool.not_true,Bool.false_eq_true,if_false]
  exact this
end
end Go.Proofs.YtdoaoaicdimbeaaGreatDoor
end
section
namespace Go.Proofs.YtdoaoaicdimbeaaGreatDoor
open Go.Ev Go
def jV:Bs:=[13,10,120]
theorem Hw:eN jV 32 0 jV.length false 1=(dV 0 2 3,1):=by kernel_rfl
theorem MA:partV (dV 0 2 3)= .agg [.int .i64 0, .int .i64 0, .int .i64 2, .int .i64 2, .int .i64 3, .lst 36 false [], .lst 32 false [], .int .i64 0, .int .i64 0]:=by kernel_rfl
def csB:Bs:=[40,34,99,104,97,114,115,101,116,34,32,34,117,115,45,97,115,99,105,105,34,41]
theorem DI:pL jV (dV 0 2 3)=(textW,plainW,csB):=by kernel_rfl
def Je:Bs:=[99,111,110,116,101,110,116,45,105,100]
def Jf:Bs:=[99,111,110,116,101,110,116,45,100,101,115,99,114,105,112,116,105,111,110]
theorem KY:Jc jV (dV 0 2 3) Je=xK:=by kernel_rfl
theorem KZ:Jc jV (dV 0 2 3) Jf=xK:=by kernel_rfl
theorem MB:Jd jV (dV 0 2 3)=[55,98,105,116]:=by kernel_rfl
theorem K0:jC textW=[34,116,101,120,116,34]:=by kernel_rfl
theorem K3:jC plainW=[34,112,108,97,105,110,34]:=by kernel_rfl
theorem K4:jC [55,98,105,116]=[34,55,98,105,116,34]:=by kernel_rfl
def Jg:Bs:=[40,34,116,101,120,116,34,32,34,112,108,97,105,110,34,32,40,34,99,104,97,114,115,101,116,34,32,34,117,115,45,97,115,99,105,105,34,41,32,78,73,76,32,78,73,76,32,34,55,98,105,116,34,32,49,32,49,41]
def En:List Bs:=[[34,116,101,120,116,34],[34,112,108,97,105,110,34],csB,xK,xK,[34,55,98,105,116,34],[49],[49]]
theorem MC:C9 En=Jg:=by kernel_rfl
theorem MD:(Lib.join En [32]).length=56:=by kernel_rfl
theorem Jh:Ret 23 [.lst 5 false (ofBytes jV),partV (dV 0 2 3), .bool false] [] (.str Jg,[]):=by
 have hK:=Gi jV (by simp[jV]) (dV 0 2 3)
 have hF1:=Ia jV (by simp[jV]) (dV 0 2 3) Je (by simp[Je])
 have hF2:=Ia jV (by simp[jV]) (dV 0 2 3) Jf (by simp[Jf])
 have hE:=KW jV (by simp[jV]) (dV 0 2 3)
 have h1:=tX textW (by simp[textW])
 have h2:=tX plainW (by simp[plainW])
 have h3:=tX [55,98,105,116] (by simp)
 have hd:Ret 47 [.int .i64 1] [] (.str [49],[]):=by
  have:=FQ 1 (by omega)
  rw[hZ (by omega)]at this
  exact this
 have hc:Ret 48 [.lst 5 false (ofBytes jV), .agg [.int .i64 2, .int .i64 3]] [] (.int .i64 1,[]):=fA (h:=AB) (by kernel_rfl) (by kernel_rfl)
 have hr:Ret 50 [.lst 9 false (En.map V.str)] [] (.str (C9 En),[]):=Gf En (by simp[En]) (by rw[MD];omega)
 rw[MC]at hr
 rw[DI]at hK
 rw[KY]at hF1
 rw[KZ]at hF2
 rw[MB]at hE
 rw[K0]at h1
 rw[K3]at h2
 rw[K4]at h3
 rw[MA]at hK hF1 hF2 hE ⊢
 refine M23 (ofBytes jV) 0 0 2 2 3 [] [] 0 0 false ?_
 have z1:((0:Int)==(1:Int))=false:=rfl
 have z2:((0:Int)==(2:Int))=false:=rfl
 have hw:IntKind.wrap .i64 ((3:Int) - 2)=1:=by kernel_rfl
 have ht:sEq textW [116,101,120,116]=true:=pK rfl
 have ap:∀a b c d e f g h:Bs,bI [V.str a,V.str b,V.str c,V.str d,V.str e,V.str f,V.str g] [V.str h] 17=true:=fun a b c d e f g h=>hD (by simp)
 simp only[T23,z1,Bool.false_eq_true,if_false]
 refine aC hK ?_
 simp only[DG,dW,List.headD_cons,List.tail_cons,cB]
 refine aC h1 ?_
 refine aC h2 ?_
 refine aC hF1 ?_
 refine aC hF2 ?_
 refine aC hE ?_
 simp only[cB]
 refine aC h3 ?_
 rw[hw]
 refine aC hd ?_
 refine eD (v:=false) (by rw[z2];rfl) ?_
 simp only[Bool.false_eq_true,if_false,ht,if_true]
 refine aC hc ?_
 simp only[lF]
 refine aC hd ?_
 simp only[cB,cR (ap _ _ _ _ _ _ _ _)]
 refine aC hr ?_
 exact aD _
theorem K5:Ret 22 [] [] (.bool true,[]):=by
 have hP:=H4 jV (by simp[jV])
 rw[Hw]at hP
 have hK:=Gi jV (by simp[jV]) (dV 0 2 3)
 rw[DI]at hK
 refine M22 ?_
 refine Ja (g' :=fun k _=>Option.bind (aA cfg k 14 [.lst 5 false (ofBytes jV)] []) fun z0=>_) (fun k n=>by rw[T22];rfl) ?_
 refine aC hP ?_
 simp only[dW,List.headD_cons,List.tail_cons,lF,lE]
 refine aC hK ?_
 have z0:((0:Int)==(0:Int))=true:=rfl
 simp only[z0,if_true]
 refine aC Jh ?_
 have q1:sEq Jg [40,34,116,101,120,116,34,32,34,112,108,97,105,110,34,32,40,34,99,104,97,114,115,101,116,34,32,34,117,115,45,97,115,99,105,105,34,41,32,78,73,76,32,78,73,76,32,34,55,98,105,116,34,32,49,32,49,41]=true:=pK rfl
 have q2:sEq textW [116,101,120,116]=true:=pK rfl
 have q3:sEq plainW [112,108,97,105,110]=true:=pK rfl
 simp only[DG,dW,List.headD_cons,List.tail_cons,cB,q1,q2,q3,if_true]
 exact aD _
theorem ME (b:Bs):Ret 8 [.lst 5 false (ofBytes b)] [] (.bool true,[]):=by
 refine M8 (ofBytes b) ?_
 simp only[T8]
 refine aC K5 ?_
 simp only[eU,Bool.not_true,Bool.false_eq_true,if_false,bF]
 by_cases hb:b.length≤1000
 ·have h1:¬(((b.length:Nat):Int)>1000):=by omega
  simp only[h1,decide_false,Bool.false_eq_true,if_false]
  have cT:=AP b 32 0 b.length false 1 (by omega)
  have cT2:=xN b 32 0 b.length false 1
  refine aC (H4 b (by omega)) ?_
  simp only[dW,List.headD_cons,lE]
  refine aC (Ib b (by omega) _ (by omega)) ?_
  exact aD _
 ·have h1:(((b.length:Nat):Int)>1000):=by omega
  simp only[h1,decide_true,if_true]
  exact aD _
end Go.Proofs.YtdoaoaicdimbeaaGreatDoor
end
section
namespace Go.Proofs.YtdoaoaicdimbeaaGreatDoor
open Go.ChangeShapes Go.WideShapes Go.ChangeAt Go.RowKit Go.Ev
theorem cells5:Tryz.prog.cellsOf 5=1:=by kernel_rfl
theorem Gl:aE cfg 5=1:=by kernel_rfl
theorem K6 (n:Int):bZ cfg 5 (.int .u8 n)=true:=by kernel_rfl
theorem Hx (zs:List Int):flat (zs.map (Value.int .u8))=zs.map (Value.int .u8):=by
 induction zs with
 |nil=>rfl
 |cons z zs ih=>simp only[flat,List.map_cons,List.flatMap_cons,Value.cells]at ih ⊢;rw[ih];rfl
theorem Cd {P:Program} {w:World} {r:Reach} {base:Nat} {t e:TypeId} {a:Addr} {len cap:Nat} (ht:P.underlying t=some (.slice e)) (h:Value.okWide P w r base t (.slice (some a) len cap)):a.block<w.heap.size:=by
 simp only[Value.okWide,ht,Cell.okWide,Cell.ok]at h
 obtain⟨_,_,_,_,row,cells,hs,_⟩:=h
 unfold World.shape? at hs
 by_cases hb:a.block<w.heap.size
 ·exact hb
 ·rw[Array.getElem?_eq_none (by omega)]at hs
  simp at hs
set_option maxRecDepth 100000 in
theorem Gm {H:Type} {enc:TypeId×Value→H} {W:World} {base:Nat} {v:Value} {d:DataW H} {p:List MemPlace} (hval:Value.okWide Tryz.prog W .any base 40 v)
  (h:DataW.Trod enc Tryz.prog W 0 (fun _=>true) true 40 v d p):
  ∃vs:List UInt8,Rep cfg W (pD W) [] (.lst 5 false (ofBytes vs)) v∧
   ∀W',Kept W W'→∀sp:Nat→Bool,(∀x∈p,sp x.block=true)→DataW.Trod enc Tryz.prog W' 0 sp true 40 v d p:=by
 obtain⟨a1,len,cap,rfl⟩:=okWide_slice Tryz.underlying40 hval
 obtain⟨fuel,hf⟩:=h
 rcases open_ints Tryz.underlying40 Tryz.underlying5 cells5 hf with⟨hcs,hx⟩|⟨a,len',cap',zs,hcs,_,hl,hm,hz,hx,hcell,hwz⟩
 ·simp[Value.cells]at hcs
  obtain⟨rfl,rfl,rfl⟩:=hcs
  simp only[Prod.mk.injEq]at hx
  obtain⟨rfl,rfl⟩:=hx
  refine⟨[],?_,fun W' _ sp _=>shut_slice_nil Tryz.underlying40⟩
  exact Rep.lst 5 false [] none 0 [] rfl (fun i v x h=>by simp at h) (fun v h=>by cases h) (fun x h=>by cases h) (by rw[Gl];omega) (Nat.le_refl _) ⟨fun _=>rfl,fun p h=>by cases h⟩ (fun p h=>by cases h)
 ·simp[Value.cells]at hcs
  obtain⟨rfl,rfl,rfl⟩:=hcs
  simp only[Prod.mk.injEq]at hx
  obtain⟨rfl,rfl⟩:=hx
  have hblk:a.block<W.heap.size:=Cd Tryz.underlying40 hval
  have hsn:some a=none→cap=0:=fun h=>by cases h
  have hsb:∀p,some a=some p→p.block<W.heap.size:=fun p hp=>by cases hp;exact hblk
  simp only[if_true]at hz
  have hrng:∀n∈zs,0≤n∧n<256:=fun n hn=>by have:=bounds_u8 (hwz n hn);omega
  refine⟨(zs.take len).map fun n=>UInt8.ofNat n.toNat,?_,fun W' hk sp hsp=>?_⟩
  ·have hxs:ofBytes ((zs.take len).map fun n=>UInt8.ofNat n.toNat)=(zs.take len).map (V.int .u8):=by
    unfold ofBytes
    rw[List.map_map]
    refine List.map_congr_left fun n hn=>?_
    have:=hrng n (List.mem_of_mem_take hn)
    simp only[Function.comp,UInt8.toNat_ofNat']
    congr 1
    omega
   have hlen:(ofBytes ((zs.take len).map fun n=>UInt8.ofNat n.toNat)).length=len:=by rw[hxs];simp;omega
   have:=Rep.lst (c:=cfg) (w:=W) (G:=pD W) (μ:=[]) 5 false (ofBytes ((zs.take len).map fun n=>UInt8.ofNat n.toNat)) (some a) cap ((zs.take len).map (Value.int .u8)) (by rw[hlen];simp;omega) (fun i v x hv hx=>by
     rw[hxs]at hv
     obtain⟨n,h1,rfl⟩:=bG hv
     obtain⟨n',h2,rfl⟩:=bG hx
     rw[h1]at h2;cases h2
     exact .int _ _) (fun v hv=>by
     rw[hxs]at hv
     obtain⟨n,_,rfl⟩:=List.mem_map.1 hv
     exact K6 n) (fun x hx=>by
     obtain⟨n,_,rfl⟩:=List.mem_map.1 hx
     rw[Gl];rfl) (by rw[Gl];omega) (by rw[hlen];exact hl) ⟨hsn,hsb⟩ (fun p hp hne=>by
     cases hp
     have hl0:0<len:=by
      rcases Nat.eq_zero_or_pos len with h0|h0
      ·exact absurd (List.eq_nil_of_length_eq_zero (hlen.trans h0)) hne
      ·exact h0
     obtain⟨ab,ao,spot⟩:=a
     have hspot:spot=none:=by simpa[Addr.add]using World.cell?_spot (hcell 0 (by omega))
     subst hspot
     refine⟨rfl,?_⟩
     rw[Hx]
     refine CO fun j x hj=>?_
     have hjl:=(List.getElem?_eq_some_iff.1 hj).1
     rw[List.length_map,List.length_take]at hjl
     have hjl:j<len∧j<zs.length:=by omega
     have hc:=hcell j (by omega)
     rw[Addr.add_lit]at hc
     rw[hc]
     rw[List.getElem?_map,List.getElem?_take,if_pos hjl.1,List.getElem?_eq_getElem hjl.2]at hj
     simp at hj
     rw[←hj];simp[List.getD,hjl.2])
   rw[hlen]at this
   exact this
  ·have hzl:zs.length=(if sp a.block then cap else len):=by
    rcases Nat.eq_zero_or_pos zs.length with h0|h0
    ·split<;>omega
    ·have:sp a.block=true:=hsp (.cell a.block (a.off+0)) (by simp only[MemPlace.row,List.mem_map,List.mem_range];exact⟨0,h0,rfl⟩)
     rw[if_pos this];exact hz
   exact⟨2,shut_ints 0 Tryz.underlying40 Tryz.underlying5 cells5 (Nat.zero_le _) hl hm hzl (fun i hi=>hk.cell _ _ (hcell i hi)) hwz⟩
end Go.Proofs.YtdoaoaicdimbeaaGreatDoor
end
