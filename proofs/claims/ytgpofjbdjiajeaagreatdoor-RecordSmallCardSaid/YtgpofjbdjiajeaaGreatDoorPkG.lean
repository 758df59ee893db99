/- Lemmas for the claim, merged: the plain reading of the program's functions, its soundness, and what they compute. -/
import Derived.Test.YtgpofjbdjiajeaaGreatDoorPkF
import Derived.KernelRfl
import Derived.ChangeSlices
import Derived.LaidHandle
set_option linter.all false
set_option linter.unusedVariables false
set_option linter.unusedSimpArgs false
section
namespace Go.Proofs.YtgpofjbdjiajeaaGreatDoor
open Go.Ev Go
open List (headD tail)
open V (getI getL)
theorem tP (n:Nat):getI (JJ n)=((n:Nat):Int):=rfl
theorem II (b:Bs) (hb:b.length≤1000000):∀d:Nat,d≤33→LY b d
 |0,_=>by
  intro a at_ ha hat
  obtain⟨n1,n2⟩:=mW b (by omega) a ha
  refine⟨fun v r h=>?_,fun er h=>?_⟩
  ·obtain⟨k,r1,_,h2⟩:=bR h
   cases h2
  ·cases hp:lQ (b.drop a)with
   |error m=>
    rw[getT,cA hp]at h
    cases h
    obtain⟨v0,a1,p,e1,g⟩:=n2 er hp
    obtain⟨v,hv⟩:=rN b ((at_:Nat):Int) ((33 - 0:Nat):Int) a a1 v0 (some p) p g (.inl rfl)
    exact⟨v,a1,p,e1,hv⟩
   |ok w=>
    obtain⟨k,r1⟩:=w
    rw[getT,aY hp]at h
    cases h
    obtain⟨a1,g1,g2,g3,g4⟩:=n1 k r1 hp
    obtain⟨v,hv⟩:=rN b ((at_:Nat):Int) ((33 - 0:Nat):Int) a a1 _ none (a1,11) g4 (.inr ⟨rfl, .inr (by decide),rfl⟩)
    exact⟨v,a1,(a1,11),rfl,hv⟩
 |d+1,hd=>by
  have ih:=II b hb d (by omega)
  intro a at_ ha hat
  obtain⟨n1,n2⟩:=mW b (by omega) a ha
  have start:∀{res:V×List Ob},Evt (fun k n=>T25 (aA cfg k) (L25 (aA cfg k) n) (ofBytes b) ((a:Nat):Int) true 0 .bot ((at_:Nat):Int) ((33 - (d+1):Nat):Int)) res→Ret 25 [.ref 0 0, .int .i64 ((at_:Nat):Int), .int .i64 ((33 - (d+1):Nat):Int)] [rdS b a none] res:=
   fun h=>M25 (ofBytes b) ((a:Nat):Int) true 0 .bot ((at_:Nat):Int) ((33 - (d+1):Nat):Int) h
  unfold RdF
  cases hp:lQ (b.drop a)with
  |error m=>
   refine⟨fun v r h=>?_,fun er h=>?_⟩
   ·rw[getT,cA hp]at h;cases h
   ·rw[getT,cA hp]at h
    cases h
    obtain⟨v0,a1,p,e1,g⟩:=n2 m hp
    obtain⟨v,hv⟩:=rN b ((at_:Nat):Int) ((33 - (d+1):Nat):Int) a a1 v0 (some p) p g (.inl rfl)
    exact⟨v,a1,p,e1,hv⟩
  |ok w=>
   obtain⟨k,r1⟩:=w
   obtain⟨a1,g1,g2,g3,g4⟩:=n1 k r1 hp
   have q1:=eK _ _ _ hp
   subst g3
   rw[List.length_drop,List.length_drop]at q1
   rw[getT,aY hp]
   by_cases hk:2<k
   ·rw[if_pos hk]
    refine⟨fun v r h=>?_,fun er h=>?_⟩
    ·cases h
    ·cases h
     obtain⟨v,hv⟩:=rN b ((at_:Nat):Int) ((33 - (d+1):Nat):Int) a a1 _ none (a1,11) g4 (.inr ⟨rfl, .inl (by rw[tP];omega),rfl⟩)
     exact⟨v,a1,(a1,11),rfl,hv⟩
   rw[if_neg hk]
   have hy:=Nh (x:=getI (JJ k)) (d:=d) (by rw[tP];omega) hd
   obtain⟨m1,m2⟩:=mW b (by omega) a1 g2
   cases hp2:lQ (b.drop a1)with
   |error m=>
    refine⟨fun v r h=>?_,fun er h=>?_⟩
    ·rw[cA hp2]at h;cases h
    ·rw[cA hp2]at h
     cases h
     obtain⟨v1,a2,p,e1,g⟩:=m2 m hp2
     obtain⟨v2,hn⟩:=vE b a2 p
     refine⟨?_,a2,p,e1,start ?_⟩
     rotate_left
     ·simp only[T25]
      refine aB g4 ?_
      simp only[hy,bA,Bool.false_eq_true,if_false,cH,cI,cJ,bB]
      refine aB g ?_
      simp only[cH,cI,cJ,bB]
      refine aB hn ?_
      simp only[cH,cI,cJ,kP,bB,Option.isNone_some,Bool.not_false,if_true]
      exact aD _
   |ok w2=>
    obtain⟨x,r2⟩:=w2
    obtain⟨a2,l1,l2,l3,l4⟩:=m1 x r2 hp2
    have q2:=eK _ _ _ hp2
    have hx:=mL hp2
    subst l3
    rw[List.length_drop,List.length_drop]at q2
    rw[aY hp2]
    obtain⟨o1,o2⟩:=mW b (by omega) a2 l2
    cases hp3:lQ (b.drop a2)with
    |error m=>
     refine⟨fun v r h=>?_,fun er h=>?_⟩
     ·rw[cA hp3]at h;cases h
     ·rw[cA hp3]at h
      cases h
      obtain⟨v1,a3,p,e1,g⟩:=o2 m hp3
      refine⟨?_,a3,p,e1,start ?_⟩
      rotate_left
      ·simp only[T25]
       refine aB g4 ?_
       simp only[hy,bA,Bool.false_eq_true,if_false,cH,cI,cJ,bB]
       refine aB l4 ?_
       simp only[cH,cI,cJ,bB]
       refine aB g ?_
       simp only[cH,cI,cJ,kP,bB,Option.isNone_some,Bool.not_false,if_true]
       exact aD _
    |ok w3=>
     obtain⟨y,r3⟩:=w3
     obtain⟨a3,u1,u2,u3,u4⟩:=o1 y r3 hp3
     have q3:=eK _ _ _ hp3
     have hyl:=mL hp3
     subst u3
     rw[List.length_drop,List.length_drop]at q3
     rw[aY hp3]
     have w1:IntKind.wrap .i64 (((at_:Nat):Int)+((x:Nat):Int))=((at_+x:Nat):Int):=by rw[wrap64 (by omega) (by omega)];omega
     have w2:IntKind.wrap .i64 (((at_+x:Nat):Int)+((y:Nat):Int))=((at_+x+y:Nat):Int):=by rw[wrap64 (by omega) (by omega)];omega
     have wd:IntKind.wrap .i64 (((33 - (d+1):Nat):Int)+1)=((33 - d:Nat):Int):=by rw[wrap64 (by omega) (by omega)];omega
     have front:∀{res:V×List Ob},Evt (fun k' n=>if(((k:Nat):Int)==(2:Int))=true then
        Option.bind (aA cfg k' 25 [.ref 0 0, .int .i64 ((at_+x:Nat):Int), .int .i64 ((33 - d:Nat):Int)] [rdS b a3 none]) fun z=>some (V.agg [.int .i64 ((k:Nat):Int), .int .i64 ((at_:Nat):Int), .int .i64 ((at_+x:Nat):Int), .int .i64 ((at_+x:Nat):Int), .int .i64 ((at_+x+y:Nat):Int), .lst 31 false [V.agg [V.int .i64 (V.getI (List.headD (V.cells z.1) V.bot)),V.int .i64 (V.getI (List.headD (List.tail (V.cells z.1)) V.bot)),V.int .i64 (V.getI (List.headD (List.tail (List.tail (V.cells z.1))) V.bot)),
         V.int .i64 (V.getI (List.headD (List.tail (List.tail (List.tail (V.cells z.1)))) V.bot)),V.int .i64 (V.getI (List.headD (List.tail (List.tail (List.tail (List.tail (V.cells z.1))))) V.bot)),
         V.lst 31 false (V.getL (List.headD (List.tail (List.tail (List.tail (List.tail (List.tail (V.cells z.1)))))) V.bot)),V.lst 27 false (V.getL (List.headD (List.tail (List.tail (List.tail (List.tail (List.tail (List.tail (V.cells z.1))))))) V.bot)),
         V.int .i64 (V.getI (List.headD (List.tail (List.tail (List.tail (List.tail (List.tail (List.tail (List.tail (V.cells z.1)))))))) V.bot)),V.int .i64 (V.getI (List.headD (List.tail (List.tail (List.tail (List.tail (List.tail (List.tail (List.tail (List.tail (V.cells z.1))))))))) V.bot))]], .lst 27 false [], .int .i64 0, .int .i64 0],[.cells [.lst 5 false (getL (headD (Ob.getC (headD z.2 Ob.dead)) V.bot)), .int .i64 (getI (headD (tail (Ob.getC (headD z.2 Ob.dead))) V.bot)), .ifo (V.ifN (headD (tail (tail (Ob.getC (headD z.2 Ob.dead)))) V.bot)) (V.ifT (headD (tail (tail (Ob.getC (headD z.2 Ob.dead)))) V.bot)) (V.ifV (headD (tail (tail (Ob.getC (headD z.2 Ob.dead)))) V.bot))]])
       else if(((k:Nat):Int)==(1:Int))=true then
        Option.bind (aA cfg k' 22 [.ref 0 0] [rdS b a3 none]) fun z=>
        if(decide ((getI z.1)>(1000:Int)))=true then
         Option.bind (aA cfg k' 23 [.ref 0 0, .int .i64 11] [.cells [.lst 5 false (getL (headD (Ob.getC (headD z.2 Ob.dead)) V.bot)), .int .i64 (getI (headD (tail (Ob.getC (headD z.2 Ob.dead))) V.bot)), .ifo (V.ifN (headD (tail (tail (Ob.getC (headD z.2 Ob.dead)))) V.bot)) (V.ifT (headD (tail (tail (Ob.getC (headD z.2 Ob.dead)))) V.bot)) (V.ifV (headD (tail (tail (Ob.getC (headD z.2 Ob.dead)))) V.bot))]]) fun z2=>
         L25 (aA cfg k') n ((at_+x:Nat):Int) ((33 - (d+1):Nat):Int) (getI z.1) 0 (getL (headD (Ob.getC (headD z2.2 Ob.dead)) V.bot)) (getI (headD (tail (Ob.getC (headD z2.2 Ob.dead))) V.bot)) (V.ifN (headD (tail (tail (Ob.getC (headD z2.2 Ob.dead)))) V.bot)) (V.ifT (headD (tail (tail (Ob.getC (headD z2.2 Ob.dead)))) V.bot)) (V.ifV (headD (tail (tail (Ob.getC (headD z2.2 Ob.dead)))) V.bot)) 0 0 0 0 0 [] [] 0 0 ((k:Nat):Int) ((at_:Nat):Int) ((at_+x:Nat):Int) ((at_+x:Nat):Int) ((at_+x+y:Nat):Int) [] [] 0 0
        else L25 (aA cfg k') n ((at_+x:Nat):Int) ((33 - (d+1):Nat):Int) (getI z.1) 0 (getL (headD (Ob.getC (headD z.2 Ob.dead)) V.bot)) (getI (headD (tail (Ob.getC (headD z.2 Ob.dead))) V.bot)) (V.ifN (headD (tail (tail (Ob.getC (headD z.2 Ob.dead)))) V.bot)) (V.ifT (headD (tail (tail (Ob.getC (headD z.2 Ob.dead)))) V.bot)) (V.ifV (headD (tail (tail (Ob.getC (headD z.2 Ob.dead)))) V.bot)) 0 0 0 0 0 [] [] 0 0 ((k:Nat):Int) ((at_:Nat):Int) ((at_+x:Nat):Int) ((at_+x:Nat):Int) ((at_+x+y:Nat):Int) [] [] 0 0
       else some (V.agg [.int .i64 ((k:Nat):Int), .int .i64 ((at_:Nat):Int), .int .i64 ((at_+x:Nat):Int), .int .i64 ((at_+x:Nat):Int), .int .i64 ((at_+x+y:Nat):Int), .lst 31 false [], .lst 27 false [], .int .i64 0, .int .i64 0],[rdS b a3 none])) res→
       Ret 25 [.ref 0 0, .int .i64 ((at_:Nat):Int), .int .i64 ((33 - (d+1):Nat):Int)] [rdS b a none] res:=by
      intro res h
      refine start ?_
      simp only[T25]
      refine aB g4 ?_
      simp only[hy,bA,Bool.false_eq_true,if_false,cH,cI,cJ,bB]
      refine aB l4 ?_
      simp only[cH,cI,cJ,bB]
      refine aB u4 ?_
      simp only[tP,cH,cI,cJ,kP,bB,Option.isNone_none,Bool.not_true,Bool.false_eq_true,if_false,w1,w2,wd]
      exact h
     by_cases hk0:k=0
     ·subst hk0
      rw[if_pos rfl]
      refine⟨fun v r h=>?_,fun er h=>(by cases h)⟩
      cases h
      refine⟨a3,by omega,u2,rfl,front ?_⟩
      have z2:(((0:Nat):Int)==(2:Int))=false:=rfl
      have z1:(((0:Nat):Int)==(1:Int))=false:=rfl
      simp only[z1,z2,Bool.false_eq_true,if_false,LC]
      exact aD _
     rw[if_neg hk0]
     by_cases hk2:k=2
     ·subst hk2
      rw[if_pos rfl]
      have z2:(((2:Nat):Int)==(2:Int))=true:=rfl
      obtain⟨t1,t2⟩:=ih a3 (at_+x) u2 (by omega)
      refine⟨fun v r h=>?_,fun er h=>?_⟩
      ·obtain⟨q,r4,h4,h5⟩:=bR h
       cases h5
       obtain⟨a4,c1,c2,c3,c4⟩:=t1 q r h4
       refine⟨a4,by omega,c2,c3,front ?_⟩
       simp only[z2,if_true]
       refine aB c4 ?_
       simp only[cH,cI,cJ,bB,dS]
       rw[partV,gP,gP]
       exact aD _
      ·cases h4:getT d (at_+x) (b.drop a3)with
       |ok w=>rw[aY (v:=w.1) (r:=w.2) h4]at h;cases h
       |error m=>
        rw[cA h4]at h
        cases h
        obtain⟨v1,a4,p,e1,g⟩:=t2 er h4
        refine⟨?_,a4,p,e1,front ?_⟩
        rotate_left
        ·simp only[z2,if_true]
         refine aB g ?_
         simp only[cH,cI,cJ,bB]
         exact aD _
     rw[if_neg hk2]
     have hk1:k=1:=by omega
     subst hk1
     have z2:(((1:Nat):Int)==(2:Int))=false:=rfl
     have z1:(((1:Nat):Int)==(1:Int))=true:=rfl
     obtain⟨p1,p2⟩:=mW b (by omega) a3 u2
     cases hp4:lQ (b.drop a3)with
     |error m=>
      refine⟨fun v r h=>?_,fun er h=>?_⟩
      ·rw[cA hp4]at h;cases h
      ·rw[cA hp4]at h
       cases h
       obtain⟨v1,a4,p,e1,g⟩:=p2 m hp4
       have hf:=qT b a4 (some p) 11
       obtain⟨v2,hl⟩:=vF b a4 p ((at_+x:Nat):Int) ((33 - (d+1):Nat):Int) (getI v1) 0 0 0 0 0 0 [] [] 0 0 ((1:Nat):Int) ((at_:Nat):Int) ((at_+x:Nat):Int) ((at_+x:Nat):Int) ((at_+x+y:Nat):Int) [] [] 0 0
       refine⟨v2,a4,p,e1,front ?_⟩
       simp only[z1,z2,Bool.false_eq_true,if_false,if_true]
       refine aB g ?_
       by_cases hg:getI v1>1000
       ·simp only[hg,decide_true,if_true,cH,cI,cJ,bB]
        refine aB hf ?_
        simp only[Option.or,cH,cI,cJ,kP]
        exact hl
       ·simp only[hg,decide_false,Bool.false_eq_true,if_false,cH,cI,cJ,kP]
        exact hl
     |ok w4=>
      obtain⟨n,r4⟩:=w4
      obtain⟨a4,c1,c2,c3,c4⟩:=p1 n r4 hp4
      have q4:=eK _ _ _ hp4
      subst c3
      rw[List.length_drop,List.length_drop]at q4
      rw[aY hp4]
      by_cases hn:1000<n
      ·rw[if_pos hn]
       refine⟨fun v r h=>?_,fun er h=>?_⟩
       ·cases h
       ·cases h
        have hf:=qT b a4 none 11
        obtain⟨v2,hl⟩:=vF b a4 (a4,11) ((at_+x:Nat):Int) ((33 - (d+1):Nat):Int) ((n:Nat):Int) 0 0 0 0 0 0 [] [] 0 0 ((1:Nat):Int) ((at_:Nat):Int) ((at_+x:Nat):Int) ((at_+x:Nat):Int) ((at_+x+y:Nat):Int) [] [] 0 0
        refine⟨v2,a4,(a4,11),rfl,front ?_⟩
        have hg:((n:Nat):Int)>1000:=by omega
        simp only[z1,z2,Bool.false_eq_true,if_false,if_true]
        refine aB c4 ?_
        simp only[tP,hg,decide_true,if_true,cH,cI,cJ,bB]
        refine aB hf ?_
        simp only[Option.or,cH,cI,cJ,kP]
        exact hl
      ·rw[if_neg hn]
       have hg:¬((n:Nat):Int)>1000:=by omega
       obtain⟨f1,f2⟩:=D4 b hb d hd ih 0 0 0 0 0 [] [] 0 0 ((1:Nat):Int) ((at_:Nat):Int) ((at_+x:Nat):Int) ((at_+x:Nat):Int) ((at_+x+y:Nat):Int) 0 0 n (by omega) n 0 a4 (at_+x) [] [] (by omega) rfl rfl c2 (by omega)
       have hK:dA (pH (fun a=>getT d a) n (at_+x)) (fun t=>dA (iP t.2.2) fun e=>tN (Pt.mk 1 (at_,at_+x) (at_+x,at_+x+y) t.2.1 t.1 e))=dA (qU d n (at_+x)) fun w=>tN (Pt.mk 1 (at_,at_+x) (at_+x,at_+x+y) w.1.2.1 w.1.1 w.2):=by
        funext s
        unfold qU dA
        cases pH (fun a=>getT d a) n (at_+x) s with
        |error e=>rfl
        |ok t=>
         simp only
         cases iP t.1.2.2 t.2 with
         |error e=>rfl
         |ok e=>rfl
       rw[hK]
       refine⟨fun v r h=>?_,fun er h=>?_⟩
       ·obtain⟨w,r5,h5,h6⟩:=bR h
        cases h6
        obtain⟨a5,d1,d2,d3,d4⟩:=f1 w.1 w.2 r h5
        refine⟨a5,by omega,d2,d3,front ?_⟩
        simp only[z1,z2,Bool.false_eq_true,if_false,if_true]
        refine aB c4 ?_
        simp only[tP,hg,decide_false,Bool.false_eq_true,if_false,cH,cI,cJ,kP,Option.isNone_none,IF,IG]
        rw[partV,fQ]
        simp only[List.nil_append]at d4
        exact d4
       ·cases h5:qU d n (at_+x) (b.drop a4)with
        |ok w=>rw[aY (v:=w.1) (r:=w.2) h5]at h;cases h
        |error m=>
         rw[cA h5]at h
         cases h
         obtain⟨v,a5,p,e1,d4⟩:=f2 er h5
         refine⟨v,a5,p,e1,front ?_⟩
         simp only[z1,z2,Bool.false_eq_true,if_false,if_true]
         refine aB c4 ?_
         simp only[tP,hg,decide_false,Bool.false_eq_true,if_false,cH,cI,cJ,kP,Option.isNone_none,IF,IG]
         exact d4
end Go.Proofs.YtgpofjbdjiajeaaGreatDoor
end
section
namespace Go.Proofs.YtgpofjbdjiajeaaGreatDoor
open Go.Ev Go
open List (headD tail getD length drop take)
open V (getI getL getT getS getB)
set_option maxRecDepth 100000
variable (call : FuncId → Fun)
abbrev Out:=Option (V×List Ob)
def rdO (l:List V) (at_:Int) (n:Bool) (t:Nat) (v:V):Ob:=Ob.cells [V.lst 5 false l,V.int .i64 at_,V.ifo n t v]
def rdL (z:V×List Ob):List V:=getL (headD (Ob.getC (headD z.2 Ob.dead)) V.bot)
def rdA (z:V×List Ob):Int:=getI (headD (tail (Ob.getC (headD z.2 Ob.dead))) V.bot)
def rdE (z:V×List Ob):V:=headD (tail (tail (Ob.getC (headD z.2 Ob.dead)))) V.bot
def rdK (z:V×List Ob) (K:List V→Int→Bool→Nat→V→Out):Out:=K (rdL z) (rdA z) (V.ifN (rdE z)) (V.ifT (rdE z)) (V.ifV (rdE z))
def bgN (a:List V):Int:=IntKind.wrap IntKind.i64 (((length a:Nat):Int) - (4:Int))
def bgC (a:List V) (K:Out):Out:=chk (decide (0≤bgN a)) (chk (decide (bgN a≤((length a:Nat):Int))) (chk (decide (0≤(0:Int))) (chk (decide ((0:Int)≤bgN a)) K)))
def bgS (a:List V):List V:=drop (Int.toNat (0:Int)) (take (Int.toNat (bgN a)) a)
def bgT (a:List V) (bad:Int→Out) (ok:List V→Out):Out:=
 if(decide (bgN a<(0:Int)))=true then bad 10 else
  Option.bind (call 24 [V.ref 0 0] [rdO a (bgN a) true 0 V.bot]) fun z0=>
  bgC a (Option.bind (call 19 [V.lst 5 false (bgS a)] []) fun z1=>
  if((getI z0.1) != (getI z1.1))=true then bad 15 else
   if(decide (bgN a<(3:Int)))=false then
    chk (decide (0≤(3:Int))) (chk (decide ((3:Int)≤((length a:Nat):Int))) (chk (decide (0≤(0:Int))) (chk (decide ((0:Int)≤(3:Int)))
     (if(!(sEq (bytesOf (drop (Int.toNat (0:Int)) (take (Int.toNat (3:Int)) a))) [76,66,1]))=true then bad 11 else bgC a (ok (bgS a))))))
   else bad 11)
def T14 (a:List V):Out:=
 bgT call a (fun _=>some (V.tup [V.int .i64 (0:Int),V.bool false],[])) fun l=>
 Option.bind (call 22 [V.ref 0 0] [rdO l 3 true 0 V.bot]) fun z=>some (V.tup [V.int .i64 (getI z.1),V.bool (V.ifN (rdE z))],[])
def pt9 (c0 c1 c2 c3 c4:Int) (c5 c6:List V) (c7 c8:Int):V:=V.agg [V.int .i64 c0,V.int .i64 c1,V.int .i64 c2,V.int .i64 c3,V.int .i64 c4,V.lst 31 false c5,V.lst 27 false c6,V.int .i64 c7,V.int .i64 c8]
def pt0:V:=pt9 0 0 0 0 0 [] [] 0 0
def ptZ (v:V):V:=pt9 (getI (headD v.cells V.bot)) (getI (headD (tail v.cells) V.bot)) (getI (headD (tail (tail v.cells)) V.bot)) (getI (headD (tail (tail (tail v.cells))) V.bot)) (getI (headD (tail (tail (tail (tail v.cells)))) V.bot)) (getL (headD (tail (tail (tail (tail (tail v.cells))))) V.bot)) (getL (headD (tail (tail (tail (tail (tail (tail v.cells)))))) V.bot)) (getI (headD (tail (tail (tail (tail (tail (tail (tail v.cells))))))) V.bot)) (getI (headD (tail (tail (tail (tail (tail (tail (tail (tail v.cells)))))))) V.bot))
def Gg (b:List V) (p:V) (_:List V) (_:Int) (n:Bool) (t:Nat) (v:V):Out:=
 if(!n)=true then Option.bind (call 26 [V.ifo n t v] []) fun z=>some (V.tup [pt0,V.int .i64 (getI z.1)],[])
 else Option.bind (call 16 [p,V.int .i64 ((length b:Nat):Int)] []) fun z=>if((getI z.1) != (0:Int))=true then some (V.tup [pt0,V.int .i64 (getI z.1)],[])else some (V.tup [p,V.int .i64 (0:Int)],[])
def qV (b:List V) (p:V) (l:List V) (at_:Int) (n:Bool) (t:Nat) (v:V):Out:=
 Option.bind (if n=true then some (decide (at_<((length l:Nat):Int)))else some false) fun y=>
 if y=true then Option.bind (call 23 [V.ref 0 0,V.int .i64 (12:Int)] [rdO l at_ n t v]) fun z=>rdK z (Gg call b p)else Gg call b p l at_ n t v
def mX (b:List V) (l:List V) (at_:Int) (n:Bool) (t:Nat) (v:V):Out:=
 if n=true then Option.bind (call 25 [V.ref 0 0,V.int .i64 (0:Int),V.int .i64 (0:Int)] [rdO l at_ n t v]) fun z=>rdK z (qV call b (ptZ z.1))else qV call b pt0 l at_ n t v
def yI (b:List V) (x:Int) (l:List V) (at_:Int) (n:Bool) (t:Nat) (v:V):Out:=
 if n=true then Option.bind (call 19 [V.lst 5 false b] []) fun z=>
  if(x != (getI z.1))=true then Option.bind (call 23 [V.ref 0 0,V.int .i64 (34:Int)] [rdO l at_ n t v]) fun z=>rdK z (mX call b)else mX call b l at_ n t v
 else mX call b l at_ n t v
def pA (b:List V) (l:List V) (at_:Int) (n:Bool) (t:Nat) (v:V):Out:=
 Option.bind (call 24 [V.ref 0 0] [rdO l at_ n t v]) fun z=>rdK z (yI call b (getI z.1))
def qW (b:List V) (x:Int) (l:List V) (at_:Int) (n:Bool) (t:Nat) (v:V):Out:=
 Option.bind (if n=true then some (x != ((length b:Nat):Int))else some false) fun y=>
 if y=true then Option.bind (call 23 [V.ref 0 0,V.int .i64 (34:Int)] [rdO l at_ n t v]) fun z=>rdK z (pA call b)else pA call b l at_ n t v
def T9 (b a:List V):Out:=
 bgT call a (fun e=>some (V.tup [pt0,V.int .i64 e],[])) fun l=>
 Option.bind (call 22 [V.ref 0 0] [rdO l 3 true 0 V.bot]) fun z=>rdK z (qW call b (getI z.1))
theorem C14 (k:Nat) (a:List V):aA cfg (k+1) 14 [V.lst 5 false a] []=T14 (aA cfg k) a:=by kernel_rfl
theorem M14 (a:List V) {r:V×List Ob} (h:Evt (fun k _=>T14 (aA cfg k) a) r):Ret 14 [V.lst 5 false a] [] r:=aR (g:=fun k _=>T14 (aA cfg k) a) (fun k=>C14 k a) h
theorem C9 (k:Nat) (b a:List V):aA cfg (k+1) 9 [V.lst 5 false b,V.lst 5 false a] []=T9 (aA cfg k) b a:=by kernel_rfl
theorem M9 (b a:List V) {r:V×List Ob} (h:Evt (fun k _=>T9 (aA cfg k) b a) r):Ret 9 [V.lst 5 false b,V.lst 5 false a] [] r:=aR (g:=fun k _=>T9 (aA cfg k) b a) (fun k=>C9 k b a) h
end Go.Proofs.YtgpofjbdjiajeaaGreatDoor
end
section
namespace Go.Proofs.YtgpofjbdjiajeaaGreatDoor
open Go.Ev Go
open List (headD tail getD length drop take)
open V (getI getL getT getS getB)
set_option maxRecDepth 100000
variable (call : FuncId → Fun) (icall : aN (V × List Ob)) (again : List It → St → Option (V × List Ob))
def T43 (call:FuncId→Fun) (a0:Int) (a1:Int) (a2:Int) (a3:Int) (a4:Int) (a5:List V) (a6:List V) (a7:Int) (a8:Int):Option (V×List Ob):=
 some ((V.agg [(V.int .i64 a1),(V.int .i64 a4)]),[])
def A43 (a0:Int) (a1:Int) (a2:Int) (a3:Int) (a4:Int) (a5:List V) (a6:List V) (a7:Int) (a8:Int):List V:=[V.agg [V.int IntKind.i64 a0,V.int IntKind.i64 a1,V.int IntKind.i64 a2,V.int IntKind.i64 a3,V.int IntKind.i64 a4,V.lst 31 false a5,V.lst 27 false a6,V.int IntKind.i64 a7,V.int IntKind.i64 a8]]
theorem E43 (a0:Int) (a1:Int) (a2:Int) (a3:Int) (a4:Int) (a5:List V) (a6:List V) (a7:Int) (a8:Int):GO 43 Tryz.f43 (A43 a0 a1 a2 a3 a4 a5 a6 a7 a8) [] call icall again=T43 call a0 a1 a2 a3 a4 a5 a6 a7 a8:=by kernel_rfl
theorem C43 (k:Nat) (a0:Int) (a1:Int) (a2:Int) (a3:Int) (a4:Int) (a5:List V) (a6:List V) (a7:Int) (a8:Int):aA cfg (k+1) 43 (A43 a0 a1 a2 a3 a4 a5 a6 a7 a8) []=T43 (aA cfg k) a0 a1 a2 a3 a4 a5 a6 a7 a8:=
 (show aA cfg (k+1) 43 (A43 a0 a1 a2 a3 a4 a5 a6 a7 a8) []=GO 43 Tryz.f43 (A43 a0 a1 a2 a3 a4 a5 a6 a7 a8) [] (aA cfg k) (aF cfg (aA cfg k) 20) (RN 43 Tryz.f43 [] (aA cfg k) (aF cfg (aA cfg k) 20) k)by kernel_rfl).trans (E43 _ _ _ a0 a1 a2 a3 a4 a5 a6 a7 a8)
theorem M43 (a0:Int) (a1:Int) (a2:Int) (a3:Int) (a4:Int) (a5:List V) (a6:List V) (a7:Int) (a8:Int) {r:V×List Ob} (h:Evt (fun k n=>T43 (aA cfg k) a0 a1 a2 a3 a4 a5 a6 a7 a8) r):Ret 43 [V.agg [V.int IntKind.i64 a0,V.int IntKind.i64 a1,V.int IntKind.i64 a2,V.int IntKind.i64 a3,V.int IntKind.i64 a4,V.lst 31 false a5,V.lst 27 false a6,V.int IntKind.i64 a7,V.int IntKind.i64 a8]] [] r:=aR (g:=fun k n=>T43 (aA cfg k) a0 a1 a2 a3 a4 a5 a6 a7 a8) (fun k=>C43 k a0 a1 a2 a3 a4 a5 a6 a7 a8) h
def T42 (call:FuncId→Fun) (a0:Int) (a1:Int) (a2:Int) (a3:Int) (a4:Int) (a5:List V) (a6:List V) (a7:Int) (a8:Int):Option (V×List Ob):=
 if(((length a6:Nat):Int)==(0:Int))=true then
 if(a0==(0:Int))=true then
 Option.bind (if((a7==(0:Int))&&((a8==(0:Int))&&true))=true then
 some (((length a5:Nat):Int)==(0:Int))
 else
 some false) fun y0=>
 if y0=true then
 if(a2==a3)=true then
 if(decide (a3≤a4))=true then
 Option.bind (call 67 [(V.lst 31 false a5),(V.clo (Fn.func 68) [] [])] []) fun z1=>
 some ((V.bool (!(getB z1.1))),[])
 else
 some ((V.bool false),[])
 else
 some ((V.bool false),[])
 else
 some ((V.bool false),[])
 else
 if(a0==(1:Int))=true then
 Option.bind (if(decide (((length a5:Nat):Int)>(0:Int)))=true then
 some (((length a5:Nat):Int)==((length a6:Nat):Int))
 else
 some false) fun y0=>
 if y0=true then
 if(a2==a3)=true then
 if(decide (a3≤a4))=true then
 Option.bind (call 67 [(V.lst 31 false a5),(V.clo (Fn.func 68) [] [])] []) fun z1=>
 some ((V.bool (!(getB z1.1))),[])
 else
 some ((V.bool false),[])
 else
 some ((V.bool false),[])
 else
 some ((V.bool false),[])
 else
 if(a0==(2:Int))=true then
 if((a7==(0:Int))&&((a8==(0:Int))&&true))=true then
 if(((length a5:Nat):Int)==(1:Int))=true then
 chk (decide (0≤(0:Int))) (chk (decide ((0:Int)<((length a5:Nat):Int))) (Option.bind (call 43 [(V.agg [(V.int .i64 (getI (headD (V.cells (getD a5 (Int.toNat (0:Int)) V.bot)) V.bot))),(V.int .i64 (getI (headD (tail (V.cells (getD a5 (Int.toNat (0:Int)) V.bot))) V.bot))),(V.int .i64 (getI (headD (tail (tail (V.cells (getD a5 (Int.toNat (0:Int)) V.bot)))) V.bot))),(V.int .i64 (getI (headD (tail (tail (tail (V.cells (getD a5 (Int.toNat (0:Int)) V.bot))))) V.bot))),(V.int .i64 (getI (headD (tail (tail (tail (tail (V.cells (getD a5 (Int.toNat (0:Int)) V.bot)))))) V.bot))),(V.lst 31 false (getL (headD (tail (tail (tail (tail (tail (V.cells (getD a5 (Int.toNat (0:Int)) V.bot))))))) V.bot))),(V.lst 27 false (getL (headD (tail (tail (tail (tail (tail (tail (V.cells (getD a5 (Int.toNat (0:Int)) V.bot)))))))) V.bot))),(V.int .i64 (getI (headD (tail (tail (tail (tail (tail (tail (tail (V.cells (getD a5 (Int.toNat (0:Int)) V.bot))))))))) V.bot))),(V.int .i64 (getI (headD (tail (tail (tail (tail (tail (tail (tail (tail (V.cells (getD a5 (Int.toNat (0:Int)) V.bot)))))))))) V.bot)))])] []) fun z0=>
 if(((getI (headD (V.cells z0.1) V.bot))==a3)&&(((getI (headD (tail (V.cells z0.1)) V.bot))==a4)&&true))=true then
 if(a2==a3)=true then
 if(decide (a3≤a4))=true then
 Option.bind (call 67 [(V.lst 31 false a5),(V.clo (Fn.func 68) [] [])] []) fun z1=>
 some ((V.bool (!(getB z1.1))),[])
 else
 some ((V.bool false),[])
 else
 some ((V.bool false),[])
 else
 some ((V.bool false),[])))
 else
 some ((V.bool false),[])
 else
 some ((V.bool false),[])
 else
 some ((V.bool false),[])
 else
 if(a0==(0:Int))=true then
 Option.bind (some false) fun y0=>
 if y0=true then
 if(a2==a3)=true then
 if(decide (a3≤a4))=true then
 Option.bind (call 67 [(V.lst 31 false a5),(V.clo (Fn.func 68) [] [])] []) fun z1=>
 some ((V.bool (!(getB z1.1))),[])
 else
 some ((V.bool false),[])
 else
 some ((V.bool false),[])
 else
 some ((V.bool false),[])
 else
 if(a0==(1:Int))=true then
 Option.bind (if(decide (((length a5:Nat):Int)>(0:Int)))=true then
 some (((length a5:Nat):Int)==((length a6:Nat):Int))
 else
 some false) fun y0=>
 if y0=true then
 if(a2==a3)=true then
 if(decide (a3≤a4))=true then
 Option.bind (call 67 [(V.lst 31 false a5),(V.clo (Fn.func 68) [] [])] []) fun z1=>
 some ((V.bool (!(getB z1.1))),[])
 else
 some ((V.bool false),[])
 else
 some ((V.bool false),[])
 else
 some ((V.bool false),[])
 else
 if(a0==(2:Int))=true then
 some ((V.bool false),[])
 else
 some ((V.bool false),[])
def A42 (a0:Int) (a1:Int) (a2:Int) (a3:Int) (a4:Int) (a5:List V) (a6:List V) (a7:Int) (a8:Int):List V:=[V.agg [V.int IntKind.i64 a0,V.int IntKind.i64 a1,V.int IntKind.i64 a2,V.int IntKind.i64 a3,V.int IntKind.i64 a4,V.lst 31 false a5,V.lst 27 false a6,V.int IntKind.i64 a7,V.int IntKind.i64 a8]]
theorem E42 (a0:Int) (a1:Int) (a2:Int) (a3:Int) (a4:Int) (a5:List V) (a6:List V) (a7:Int) (a8:Int):GO 42 Tryz.f42 (A42 a0 a1 a2 a3 a4 a5 a6 a7 a8) [] call icall again=T42 call a0 a1 a2 a3 a4 a5 a6 a7 a8:=by kernel_rfl
theorem C42 (k:Nat) (a0:Int) (a1:Int) (a2:Int) (a3:Int) (a4:Int) (a5:List V) (a6:List V) (a7:Int) (a8:Int):aA cfg (k+1) 42 (A42 a0 a1 a2 a3 a4 a5 a6 a7 a8) []=T42 (aA cfg k) a0 a1 a2 a3 a4 a5 a6 a7 a8:=
 (show aA cfg (k+1) 42 (A42 a0 a1 a2 a3 a4 a5 a6 a7 a8) []=GO 42 Tryz.f42 (A42 a0 a1 a2 a3 a4 a5 a6 a7 a8) [] (aA cfg k) (aF cfg (aA cfg k) 20) (RN 42 Tryz.f42 [] (aA cfg k) (aF cfg (aA cfg k) 20) k)by kernel_rfl).trans (E42 _ _ _ a0 a1 a2 a3 a4 a5 a6 a7 a8)
theorem M42 (a0:Int) (a1:Int) (a2:Int) (a3:Int) (a4:Int) (a5:List V) (a6:List V) (a7:Int) (a8:Int) {r:V×List Ob} (h:Evt (fun k n=>T42 (aA cfg k) a0 a1 a2 a3 a4 a5 a6 a7 a8) r):Ret 42 [V.agg [V.int IntKind.i64 a0,V.int IntKind.i64 a1,V.int IntKind.i64 a2,V.int IntKind.i64 a3,V.int IntKind.i64 a4,V.lst 31 false a5,V.lst 27 false a6,V.int IntKind.i64 a7,V.int IntKind.i64 a8]] [] r:=aR (g:=fun k n=>T42 (aA cfg k) a0 a1 a2 a3 a4 a5 a6 a7 a8) (fun k=>C42 k a0 a1 a2 a3 a4 a5 a6 a7 a8) h
def T68 (call:FuncId→Fun) (a0:Int) (a1:Int) (a2:Int) (a3:Int) (a4:Int) (a5:List V) (a6:List V) (a7:Int) (a8:Int):Option (V×List Ob):=
 Option.bind (call 42 [(V.agg [(V.int .i64 a0),(V.int .i64 a1),(V.int .i64 a2),(V.int .i64 a3),(V.int .i64 a4),(V.lst 31 false a5),(V.lst 27 false a6),(V.int .i64 a7),(V.int .i64 a8)])] []) fun z0=>
 some ((V.bool (!(getB z0.1))),[])
def A68 (a0:Int) (a1:Int) (a2:Int) (a3:Int) (a4:Int) (a5:List V) (a6:List V) (a7:Int) (a8:Int):List V:=[V.agg [V.int IntKind.i64 a0,V.int IntKind.i64 a1,V.int IntKind.i64 a2,V.int IntKind.i64 a3,V.int IntKind.i64 a4,V.lst 31 false a5,V.lst 27 false a6,V.int IntKind.i64 a7,V.int IntKind.i64 a8]]
theorem E68 (a0:Int) (a1:Int) (a2:Int) (a3:Int) (a4:Int) (a5:List V) (a6:List V) (a7:Int) (a8:Int):GO 68 Tryz.f68 (A68 a0 a1 a2 a3 a4 a5 a6 a7 a8) [] call icall again=T68 call a0 a1 a2 a3 a4 a5 a6 a7 a8:=by kernel_rfl
theorem C68 (k:Nat) (a0:Int) (a1:Int) (a2:Int) (a3:Int) (a4:Int) (a5:List V) (a6:List V) (a7:Int) (a8:Int):aA cfg (k+1) 68 (A68 a0 a1 a2 a3 a4 a5 a6 a7 a8) []=T68 (aA cfg k) a0 a1 a2 a3 a4 a5 a6 a7 a8:=
 (show aA cfg (k+1) 68 (A68 a0 a1 a2 a3 a4 a5 a6 a7 a8) []=GO 68 Tryz.f68 (A68 a0 a1 a2 a3 a4 a5 a6 a7 a8) [] (aA cfg k) (aF cfg (aA cfg k) 20) (RN 68 Tryz.f68 [] (aA cfg k) (aF cfg (aA cfg k) 20) k)by kernel_rfl).trans (E68 _ _ _ a0 a1 a2 a3 a4 a5 a6 a7 a8)
theorem M68 (a0:Int) (a1:Int) (a2:Int) (a3:Int) (a4:Int) (a5:List V) (a6:List V) (a7:Int) (a8:Int) {r:V×List Ob} (h:Evt (fun k n=>T68 (aA cfg k) a0 a1 a2 a3 a4 a5 a6 a7 a8) r):Ret 68 [V.agg [V.int IntKind.i64 a0,V.int IntKind.i64 a1,V.int IntKind.i64 a2,V.int IntKind.i64 a3,V.int IntKind.i64 a4,V.lst 31 false a5,V.lst 27 false a6,V.int IntKind.i64 a7,V.int IntKind.i64 a8]] [] r:=aR (g:=fun k n=>T68 (aA cfg k) a0 a1 a2 a3 a4 a5 a6 a7 a8) (fun k=>C68 k a0 a1 a2 a3 a4 a5 a6 a7 a8) h
def T67 (call:FuncId→Fun) (a0:List V):Option (V×List Ob):=
 Option.bind (call 96 [(V.lst 31 false a0),(V.clo (Fn.func 68) [] [])] []) fun z0=>
 some ((V.bool (decide ((getI z0.1)≥(0:Int)))),[])
def A67 (a0:List V):List V:=[V.lst 31 false a0,V.clo (Fn.func 68) [] []]
theorem E67 (a0:List V):GO 67 Tryz.f67 (A67 a0) [] call icall again=T67 call a0:=by kernel_rfl
theorem C67 (k:Nat) (a0:List V):aA cfg (k+1) 67 (A67 a0) []=T67 (aA cfg k) a0:=
 (show aA cfg (k+1) 67 (A67 a0) []=GO 67 Tryz.f67 (A67 a0) [] (aA cfg k) (aF cfg (aA cfg k) 20) (RN 67 Tryz.f67 [] (aA cfg k) (aF cfg (aA cfg k) 20) k)by kernel_rfl).trans (E67 _ _ _ a0)
theorem M67 (a0:List V) {r:V×List Ob} (h:Evt (fun k n=>T67 (aA cfg k) a0) r):Ret 67 [V.lst 31 false a0,V.clo (Fn.func 68) [] []] [] r:=aR (g:=fun k n=>T67 (aA cfg k) a0) (fun k=>C67 k a0) h
def Gi (call:FuncId→Fun) (ag0:List V→Int→Int→Option (V×List Ob)) (l0:List V) (i1:Int) (i2:Int):Option (V×List Ob):=
 if(decide (i2<i1))=true then
 chk (decide (0≤i2)) (chk (decide (i2<((length l0:Nat):Int))) (Option.bind (call 68 [(V.agg [(V.int .i64 (getI (headD (V.cells (getD l0 (Int.toNat i2) V.bot)) V.bot))),(V.int .i64 (getI (headD (tail (V.cells (getD l0 (Int.toNat i2) V.bot))) V.bot))),(V.int .i64 (getI (headD (tail (tail (V.cells (getD l0 (Int.toNat i2) V.bot)))) V.bot))),(V.int .i64 (getI (headD (tail (tail (tail (V.cells (getD l0 (Int.toNat i2) V.bot))))) V.bot))),(V.int .i64 (getI (headD (tail (tail (tail (tail (V.cells (getD l0 (Int.toNat i2) V.bot)))))) V.bot))),(V.lst 31 false (getL (headD (tail (tail (tail (tail (tail (V.cells (getD l0 (Int.toNat i2) V.bot))))))) V.bot))),(V.lst 27 false (getL (headD (tail (tail (tail (tail (tail (tail (V.cells (getD l0 (Int.toNat i2) V.bot)))))))) V.bot))),(V.int .i64 (getI (headD (tail (tail (tail (tail (tail (tail (tail (V.cells (getD l0 (Int.toNat i2) V.bot))))))))) V.bot))),(V.int .i64 (getI (headD (tail (tail (tail (tail (tail (tail (tail (tail (V.cells (getD l0 (Int.toNat i2) V.bot)))))))))) V.bot)))])] []) fun z0=>
 if(getB z0.1)=true then
 some ((V.int .i64 i2),[])
 else
 (ag0 (l0) (i1) ((IntKind.wrap .i64 (i2+(1:Int)))))))
 else
 some ((V.int .i64 (-1:Int)),[])
def T96 (call:FuncId→Fun) (ag0:List V→Int→Int→Option (V×List Ob)) (a0:List V):Option (V×List Ob):=
 (ag0 (a0) (((length a0:Nat):Int)) ((0:Int)))
def A96 (a0:List V):List V:=[V.lst 31 false a0,V.clo (Fn.func 68) [] []]
def CU (l0:List V) (i1:Int) (i2:Int):St:=⟨[(V.lst 31 false l0),(V.clo (Fn.func 68) [] []),V.bot,V.bot,V.bot,V.bot,V.bot,(V.int IntKind.i64 i1),(V.int IntKind.i64 i2)]++List.replicate 10 V.bot,[]⟩
theorem Ri (l0:List V) (i1:Int) (i2:Int):
 RM 96 Tryz.f96 [] call icall again (aL Tryz.f96 0) (CU l0 i1 i2)=Gi call (fun l0 i1 i2=>again (aL Tryz.f96 0) (CU l0 i1 i2)) l0 i1 i2:=by kernel_rfl
theorem E96 (a0:List V):GO 96 Tryz.f96 (A96 a0) [] call icall again=T96 call (fun l0 i1 i2=>again (aL Tryz.f96 0) (CU l0 i1 i2)) a0:=by kernel_rfl
def L96 (call:FuncId→Fun):Nat→(List V→Int→Int→Option (V×List Ob))
 |0=>fun _ _ _=>none
 |n+1=>Gi call (L96 call n)
theorem R96 (call:FuncId→Fun) (icall:aN (V×List Ob)):∀n,(∀(l0:List V) (i1:Int) (i2:Int),RN 96 Tryz.f96 [] call icall n (aL Tryz.f96 0) (CU l0 i1 i2)=(L96 call n) l0 i1 i2)
 |0=>fun l0 i1 i2=>rfl
 |n+1=>by
  have ih:=R96 call icall n
  exact fun l0 i1 i2=>(Ri call icall (RN 96 Tryz.f96 [] call icall n) l0 i1 i2).trans (by rw[show(fun l0 i1 i2=>RN 96 Tryz.f96 [] call icall n (aL Tryz.f96 0) (CU l0 i1 i2))=(L96 call n)from(funext fun l0=>funext fun i1=>funext fun i2=>ih l0 i1 i2)];rfl)
theorem C96 (k:Nat) (a0:List V):aA cfg (k+1) 96 (A96 a0) []=T96 (aA cfg k) (L96 (aA cfg k) k) a0:=by
 have ih:=R96 (aA cfg k) (aF cfg (aA cfg k) 20) k
 refine(show aA cfg (k+1) 96 (A96 a0) []=GO 96 Tryz.f96 (A96 a0) [] (aA cfg k) (aF cfg (aA cfg k) 20) (RN 96 Tryz.f96 [] (aA cfg k) (aF cfg (aA cfg k) 20) k)by kernel_rfl).trans ((E96 _ _ _ a0).trans ?_)
 rw[show(fun l0 i1 i2=>RN 96 Tryz.f96 [] (aA cfg k) (aF cfg (aA cfg k) 20) k (aL Tryz.f96 0) (CU l0 i1 i2))=(L96 (aA cfg k) k)from(funext fun l0=>funext fun i1=>funext fun i2=>ih l0 i1 i2)]
theorem M96 (a0:List V) {r:V×List Ob} (h:Evt (fun k n=>T96 (aA cfg k) (L96 (aA cfg k) n) a0) r):Ret 96 [V.lst 31 false a0,V.clo (Fn.func 68) [] []] [] r:=aR (g:=fun k n=>T96 (aA cfg k) (L96 (aA cfg k) n) a0) (fun k=>C96 k a0) h
theorem N9 (l0:List V) (i1:Int) (i2:Int) {r:V×List Ob} (h:Evt (fun k n=>Gi (aA cfg k) (L96 (aA cfg k) n) l0 i1 i2) r):Evt (fun k n=>(L96 (aA cfg k) n) l0 i1 i2) r:=aX (fun k n=>rfl) h
end Go.Proofs.YtgpofjbdjiajeaaGreatDoor
end
section
namespace Go.Proofs.YtgpofjbdjiajeaaGreatDoor
open Go.Ev Go
theorem JK {f:FuncId} {args:List V} {objs:List Ob} {r:V×List Ob} {h:(FuncId→Go.Ev.Fun)→Go.Ev.Fun} (hh:cfg.hand f=some h) (e:Evt (fun k _=>h (aA cfg k) args objs) r):Ret f args objs r:=by
 obtain⟨K,e⟩:=e
 refine⟨K+1,fun k hk=>?_⟩
 obtain⟨j,rfl⟩:∃j,k=j+1:=⟨k - 1,by omega⟩
 simp only[aA,hh];exact e j j (by omega) (by omega)
theorem Oa (p:Pt):Ret 43 [partV p] [] (.agg [.int .i64 (p.hd.1:Nat), .int .i64 (p.bd.2:Nat)],[]):=by
 rw[←qS p]
 refine M43 (p.kd:Nat) (p.hd.1:Nat) (p.hd.2:Nat) (p.bd.1:Nat) (p.bd.2:Nat) (p.ks.map partV) (p.cs.map cutV) (p.en.1:Nat) (p.en.2:Nat) ?_
 simp only[T43]
 exact aD _
theorem Rj (p:Pt) (n:Int) (h:(aV p).length<1099511627776) (hc:cntF p≤1000000) {ft:Bool} (hf:Ret 42 [partV p] [] (.bool ft,[])):
  Ret 16 [partV p, .int .i64 n] [] (.int .i64 (yO (cntF p:Nat) (dpF p:Nat) ft (p.hd.1:Nat) (p.bd.2:Nat) n (aV p)),[]):=by
 refine JK (h:=uQ) (by kernel_rfl) ?_
 obtain⟨K1,h1⟩:=N1 p hc
 obtain⟨K2,h2⟩:=N2 p hc
 obtain⟨K3,h3⟩:=hf
 obtain⟨K4,h4⟩:=Oa p
 refine⟨K1+K2+K3+K4,fun k _ hk _=>?_⟩
 have e1:=h1 k (by omega)
 have e2:=h2 k (by omega)
 have e3:=h3 k (by omega)
 have e4:=h4 k (by omega)
 simp only[uQ,Jh p h,e1,e2,e3,e4]
mutual
theorem Oc:∀p:Pt,pG p→cntF p≤1000000→Ret 42 [partV p] [] (.bool true,[])
 | .mk k h b kids cuts e,hf,hc=>by
  rw[pG]at hf
  rw[cntF]at hc
  obtain⟨hk,hb1,hb2,hl⟩:=hf
  have ih:=Rk kids hl (by omega)
  rw[partV,fQ]
  refine M42 (k:Nat) (h.1:Nat) (h.2:Nat) (b.1:Nat) (b.2:Nat) (kids.map partV) (cuts.map cutV) (e.1:Nat) (e.2:Nat) ?_
  have g2:(((h.2:Nat):Int)==((b.1:Nat):Int))=true:=by rw[hb1];simp
  have g3:(((b.1:Nat):Int)≤((b.2:Nat):Int)):=by omega
  have go:Evt (fun(k _:Nat)=>Option.bind (aA cfg k 67 [.lst 31 false (kids.map partV), .clo (.func 68) [] []] []) fun z1=>some ((V.bool (!(V.getB z1.1))),([]:List Ob))) (.bool true,[]):=by
   refine aB ih ?_
   exact aD _
  rcases hk with⟨rfl,rfl,rfl,rfl⟩|⟨rfl,h0,h1⟩|⟨rfl,rfl,rfl,q,rfl,hq1,hq2⟩
  ·refine HA (fun k n=>?_) go
   simp only[T42,g2,g3,decide_true,if_true]
   rfl
  ·have k1:((((kids.map partV).length:Nat):Int)>0):=by rw[List.length_map];omega
   have k2:((((kids.map partV).length:Nat):Int)==(((cuts.map cutV).length:Nat):Int))=true:=by rw[List.length_map,List.length_map,h1];simp
   have k3:((((cuts.map cutV).length:Nat):Int)==0)=false:=by
    have:¬((((cuts.map cutV).length:Nat):Int)=0):=by rw[List.length_map];omega
    simpa using this
   have k4:((((1:Nat):Int))==0)=false:=rfl
   have k5:((((1:Nat):Int))==1)=true:=rfl
   refine HA (fun k n=>?_) go
   simp only[T42,g2,g3,k1,k2,k3,k4,k5,decide_true,if_true,Bool.false_eq_true,if_false,bA]
  ·have r25:=Oa q
   have k3:((((0:Nat):Int))==0)=true:=rfl
   have k4:((((2:Nat):Int))==0)=false:=rfl
   have k5:((((2:Nat):Int))==1)=false:=rfl
   have k6:((((2:Nat):Int))==2)=true:=rfl
   have k7:((((1:Nat):Int))==1)=true:=rfl
   have k8:(0:Int)<((1:Nat):Int):=by omega
   have k9:(((q.hd.1:Nat):Int)==((b.1:Nat):Int))=true:=by rw[hq1];simp
   have ka:(((q.bd.2:Nat):Int)==((b.2:Nat):Int))=true:=by rw[hq2];simp
   have hd:([q].map partV).getD 0 .bot=partV q:=rfl
   simp only[T42,g2,g3,k3,k4,k5,k6,k7,decide_true,if_true,Bool.false_eq_true,if_false,List.map_nil,List.length_nil,List.length_map,List.length_cons,Nat.zero_add,Bool.and_self,aI (Int.le_refl 0),aI k8,Int.toNat_zero,hd,dS]
   refine aB r25 ?_
   have c25:V.cells (.agg [.int .i64 (q.hd.1:Nat), .int .i64 (q.bd.2:Nat)])=[.int .i64 (q.hd.1:Nat), .int .i64 (q.bd.2:Nat)]:=rfl
   simp only[c25,List.headD_cons,List.tail_cons,eI,k9,ka,Bool.and_self,if_true]
   exact go
theorem Rk:∀l:List Pt,mJ l→eJ l≤1000000→Ret 67 [.lst 31 false (l.map partV), .clo (.func 68) [] []] [] (.bool false,[])
 |l,hf,hc=>by
  refine M67 (l.map partV) ?_
  simp only[T67]
  have r67:Ret 96 [.lst 31 false (l.map partV), .clo (.func 68) [] []] [] (.int .i64 (-1),[]):=by
   refine M96 (l.map partV) ?_
   simp only[T96,List.length_map]
   exact LZ l [] hf (by simpa using hc)
  refine aB r67 ?_
  exact aD _
theorem LZ:∀(r pre:List Pt),mJ r→pre.length+eJ r≤1000000→
  Evt (fun k j=>L96 (aA cfg k) j ((pre++r).map partV) ((pre++r).length:Nat) (pre.length:Nat)) (.int .i64 (-1),[])
 |[],pre,hf,h=>by
  refine N9 ((pre++[]).map partV) ((pre++[]).length:Nat) (pre.length:Nat) ?_
  have h1:¬((pre.length:Int)<((pre++[]).length:Nat)):=by simp
  simp only[Gi,h1,decide_false,Bool.false_eq_true,if_false]
  exact aD _
 |p::r,pre,hf,h=>by
  rw[eJ]at h
  rw[mJ]at hf
  have hpos:=nQ p
  refine N9 ((pre++p::r).map partV) ((pre++p::r).length:Nat) (pre.length:Nat) ?_
  have h1:((pre.length:Int)<((pre++p::r).length:Nat)):=by simp;omega
  have h2:(0:Int)≤(pre.length:Nat):=by omega
  have hw:IntKind.wrap .i64 (((pre.length:Nat):Int)+1)=((pre.length+1:Nat):Int):=by rw[wrap64 (by omega) (by omega)];omega
  have r46:Ret 68 [partV p] [] (.bool false,[]):=by
   have r33:=Oc p hf.1 (by omega)
   rw[←qS p]at r33 ⊢
   refine M68 (p.kd:Nat) (p.hd.1:Nat) (p.hd.2:Nat) (p.bd.1:Nat) (p.bd.2:Nat) (p.ks.map partV) (p.cs.map cutV) (p.en.1:Nat) (p.en.2:Nat) ?_
   simp only[T68]
   refine aB r33 ?_
   exact aD _
  simp only[Gi,h1,decide_true,if_true,aI h2,List.length_map,cY,Int.toNat_natCast,uZ,dS,hw]
  refine aB r46 ?_
  have:=LZ r (pre++[p]) hf.2 (by simp;omega)
  simp only[List.append_assoc,List.singleton_append,List.length_append,List.length_cons,List.length_nil,Nat.zero_add]at this
  simp only[nP,Bool.false_eq_true,if_false,List.length_append,List.length_cons]
  exact this
end
theorem Ni (b:Bs) (hb:b.length≤100000):pG (cL b 32 0 b.length false 1).1∧cntF (cL b 32 0 b.length false 1).1≤1000∧(aV (cL b 32 0 b.length false 1).1).length≤5000∧Chn 0 (aV (cL b 32 0 b.length false 1).1) b.length∧
  (cL b 32 0 b.length false 1).1.hd.1=0∧(cL b 32 0 b.length false 1).1.bd.2=b.length∧dpF (cL b 32 0 b.length false 1).1≤32:=by
 have cT:=A0 b 32 0 b.length false 1 (by omega)
 have cT2:=vA b 32 0 b.length false 1
 obtain⟨e1,e2⟩:=Ix b 32 0 b.length false 1
 have ht:=xG (cL b 32 0 b.length false 1).1
 refine⟨CH b 32 0 b.length false 1 (by omega) (Nat.le_refl _),by omega,by omega,FX b 32 0 b.length false 1 (by omega) (Nat.le_refl _),by rw[e1],by rw[e2],Iz b 32 0 b.length false 1 (by omega) (Nat.le_refl _)⟩
theorem JL (b:Bs) (hb:b.length≤100000) (n:Int):Ret 16 [partV (cL b 32 0 b.length false 1).1, .int .i64 n] [] (.int .i64 (if n=(b.length:Nat)then 0 else 11),[]):=by
 obtain⟨h1,h2,h3,h4,h5,h6,h7⟩:=Ni b hb
 have:=Rj _ n (by omega) (by omega) (Oc _ h1 (by omega))
 rw[h5,h6]at this
 have hch:=h4.chainT
 have he:yO ((cntF (cL b 32 0 b.length false 1).1:Nat):Int) ((dpF (cL b 32 0 b.length false 1).1:Nat):Int) true ((0:Nat):Int) ((b.length:Nat):Int) n (aV (cL b 32 0 b.length false 1).1)=if n=(b.length:Nat)then 0 else 11:=by
  unfold yO
  rw[if_neg (by omega),show(((0:Nat):Int))=0 from rfl]at*
  by_cases hn:n=(b.length:Nat)
  ·subst hn
   rw[if_neg (by simp),if_pos rfl,if_pos (by simpa using hch)]
  ·rw[if_pos (.inr (fun h=>hn h.2.symm)),if_neg hn]
 rw[he]at this
 exact this
end Go.Proofs.YtgpofjbdjiajeaaGreatDoor
end
section
namespace Go.Proofs.YtgpofjbdjiajeaaGreatDoor
open Go.Ev Go
open List (headD tail)
open V (getI getL)
def Gj:Pt→Bs→PR Pt:=fun p s=>if s=[]then .ok (p,[])else .error 12
def CV:Bs→PR Pt:=dA (getT 33 0) Gj
def sumP (b:Bs) (x:Nat):Bs→PR Pt:=if x=(fX b).toNat then CV else HG 34
def Gk (b:Bs):Bs→PR Pt:=dA CJ (sumP b)
def Gl (b:Bs) (n:Nat):Bs→PR Pt:=if n=b.length then Gk b else HG 34
def Gm (b:Bs):Bs→PR Pt:=dA lQ (Gl b)
def bgF (r:Bs):Except Int Bs:=
 if r.length<4 then .error 10 else if r.drop (r.length - 4)≠le4 (fX (r.take (r.length - 4))).toNat then .error 15
 else if r.length<7∨r.take 3≠[76,66,1]then .error 11 else .ok (r.take (r.length - 4))
def JM (b r:Bs):PR Pt:=match bgF r with| .error e=> .error e| .ok s=>Gm b (s.drop 3)
theorem mY (v:V) (s:Bs) (a:Nat) (e:Er) (K:List V→Int→Bool→Nat→V→Out):rdK (v,[rdS s a e]) K=K (ofBytes s) ((a:Nat):Int) e.isNone (V.ifT (erV e)) (V.ifV (erV e)):=by cases e<;>rfl
theorem Pi (s:Bs) (a:Nat) (e:Er):rdO (ofBytes s) ((a:Nat):Int) e.isNone (V.ifT (erV e)) (V.ifV (erV e))=rdS s a e:=by cases e<;>rfl
def BB (b:Bs) (w:PR Pt) (G:Nat→Nat→Out):Prop:=
 match w with
 | .error e=>Evt G (.tup [pt0, .int .i64 e],[])
 | .ok q=>∀c:Int,Ret 16 [partV q.1, .int .i64 ((b.length:Nat):Int)] [] (.int .i64 c,[])→Evt G (.tup [if c=0 then partV q.1 else pt0, .int .i64 c],[])
section
variable (b s : Bs)
theorem IJ (q:V) (a:Nat) (p:Nat×Int):Evt (fun k (_:Nat)=>Gg (aA cfg k) (ofBytes b) q (ofBytes s) ((a:Nat):Int) (Option.isNone (some p)) (V.ifT (erV (some p))) (V.ifV (erV (some p)))) (.tup [pt0, .int .i64 p.2],[]):=by
 have ht:Ret 26 [erV (some p)] [] (.int .i64 p.2,[]):=jT (h:=DI) (by kernel_rfl) rfl
 simp only[Gg,Option.isNone_some,Bool.not_false,if_true]
 refine aB (p:=(.int .i64 p.2,[])) ht ?_
 exact aD _
theorem Gn (q:V) (a:Nat) (p:Nat×Int):Evt (fun k (_:Nat)=>qV (aA cfg k) (ofBytes b) q (ofBytes s) ((a:Nat):Int) (Option.isNone (some p)) (V.ifT (erV (some p))) (V.ifV (erV (some p)))) (.tup [pt0, .int .i64 p.2],[]):=by
 have:=IJ b s q a p
 simp only[qV,Option.isNone_some,Bool.false_eq_true,if_false,bA]
 exact this
theorem CW (a:Nat) (p:Nat×Int):Evt (fun k (_:Nat)=>mX (aA cfg k) (ofBytes b) (ofBytes s) ((a:Nat):Int) (Option.isNone (some p)) (V.ifT (erV (some p))) (V.ifV (erV (some p)))) (.tup [pt0, .int .i64 p.2],[]):=by
 have:=Gn b s pt0 a p
 simp only[mX,Option.isNone_some,Bool.false_eq_true,if_false]
 exact this
theorem IK (x:Int) (a:Nat) (p:Nat×Int):Evt (fun k (_:Nat)=>yI (aA cfg k) (ofBytes b) x (ofBytes s) ((a:Nat):Int) (Option.isNone (some p)) (V.ifT (erV (some p))) (V.ifV (erV (some p)))) (.tup [pt0, .int .i64 p.2],[]):=by
 have:=CW b s a p
 simp only[yI,Option.isNone_some,Bool.false_eq_true,if_false]
 exact this
theorem CX (a:Nat) (p:Nat×Int):Evt (fun k (_:Nat)=>pA (aA cfg k) (ofBytes b) (ofBytes s) ((a:Nat):Int) (Option.isNone (some p)) (V.ifT (erV (some p))) (V.ifV (erV (some p)))) (.tup [pt0, .int .i64 p.2],[]):=by
 obtain⟨v,hv⟩:=LU s a p
 simp only[pA,Pi]
 refine aB hv ?_
 simp only[mY]
 exact IK b s _ a p
theorem L0 (x:Int) (a:Nat) (p:Nat×Int):Evt (fun k (_:Nat)=>qW (aA cfg k) (ofBytes b) x (ofBytes s) ((a:Nat):Int) (Option.isNone (some p)) (V.ifT (erV (some p))) (V.ifV (erV (some p)))) (.tup [pt0, .int .i64 p.2],[]):=by
 have:=CX b s a p
 simp only[qW,Option.isNone_some,Bool.false_eq_true,if_false,bA]
 exact this
theorem left_ok (hs:s.length≤1000000) (q:Pt) (a:Nat) (ha:a≤s.length):BB b (Gj q (s.drop a)) (fun k (_:Nat)=>qV (aA cfg k) (ofBytes b) (partV q) (ofBytes s) ((a:Nat):Int) (Option.isNone (none:Er)) (V.ifT (erV none)) (V.ifV (erV none))):=by
 unfold Gj
 by_cases h:s.drop a=[]
 ·rw[if_pos h]
  have hl:a=s.length:=by
   have:=congrArg List.length h
   rw[List.length_drop,List.length_nil]at this
   omega
  intro c hc
  have h1:¬(((a:Nat):Int)<((s.length:Nat):Int)):=by omega
  simp only[qV,Option.isNone_none,if_true,aM,h1,decide_false,bA,Bool.false_eq_true,if_false,Gg,Bool.not_true]
  refine aB hc ?_
  by_cases hz:c=0
  ·subst hz
   have z:((0:Int) != 0)=false:=rfl
   simp only[eI,z,Bool.false_eq_true,if_false,if_true]
   exact aD _
  ·have z:(c != 0)=true:=by simpa using hz
   simp only[eI,z,if_true,if_neg hz]
   exact aD _
 ·rw[if_neg h]
  have hl:a<s.length:=by
   rcases Nat.lt_or_ge a s.length with h1|h1
   ·exact h1
   ·exact absurd (List.drop_of_length_le h1) h
  have h1:(((a:Nat):Int)<((s.length:Nat):Int)):=by omega
  show Evt _ _
  simp only[qV,Option.isNone_none,if_true,aM,h1,decide_true,bA]
  refine aB (p:=(.tup [],[rdS s a (some (a,12))])) ?_ ?_
  ·have:=qT s a none 12
   exact this
  ·simp only[mY]
   exact IJ b s _ a (a,12)
theorem L1 (hs:s.length≤1000000) (a:Nat) (ha:a≤s.length):BB b (CV (s.drop a)) (fun k (_:Nat)=>mX (aA cfg k) (ofBytes b) (ofBytes s) ((a:Nat):Int) (Option.isNone (none:Er)) (V.ifT (erV none)) (V.ifV (erV none))):=by
 obtain⟨t1,t2⟩:=II s hs 33 (Nat.le_refl _) a 0 ha (by omega)
 unfold CV
 cases h:getT 33 0 (s.drop a)with
 |error e=>
  rw[cA h]
  obtain⟨v,a',p,e1,g⟩:=t2 e h
  show Evt _ _
  simp only[mX,Option.isNone_none,if_true]
  refine aB (p:=(v,[rdS s a' (some p)])) g ?_
  simp only[mY]
  rw[←e1]
  exact Gn b s _ a' p
 |ok w=>
  obtain⟨q,r⟩:=w
  rw[aY h]
  obtain⟨a',g1,g2,g3,g4⟩:=t1 q r h
  have hl:=left_ok b s hs q a' g2
  rw[←g3]at hl
  have hz:ptZ (partV q)=partV q:=dS q
  unfold BB at hl ⊢
  have step:∀{res:V×List Ob},Evt (fun k (_:Nat)=>qV (aA cfg k) (ofBytes b) (partV q) (ofBytes s) ((a' :Nat):Int) (Option.isNone (none:Er)) (V.ifT (erV none)) (V.ifV (erV none))) res→Evt (fun k (_:Nat)=>mX (aA cfg k) (ofBytes b) (ofBytes s) ((a:Nat):Int) (Option.isNone (none:Er)) (V.ifT (erV none)) (V.ifV (erV none))) res:=by
   intro res hr
   simp only[mX,Option.isNone_none,if_true]
   refine aB (p:=(partV q,[rdS s a' none])) g4 ?_
   simp only[mY,hz]
   exact hr
  cases hw:Gj q r with
  |error e=>rw[hw]at hl;exact step hl
  |ok w=>rw[hw]at hl;exact fun c hc=>step (hl c hc)
theorem Nj (hs:s.length≤1000000) (hb:b.length≤1000000) (x a:Nat) (ha:a≤s.length):BB b (sumP b x (s.drop a)) (fun k (_:Nat)=>yI (aA cfg k) (ofBytes b) ((x:Nat):Int) (ofBytes s) ((a:Nat):Int) (Option.isNone (none:Er)) (V.ifT (erV none)) (V.ifV (erV none))):=by
 have hc:=Iw b (by omega)
 unfold sumP
 by_cases h:x=(fX b).toNat
 ·rw[if_pos h]
  have z:((((x:Nat):Int)) != (V.getI (FV b)))=false:=by rw[h];simp[FV,V.getI]
  have ht:=L1 b s hs a ha
  have step:∀{res:V×List Ob},Evt (fun k (_:Nat)=>mX (aA cfg k) (ofBytes b) (ofBytes s) ((a:Nat):Int) (Option.isNone (none:Er)) (V.ifT (erV none)) (V.ifV (erV none))) res→Evt (fun k (_:Nat)=>yI (aA cfg k) (ofBytes b) ((x:Nat):Int) (ofBytes s) ((a:Nat):Int) (Option.isNone (none:Er)) (V.ifT (erV none)) (V.ifV (erV none))) res:=by
   intro res hr
   simp only[yI,Option.isNone_none,if_true]
   refine aB hc ?_
   simp only[z,Bool.false_eq_true,if_false]
   exact hr
  unfold BB at ht ⊢
  cases hw:CV (s.drop a)with
  |error e=>rw[hw]at ht;exact step ht
  |ok w=>rw[hw]at ht;exact fun c hc=>step (ht c hc)
 ·rw[if_neg h]
  have z:((((x:Nat):Int)) != (V.getI (FV b)))=true:=by
   have:¬(((x:Nat):Int))=(((fX b).toNat:Nat):Int):=by omega
   simpa[FV,V.getI]using this
  show Evt _ _
  simp only[yI,Option.isNone_none,if_true]
  refine aB hc ?_
  simp only[z,if_true]
  refine aB (p:=(.tup [],[rdS s a (some (a,34))])) (qT s a none 34) ?_
  simp only[mY]
  exact CW b s a (a,34)
theorem L2 (hs:s.length≤1000000) (hb:b.length≤1000000) (a:Nat) (ha:a≤s.length):BB b (Gk b (s.drop a)) (fun k (_:Nat)=>pA (aA cfg k) (ofBytes b) (ofBytes s) ((a:Nat):Int) (Option.isNone (none:Er)) (V.ifT (erV none)) (V.ifV (erV none))):=by
 obtain⟨t1,t2⟩:=ID s (by omega) a ha
 unfold Gk
 cases h:CJ (s.drop a)with
 |error e=>
  rw[cA h]
  obtain⟨v,a',p,e1,g⟩:=t2 e h
  show Evt _ _
  simp only[pA]
  refine aB (p:=(v,[rdS s a' (some p)])) g ?_
  simp only[mY]
  rw[←e1]
  exact IK b s _ a' p
 |ok w=>
  obtain⟨x,r⟩:=w
  rw[aY h]
  obtain⟨a',g1,g2,g3,g4⟩:=t1 x r h
  have hl:=Nj b s hs hb x a' g2
  rw[←g3]at hl
  have step:∀{res:V×List Ob},Evt (fun k (_:Nat)=>yI (aA cfg k) (ofBytes b) ((x:Nat):Int) (ofBytes s) ((a' :Nat):Int) (Option.isNone (none:Er)) (V.ifT (erV none)) (V.ifV (erV none))) res→Evt (fun k (_:Nat)=>pA (aA cfg k) (ofBytes b) (ofBytes s) ((a:Nat):Int) (Option.isNone (none:Er)) (V.ifT (erV none)) (V.ifV (erV none))) res:=by
   intro res hr
   simp only[pA]
   refine aB (p:=(LR x,[rdS s a' none])) g4 ?_
   simp only[mY]
   exact hr
  unfold BB at hl ⊢
  cases hw:sumP b x r with
  |error e=>rw[hw]at hl;exact step hl
  |ok w=>rw[hw]at hl;exact fun c hc=>step (hl c hc)
theorem Nk (hs:s.length≤1000000) (hb:b.length≤1000000) (n a:Nat) (ha:a≤s.length):BB b (Gl b n (s.drop a)) (fun k (_:Nat)=>qW (aA cfg k) (ofBytes b) ((n:Nat):Int) (ofBytes s) ((a:Nat):Int) (Option.isNone (none:Er)) (V.ifT (erV none)) (V.ifV (erV none))):=by
 unfold Gl
 by_cases h:n=b.length
 ·rw[if_pos h]
  have z:((((n:Nat):Int)) != ((b.length:Nat):Int))=false:=by rw[h];simp
  have ht:=L2 b s hs hb a ha
  have step:∀{res:V×List Ob},Evt (fun k (_:Nat)=>pA (aA cfg k) (ofBytes b) (ofBytes s) ((a:Nat):Int) (Option.isNone (none:Er)) (V.ifT (erV none)) (V.ifV (erV none))) res→Evt (fun k (_:Nat)=>qW (aA cfg k) (ofBytes b) ((n:Nat):Int) (ofBytes s) ((a:Nat):Int) (Option.isNone (none:Er)) (V.ifT (erV none)) (V.ifV (erV none))) res:=by
   intro res hr
   simp only[qW,Option.isNone_none,if_true,aM,z,bA,Bool.false_eq_true,if_false]
   exact hr
  unfold BB at ht ⊢
  cases hw:Gk b (s.drop a)with
  |error e=>rw[hw]at ht;exact step ht
  |ok w=>rw[hw]at ht;exact fun c hc=>step (ht c hc)
 ·rw[if_neg h]
  have z:((((n:Nat):Int)) != ((b.length:Nat):Int))=true:=by
   have:¬(((n:Nat):Int))=((b.length:Nat):Int):=by omega
   simpa using this
  show Evt _ _
  simp only[qW,Option.isNone_none,if_true,aM,z,bA]
  refine aB (p:=(.tup [],[rdS s a (some (a,34))])) (qT s a none 34) ?_
  simp only[mY]
  exact CX b s a (a,34)
end
theorem L6 (r:Bs) (hr:r.length≤1000000) (bad:Int→Out) (ok:Nat→List V→Out) (res:V×List Ob)
  (h:match bgF r with| .error e=>bad e=some res| .ok s=>3≤s.length∧s.length≤1000000∧Evt (fun k (_:Nat)=>ok k (ofBytes s)) res):
  Evt (fun k (_:Nat)=>bgT (aA cfg k) (ofBytes r) bad (ok k)) res:=by
 unfold bgF at h
 by_cases h4:r.length<4
 ·rw[if_pos h4]at h
  have w:IntKind.wrap .i64 (((r.length:Nat):Int) - 4)=((r.length:Nat):Int) - 4:=wrap64 (by omega) (by omega)
  have h1:(((r.length:Nat):Int) - 4<0):=by omega
  simp only[bgT,bgN,aM,w,h1,decide_true,if_true,h]
  exact aD _
 rw[if_neg h4]at h
 have w:IntKind.wrap .i64 (((r.length:Nat):Int) - 4)=((r.length - 4:Nat):Int):=by rw[wrap64 (by omega) (by omega)];omega
 have hn:bgN (ofBytes r)=((r.length - 4:Nat):Int):=by unfold bgN;rw[aM,w]
 have h1:¬(((r.length - 4:Nat):Int)<0):=by omega
 have h2:(0:Int)≤((r.length - 4:Nat):Int):=by omega
 have h3:((r.length - 4:Nat):Int)≤((r.length:Nat):Int):=by omega
 have hS:bgS (ofBytes r)=ofBytes (r.take (r.length - 4)):=by
  unfold bgS
  rw[hn,Int.toNat_natCast]
  show List.drop 0 _=_
  rw[List.drop_zero]
  simp[ofBytes,List.map_take]
 have hC:∀K:Out,bgC (ofBytes r) K=K:=fun K=>by
  unfold bgC
  rw[hn,aM,aI h2,aI h3,aI (Int.le_refl 0),aI h2]
 have hl:(r.drop (r.length - 4)).length=4:=by rw[List.length_drop];omega
 obtain⟨c0,c1,c2,c3,hd⟩:∃c0 c1 c2 c3,r.drop (r.length - 4)=[c0,c1,c2,c3]:=by
  match hd:r.drop (r.length - 4),hl with
  |[c0,c1,c2,c3],_=>exact⟨c0,c1,c2,c3,rfl⟩
 have hf:CJ (r.drop (r.length - 4))= .ok (leN [c0,c1,c2,c3],[]):=by rw[hd];rfl
 obtain⟨a',g1,g2,g3,g4⟩:=(ID r (by omega) (r.length - 4) (by omega)).1 _ _ hf
 have hcr:=Iw (r.take (r.length - 4)) (by simp;omega)
 have e0:rdO (ofBytes r) ((r.length - 4:Nat):Int) true 0 V.bot=rdS r (r.length - 4) none:=rfl
 have hx:leN [c0,c1,c2,c3]=(fX (r.take (r.length - 4))).toNat↔r.drop (r.length - 4)=le4 (fX (r.take (r.length - 4))).toNat:=by
  rw[hd]
  constructor
  ·intro e;rw[←e,Nb]
  ·intro e;rw[e,Io (fX _).isLt]
 simp only[bgT,hn,h1,decide_false,Bool.false_eq_true,if_false,hC,hS,e0]
 refine aB (p:=(LR (leN [c0,c1,c2,c3]),[rdS r a' none])) g4 ?_
 refine aB hcr ?_
 have gv:getI (LR (leN [c0,c1,c2,c3]))=((leN [c0,c1,c2,c3]:Nat):Int):=rfl
 have gc:getI (FV (r.take (r.length - 4)))=(((fX (r.take (r.length - 4))).toNat:Nat):Int):=rfl
 simp only[gv,gc]
 by_cases hsum:r.drop (r.length - 4)=le4 (fX (r.take (r.length - 4))).toNat
 ·rw[if_neg (fun q=>q hsum)]at h
  have z:((((leN [c0,c1,c2,c3]:Nat):Int)) != (((fX (r.take (r.length - 4))).toNat:Nat):Int))=false:=by rw[hx.2 hsum];simp
  simp only[z,Bool.false_eq_true,if_false]
  by_cases h7:r.length<7
  ·rw[if_pos (.inl h7)]at h
   have h7' :(((r.length - 4:Nat):Int)<3):=by omega
   simp only[h7',decide_true,Bool.true_eq_false,if_false,h]
   exact aD _
  ·have h7' :¬(((r.length - 4:Nat):Int)<3):=by omega
   have h8:(3:Int)≤((r.length:Nat):Int):=by omega
   have e3:bytesOf (List.drop (Int.toNat (0:Int)) (List.take (Int.toNat (3:Int)) (ofBytes r)))=r.take 3:=by
    show bytesOf (List.drop 0 (List.take 3 (ofBytes r)))=_
    rw[List.drop_zero]
    have:List.take 3 (ofBytes r)=ofBytes (r.take 3):=by simp[ofBytes,List.map_take]
    rw[this,dC]
   simp only[h7',decide_false,if_true,aM,aI h8,aI (show(0:Int)≤3 by decide),aI (Int.le_refl 0),e3]
   by_cases hh:r.take 3=[76,66,1]
   ·rw[if_neg (fun q=>q.elim h7 (fun q=>q hh))]at h
    obtain⟨_,_,h⟩:=h
    have z2:(!(sEq (r.take 3) [76,66,1]))=false:=by rw[hh];rfl
    simp only[z2,Bool.false_eq_true,if_false]
    exact h
   ·rw[if_pos (.inr hh)]at h
    have z2:(!(sEq (r.take 3) [76,66,1]))=true:=by
     unfold sEq
     simpa using hh
    simp only[z2,if_true,h]
    exact aD _
 ·rw[if_pos hsum]at h
  have z:((((leN [c0,c1,c2,c3]:Nat):Int)) != (((fX (r.take (r.length - 4))).toNat:Nat):Int))=true:=by
   have hne:¬leN [c0,c1,c2,c3]=(fX (r.take (r.length - 4))).toNat:=fun q=>hsum (hx.1 q)
   have:¬(((leN [c0,c1,c2,c3]:Nat):Int))=(((fX (r.take (r.length - 4))).toNat:Nat):Int):=by omega
   simpa using this
  simp only[z,if_true,h]
  exact aD _
theorem Nl {r s:Bs} (h:bgF r= .ok s):3≤s.length∧s.length≤r.length:=by
 unfold bgF at h
 split at h
 ·cases h
 ·split at h
  ·cases h
  ·split at h
   ·cases h
   ·rename_i h1 h2 h3
    cases h
    rw[List.length_take]
    omega
theorem Rl (b r:Bs) (hb:b.length≤1000000) (hr:r.length≤1000000):
  match JM b r with
  | .error e=>Ret 9 [.lst 5 false (ofBytes b), .lst 5 false (ofBytes r)] [] (.tup [pt0, .int .i64 e],[])
  | .ok q=>∀c:Int,Ret 16 [partV q.1, .int .i64 ((b.length:Nat):Int)] [] (.int .i64 c,[])→Ret 9 [.lst 5 false (ofBytes b), .lst 5 false (ofBytes r)] [] (.tup [if c=0 then partV q.1 else pt0, .int .i64 c],[]):=by
 unfold JM
 cases hg:bgF r with
 |error e=>
  refine M9 (ofBytes b) (ofBytes r) ?_
  unfold T9
  refine L6 r hr _ (fun k l=>Option.bind (aA cfg k 22 [V.ref 0 0] [rdO l 3 true 0 V.bot]) fun z=>rdK z (qW (aA cfg k) (ofBytes b) (getI z.1))) _ ?_
  rw[hg]
 |ok s=>
  obtain⟨hs3,hsr⟩:=Nl hg
  have start:∀{res:V×List Ob},Evt (fun k (_:Nat)=>Option.bind (aA cfg k 22 [V.ref 0 0] [rdS s 3 none]) fun z=>rdK z (qW (aA cfg k) (ofBytes b) (getI z.1))) res→Ret 9 [.lst 5 false (ofBytes b), .lst 5 false (ofBytes r)] [] res:=by
   intro res h
   refine M9 (ofBytes b) (ofBytes r) ?_
   unfold T9
   refine L6 r hr _ (fun k l=>Option.bind (aA cfg k 22 [V.ref 0 0] [rdO l 3 true 0 V.bot]) fun z=>rdK z (qW (aA cfg k) (ofBytes b) (getI z.1))) _ ?_
   rw[hg]
   exact⟨hs3,by omega,h⟩
  obtain⟨t1,t2⟩:=mW s (by omega) 3 hs3
  show match Gm b (s.drop 3)with| .error e=>_| .ok q=>_
  unfold Gm
  cases hq:lQ (s.drop 3)with
  |error e=>
   rw[cA hq]
   obtain⟨v,a',p,e1,g⟩:=t2 e hq
   refine start ?_
   refine aB (p:=(v,[rdS s a' (some p)])) g ?_
   simp only[mY]
   rw[←e1]
   exact L0 b s _ a' p
  |ok w=>
   obtain⟨n,r1⟩:=w
   rw[aY hq]
   obtain⟨a',g1,g2,g3,g4⟩:=t1 n r1 hq
   have hl:=Nk b s (by omega) hb n a' g2
   rw[←g3]at hl
   have step:∀{res:V×List Ob},Evt (fun k (_:Nat)=>qW (aA cfg k) (ofBytes b) ((n:Nat):Int) (ofBytes s) ((a' :Nat):Int) (Option.isNone (none:Er)) (V.ifT (erV none)) (V.ifV (erV none))) res→Ret 9 [.lst 5 false (ofBytes b), .lst 5 false (ofBytes r)] [] res:=by
    intro res h
    refine start ?_
    refine aB (p:=(JJ n,[rdS s a' none])) g4 ?_
    simp only[mY,tP]
    exact h
   unfold BB at hl
   cases hw:Gl b n r1 with
   |error e=>rw[hw]at hl;exact step hl
   |ok w=>rw[hw]at hl;exact fun c hc=>step (hl c hc)
end Go.Proofs.YtgpofjbdjiajeaaGreatDoor
end
section
namespace Go.Proofs.YtgpofjbdjiajeaaGreatDoor
open Go.Ev Go
theorem Chn.parts {z:Nat} {m:List (Nat×Nat×Nat)}:∀{l:List (Nat×Nat×Nat)} {a:Nat},Chn a (l++m) z→∃y,Chn a l y∧Chn y m z
 |[],a,h=>⟨a,rfl,h⟩
 |t::l,a,h=>by
  rw[List.cons_append,Chn]at h
  obtain⟨h1,h2,h3,h4⟩:=h
  obtain⟨y,h5,h6⟩:=Chn.parts h4
  exact⟨y,by rw[Chn];exact⟨h1,h2,h3,h5⟩,h6⟩
mutual
theorem HH:∀(p:Pt) (a z:Nat),pG p→Chn a (aV p) z→WL a p∧p.bd.2=z
 | .mk k h b kids cuts e,a,z,hf,hc=>by
  rw[pG]at hf
  rw[aV,Chn]at hc
  obtain⟨hk,f1,f2,f3⟩:=hf
  obtain⟨_,c1,c2,c3⟩:=hc
  simp only at c1 c2 c3
  rw[WL]
  rcases hk with⟨rfl,rfl,rfl,rfl⟩|⟨rfl,k1,k2⟩|⟨rfl,rfl,rfl,q,rfl,k3,k4⟩
  ·rw[if_neg (by decide),if_neg (by decide),Chn,Chn]at c3
   refine⟨⟨c1,by omega,f1,f2, .inl ⟨rfl,rfl,rfl,rfl⟩⟩,?_⟩
   exact c3.2.2.2
  ·rw[if_pos rfl,Chn]at c3
   obtain⟨_,d1,d2,d3⟩:=c3
   simp only at d1 d2 d3
   have hm:0<min cuts.length kids.length:=by omega
   rw[if_pos hm]at d2 d3
   obtain⟨y,e1,e2⟩:=Chn.parts d3
   rw[Chn,Chn,Chn]at e2
   obtain⟨_,g1,g2,_,g3,g4,g5⟩:=e2
   simp only at g1 g2 g3 g4 g5
   cases cuts with
   |nil=>rw[List.length_nil]at k2;omega
   |cons c cr=>
    have e1' :Chn c.1 (fR (c::cr) (bP kids)) y:=e1
    have d2' :b.1≤c.1:=by
     have q:h.2≤c.1:=d2
     omega
    have:=L8 kids (c::cr) c.1 y k2 f3 e1'
    refine⟨⟨c1,by omega,f1,f2, .inr (.inr ⟨rfl,y,?_,by omega,by omega⟩)⟩,g5⟩
    cases kids with
    |nil=>simp at k1
    |cons q ks=>
     rw[WLs]at this ⊢
     obtain⟨c',r',hcr,w1,w2,w3,w4⟩:=this
     cases hcr
     exact⟨c,cr,rfl,d2',w2,w3,w4⟩
  ·rw[if_neg (by decide),if_pos rfl]at c3
   have e3:(bP [q]).headD []=aV q:=by rw[bP];rfl
   rw[e3]at c3
   rw[mJ]at f3
   obtain⟨w1,w2⟩:=HH q h.2 z f3.1 c3
   refine⟨⟨c1,by omega,f1,f2, .inr (.inl ⟨rfl,rfl,rfl,?_⟩)⟩,?_⟩
   ·rw[WL1,←f1];exact w1
   ·show b.2=z;omega
theorem L8:∀(ks:List Pt) (cs:List (Nat×Nat)) (a z:Nat),ks.length=cs.length→mJ ks→Chn a (fR cs (bP ks)) z→WLs a cs ks z
 |[],cs,a,z,hl,_,hc=>by
  have:cs=[]:=List.eq_nil_of_length_eq_zero (by simpa using hl.symm)
  subst this
  rw[WLs]
  exact⟨rfl,hc⟩
 |q::ks,[],a,z,hl,_,_=>by simp at hl
 |q::ks,c::cr,a,z,hl,hf,hc=>by
  rw[mJ]at hf
  rw[bP,fR,List.cons_append,Chn]at hc
  obtain⟨_,c1,c2,c3⟩:=hc
  simp only at c1 c2 c3
  obtain⟨y,d1,d2⟩:=Chn.parts c3
  obtain⟨w1,w2⟩:=HH q c.2 y hf.1 d1
  rw[WLs]
  refine⟨c,cr,rfl,by omega,by omega,w1,?_⟩
  rw[w2]
  exact L8 ks cr y z (by simpa using hl) hf.2 d2
end
mutual
theorem L9 {m M:Nat} (h:m<M):∀{p:Pt},fW m p→cntF p≤1001→SmL M p
 | .mk k hh b kids cuts e,hp,hc=>by
  rw[fW]at hp
  rw[cntF]at hc
  obtain⟨g1,g2,g3,g4,g5,g6,g7,g8,g9⟩:=hp
  have:=A2 kids
  rw[SmL]
  exact⟨by omega,by omega,fun c hc=>by have:=(g5 c hc).2;omega,by omega,by omega,IL h g9 (by omega)⟩
theorem IL {m M:Nat} (h:m<M):∀{l:List Pt},dT m l→eJ l≤1001→F3 M l
 |[],_,_=>by rw[F3];trivial
 |p::l,hp,hc=>by
  rw[dT]at hp
  rw[eJ]at hc
  rw[F3]
  exact⟨L9 h hp.1 (by omega),IL h hp.2 (by omega)⟩
end
def dU (b:Bs):Pt:=(cL b 32 0 b.length false 1).1
theorem lO (b:Bs) (hb:b.length≤100000):WL 0 (dU b)∧(dU b).bd.2=b.length∧SmL 1099511627776 (dU b)∧dpF (dU b)<33∧cntF (dU b)≤1000∧fW 100000 (dU b):=by
 have h1:=CH b 32 0 b.length false 1 (by omega) (Nat.le_refl _)
 have h2:=FX b 32 0 b.length false 1 (by omega) (Nat.le_refl _)
 have cT:=A0 b 32 0 b.length false 1 (by omega)
 have cT2:=vA b 32 0 b.length false 1
 have hd:=Iz b 32 0 b.length false 1 (by omega) (Nat.le_refl _)
 have hp:=A9 100000 b hb 32 0 b.length false 1 (by omega) hb
 obtain⟨w1,w2⟩:=HH _ _ _ h1 h2
 have e:dU b=(cL b 32 0 b.length false 1).1:=rfl
 rw[e]
 exact⟨w1,w2,L9 (by omega) hp (by omega),by omega,by omega,hp⟩
end Go.Proofs.YtgpofjbdjiajeaaGreatDoor
end
section
namespace Go.Proofs.YtgpofjbdjiajeaaGreatDoor
open Go.Ev Go
open List (headD tail)
open V (getI getL)
theorem rO {x y:Nat} (h:y≤x) (hx:x≤2305843009213693952):IntKind.wrap .i64 (((x:Nat):Int) - ((y:Nat):Int))=((x - y:Nat):Int):=by
 rw[wrap64 (by omega) (by omega)];omega
theorem JO (pcs:List (Nat×Nat)) (c:Nat×Nat) (cr:List (Nat×Nat)):((pcs++c::cr).map cutV).getD pcs.length .bot=cutV c:=by
 simp[List.getD]
mutual
theorem D5:∀(p:Pt) (a:Nat) (s:Bs),WL a p→fW 2305843009213693952 p→s.length+100*cntF p≤800000000→
  Ret 20 [.lst 5 true (ofBytes s),partV p] [] (.lst 5 true (ofBytes (s++kO p)),[])
 | .mk k h b kids cuts e,a,s,hw,hp,hs=>by
  rw[WL]at hw
  rw[fW]at hp
  rw[cntF]at hs
  obtain⟨w1,w2,w3,w4,hk⟩:=hw
  obtain⟨p1,p2,p3,p4,p5,p6,p7,p8,p9⟩:=hp
  have hkb:k≤2:=by rcases hk with h|h|h<;>omega
  have n1:=(cZ k).2
  have n2:=(cZ (h.2 - h.1)).2
  have n3:=(cZ (b.2 - b.1)).2
  have r1:=vC k s (by omega) (by omega)
  have r2:=vC (h.2 - h.1) (s++dK k) (by omega) (by simp only[List.length_append];omega)
  have r3:=vC (b.2 - b.1) (s++dK k++dK (h.2 - h.1)) (by omega) (by simp only[List.length_append];omega)
  rw[partV,fQ]
  refine M20 (ofBytes s) (k:Nat) (h.1:Nat) (h.2:Nat) (b.1:Nat) (b.2:Nat) (kids.map partV) (cuts.map cutV) (e.1:Nat) (e.2:Nat) ?_
  simp only[T20,rO w2 p2,rO w4 p4]
  refine aB r1 ?_
  simp only[bQ]
  refine aB r2 ?_
  simp only[bQ]
  refine aB r3 ?_
  simp only[bQ]
  rw[kO]
  rcases hk with⟨rfl,rfl,rfl,rfl⟩|⟨rfl,rfl,rfl,hk⟩|⟨rfl,z,hk,hz1,hz2⟩
  ·have z2:(((0:Nat):Int)==(2:Int))=false:=rfl
   have z1:(((0:Nat):Int)==(1:Int))=false:=rfl
   simp only[z1,z2,Bool.false_eq_true,if_false]
   rw[if_neg (by decide),if_neg (by decide)]
   simp only[List.append_nil,List.append_assoc]
   exact aD _
  ·match kids,hk,p9,hs with
   |[q],hk,p9,hs=>
    rw[WL1]at hk
    rw[dT]at p9
    rw[eJ,eJ]at hs
    have z2:(((2:Nat):Int)==(2:Int))=true:=rfl
    have hq:=D5 q b.1 (s++dK 2++dK (h.2 - h.1)++dK (b.2 - b.1)) hk p9.1 (by simp only[List.length_append];omega)
    have hd:List.getD ([q].map partV) (Int.toNat (0:Int)) .bot=partV q:=rfl
    have hl:(0:Int)<((([q].map partV).length:Nat):Int):=by rw[List.length_map,List.length_singleton];decide
    simp only[z2,if_true,aI (Int.le_refl 0),aI hl,hd,dS]
    refine aB hq ?_
    have e3:(((kE [q]).head?).getD ([],0)).1=kO q:=by rw[kE];rfl
    simp only[bQ,e3,List.append_assoc]
    exact aD _
  ·have hcl:=yT kids cuts b.1 z hk
   have z2:(((1:Nat):Int)==(2:Int))=false:=rfl
   have z1:(((1:Nat):Int)==(1:Int))=true:=rfl
   have n4:=(cZ kids.length).2
   have hkl:=A2 kids
   have r4:=vC kids.length (s++dK 1++dK (h.2 - h.1)++dK (b.2 - b.1)) (by omega) (by simp only[List.length_append];omega)
   have hloop:=Gp kids cuts b.1 z (s++dK 1++dK (h.2 - h.1)++dK (b.2 - b.1)++dK kids.length) [] [] 1 h.1 h.2 b.1 b.2 e.1 e.2 hk hz1 hz2 p8 p3 rfl p9 (fun c hc=>(p5 c hc).2) (by simp only[List.length_append];omega) (by simp only[List.length_nil];omega)
   simp only[z1,z2,Bool.false_eq_true,if_false,if_true,List.length_map]
   refine aB r4 ?_
   rw[if_neg (by decide),hcl.1]
   simp only[List.nil_append,List.length_nil,List.append_assoc,Int.natCast_zero]at hloop
   simp only[bQ,if_true,List.append_assoc]
   exact hloop
theorem Gp:∀(ks:List Pt) (cs:List (Nat×Nat)) (a z:Nat) (s:Bs) (pre:List Pt) (pcs:List (Nat×Nat)) (k h1 h2 b1 b2 e1 e2:Nat),
  WLs a cs ks z→z≤e1→e1≤e2→e2≤2305843009213693952→a≤2305843009213693952→pre.length=pcs.length→dT 2305843009213693952 ks→(∀c∈cs,c.2≤2305843009213693952)→s.length+100*eJ ks+22≤800000000→pre.length+eJ ks≤100000000→
  Evt (fun m j=>L20 (aA cfg m) j (ofBytes s) (a:Nat) ((pre++ks).map partV) ((pre++ks).length:Nat) (pre.length:Nat) (k:Nat) (h1:Nat) (h2:Nat) (b1:Nat) (b2:Nat) ((pre++ks).map partV) ((pcs++cs).map cutV) (e1:Nat) (e2:Nat))
   (.lst 5 true (ofBytes (s++(pM a cs (kE ks)).1++dK (e1 - z)++dK (e2 - e1))),[])
 |[],cs,a,z,s,pre,pcs,k,h1,h2,b1,b2,e1,e2,hw,hz1,hz2,hz3,ha,hl,_,hc,hs,hb=>by
  rw[WLs]at hw
  obtain⟨rfl,rfl⟩:=hw
  have n1:=(cZ (e1 - a)).2
  have r1:=vC (e1 - a) s (by omega) (by omega)
  have r2:=vC (e2 - e1) (s++dK (e1 - a)) (by omega) (by simp only[List.length_append];omega)
  refine N6 (ofBytes s) (a:Nat) ((pre++[]).map partV) ((pre++[]).length:Nat) (pre.length:Nat) (k:Nat) (h1:Nat) (h2:Nat) (b1:Nat) (b2:Nat) ((pre++[]).map partV) ((pcs++[]).map cutV) (e1:Nat) (e2:Nat) ?_
  have hlt:¬(((pre.length:Nat):Int)<(((pre++[]).length:Nat):Int)):=by simp
  simp only[F7,hlt,decide_false,Bool.false_eq_true,if_false,rO hz1 (by omega),rO hz2 hz3]
  refine aB r1 ?_
  simp only[bQ]
  refine aB r2 ?_
  simp only[bQ,kE,pM,List.append_nil]
  exact aD _
 |q::ks,cs,a,z,s,pre,pcs,k,h1,h2,b1,b2,e1,e2,hw,hz1,hz2,hz3,ha,hl,hp,hc,hs,hb=>by
  rw[WLs]at hw
  obtain⟨c,cr,rfl,w1,w2,w3,w4⟩:=hw
  rw[dT]at hp
  rw[eJ]at hs hb
  have hpos:=nQ q
  have c2:=hc c (by simp)
  have hq2:q.bd.2≤2305843009213693952:=by
   cases q with
   |mk k h b kids cuts e=>rw[fW]at hp;exact hp.1.2.2.2.1
  have n1:=(cZ (c.1 - a)).2
  have n2:=(cZ (c.2 - c.1)).2
  have hpl:=vD q c.2 w3
  have r1:=vC (c.1 - a) s (by omega) (by omega)
  have r2:=vC (c.2 - c.1) (s++dK (c.1 - a)) (by omega) (by simp only[List.length_append];omega)
  have r3:=D5 q c.2 (s++dK (c.1 - a)++dK (c.2 - c.1)) w3 hp.1 (by simp only[List.length_append];omega)
  have next:=Gp ks cr q.bd.2 z (s++dK (c.1 - a)++dK (c.2 - c.1)++kO q) (pre++[q]) (pcs++[c]) k h1 h2 b1 b2 e1 e2 w4 hz1 hz2 hz3 hq2 (by simp[hl]) hp.2 (fun x hx=>hc x (by simp[hx])) (by simp only[List.length_append];omega) (by simp only[List.length_append,List.length_cons,List.length_nil];omega)
  refine N6 (ofBytes s) (a:Nat) ((pre++q::ks).map partV) ((pre++q::ks).length:Nat) (pre.length:Nat) (k:Nat) (h1:Nat) (h2:Nat) (b1:Nat) (b2:Nat) ((pre++q::ks).map partV) ((pcs++c::cr).map cutV) (e1:Nat) (e2:Nat) ?_
  have hlt:(((pre.length:Nat):Int)<(((pre++q::ks).length:Nat):Int)):=by simp;omega
  have hlt2:(((pre.length:Nat):Int)<(((pcs++c::cr).length:Nat):Int)):=by rw[hl];simp;omega
  have h0:(0:Int)≤((pre.length:Nat):Int):=by omega
  have hw:IntKind.wrap .i64 (((pre.length:Nat):Int)+1)=((pre.length+1:Nat):Int):=by rw[wrap64 (by omega) (by omega)];omega
  have hg:List.getD ((pcs++c::cr).map cutV) pre.length .bot=cutV c:=by rw[hl];exact JO pcs c cr
  simp only[F7,hlt,decide_true,if_true,aI h0,List.length_map,cY,hlt2,Int.toNat_natCast,hg,uZ,Gd,Ge,rO w1 (by omega),rO w2 c2,dS]
  refine aB r1 ?_
  simp only[bQ]
  refine aB r2 ?_
  simp only[bQ]
  refine aB r3 ?_
  simp only[bQ,Bh,hw]
  simp only[List.append_assoc,List.singleton_append,List.length_append,List.length_cons,List.length_nil,Nat.zero_add]at next
  rw[kE,pM]
  simp only[List.append_assoc,List.length_append,List.length_cons]
  exact next
end
def eZ (b:Bs) (p:Pt):Bs:=[76,66,1]++(dK b.length++(le4 (fX b).toNat++kO p))
def Gq (b:Bs) (p:Pt):Bs:=nR (eZ b p)
theorem rP (b:Bs) (p:Pt) (hw:WL 0 p):(eZ b p).length≤100*cntF p∧8≤(eZ b p).length:=by
 have h1:=cZ b.length
 have h2:=vD p 0 hw
 have h3:(le4 (fX b).toNat).length=4:=rfl
 unfold eZ
 simp only[List.length_append,List.length_cons,List.length_nil]
 omega
theorem Sw (b:Bs) (p:Pt) (hb:b.length≤1000000) (hw:WL 0 p) (hp:fW 2305843009213693952 p) (hc:cntF p≤1000000) (c:Int) (hk:Ret 16 [partV p, .int .i64 ((b.length:Nat):Int)] [] (.int .i64 c,[])):
  Ret 8 [.lst 5 false (ofBytes b),partV p] [] (if c=0 then .tup [.lst 5 false (ofBytes (Gq b p)), .int .i64 0]else .tup [.lst 5 false [], .int .i64 c],[]):=by
 have hfl:=rP b p hw
 have hn:=(cZ b.length).2
 rw[←qS p]at hk ⊢
 refine M8 (ofBytes b) (p.kd:Nat) (p.hd.1:Nat) (p.hd.2:Nat) (p.bd.1:Nat) (p.bd.2:Nat) (p.ks.map partV) (p.cs.map cutV) (p.en.1:Nat) (p.en.2:Nat) ?_
 simp only[T8,aM]
 refine aB hk ?_
 by_cases h0:c=0
 ·subst h0
  have z:((0:Int) != 0)=false:=rfl
  have hd:[V.int .u8 76,V.int .u8 66,V.int .u8 1]=ofBytes [76,66,1]:=rfl
  have r1:=vC b.length [76,66,1] (by omega) (by simp)
  have r2:=Iw b (by omega)
  have r3:=N7 (fX b) ([76,66,1]++dK b.length) (by simp only[List.length_append,List.length_cons,List.length_nil];omega)
  have hl4:(le4 (fX b).toNat).length=4:=rfl
  have r4:=D5 p 0 ([76,66,1]++dK b.length++le4 (fX b).toNat) hw hp (by simp only[List.length_append,List.length_cons,List.length_nil];omega)
  have ef:[76,66,1]++dK b.length++le4 (fX b).toNat++kO p=eZ b p:=by unfold eZ;simp only[List.append_assoc]
  rw[ef]at r4
  have r5:=Iw (eZ b p) (by omega)
  have r6:=N7 (fX (eZ b p)) (eZ b p) (by omega)
  have ev:∀s:Bs,getI (FV s)=(((fX s).toNat:Nat):Int):=fun _=>rfl
  simp only[eI,z,Bool.false_eq_true,if_false,hd,if_true]
  refine aB r1 ?_
  refine aB r2 ?_
  simp only[bQ,ev]
  refine aB r3 ?_
  simp only[bQ,qS]
  refine aB r4 ?_
  simp only[bQ]
  refine aB r5 ?_
  simp only[ev]
  refine aB r6 ?_
  simp only[bQ]
  exact aD _
 ·have z:(c != 0)=true:=by simpa using h0
  simp only[eI,z,if_true,if_neg h0]
  exact aD _
end Go.Proofs.YtgpofjbdjiajeaaGreatDoor
end
section
namespace Go.Proofs.YtgpofjbdjiajeaaGreatDoor
open Go.Ev Go
theorem vG (s:Bs):(nR s).length=s.length+4:=by simp[nR,le4]
theorem JP (s:Bs):(nR s).take ((nR s).length - 4)=s:=by
 rw[vG,Nat.add_sub_cancel,nR];simp
theorem JQ (s:Bs):(nR s).drop ((nR s).length - 4)=le4 (fX s).toNat:=by
 rw[vG,Nat.add_sub_cancel,nR];simp
theorem Gr (s:Bs) (h3:3≤s.length) (hh:s.take 3=[76,66,1]):bgF (nR s)= .ok s:=by
 have hl:=vG s
 unfold bgF
 rw[if_neg (by omega),JP,JQ,if_neg (fun q=>q rfl)]
 have e:(nR s).take 3=s.take 3:=by rw[nR,List.take_append_of_le_length h3]
 rw[if_neg (fun q=>q.elim (by omega) (fun q=>q (by rw[e,hh])))]
theorem Bi (b:Bs) (p:Pt):(eZ b p).drop 3=dK b.length++(le4 (fX b).toNat++kO p):=by
 unfold eZ;rfl
theorem Bj (b:Bs) (p:Pt):(eZ b p).take 3=[76,66,1]:=by
 unfold eZ;rfl
theorem Ma (p:Pt) (hw:WL 0 p) (hs:SmL 1099511627776 p) (hd:dpF p<33):CV (kO p)= .ok (p,[]):=by
 have:=get_put p 33 0 [] hw hs hd
 rw[List.append_nil]at this
 unfold CV
 rw[aY this]
 unfold Gj
 rw[if_pos rfl]
theorem yV (b o:Bs) (hb:b.length<1099511627776) (p:Pt) (hw:WL 0 p) (hs:SmL 1099511627776 p) (hd:dpF p<33):
  JM o (Gq b p)=if b.length=o.length∧(fX b).toNat=(fX o).toNat then .ok (p,[])else .error 34:=by
 have hl:=rP b p hw
 unfold JM Gq
 rw[Gr _ (by omega) (Bj b p)]
 show Gm o ((eZ b p).drop 3)=_
 rw[Bi]
 unfold Gm
 rw[aY (jY hb _)]
 unfold Gl
 by_cases h1:b.length=o.length
 ·rw[if_pos h1]
  unfold Gk
  rw[aY (JI (fX b).isLt _)]
  unfold sumP
  by_cases h2:(fX b).toNat=(fX o).toNat
  ·rw[if_pos h2,if_pos ⟨h1,h2⟩]
   exact Ma p hw hs hd
  ·rw[if_neg h2,if_neg (fun q=>h2 q.2)]
   rfl
 ·rw[if_neg h1,if_neg (fun q=>h1 q.1)]
  rfl
end Go.Proofs.YtgpofjbdjiajeaaGreatDoor
end
section
namespace Go.Proofs.YtgpofjbdjiajeaaGreatDoor
open Go.Ev Go
open List (headD tail getD length drop take)
open V (getI getL getT getS getB)
set_option maxRecDepth 100000
variable (call : FuncId → Fun) (icall : aN (V × List Ob)) (again : List It → St → Option (V × List Ob))
def T6 (call:FuncId→Fun):Option (V×List Ob):=
 Option.bind (call 7 [(V.lst 5 false [])] []) fun z0=>
 Option.bind (call 8 [(V.lst 5 false []),(V.agg [(V.int .i64 (getI (headD (V.cells (headD (getT z0.1) V.bot)) V.bot))),(V.int .i64 (getI (headD (tail (V.cells (headD (getT z0.1) V.bot))) V.bot))),(V.int .i64 (getI (headD (tail (tail (V.cells (headD (getT z0.1) V.bot)))) V.bot))),(V.int .i64 (getI (headD (tail (tail (tail (V.cells (headD (getT z0.1) V.bot))))) V.bot))),(V.int .i64 (getI (headD (tail (tail (tail (tail (V.cells (headD (getT z0.1) V.bot)))))) V.bot))),(V.lst 31 false (getL (headD (tail (tail (tail (tail (tail (V.cells (headD (getT z0.1) V.bot))))))) V.bot))),(V.lst 27 false (getL (headD (tail (tail (tail (tail (tail (tail (V.cells (headD (getT z0.1) V.bot)))))))) V.bot))),(V.int .i64 (getI (headD (tail (tail (tail (tail (tail (tail (tail (V.cells (headD (getT z0.1) V.bot))))))))) V.bot))),(V.int .i64 (getI (headD (tail (tail (tail (tail (tail (tail (tail (tail (V.cells (headD (getT z0.1) V.bot)))))))))) V.bot)))])] []) fun z1=>
 Option.bind (call 9 [(V.lst 5 false []),(V.lst 5 false (getL (headD (getT z1.1) V.bot)))] []) fun z2=>
 Option.bind (call 9 [(V.lst 5 false [(V.int .u8 120)]),(V.lst 5 false (getL (headD (getT z1.1) V.bot)))] []) fun z3=>
 Option.bind (call 14 [(V.lst 5 false (getL (headD (getT z1.1) V.bot)))] []) fun z4=>
 Option.bind (if((getI (headD (tail (getT z1.1)) V.bot))==(0:Int))=true then
 if(((length (getL (headD (getT z1.1) V.bot)):Nat):Int)==(15:Int))=true then
 chk (decide (0≤(0:Int))) (chk (decide ((0:Int)<((length (getL (headD (getT z1.1) V.bot)):Nat):Int))) (if((getI (getD (getL (headD (getT z1.1) V.bot)) (Int.toNat (0:Int)) V.bot))==(76:Int))=true then
 chk (decide (0≤(2:Int))) (chk (decide ((2:Int)<((length (getL (headD (getT z1.1) V.bot)):Nat):Int))) (if((getI (getD (getL (headD (getT z1.1) V.bot)) (Int.toNat (2:Int)) V.bot))==(1:Int))=true then
 if((getI (headD (tail (getT z2.1)) V.bot))==(0:Int))=true then
 if((getI (headD (V.cells (headD (getT z2.1) V.bot)) V.bot))==(getI (headD (V.cells (headD (getT z0.1) V.bot)) V.bot)))=true then
 if((getI (headD (tail (getT z3.1)) V.bot))==(34:Int))=true then
 if((getI (headD (getT z4.1) V.bot))==(0:Int))=true then
 (match(getB (headD (tail (getT z4.1)) V.bot))with
 |true=>
 some true
 |false=>
 some false)
 else
 some false
 else
 some false
 else
 some false
 else
 some false
 else
 some false))
 else
 some false))
 else
 some false
 else
 some false) fun y5=>
 some ((V.bool y5),[])
def A6:List V:=[]
theorem E6:GO 6 Tryz.f6 A6 [] call icall again=T6 call:=by kernel_rfl
theorem C6 (k:Nat):aA cfg (k+1) 6 A6 []=T6 (aA cfg k):=
 (show aA cfg (k+1) 6 A6 []=GO 6 Tryz.f6 A6 [] (aA cfg k) (aF cfg (aA cfg k) 20) (RN 6 Tryz.f6 [] (aA cfg k) (aF cfg (aA cfg k) 20) k)by kernel_rfl).trans (E6 _ _ _)
theorem M6 {r:V×List Ob} (h:Evt (fun k n=>T6 (aA cfg k)) r):Ret 6 [] [] r:=aR (g:=fun k n=>T6 (aA cfg k)) (fun k=>C6 k) h
def Mb (call:FuncId→Fun) (ag0:List V→Int→List V→Int→Option (V×List Ob)) (l0:List V) (i1:Int) (o2:List V) (i3:Int):Option (V×List Ob):=
 if(decide (i3≤(IntKind.wrap .i64 (bits BinOp.and .u8 i1 (15:Int)))))=true then
 chk (cK o2 [(V.int .u8 120)] 2) ((ag0 (l0) (i1) ((o2++[(V.int .u8 120)])) ((IntKind.wrap .i64 (i3+(1:Int))))))
 else
 Option.bind (call 7 [(V.lst 5 false l0)] []) fun z0=>
 Option.bind (call 7 [(V.lst 5 false o2)] []) fun z1=>
 Option.bind (call 8 [(V.lst 5 false l0),(V.agg [(V.int .i64 (getI (headD (V.cells (headD (getT z0.1) V.bot)) V.bot))),(V.int .i64 (getI (headD (tail (V.cells (headD (getT z0.1) V.bot))) V.bot))),(V.int .i64 (getI (headD (tail (tail (V.cells (headD (getT z0.1) V.bot)))) V.bot))),(V.int .i64 (getI (headD (tail (tail (tail (V.cells (headD (getT z0.1) V.bot))))) V.bot))),(V.int .i64 (getI (headD (tail (tail (tail (tail (V.cells (headD (getT z0.1) V.bot)))))) V.bot))),(V.lst 31 false (getL (headD (tail (tail (tail (tail (tail (V.cells (headD (getT z0.1) V.bot))))))) V.bot))),(V.lst 27 false (getL (headD (tail (tail (tail (tail (tail (tail (V.cells (headD (getT z0.1) V.bot)))))))) V.bot))),(V.int .i64 (getI (headD (tail (tail (tail (tail (tail (tail (tail (V.cells (headD (getT z0.1) V.bot))))))))) V.bot))),(V.int .i64 (getI (headD (tail (tail (tail (tail (tail (tail (tail (tail (V.cells (headD (getT z0.1) V.bot)))))))))) V.bot)))])] []) fun z2=>
 Option.bind (call 8 [(V.lst 5 false o2),(V.agg [(V.int .i64 (getI (headD (V.cells (headD (getT z1.1) V.bot)) V.bot))),(V.int .i64 (getI (headD (tail (V.cells (headD (getT z1.1) V.bot))) V.bot))),(V.int .i64 (getI (headD (tail (tail (V.cells (headD (getT z1.1) V.bot)))) V.bot))),(V.int .i64 (getI (headD (tail (tail (tail (V.cells (headD (getT z1.1) V.bot))))) V.bot))),(V.int .i64 (getI (headD (tail (tail (tail (tail (V.cells (headD (getT z1.1) V.bot)))))) V.bot))),(V.lst 31 false (getL (headD (tail (tail (tail (tail (tail (V.cells (headD (getT z1.1) V.bot))))))) V.bot))),(V.lst 27 false (getL (headD (tail (tail (tail (tail (tail (tail (V.cells (headD (getT z1.1) V.bot)))))))) V.bot))),(V.int .i64 (getI (headD (tail (tail (tail (tail (tail (tail (tail (V.cells (headD (getT z1.1) V.bot))))))))) V.bot))),(V.int .i64 (getI (headD (tail (tail (tail (tail (tail (tail (tail (tail (V.cells (headD (getT z1.1) V.bot)))))))))) V.bot)))])] []) fun z3=>
 if((getI (headD (tail (getT z0.1)) V.bot)) != (0:Int))=false then
 if((getI (headD (tail (getT z1.1)) V.bot)) != (0:Int))=false then
 if((getI (headD (tail (getT z2.1)) V.bot)) != (0:Int))=false then
 if((getI (headD (tail (getT z3.1)) V.bot)) != (0:Int))=false then
 if(sEq (bytesOf (getL (headD (getT z2.1) V.bot))) (bytesOf (getL (headD (getT z3.1) V.bot))))=true then
 some ((V.bool false),[])
 else
 Option.bind (call 9 [(V.lst 5 false o2),(V.lst 5 false (getL (headD (getT z2.1) V.bot)))] []) fun z4=>
 Option.bind (call 9 [(V.lst 5 false l0),(V.lst 5 false (getL (headD (getT z3.1) V.bot)))] []) fun z5=>
 Option.bind (call 9 [(V.lst 5 false l0),(V.lst 5 false (getL (headD (getT z2.1) V.bot)))] []) fun z6=>
 Option.bind (if((getI (headD (tail (getT z4.1)) V.bot))==(34:Int))=true then
 if((getI (headD (tail (getT z5.1)) V.bot))==(34:Int))=true then
 some ((getI (headD (tail (getT z6.1)) V.bot))==(0:Int))
 else
 some false
 else
 some false) fun y7=>
 some ((V.bool y7),[])
 else
 some ((V.bool false),[])
 else
 some ((V.bool false),[])
 else
 some ((V.bool false),[])
 else
 some ((V.bool false),[])
def T4 (call:FuncId→Fun) (ag0:List V→Int→List V→Int→Option (V×List Ob)) (a0:List V) (a1:Int):Option (V×List Ob):=
 Option.bind (call 6 [] []) fun z0=>
 if(!(getB z0.1))=true then
 some ((V.bool false),[])
 else
 if(decide (((length a0:Nat):Int)>(600:Int)))=true then
 some ((V.bool true),[])
 else
 chk (cK [] a0 2) ((ag0 (a0) (a1) (([]++a0)) ((0:Int))))
def A4 (a0:List V) (a1:Int):List V:=[V.lst 5 false a0,V.int IntKind.u8 a1]
def JR (l0:List V) (i1:Int) (o2:List V) (i3:Int):St:=⟨[(V.lst 5 false l0),(V.int IntKind.u8 i1),V.bot,V.bot,V.bot,V.bot,(V.own 5 o2),(V.int IntKind.i64 i3)]++List.replicate 104 V.bot,[]⟩
theorem Sx (l0:List V) (i1:Int) (o2:List V) (i3:Int):
 RM 4 Tryz.f4 [] call icall again (aL Tryz.f4 0) (JR l0 i1 o2 i3)=Mb call (fun l0 i1 o2 i3=>again (aL Tryz.f4 0) (JR l0 i1 o2 i3)) l0 i1 o2 i3:=by kernel_rfl
theorem E4 (a0:List V) (a1:Int):GO 4 Tryz.f4 (A4 a0 a1) [] call icall again=T4 call (fun l0 i1 o2 i3=>again (aL Tryz.f4 0) (JR l0 i1 o2 i3)) a0 a1:=by kernel_rfl
def L4 (call:FuncId→Fun):Nat→(List V→Int→List V→Int→Option (V×List Ob))
 |0=>fun _ _ _ _=>none
 |n+1=>Mb call (L4 call n)
theorem R4 (call:FuncId→Fun) (icall:aN (V×List Ob)):∀n,(∀(l0:List V) (i1:Int) (o2:List V) (i3:Int),RN 4 Tryz.f4 [] call icall n (aL Tryz.f4 0) (JR l0 i1 o2 i3)=(L4 call n) l0 i1 o2 i3)
 |0=>fun l0 i1 o2 i3=>rfl
 |n+1=>by
  have ih:=R4 call icall n
  exact fun l0 i1 o2 i3=>(Sx call icall (RN 4 Tryz.f4 [] call icall n) l0 i1 o2 i3).trans (by rw[show(fun l0 i1 o2 i3=>RN 4 Tryz.f4 [] call icall n (aL Tryz.f4 0) (JR l0 i1 o2 i3))=(L4 call n)from(funext fun l0=>funext fun i1=>funext fun o2=>funext fun i3=>ih l0 i1 o2 i3)];rfl)
theorem C4 (k:Nat) (a0:List V) (a1:Int):aA cfg (k+1) 4 (A4 a0 a1) []=T4 (aA cfg k) (L4 (aA cfg k) k) a0 a1:=by
 have ih:=R4 (aA cfg k) (aF cfg (aA cfg k) 20) k
 refine(show aA cfg (k+1) 4 (A4 a0 a1) []=GO 4 Tryz.f4 (A4 a0 a1) [] (aA cfg k) (aF cfg (aA cfg k) 20) (RN 4 Tryz.f4 [] (aA cfg k) (aF cfg (aA cfg k) 20) k)by kernel_rfl).trans ((E4 _ _ _ a0 a1).trans ?_)
 rw[show(fun l0 i1 o2 i3=>RN 4 Tryz.f4 [] (aA cfg k) (aF cfg (aA cfg k) 20) k (aL Tryz.f4 0) (JR l0 i1 o2 i3))=(L4 (aA cfg k) k)from(funext fun l0=>funext fun i1=>funext fun o2=>funext fun i3=>ih l0 i1 o2 i3)]
theorem M4 (a0:List V) (a1:Int) {r:V×List Ob} (h:Evt (fun k n=>T4 (aA cfg k) (L4 (aA cfg k) n) a0 a1) r):Ret 4 [V.lst 5 false a0,V.int IntKind.u8 a1] [] r:=aR (g:=fun k n=>T4 (aA cfg k) (L4 (aA cfg k) n) a0 a1) (fun k=>C4 k a0 a1) h
theorem Rm (l0:List V) (i1:Int) (o2:List V) (i3:Int) {r:V×List Ob} (h:Evt (fun k n=>Mb (aA cfg k) (L4 (aA cfg k) n) l0 i1 o2 i3) r):Evt (fun k n=>(L4 (aA cfg k) n) l0 i1 o2 i3) r:=aX (fun k n=>rfl) h
end Go.Proofs.YtgpofjbdjiajeaaGreatDoor
end
section
namespace Go.Proofs.YtgpofjbdjiajeaaGreatDoor
open Go.Ev Go
def jF (b:Bs):Bs:=Gq b (dU b)
theorem Bl (b:Bs) (hb:b.length≤100000):12≤(jF b).length∧(jF b).length≤200000:=by
 obtain⟨h1,h2,h3,h4,h5,h6⟩:=lO b hb
 have h:=rP b (dU b) h1
 unfold jF Gq
 rw[vG]
 omega
theorem xH (b:Bs) (hb:b.length≤100000):Ret 7 [.lst 5 false (ofBytes b)] [] (.tup [partV (dU b), .int .i64 0],[]):=
 Sv b hb
theorem IM (b:Bs) (hb:b.length≤100000):Ret 16 [partV (dU b), .int .i64 ((b.length:Nat):Int)] [] (.int .i64 0,[]):=by
 have:=JL b hb ((b.length:Nat):Int)
 rw[if_pos rfl]at this
 exact this
theorem D6 (b:Bs) (hb:b.length≤100000):Ret 8 [.lst 5 false (ofBytes b),partV (dU b)] [] (.tup [.lst 5 false (ofBytes (jF b)), .int .i64 0],[]):=by
 obtain⟨h1,h2,h3,h4,h5,h6⟩:=lO b hb
 have:=Sw b (dU b) (by omega) h1 (oZ (by omega) h6) (by omega) 0 (IM b hb)
 rw[if_pos rfl]at this
 exact this
theorem IN (b:Bs) (hb:b.length≤100000):Ret 9 [.lst 5 false (ofBytes b), .lst 5 false (ofBytes (jF b))] [] (.tup [partV (dU b), .int .i64 0],[]):=by
 obtain⟨h1,h2,h3,h4,h5,h6⟩:=lO b hb
 have hp:=yV b b (by omega) (dU b) h1 h3 h4
 rw[if_pos ⟨rfl,rfl⟩]at hp
 have hl:=Bl b hb
 have:=Rl b (jF b) (by omega) (by omega)
 rw[show JM b (jF b)=_ from hp]at this
 have:=this 0 (IM b hb)
 rw[if_pos rfl]at this
 exact this
theorem D7 (b o:Bs) (hb:b.length≤100000) (ho:o.length≤100000) (hn:b.length≠o.length):Ret 9 [.lst 5 false (ofBytes o), .lst 5 false (ofBytes (jF b))] [] (.tup [pt0, .int .i64 34],[]):=by
 obtain⟨h1,h2,h3,h4,h5,h6⟩:=lO b hb
 have hp:=yV b o (by omega) (dU b) h1 h3 h4
 rw[if_neg (fun q=>hn q.1)]at hp
 have hl:=Bl b hb
 have:=Rl o (jF b) (by omega) (by omega)
 rw[show JM o (jF b)=_ from hp]at this
 exact this
theorem Nm (b o:Bs) (hb:b.length≤100000) (ho:o.length≤100000) (hn:b.length≠o.length):jF b≠jF o:=by
 intro e
 obtain⟨h1,h2,h3,h4,h5,h6⟩:=lO b hb
 obtain⟨k1,k2,k3,k4,k5,k6⟩:=lO o ho
 have hp:=yV b o (by omega) (dU b) h1 h3 h4
 have hq:=yV o o (by omega) (dU o) k1 k3 k4
 rw[if_neg (fun q=>hn q.1)]at hp
 rw[if_pos ⟨rfl,rfl⟩]at hq
 have e' :Gq b (dU b)=Gq o (dU o):=e
 rw[e',hq]at hp
 cases hp
theorem Mc (b:Bs) (hb:b.length≤100000):Ret 14 [.lst 5 false (ofBytes (jF b))] [] (.tup [.int .i64 ((b.length:Nat):Int), .bool true],[]):=by
 obtain⟨h1,h2,h3,h4,h5,h6⟩:=lO b hb
 have hl:=rP b (dU b) h1
 have hl2:=Bl b hb
 refine M14 (ofBytes (jF b)) ?_
 unfold T14
 refine L6 (jF b) (by omega) _ (fun k l=>Option.bind (aA cfg k 22 [V.ref 0 0] [rdO l 3 true 0 V.bot]) fun z=>some (V.tup [V.int .i64 (V.getI z.1),V.bool (V.ifN (rdE z))],[])) _ ?_
 have hg:bgF (jF b)= .ok (eZ b (dU b)):=Gr _ (by omega) (Bj b (dU b))
 rw[hg]
 refine⟨by omega,by omega,?_⟩
 obtain⟨t1,t2⟩:=mW (eZ b (dU b)) (by omega) 3 (by omega)
 have hn:lQ ((eZ b (dU b)).drop 3)= .ok (b.length,le4 (fX b).toNat++kO (dU b)):=by
  rw[Bi];exact jY (by omega) _
 obtain⟨a',g1,g2,g3,g4⟩:=t1 _ _ hn
 refine aB (p:=(JJ b.length,[rdS (eZ b (dU b)) a' none])) g4 ?_
 exact aD _
theorem Nn:cL [] 32 0 0 false 1=(eH 0 0 0,1):=by kernel_rfl
theorem Sz:dU []=eH 0 0 0:=by
 show(cL [] 32 0 0 false 1).1=_
 rw[Nn]
theorem SA:∃t:Bs,jF []=76::66::1::t∧t.length=12:=by
 refine⟨(dK 0++(le4 (fX []).toNat++kO (eH 0 0 0)))++le4 (fX (eZ [] (eH 0 0 0))).toNat,?_,?_⟩
 ·unfold jF Gq nR
  rw[Sz]
  rfl
 ·have e1:(dK 0).length=1:=by kernel_rfl
  have e2:(kO (eH 0 0 0)).length=3:=by kernel_rfl
  have e3:∀x,(le4 x).length=4:=fun _=>rfl
  simp only[List.length_append,e1,e2,e3]
theorem SB:Ret 6 [] [] (.bool true,[]):=by
 obtain⟨t,ht,hl⟩:=SA
 have r0:Ret 7 [.lst 5 false []] [] (.tup [partV (dU []), .int .i64 0],[]):=xH [] (by simp)
 have r1:Ret 8 [.lst 5 false [],partV (dU [])] [] (.tup [.lst 5 false (ofBytes (jF [])), .int .i64 0],[]):=D6 [] (by simp)
 have r2:Ret 9 [.lst 5 false [], .lst 5 false (ofBytes (jF []))] [] (.tup [partV (dU []), .int .i64 0],[]):=IN [] (by simp)
 have r3:Ret 9 [.lst 5 false [.int .u8 120], .lst 5 false (ofBytes (jF []))] [] (.tup [pt0, .int .i64 34],[]):=D7 [] [120] (by simp) (by simp) (by simp)
 have r4:Ret 14 [.lst 5 false (ofBytes (jF []))] [] (.tup [.int .i64 0, .bool true],[]):=Mc [] (by simp)
 refine M6 ?_
 simp only[T6]
 refine aB r0 ?_
 simp only[jX,List.headD_cons,List.tail_cons,eI,dS]
 refine aB r1 ?_
 simp only[jX,List.headD_cons,List.tail_cons,eI,bQ]
 refine aB r2 ?_
 refine aB r3 ?_
 refine aB r4 ?_
 have z0:((0:Int)==0)=true:=rfl
 have z1:((34:Int)==34)=true:=rfl
 have hL:(((ofBytes (jF [])).length:Nat):Int)=15:=by rw[aM,ht];simp only[List.length_cons,hl];rfl
 have z2:((15:Int)==15)=true:=rfl
 have e0:V.getI (List.getD (ofBytes (jF [])) (Int.toNat 0) V.bot)=76:=by rw[ht];rfl
 have e2:V.getI (List.getD (ofBytes (jF [])) (Int.toNat 2) V.bot)=1:=by rw[ht];rfl
 have z3:((76:Int)==76)=true:=rfl
 have z4:((1:Int)==1)=true:=rfl
 have z5:∀x:Int,(x==x)=true:=fun x=>by simp
 simp only[jX,List.headD_cons,List.tail_cons,eI,nP,hL,z5,if_true,aI (Int.le_refl 0),aI (show(0:Int)<15 by decide),aI (show(0:Int)≤2 by decide),aI (show(2:Int)<15 by decide),e0,e2,bA]
 exact aD _
end Go.Proofs.YtgpofjbdjiajeaaGreatDoor
end
section
namespace Go.Proofs.YtgpofjbdjiajeaaGreatDoor
open Go.Ev Go
theorem Pj:∀c:UInt8,IntKind.wrap .i64 (bits .and .u8 ((c.toNat:Nat):Int) 15)=((c.toNat % 16:Nat):Int):=nN (by decide+kernel)
theorem JS (a o:Bs) (c:Int) (i:Nat) (ha:a.length≤600) (ho:o.length≤1000) (hn:a.length≠o.length) (m:Nat) (hm:IntKind.wrap .i64 (bits .and .u8 c 15)=((m:Nat):Int)) (hi:m<i):
  Evt (fun k j=>L4 (aA cfg k) j (ofBytes a) c (ofBytes o) ((i:Nat):Int)) (.bool true,[]):=by
 refine Rm (ofBytes a) c (ofBytes o) ((i:Nat):Int) ?_
 have h1:¬(((i:Nat):Int)≤((m:Nat):Int)):=by omega
 have z:((0:Int) != 0)=false:=rfl
 have z3:((34:Int)==34)=true:=rfl
 have z0:((0:Int)==0)=true:=rfl
 have hs:sEq (jF a) (jF o)=false:=by
  have:=Nm a o (by omega) (by omega) hn
  unfold sEq
  simpa using this
 simp only[Mb,hm,h1,decide_false,Bool.false_eq_true,if_false]
 refine aB (xH a (by omega)) ?_
 refine aB (xH o (by omega)) ?_
 simp only[jX,List.headD_cons,List.tail_cons,eI,dS]
 refine aB (D6 a (by omega)) ?_
 refine aB (D6 o (by omega)) ?_
 simp only[jX,List.headD_cons,List.tail_cons,eI,bQ,z,if_true,dC,hs,Bool.false_eq_true,if_false]
 refine aB (D7 a o (by omega) (by omega) hn) ?_
 refine aB (D7 o a (by omega) (by omega) (fun q=>hn q.symm)) ?_
 refine aB (IN a (by omega)) ?_
 simp only[jX,List.headD_cons,List.tail_cons,eI,z3,if_true,bA,z0]
 exact aD _
theorem Bm (a:Bs) (c:Int) (ha:a.length≤600) (m:Nat) (hm:IntKind.wrap .i64 (bits .and .u8 c 15)=((m:Nat):Int)) (hm2:m<16):∀(d i:Nat) (o:Bs),i+d=m+1→o.length=a.length+i→
  Evt (fun k j=>L4 (aA cfg k) j (ofBytes a) c (ofBytes o) ((i:Nat):Int)) (.bool true,[])
 |0,i,o,hi,ho=>JS a o c i ha (by omega) (by omega) m hm (by omega)
 |d+1,i,o,hi,ho=>by
  refine Rm (ofBytes a) c (ofBytes o) ((i:Nat):Int) ?_
  have h1:(((i:Nat):Int)≤((m:Nat):Int)):=by omega
  have hw:IntKind.wrap .i64 (((i:Nat):Int)+1)=((i+1:Nat):Int):=by rw[wrap64 (by omega) (by omega)];omega
  have ap:cK (ofBytes o) [V.int IntKind.u8 120] 2=true:=gQ (by rw[aM];simp only[List.length_cons,List.length_nil];omega)
  have e:ofBytes o++[V.int IntKind.u8 120]=ofBytes (o++[120]):=by simp[ofBytes]
  have next:=Bm a c ha m hm hm2 d (i+1) (o++[120]) (by omega) (by simp[ho];omega)
  simp only[Mb,hm,h1,decide_true,if_true,dG ap,e,hw]
  exact next
theorem SC (a:Bs) (n:Int) (hn:0≤n∧n<256):Ret 4 [.lst 5 false (ofBytes a), .int .u8 n] [] (.bool true,[]):=by
 obtain⟨c,rfl⟩:∃c:UInt8,n=((c.toNat:Nat):Int):=⟨UInt8.ofNat n.toNat,by simp;omega⟩
 refine M4 (ofBytes a) ((c.toNat:Nat):Int) ?_
 simp only[T4]
 refine aB SB ?_
 by_cases ha:a.length≤600
 ·have h1:¬(((a.length:Nat):Int)>600):=by omega
  have ap:cK [] (ofBytes a) 2=true:=gQ (by rw[aM];simp only[List.length_nil];omega)
  simp only[nP,Bool.not_true,Bool.false_eq_true,if_false,aM,h1,decide_false,dG ap,List.nil_append]
  exact Bm a _ ha (c.toNat % 16) (Pj c) (by omega) (c.toNat % 16+1) 0 a (by omega) (by omega)
 ·have h1:(((a.length:Nat):Int)>600):=by omega
  simp only[nP,Bool.not_true,Bool.false_eq_true,if_false,aM,h1,decide_true,if_true]
  exact aD _
end Go.Proofs.YtgpofjbdjiajeaaGreatDoor
end
section
namespace Go.Proofs.YtgpofjbdjiajeaaGreatDoor
open Go.ChangeShapes Go.WideShapes Go.ChangeAt Go.RowKit Go.Ev
theorem cells5:Tryz.prog.cellsOf 5=1:=by kernel_rfl
theorem Md:aE cfg 5=1:=by kernel_rfl
theorem Rn (n:Int):cF cfg 5 (.int .u8 n)=true:=by kernel_rfl
theorem No (zs:List Int):flat (zs.map (Value.int .u8))=zs.map (Value.int .u8):=by
 induction zs with
 |nil=>rfl
 |cons z zs ih=>simp only[flat,List.map_cons,List.flatMap_cons,Value.cells]at ih ⊢;rw[ih];rfl
theorem Gs {P:Program} {w:World} {r:Reach} {base:Nat} {t e:TypeId} {a:Addr} {len cap:Nat} (ht:P.underlying t=some (.slice e)) (h:Value.okWide P w r base t (.slice (some a) len cap)):a.block<w.heap.size:=by
 simp only[Value.okWide,ht,Cell.okWide,Cell.ok]at h
 obtain⟨_,_,_,_,row,cells,hs,_⟩:=h
 unfold World.shape? at hs
 by_cases hb:a.block<w.heap.size
 ·exact hb
 ·rw[Array.getElem?_eq_none (by omega)]at hs
  simp at hs
set_option maxRecDepth 100000 in
theorem Me {H:Type} {enc:TypeId×Value→H} {W:World} {base:Nat} {v:Value} {d:DataW H} {p:List MemPlace} (hval:Value.okWide Tryz.prog W .any base 22 v)
  (h:DataW.Trod enc Tryz.prog W 0 (fun _=>true) true 22 v d p):
  ∃vs:List UInt8,Rep cfg W (nM W) [] (.lst 5 false (ofBytes vs)) v∧
   ∀W',Kept W W'→∀sp:Nat→Bool,(∀x∈p,sp x.block=true)→DataW.Trod enc Tryz.prog W' 0 sp true 22 v d p:=by
 obtain⟨a1,len,cap,rfl⟩:=okWide_slice Tryz.underlying22 hval
 obtain⟨fuel,hf⟩:=h
 rcases open_ints Tryz.underlying22 Tryz.underlying5 cells5 hf with⟨hcs,hx⟩|⟨a,len',cap',zs,hcs,_,hl,hm,hz,hx,hcell,hwz⟩
 ·simp[Value.cells]at hcs
  obtain⟨rfl,rfl,rfl⟩:=hcs
  simp only[Prod.mk.injEq]at hx
  obtain⟨rfl,rfl⟩:=hx
  refine⟨[],?_,fun W' _ sp _=>shut_slice_nil Tryz.underlying22⟩
  exact Rep.lst 5 false [] none 0 [] rfl (fun i v x h=>by simp at h) (fun v h=>by cases h) (fun x h=>by cases h) (by rw[Md];omega) (Nat.le_refl _) ⟨fun _=>rfl,fun p h=>by cases h⟩ (fun p h=>by cases h)
 ·simp[Value.cells]at hcs
  obtain⟨rfl,rfl,rfl⟩:=hcs
  simp only[Prod.mk.injEq]at hx
  obtain⟨rfl,rfl⟩:=hx
  have hblk:a.block<W.heap.size:=Gs Tryz.underlying22 hval
  have hsn:some a=none→cap=0:=fun h=>by cases h
  have hsb:∀p,some a=some p→p.block<W.heap.size:=fun p hp=>by cases hp;exact hblk
  simp only[if_true]at hz
  have hrng:∀n∈zs,0≤n∧n<256:=fun n hn=>by have:=bounds_u8 (hwz n hn);omega
  refine⟨(zs.take len).map fun n=>UInt8.ofNat n.toNat,?_,fun W' hk sp hsp=>?_⟩
  ·have hxs:ofBytes ((zs.take len).map fun n=>UInt8.ofNat n.toNat)=(zs.take len).map (V.int .u8):=by
    unfold ofBytes
    rw[List.map_map]
    refine List.map_congr_left fun n hn=>?_
    have:=hrng n (List.mem_of_mem_take hn)
    simp only[Function.comp,UInt8.toNat_ofNat']
    congr 1
    omega
   have hlen:(ofBytes ((zs.take len).map fun n=>UInt8.ofNat n.toNat)).length=len:=by rw[hxs];simp;omega
   have:=Rep.lst (c:=cfg) (w:=W) (G:=nM W) (μ:=[]) 5 false (ofBytes ((zs.take len).map fun n=>UInt8.ofNat n.toNat)) (some a) cap ((zs.take len).map (Value.int .u8)) (by rw[hlen];simp;omega) (fun i v x hv hx=>by
     rw[hxs]at hv
     obtain⟨n,h1,rfl⟩:=bO hv
     obtain⟨n',h2,rfl⟩:=bO hx
     rw[h1]at h2;cases h2
     exact .int _ _) (fun v hv=>by
     rw[hxs]at hv
     obtain⟨n,_,rfl⟩:=List.mem_map.1 hv
     exact Rn n) (fun x hx=>by
     obtain⟨n,_,rfl⟩:=List.mem_map.1 hx
     rw[Md];rfl) (by rw[Md];omega) (by rw[hlen];exact hl) ⟨hsn,hsb⟩ (fun p hp hne=>by
     cases hp
     have hl0:0<len:=by
      rcases Nat.eq_zero_or_pos len with h0|h0
      ·exact absurd (List.eq_nil_of_length_eq_zero (hlen.trans h0)) hne
      ·exact h0
     obtain⟨ab,ao,spot⟩:=a
     have hspot:spot=none:=by simpa[Addr.add]using World.cell?_spot (hcell 0 (by omega))
     subst hspot
     refine⟨rfl,?_⟩
     rw[No]
     refine Ai fun j x hj=>?_
     have hjl:=(List.getElem?_eq_some_iff.1 hj).1
     rw[List.length_map,List.length_take]at hjl
     have hjl:j<len∧j<zs.length:=by omega
     have hc:=hcell j (by omega)
     rw[Addr.add_lit]at hc
     rw[hc]
     rw[List.getElem?_map,List.getElem?_take,if_pos hjl.1,List.getElem?_eq_getElem hjl.2]at hj
     simp at hj
     rw[←hj];simp[List.getD,hjl.2])
   rw[hlen]at this
   exact this
  ·have hzl:zs.length=(if sp a.block then cap else len):=by
    rcases Nat.eq_zero_or_pos zs.length with h0|h0
    ·split<;>omega
    ·have:sp a.block=true:=hsp (.cell a.block (a.off+0)) (by simp only[MemPlace.row,List.mem_map,List.mem_range];exact⟨0,h0,rfl⟩)
     rw[if_pos this];exact hz
   exact⟨2,shut_ints 0 Tryz.underlying22 Tryz.underlying5 cells5 (Nat.zero_le _) hl hm hzl (fun i hi=>hk.cell _ _ (hcell i hi)) hwz⟩
end Go.Proofs.YtgpofjbdjiajeaaGreatDoor
end
section
namespace Go.Proofs.YtgpofjbdjiajeaaGreatDoor
open Go.ChangeShapes Go.WideShapes Go.ChangeAt Go.RowKit Go.Ev
theorem SD : Tryz.prog.globalNamed "errors.errorType" = some 0 := by kernel_rfl
theorem SE : (Tryz.prog.cutTypes.find? (·.1 == "internal/reflectlite.rtype")).map (·.2) = some 196 := by kernel_rfl
theorem Ro:Tryz.prog.types.size=259:=by kernel_rfl
theorem SG:((List.range 259).filter fun t=>Tryz.prog.rowNamed t [101,114,114,111,114])=[66]:=by kernel_rfl
theorem Np:typeHandle Tryz.prog 66= .pointer (some ⟨4,66,none⟩):=by kernel_rfl
theorem handle_of_laid {W:World} (h:laidMetH Tryz.prog Rows.recordSmallRow.laid W):W.cell? ⟨0,0,none⟩=some jK:=by
 have h' : laidMet Tryz.prog (Rows.recordSmallRow.laid.filter fun x => x.2.handleName?.isNone) W ∧ handlesMet Tryz.prog [("errors.errorType", Rows.laid_errors_errorType)] W := h
 obtain⟨name,u,ty,e1,e2,e3,e4,e5⟩:=h'.2 _ (List.mem_singleton.2 rfl)
 have en:name=[101,114,114,111,114]:=(Option.some.inj e1).symm
 subst en
 obtain rfl:=Option.some.inj (SE.symm.trans e2)
 have hm:ty∈(List.range 259).filter fun t=>Tryz.prog.rowNamed t [101,114,114,111,114]:=List.mem_filter.2 ⟨List.mem_range.2 (by rw[←Ro];exact e3),e4⟩
 rw[SG]at hm
 obtain rfl:=List.mem_singleton.1 hm
 rw[Np]at e5
 have:=World.var?_cell SD e5 0
 simpa[jK]using this
theorem Nq {W:World} (h:laidMetH Tryz.prog Rows.recordSmallRow.laid W):∀g t,cfg.glob g=some t→pQ W (nM W) g 0 t.vals:=by
 have hT:=handle_of_laid h
 intro g t hg
 have hg' :KJ g=some t:=hg
 unfold KJ at hg'
 split at hg'
 ·rename_i e
  subst e
  have e2:C0.one jK=t:=Option.some.inj hg'
  cases e2
  refine Ai fun j x hj=>?_
  simp only[C0.vals]at hj
  match j,hj with
  |0,hj=>
   cases hj
   exact hT
  |j+1,hj=>simp at hj
 ·cases hg'
end Go.Proofs.YtgpofjbdjiajeaaGreatDoor
end
