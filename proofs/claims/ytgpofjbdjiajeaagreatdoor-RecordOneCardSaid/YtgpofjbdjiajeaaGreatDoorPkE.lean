/- Lemmas for the claim, merged: the plain reading of the program's functions, its soundness, and what they compute. -/
import Derived.Test.YtgpofjbdjiajeaaGreatDoorPkD
import Derived.Test.YtgpofjbdjiajeaaGreatDoorCards
import Derived.Test.YtgpofjbdjiajeaaGreatDoorTie
import Derived.WalkKit
import Derived.ProofKit
import Derived.OpenShut
import Derived.Deep.DeepHandedRow
import Derived.IntWalk
import Derived.Laws.BitsAllLaws
import Derived.KernelRfl
open List renaming all_eq_true→Ux,append_nil→UI,drop→Wb,drop_eq_getElem_cons→UM,drop_eq_nil_of_le→UB,drop_zero→U7,eq_nil_of_length_eq_zero→Ue,ext_getElem?→UK,filter_eq_self→VC,flatMap_cons→U8,foldl_cons→V9,getD→Ul,getElem?_append_left→TU,getElem?_eq_getElem→TP,getElem?_eq_none→Ut,getElem?_eq_some_iff→TQ,getElem?_map→UC,getElem?_take→Uw,getElem_mem→U3,headD→UL,headD_cons→Uc,length→US,length_append→Ug,length_cons→Ua,length_drop→Uv,length_map→Ui,length_nil→Uh,length_pos_iff→U6,length_take→Vo,map_append→V0,map_cons→UE,map_nil→VL,map_take→Wm,mem_append→TV,mem_cons→UH,mem_map→Vy,mem_of_mem_take→U0,mem_range→Wk,mem_singleton→Wl,range→Vr,replicate→TZ,tail→Uf,tail_cons→Um,take→Wp,take_add_one→VE,take_append_drop→U9,take_length→Wj
open Int renaming le_refl→VJ,tdiv→Wn,tdiv_eq_ediv_of_nonneg→V7,tmod→Vn,tmod_eq_emod_of_nonneg→VQ,toNat→TO,toNat_natCast→TW,toNat_zero→VP
open Nat renaming add_zero→U2,le_refl→TY,le_trans→Uy,lt_or_ge→VM,zero_add→UD
open Bool renaming and_eq_true→TR,and_self→Wq,false_eq_true→TL,false_or→VF,not_false→UJ,not_true→UP,or_eq_true→Va,true_eq_false→VY
open Option renaming bind→TN,getD_some→Vg,isSome_none→Vb,isSome_some→U4,map_eq_some_iff→UG,map_none→UO,map_some→UF
open Array renaming getElem?_eq_getElem→Uj
open UInt8 renaming ofNat→Uo,toNat→UU,toNat_inj→Wc,toNat_ofNat'→Vm
open Go.IntKind renaming bits→Uz,i64→TM,u8→UT,wrap→TK
set_option linter.all false
set_option linter.unusedVariables false
set_option linter.unusedSimpArgs false
section
namespace Go.Proofs.YtgpofjbdjiajeaaGreatDoor
open Go.ChangeShapes Go.WideShapes Go.ChangeAt Go.RowKit Go.Ev
theorem own:ownKnob Tryz.prog.godebug=none:=by kernel_rfl
def AI:DataW Unit→List Value
 | .lit (.int k n)=>[.int k n]
 |_=>[]
def Lm:DataW Unit→List Value
 | .agg ps=>ps.flatMap AI
 |d=>AI d
def FP:DataW Unit→List Value
 | .agg ps=>ps.flatMap Lm
 |d=>AI d
def AK (cs:List Value):Obj→Obj
 | .cells _ t frozen=> .cells cs.toArray t frozen
 |o=>o
noncomputable def laidWorld (os:Os):World:=
 { World.holding Tryz.prog os ⟨#[],#[],[]⟩with
  heap:=((World.holding Tryz.prog os ⟨#[],#[],[]⟩).heap
   |>.modify 0 (AK [jO])
   |>.modify 3 (AK (FP Rows.laid_unicode_utf8_acceptRanges))).modify 2 (AK (FP Rows.laid_unicode_utf8_first)) }
theorem wZ {c:Cfg} {f:FuncId} {F:Go.Ev.Fun}
  (h:∀args objs v objs',F args objs=some (v,objs')→objs=[]∧objs' =[]∧∀fn rsh,c.fn f=some fn→fZ c f fn=some rsh→jK rsh v=true∧
   ∀(w:World) (G:Gh) (cargs:List Value),(∀b,w.heap.size≤b→G b=0)→cargs.length=args.length→(∀(i:Nat) v x,args[i]? =some v→cargs[i]? =some x→Rep c w G [] v x)→(∀g t,c.glob g=some t→pO w G g 0 t.vals)→
    Calls c.P f cargs.toArray w fun e w' =>∃u G',e= .returned u∧eH w G w' G'∧Rep c w' G' [] v u∧aG v u=[]):bW c f F:=by
 refine⟨fun args objs v objs' _ hF=>?_,fun fn rsh hfn hrsh args objs v objs' hF w G μ cargs hlen hinv=>?_⟩
 ·obtain⟨rfl,rfl,_⟩:=h args objs v objs' hF;rfl
 ·obtain⟨rfl,rfl,hh⟩:=h args objs v objs' hF
  obtain⟨h1,h2⟩:=hh fn rsh hfn hrsh
  have hμ:μ=[]:=Ue hinv.olen.symm
  subst hμ
  refine⟨h1,by unfold Cfg.osh;split<;>rfl,(h2 w G cargs hinv.none hlen hinv.rep hinv.glob).mono ?_⟩
  rintro e w' ⟨u,G',rfl,hx,hr,hl⟩
  refine⟨u,G',rfl,?_⟩
  have hsim0:Sim c (entry w G [] args cargs []) w G [] args cargs []:=
   ⟨hinv,⟨TY _,iT.refl w G,fun _ _ _=>⟨rfl,rfl⟩,rfl,rfl,rfl⟩,fun b _ h=>h,[],by simp[entry]⟩
  exact((hsim0.ext hx).push hr hl).firsts (fr:=[v]) (cfr:=[u]) rfl
theorem qR {c:Cfg} {f:FuncId} {F:Go.Ev.Fun}
  (h:∀args objs v objs',F args objs=some (v,objs')→objs=[]∧objs' =[]∧∀fn rsh,c.fn f=some fn→fZ c f fn=some rsh→jK rsh v=true∧
   ∀(w:World) (G:Gh) (cargs:List Value),(∀b,w.heap.size≤b→G b=0)→cargs.length=args.length→(∀(i:Nat) v x,args[i]? =some v→cargs[i]? =some x→Rep c w G [] v x)→
    Calls c.P f cargs.toArray w fun e w' =>∃u G',e= .returned u∧eH w G w' G'∧Rep c w' G' [] v u∧aG v u=[]):bW c f F:=
 wZ fun args objs v objs' hF=>by
  obtain⟨h1,h2,h3⟩:=h args objs v objs' hF
  exact⟨h1,h2,fun fn rsh hfn hrsh=>⟨(h3 fn rsh hfn hrsh).1,fun w G cargs hn hl hr _=>(h3 fn rsh hfn hrsh).2 w G cargs hn hl hr⟩⟩
def eL (b:UInt8):UInt8:=Uo (lW b.toNat).toNat
def FQ:Go.Ev.Fun
 |[.str s],[]=>if s.length<4294967281 then some (.str (s.map eL),[])else none
 |_,_=>none
def Nh:Go.Ev.Fun
 |[.str s, .str [b]],[]=>some (.int .i64 (Lib.indexByte s b),[])
 |_,_=>none
def tM (b:UInt8):Nat→List UInt8→List (List UInt8)
 |0,s=>[s]
 |k+1,s=>if Lib.indexByte s b= -1 then[s]else s.take (Lib.indexByte s b).toNat::tM b k (s.drop ((Lib.indexByte s b).toNat+1))
def AM:Go.Ev.Fun
 |[.str s, .str [b], .int k n],[]=>if k= .i64∧0<n∧n<1000∧s.length<4294967281 then some (.lst 9 false ((tM b (min n.toNat (s.length+1) - 1) s).map V.str),[])else none
 |_,_=>none
def lnV (x:Nat×Nat×Nat):V:= .agg [.int .i64 x.1, .int .i64 x.2.1, .int .i64 x.2.2]
def ofF:Go.Ev.Fun
 |[.lst 5 _ bs, .agg [.int .i64 fr, .int .i64 to]],[]=>if bs.all yF&&decide (bs.length<1099511627776)then some (.lst 128 false ((aW fr to (bytesOf bs)).map lnV),[])else none
 |_,_=>none
def Ni:Go.Ev.Fun
 |[.str s, .int .u8 n],[]=>if 0≤n∧n<256 then some (.int .i64 (Lib.indexByte s (Uo n.toNat)),[])else none
 |_,_=>none
noncomputable def uX (call:FuncId→Go.Ev.Fun):Go.Ev.Fun
 |[pv, .int .i64 n],[]=>match Ay pv,call 40 [pv] [],call 41 [pv] [],call 42 [pv] [],call 43 [pv] []with
  |some ts,some (.int .i64 c,[]),some (.int .i64 d,[]),some (.bool ft,[]),some (.agg [.int .i64 a, .int .i64 b],[])=>some (.int .i64 (yZ c d ft a b n ts),[])
  |_,_,_,_,_=>none
 |_,_=>none
def Ea:Go.Ev.Fun
 |[.ifo false t (.cpt [_, .ifc u (.int .i64 n)])],[]=>if t=110∧u=32 then some (.int .i64 n,[])else none
 |_,_=>none
noncomputable def Lo (f:FuncId):Option Go.Ev.Fun:=
 if f=65 then some FQ else if f=121 then some AM else if f=119 then some Nh else
 if f=55 then some ofF else if f=82 then some Ni else
 if f=26 then some Ea else
 if f=115 then some Aw else if f=95 then some textF else none
noncomputable def hand (f:FuncId):Option ((FuncId→Go.Ev.Fun)→Go.Ev.Fun):=
 if f=16 then some uX else
 (Lo f).map fun h _=>h
def ro (f:FuncId):Bool:=[106,107].contains f
def pur (f:FuncId):Bool:=[3,4,5,6,7,8,9,10,11,12,13,14,16,17,18,19,20,27,28,29,30,31,32,33,34,36,40,41,42,43,45,49,50,51,52,53,54,55,56,57,58,59,60,61,62,63,64,65,66,71,76,81,82,87,88,90,93,98,104,105,108,110,111,112,113,114,116,117,119,120,121,122,124,125,126,127,128,129,130,131,132,133,134,135].contains f
def Sz (f:FuncId):Option (List RSh):=if f=94 then some [⟨false,[.int .i64]⟩,⟨false,[.nili]⟩]else none
def QT (t:TypeId):Bool:=t==190
def SA (f:FuncId):Bool:=f==95
def SB (t:TypeId):Bool:=t==133||t==5
def QU (f:FuncId):Bool:=[18,17,20].contains f
def SC (f:FuncId):Bool:=f==21
def Lp (g:Nat):Option Dv:=
 if g=0 then some (.one jO)else
 none
def SD (t:TypeId):Bool:=t==22
noncomputable def cfg:Cfg:=gA hand (fun f i=>QU f&&i==0) QU ro pur Sz QT SA SB Lp SC SD
theorem IJ (f:FuncId) (x:Func) (h0:fnT f=some x) (h1:(match x.body with|some b=>kE cfg b|none=>true)=true):∀y,fnT f=some y→∀b,y.body=some b→kE cfg b=true:=by
 intro y hy b hb
 rw[h0]at hy;cases hy
 rw[hb]at h1;exact h1
theorem H4:bA cfg:=QR _ _ _ _ _ _ _ _ _ _ _ _ (by
 intro f x hf hx b hb
 have hf' :f∈[106,107]:=by simpa[ro]using hf
 simp only[UH,List.not_mem_nil,or_false]at hf'
 rcases hf' with rfl|rfl
 ·exact IJ _ Tryz.f106 (by kernel_rfl) (by kernel_rfl) x hx b hb
 ·exact IJ _ Tryz.f107 (by kernel_rfl) (by kernel_rfl) x hx b hb)
theorem xA {c:Cfg} {w:World} {G:Gh} {args:List V} {cargs:List Value} (hr:∀(i:Nat) v x,args[i]? =some v→cargs[i]? =some x→Rep c w G [] v x) (hl:cargs.length=args.length) {i:Nat} {s:List UInt8}
  (h:args[i]? =some (.str s)):cargs[i]? =some (.string ⟨s.toArray⟩):=by
 have hi:=(TQ.1 h).1
 have hx:=TP (l:=cargs) (i:=i) (by omega)
 rw[hx,lG (hr i _ _ h hx) rfl]
theorem Lq {c:Cfg} {w:World} {G:Gh} {args:List V} {cargs:List Value} (hr:∀(i:Nat) v x,args[i]? =some v→cargs[i]? =some x→Rep c w G [] v x) (hl:cargs.length=args.length) {i:Nat} {k:IntKind} {n:Int}
  (h:args[i]? =some (.int k n)):cargs[i]? =some (.int k n):=by
 have hi:=(TQ.1 h).1
 have hx:=TP (l:=cargs) (i:=i) (by omega)
 rw[hx,bS (hr i _ _ h hx) rfl]
theorem Nj:bW cfg 65 FQ:=by
 refine qR fun args objs v objs' hF=>?_
 unfold FQ at hF
 split at hF
 ·rename_i s
  split at hF
  ·rename_i hs
   cases hF
   refine⟨rfl,rfl,fun fn rsh hfn hrsh=>?_⟩
   have h1:cfg.fn 65=some Tryz.f65:=by kernel_rfl
   have h2:fZ cfg 65 Tryz.f65=some [⟨false,[.str]⟩]:=by kernel_rfl
   rw[h1]at hfn;cases hfn
   rw[h2]at hrsh;cases hrsh
   refine⟨rfl,fun w G cargs hn hl hr=>?_⟩
   have e0:=xA hr hl (i:=0) rfl
   match cargs,hl,e0 with
   |[x],_,e0=>
    simp at e0;subst e0
    have:=Pg ⟨s.toArray⟩ w (by simpa[ByteArray.size]using hs)
    refine this.mono ?_
    rintro e w' ⟨rfl,hf⟩
    refine⟨_,G,rfl,⟨by have:=hf.size;omega,fun b hb=>⟨hf.old b hb,rfl⟩,fun b hb=>hn b (by have:=hf.size;omega),hf.os,hf.out,hf.tape⟩,?_,rfl⟩
    exact .str _
  ·cases hF
 ·cases hF
theorem Pr:bW cfg 119 Nh:=by
 refine qR fun args objs v objs' hF=>?_
 unfold Nh at hF
 split at hF
 ·rename_i s b
  cases hF
  ·refine⟨rfl,rfl,fun fn rsh hfn hrsh=>?_⟩
   have h1:cfg.fn 119=some Tryz.f119:=by kernel_rfl
   have h2:fZ cfg 119 Tryz.f119=some [⟨false,[.int .i64]⟩]:=by kernel_rfl
   rw[h1]at hfn;cases hfn
   rw[h2]at hrsh;cases hrsh
   refine⟨rfl,fun w G cargs hn hl hr=>?_⟩
   have e0:=xA hr hl (i:=0) rfl
   have e1:=xA hr hl (i:=1) rfl
   match cargs,hl,e0,e1 with
   |[x,y],_,e0,e1=>
    simp at e0 e1;subst e0;subst e1
    refine(IE ⟨s.toArray⟩ b w).mono ?_
    rintro e w' ⟨rfl,rfl⟩
    exact⟨_,G,rfl,⟨TY _,fun b hb=>⟨rfl,rfl⟩,hn,rfl,rfl,rfl⟩, .int _ _,rfl⟩
 ·cases hF
theorem AN (b:UInt8):∀(k:Nat) (s:List UInt8),Lib.splitK [b] 0 k s=tM b k s
 |0,s=>rfl
 |k+1,s=>by
  simp only[Lib.splitK,tM,tK,AN b k,U2,List.length_singleton]
  by_cases h:Lib.indexByte s b= -1
  ·simp[h]
  ·simp[h]
theorem split_ok:bW cfg 121 AM:=by
 refine qR fun args objs v objs' hF=>?_
 unfold AM at hF
 split at hF
 ·rename_i s b k n
  split at hF
  ·rename_i hk
   obtain⟨rfl,hn0,hn1,hs⟩:=hk
   cases hF
   refine⟨rfl,rfl,fun fn rsh hfn hrsh=>?_⟩
   have h1:cfg.fn 121=some Tryz.f121:=by kernel_rfl
   have h2:fZ cfg 121 Tryz.f121=some [⟨false,[.lst 9 false]⟩]:=by kernel_rfl
   rw[h1]at hfn;cases hfn
   rw[h2]at hrsh;cases hrsh
   refine⟨rfl,fun w G cargs hn hl hr=>?_⟩
   have e0:=xA hr hl (i:=0) rfl
   have e1:=xA hr hl (i:=1) rfl
   have e2:=Lq hr hl (i:=2) rfl
   match cargs,hl,e0,e1,e2 with
   |[x,y,z],_,e0,e1,e2=>
    simp at e0 e1 e2;subst e0;subst e1;subst e2
    have hsz:(⟨s.toArray⟩:ByteArray).size=s.length:=by simp[ByteArray.size]
    generalize hN:min n.toNat (s.length+1)=N
    have:=K7 ⟨s.toArray⟩ b n N w (by rw[hsz];exact hs) hn0 (by omega) (by rw[hsz];omega)
    refine this.mono ?_
    rintro e w' ⟨rfl,rfl⟩
    generalize hps:Lib.splitB ⟨#[b]⟩ 0 (N - 1) ⟨s.toArray⟩=ps
    have hdata:ps.map (fun p=>p.data.toList)=tM b (N - 1) s:=by
     rw[←hps,Lib.splitB_data,←AN]
    have hle:ps.length≤N:=by
     rw[←hps]
     have:=Lib.splitB_length_le ⟨#[b]⟩ 0 (N - 1) ⟨s.toArray⟩
     omega
    have hsz9:aE cfg 9=1:=by kernel_rfl
    have hx:eH w G (w.alloc (.cells (Lib.cellsOf ps N) 9)) (fun k=>if k=w.heap.size then ps.length else G k):=by
     refine⟨by simp,fun b hb=>⟨?_,by simp[Nat.ne_of_lt hb]⟩,fun b hb=>?_,rfl,rfl,rfl⟩
     ·show(w.heap.push _)[b]? =_
      rw[Array.getElem?_push_lt hb,Uj hb]
     ·have hb' :w.heap.size+1≤b:=by simpa using hb
      have:b≠w.heap.size:=by omega
      simp[this,hn b (by omega)]
    refine⟨_,_,rfl,hx,?_,rfl⟩
    have hvs:(tM b (N - 1) s).map V.str=ps.map fun p=>V.str p.data.toList:=by rw[←hdata,List.map_map];rfl
    rw[hvs]
    have hlen:ps.length=(ps.map fun p=>V.str p.data.toList).length:=by simp
    have hfl:flat (ps.map Value.string)=ps.map Value.string:=by
     clear hvs hlen hx hle hdata hps
     induction ps with
     |nil=>rfl
     |cons p ps ih=>simp only[flat,UE,U8,Value.cells]at ih ⊢;rw[ih];rfl
    rw[hlen]
    refine .lst 9 false _ _ N (ps.map Value.string) (by simp) (fun i v x hv hx=>?_) (fun v hv=>?_) (fun x hx=>?_) (by rw[hsz9];omega) (by simpa using hle) ⟨fun h=>(by cases h),fun p hp=>(by cases hp;simp)⟩ (fun p hp _=>?_)
    ·obtain⟨p,h1,rfl⟩:=bQ hv
     obtain⟨p',h2,rfl⟩:=bQ hx
     rw[h1]at h2;cases h2
     exact .str _
    ·obtain⟨p,_,rfl⟩:=Vy.1 hv
     have h9:cfg.ty 9=tyT 9:=rfl
     have:∀q:List UInt8,cI cfg 9 (.str q)=true:=by intro q;kernel_rfl
     exact this _
    ·obtain⟨p,_,rfl⟩:=Vy.1 hx
     rw[hsz9];rfl
    ·cases hp
     refine⟨rfl,fun j x hj=>?_⟩
     rw[hfl]at hj
     have hjl:j<ps.length:=by have:=(TQ.1 hj).1;simpa using this
     refine⟨?_,by simp;omega⟩
     have hnew:(w.alloc (.cells (Lib.cellsOf ps N) 9)).heap[w.heap.size]? =some (.cells (Lib.cellsOf ps N) 9):=by show(w.heap.push _)[w.heap.size]? =_;simp
     simp only[World.cell?,hnew,UD]
     have:(Lib.cellsOf ps N)[j]? =some x:=by
      unfold Lib.cellsOf
      rw[List.getElem?_toArray,TU (by simpa using hjl)]
      exact hj
     simpa using this
  ·cases hF
 ·cases hF
theorem Pu:bW cfg 82 Ni:=by
 refine qR fun args objs v objs' hF=>?_
 unfold Ni at hF
 split at hF
 ·rename_i s n
  split at hF
  ·rename_i hn'
   cases hF
   refine⟨rfl,rfl,fun fn rsh hfn hrsh=>?_⟩
   have h1:cfg.fn 82=some Tryz.f82:=by kernel_rfl
   have h2:fZ cfg 82 Tryz.f82=some [⟨false,[.int .i64]⟩]:=by kernel_rfl
   rw[h1]at hfn;cases hfn
   rw[h2]at hrsh;cases hrsh
   refine⟨rfl,fun w G cargs hn hl hr=>?_⟩
   have e0:=xA hr hl (i:=0) rfl
   have e1:=Lq hr hl (i:=1) rfl
   match cargs,hl,e0,e1 with
   |[x,y],_,e0,e1=>
    simp at e0 e1;subst e0;subst e1
    refine(D2 ⟨s.toArray⟩ n w).mono ?_
    rintro e w' ⟨rfl,rfl⟩
    exact⟨_,G,rfl,⟨TY _,fun b hb=>⟨rfl,rfl⟩,hn,rfl,rfl,rfl⟩, .int _ _,rfl⟩
  ·cases hF
 ·cases hF
theorem QV:bW cfg 55 ofF:=by
 refine qR fun args objs v objs' hF=>?_
 unfold ofF at hF
 split at hF
 ·rename_i tp bs fr to
  split at hF
  ·rename_i hb
   simp only[TR,decide_eq_true_eq]at hb
   obtain⟨hby,hlen⟩:=hb
   cases hF
   refine⟨rfl,rfl,fun fn rsh hfn hrsh=>?_⟩
   have h1:cfg.fn 55=some Tryz.f55:=by kernel_rfl
   have h2:fZ cfg 55 Tryz.f55=some [⟨false,[.lst 128 false]⟩]:=by kernel_rfl
   rw[h1]at hfn;cases hfn
   rw[h2]at hrsh;cases hrsh
   refine⟨rfl,fun w G cargs hn hl hr=>?_⟩
   match cargs,hl with
   |[x,y],_=>
    obtain⟨a,cap,lo,rfl,hlo,hrr,hf,hs,hz,hcap,ha,hrow⟩:=oP (hr 0 _ x rfl rfl) rfl
    have hy:y= .agg #[.int .i64 fr, .int .i64 to]:=by
     have:=hr 1 _ y rfl rfl
     cases this with
     |agg _ l hl hs hr2=>
      match l,hl with
      |[p,q],_=>
       have e1:=bS (hr2 0 _ p rfl rfl) rfl
       have e2:=bS (hr2 1 _ q rfl rfl) rfl
       subst e1;subst e2;rfl
    subst hy
    have hxb:=wX hby
    have hbl:(bytesOf bs).length=bs.length:=by simp[bytesOf]
    have hlo' :lo=(bytesOf bs).map (fun b=>Value.int .u8 b.toNat):=by
     apply UK
     intro i
     by_cases hi:i<bs.length
     ·have e1:bs[i]? =(ofBytes (bytesOf bs))[i]? :=by rw[hxb]
      simp only[ofBytes,UC]at e1
      rw[TP (by omega:i<(bytesOf bs).length)]at e1
      have:=bS (hrr i _ lo[i] e1 (TP (by omega))) rfl
      rw[TP (by omega:i<lo.length),this,UC,TP (by omega:i<(bytesOf bs).length)]
      rfl
     ·rw[Ut (by omega),Ut (by simp;omega)]
    have hcall:=Sx a cap (bytesOf bs) fr to w (by omega) ha.1 (by omega) (fun p hp hne=>by
     obtain⟨g1,g2⟩:=hrow p hp (fun e=>hne (by rw[e];rfl))
     refine⟨g1,fun j x hj=>?_⟩
     exact(g2 j (.int .u8 x.toNat) (by rw[hlo',nM,UC,hj];rfl)).1)
    rw[hbl]at hcall
    refine hcall.mono ?_
    rintro e w' ⟨v,rfl,hown,hbel⟩
    have hsz:aE cfg 128=3:=by kernel_rfl
    have hfit:∀p q r:Int,cI cfg 128 (.agg [.int .i64 p, .int .i64 q, .int .i64 r])=true:=by intro p q r;kernel_rfl
    have hmk:∀(w' :World) (G' :Gh) (xs:List (Nat×Nat×Nat)) (a' :Option Addr) (cap' :Nat),xs.length≤cap'→((a' =none→cap' =0)∧∀p,a' =some p→p.block<w'.heap.size)→
      (∀p,a' =some p→xs≠[]→p.spot=none∧pO w' G' p.block p.off (gQ xs))→Rep cfg w' G' [] (.lst 128 false (xs.map lnV)) (.slice a' xs.length cap'):=by
     intro w' G' xs a' cap' k1 k2 k3
     have hfl:flat (xs.map eK)=gQ xs:=by
      clear k1 k2 k3
      induction xs with
      |nil=>rfl
      |cons x xs ih=>simp only[flat,UE,U8,gQ]at ih ⊢;rw[ih];rfl
     have hlen' :xs.length=(xs.map lnV).length:=by simp
     rw[hlen']
     refine .lst 128 false _ a' cap' (xs.map eK) (by simp) (fun i v x hv hx=>?_) (fun v hv=>?_) (fun x hx=>?_) (by rw[hsz];omega) (by simpa using k1) k2 (fun p hp hne=>?_)
     ·obtain⟨p,q1,rfl⟩:=bQ hv
      obtain⟨p',q2,rfl⟩:=bQ hx
      rw[q1]at q2;cases q2
      refine .agg _ [.int .i64 p.1, .int .i64 p.2.1, .int .i64 p.2.2] rfl (fun x hx=>?_) (fun i v x hv hx=>?_)
      ·simp at hx;rcases hx with rfl|rfl|rfl<;>rfl
      ·match i,hv,hx with
       |0,hv,hx=>simp at hv hx;subst hv;subst hx;exact .int _ _
       |1,hv,hx=>simp at hv hx;subst hv;subst hx;exact .int _ _
       |2,hv,hx=>simp at hv hx;subst hv;subst hx;exact .int _ _
     ·obtain⟨p,_,rfl⟩:=Vy.1 hv
      exact hfit _ _ _
     ·obtain⟨p,_,rfl⟩:=Vy.1 hx
      rw[hsz];rfl
     ·rw[hfl]
      exact k3 p hp (fun e=>hne (by rw[e];rfl))
    rcases hown.2 with⟨rfl,h0⟩|⟨g,cap',cur,rfl,hbg,hgb,hnc,hcm,hcs,htake⟩
    ·have hx0:=Ue h0
     refine⟨_,G,rfl,⟨hbel.size,fun b hb=>⟨hbel.block b hb,rfl⟩,fun b hb=>hn b (Uy hbel.size hb),hbel.os,hbel.output,hbel.tape⟩,?_,rfl⟩
     have:=hmk w' G (aW fr to (bytesOf bs)) none 0 (by omega) ⟨fun _=>rfl,fun p hp=>by cases hp⟩ (fun p hp=>by cases hp)
     rw[h0]at this
     exact this
    ·have hglt:g<w'.heap.size:=eI hgb
     refine⟨_,fun k=>if k=g then(aW fr to (bytesOf bs)).length*3 else G k,rfl,⟨hbel.size,fun b hb=>⟨hbel.block b hb,?_⟩,fun b hb=>?_,hbel.os,hbel.output,hbel.tape⟩,?_,rfl⟩
     ·have:b≠g:=by omega
      simp[this]
     ·have:b≠g:=by omega
      simp[this,hn b (Uy hbel.size hb)]
     ·refine hmk w' _ _ _ cap' hnc ⟨fun h=>(by cases h),fun p hp=>(by cases hp;exact hglt)⟩ (fun p hp _=>?_)
      cases hp
      refine⟨rfl,fun j x hj=>⟨?_,?_⟩⟩
      ·have:=hown.cells (g:=g) rfl j x hj
       rw[Addr.add_lit]at this
       exact this
      ·have hj' :=(TQ.1 hj).1
       have:=hown.1
       simp only[if_true]
       omega
  ·cases hF
 ·cases hF
theorem Nk:aE cfg 31=9:=by kernel_rfl
theorem Nl:aE cfg 27=2:=by kernel_rfl
theorem J5 (p:Pt):(partV p).tips=false:=by cases p;rw[partV];rfl
theorem zE {f:FuncId} {F:Go.Ev.Fun} (hok:bW cfg f F) {p:Pt} {v:V} (hF:F [partV p] []=some (v,[])) {fn:Func} {rsh:List RSh} (hfn:cfg.fn f=some fn) (hrsh:fZ cfg f fn=some rsh)
  {w:World} {G:Gh} {x:Value} (hn:∀b,w.heap.size≤b→G b=0) (hgl:∀g t,cfg.glob g=some t→pO w G g 0 t.vals) (hr:Rep cfg w G [] (partV p) x) {vv:Value} (hv:∀w' G' u,Rep cfg w' G' [] v u→u=vv):D8 w f x vv:=by
 intro W hb
 have hseal:iT w G W G:=⟨fun b o ho=>by
  have hbl:b<w.heap.size:=by
   rcases VM b w.heap.size with h|h
   ·exact h
   ·rw[hn b h]at ho;omega
  exact bU (hb.block b hbl),fun b=>TY _,hb.size⟩
 have hr' :Rep cfg W G [] (partV p) x:=hr.mono hseal
 have hz:=tJ [partV p] [x] (fun v hv=>by simp at hv;subst hv;exact J5 p)
 have hinv:Inv cfg W G [] [partV p] [x] []:=⟨TY _,fun i v y h1 h2=>by
   cases i with
   |zero=>simp at h1 h2;subst h1;subst h2;exact hr'
   |succ i=>simp at h1,rfl,fun i o b ho=>by simp at ho,fun b=>by rw[hz];simp[aM,cnt],fun l hl=>by rw[hz]at hl;simp[aM]at hl,fun b hb=>(by cases hb),fun b h=>hn b (Uy hb.size h),fun g t hg=>(hgl g t hg).mono hseal⟩
 obtain⟨_,_,hcalls⟩:=hok.2 fn rsh hfn hrsh [partV p] [] v [] hF W G [] [x] rfl hinv
 refine hcalls.mono ?_
 rintro e w' ⟨u,G',rfl,hs⟩
 have hu:=hv _ _ u (hs.inv.rep 0 _ _ rfl rfl)
 subst hu
 exact⟨rfl,hs.stp.os,hs.stp.tape,hs.stp.out,hs.stp.size,fun b hb=>(hs.stp.keep b hb (by
  show¬(0<_)
  rw[hz];simp[aM,cnt])).1⟩
theorem J6 (call:FuncId→Go.Ev.Fun) (hcall:∀g,bW cfg g (call g)):bW cfg 16 (uX call):=by
 refine wZ fun args objs v objs' hF=>?_
 unfold uX at hF
 split at hF
 ·rename_i pv n
  split at hF
  ·rename_i ts c d ft a b g1 g2 g3 g4 g5
   cases hF
   obtain⟨p,rfl,hlen,rfl⟩:=FD g1
   refine⟨rfl,rfl,fun fn rsh hfn hrsh=>?_⟩
   have h1:cfg.fn 16=some Tryz.f16:=by kernel_rfl
   have h2:fZ cfg 16 Tryz.f16=some [⟨false,[.int .i64]⟩]:=by kernel_rfl
   rw[h1]at hfn;cases hfn
   rw[h2]at hrsh;cases hrsh
   refine⟨rfl,fun w G cargs hn hl hr hgl=>?_⟩
   match cargs,hl with
   |[x,y],_=>
    have hx:=hr 0 _ x rfl rfl
    have hy:=bS (hr 1 _ y rfl rfl) rfl
    subst hy
    have hp:=Az Nk Nl p x hx
    have s1:D8 w 40 x (.int .i64 c):=zE (hcall _) g2 (fn:=Tryz.f40) (by kernel_rfl) (rsh:=[⟨false,[.int .i64]⟩]) (by kernel_rfl) hn hgl hx (fun w' G' u h=>bS h rfl)
    have s2:D8 w 41 x (.int .i64 d):=zE (hcall _) g3 (fn:=Tryz.f41) (by kernel_rfl) (rsh:=[⟨false,[.int .i64]⟩]) (by kernel_rfl) hn hgl hx (fun w' G' u h=>bS h rfl)
    have s3:D8 w 42 x (.bool ft):=zE (hcall _) g4 (fn:=Tryz.f42) (by kernel_rfl) (rsh:=[⟨false,[.bool]⟩]) (by kernel_rfl) hn hgl hx (fun w' G' u h=>mH h rfl)
    have s4:D8 w 43 x (.agg #[.int .i64 a, .int .i64 b]):=zE (hcall _) g5 (fn:=Tryz.f43) (by kernel_rfl) (rsh:=[⟨true,[.int .i64, .int .i64]⟩]) (by kernel_rfl) hn hgl hx (fun w' G' u h=>by
     obtain⟨cs,rfl,hl,_,hcc⟩:=wB h rfl
     match cs,hl with
     |[p,q],_=>
      have e1:=bS (hcc 0 _ p rfl rfl) rfl
      have e2:=bS (hcc 1 _ q rfl rfl) rfl
      subst e1;subst e2;rfl)
    refine(callsIn_wide.1 (JY p x n w hp hlen c d a b ft s1 s2 s3 s4)).mono ?_
    rintro e w' ⟨rfl,hbel⟩
    exact⟨_,G,rfl,⟨hbel.size,fun b hb=>⟨hbel.block b hb,rfl⟩,fun b hb=>hn b (Uy hbel.size hb),hbel.os,hbel.output,hbel.tape⟩, .int _ _,rfl⟩
  ·cases hF
 ·cases hF
theorem Lr:bW cfg 26 Ea:=by
 refine wZ fun args objs v objs' hF=>?_
 unfold Ea at hF
 split at hF
 ·rename_i t a u n
  split at hF
  ·rename_i ht
   obtain⟨rfl,rfl⟩:=ht
   cases hF
   refine⟨rfl,rfl,fun fn rsh hfn hrsh=>?_⟩
   have h1:cfg.fn 26=some Tryz.f26:=by kernel_rfl
   have h2:fZ cfg 26 Tryz.f26=some [⟨false,[.int .i64]⟩]:=by kernel_rfl
   rw[h1]at hfn;cases hfn
   rw[h2]at hrsh;cases hrsh
   refine⟨rfl,fun w G cargs hn hl hr hg=>?_⟩
   match cargs,hl with
   |[x],_=>
    have hx:=hr 0 _ x rfl rfl
    cases hx with
    |ifoS _ _ y hy=>
     cases hy with
     |cpt _ b off l hl hs hr2 hrow=>
      match l,hl with
      |[p,q],_=>
       have hq:=hr2 1 _ q rfl rfl
       cases hq with
       |ifc _ _ z hz=>
        have hz' :=bS hz rfl
        subst hz'
        have hc:=(hrow 1 _ rfl).1
        have he:cfg.glob 0=some (.one jO):=rfl
        have hgl:=(hg _ _ he 0 _ rfl).1
        refine(Pq b off n w hgl hc).mono ?_
        rintro e w' ⟨rfl,hbel⟩
        exact⟨_,G,rfl,⟨hbel.size,fun b hb=>⟨hbel.block b hb,rfl⟩,fun b hb=>hn b (Uy hbel.size hb),hbel.os,hbel.output,hbel.tape⟩, .int _ _,rfl⟩
  ·cases hF
 ·cases hF
theorem Ls:∀f h,Lo f=some h→bW cfg f h:=by
 intro f h hf
 unfold Lo at hf
 split at hf
 ·rename_i e;subst e;cases hf;exact Nj
 split at hf
 ·rename_i e;subst e;cases hf;exact split_ok
 split at hf
 ·rename_i e;subst e;cases hf;exact Pr
 split at hf
 ·rename_i e;subst e;cases hf;exact QV
 split at hf
 ·rename_i e;subst e;cases hf;exact Pu
 split at hf
 ·rename_i e;subst e;cases hf;exact Lr
 split at hf
 ·rename_i e;subst e;cases hf
  refine La rfl (fun t ht=>by simpa[cfg,gA,QT]using ht) rfl (fun fn rsh hfn hrsh=>?_)
  have h1:cfg.fn 115=some Tryz.f115:=by kernel_rfl
  have h2:fZ cfg 115 Tryz.f115=some []:=by kernel_rfl
  rw[h1]at hfn;cases hfn
  rw[h2]at hrsh;cases hrsh
  rfl
 split at hf
 ·rename_i e;subst e;cases hf
  refine Na H4 rfl rfl (by kernel_rfl) (by kernel_rfl) (fun fn rsh s hfn hrsh=>?_)
  have h1:cfg.fn 95=some Tryz.f95:=by kernel_rfl
  have h2:fZ cfg 95 Tryz.f95=some [⟨false,[.str]⟩]:=by kernel_rfl
  rw[h1]at hfn;cases hfn
  rw[h2]at hrsh;cases hrsh
  rfl
 cases hf
theorem IK:∀f h,cfg.hand f=some h→∀call,(∀g,bW cfg g (call g))→bW cfg f (h call):=by
 intro f h hf call hcall
 have hf:hand f=some h:=hf
 unfold hand at hf
 split at hf
 ·rename_i e;subst e;cases hf;exact J6 call hcall
 obtain⟨h0,h1,rfl⟩:=UG.1 hf
 exact Ls f h0 h1
end Go.Proofs.YtgpofjbdjiajeaaGreatDoor
end
section
namespace Go.Proofs.YtgpofjbdjiajeaaGreatDoor
open Go.Ev Go
abbrev Bs:=List UInt8
def Ret (f:FuncId) (args:List V) (objs:List Ob) (r:V×List Ob):Prop:=∃K,∀k,K≤k→aA cfg k f args objs=some r
def Evt {α:Type} (g:Nat→Nat→Option α) (r:α):Prop:=∃K,∀k n,K≤k→K≤n→g k n=some r
theorem aR {f:FuncId} {args:List V} {objs:List Ob} {r:V×List Ob} {g:Nat→Nat→Option (V×List Ob)} (hc:∀k,aA cfg (k+1) f args objs=g k k) (h:Evt g r):Ret f args objs r:=by
 obtain⟨K,h⟩:=h
 refine⟨K+1,fun k hk=>?_⟩
 obtain⟨j,rfl⟩:∃j,k=j+1:=⟨k - 1,by omega⟩
 rw[hc];exact h j j (by omega) (by omega)
theorem aX {α:Type} {g g' :Nat→Nat→Option α} {r:α} (hg:∀k n,g k (n+1)=g' k n) (h:Evt g' r):Evt g r:=by
 obtain⟨K,h⟩:=h
 refine⟨K+1,fun k n hk hn=>?_⟩
 obtain⟨j,rfl⟩:∃j,n=j+1:=⟨n - 1,by omega⟩
 rw[hg];exact h k j (by omega) (by omega)
theorem aD {α:Type} (r:α):Evt (fun _ _=>some r) r:=⟨0,fun _ _ _ _=>rfl⟩
theorem aB {α:Type} {f:FuncId} {args:List V} {objs:List Ob} {p:V×List Ob} {F:Nat→Nat→V×List Ob→Option α} {r:α} (h:Ret f args objs p) (h2:Evt (fun k n=>F k n p) r):
  Evt (fun k n=>TN (aA cfg k f args objs) (F k n)) r:=by
 obtain⟨K,h⟩:=h
 obtain⟨K2,h2⟩:=h2
 refine⟨K+K2,fun k n hk hn=>?_⟩
 show TN (aA cfg k f args objs) (F k n)=some r
 rw[h k (by omega)]
 exact h2 k n (by omega) (by omega)
theorem jX {f:FuncId} {args:List V} {objs:List Ob} {r:V×List Ob} {h:Go.Ev.Fun} (hh:cfg.hand f=some fun _=>h) (e:h args objs=some r):Ret f args objs r:=by
 refine⟨1,fun k hk=>?_⟩
 obtain⟨j,rfl⟩:∃j,k=j+1:=⟨k - 1,by omega⟩
 simp only[aA,hh];exact e
noncomputable def FIN (f:FuncId) (fn:Func) (objs:List Ob):St→Option (V×List Ob):=DD cfg fn (finish cfg fn f (List.map OSh.of objs))
noncomputable def RM (f:FuncId) (fn:Func) (objs:List Ob) (call:FuncId→Go.Ev.Fun) (icall:aN (V×List Ob)) (again:List It→St→Option (V×List Ob)) (its:List It) (st:St):Option (V×List Ob):=
 bZ cfg call icall (slotsOf fn.results.toList) (US objs) again (FIN f fn objs) depth its st
noncomputable def RN (f:FuncId) (fn:Func) (objs:List Ob) (call:FuncId→Go.Ev.Fun) (icall:aN (V×List Ob)) (n:Nat) (its:List It) (st:St):Option (V×List Ob):=
 Go.Ev.runN cfg call icall (slotsOf fn.results.toList) (US objs) (FIN f fn objs) n its st
noncomputable def GO (f:FuncId) (fn:Func) (args:List V) (objs:List Ob) (call:FuncId→Go.Ev.Fun) (icall:aN (V×List Ob)) (again:List It→St→Option (V×List Ob)):Option (V×List Ob):=
 G6 args fn.ntmps fun env=>RM f fn objs call icall again [.code (codeOf fn)] ⟨env,objs⟩
theorem cR {R:Type} (x:Option R):chk true x=x:=rfl
theorem aI {R:Type} {p:Prop} [Decidable p] (h:p) (x:Option R):chk (decide p) x=x:=by simp[chk,h]
theorem cZ {R:Type} {b:Bool} (h:b=true) (x:Option R):chk b x=x:=by subst h;rfl
theorem aY {α β:Type} (a:α) (f:α→Option β):TN (some a) f=f a:=rfl
theorem wrap64 {n:Int} (h1: -9223372036854775808≤n) (h2:n<9223372036854775808):TK .i64 n=n:=by
 rw[IntKind.wrap_i64];omega
theorem AO {n:Int} (h1:0≤n) (h2:n<256):TK .u8 n=n:=by
 rw[IntKind.wrap_u8'];omega
theorem oY {x y:Bs} (h:x.length+y.length≤9223372036854775807):fK x y=true:=by simp[fK,h]
theorem gB {x y:List V} {n:Nat} (h:(x.length+y.length)*n≤70368744177664):cE x y n=true:=by simp[cE,h]
theorem kQ (l:Bs) (c:UInt8):ofBytes l++[.int .u8 (c.toNat:Int)]=ofBytes (l++[c]):=by simp[ofBytes]
theorem cD (l:Bs):bytesOf (ofBytes l)=l:=by
 simp[bytesOf,ofBytes,V.getI,Function.comp_def]
theorem aL (l:Bs):(ofBytes l).length=l.length:=by simp[ofBytes]
theorem getD_at {s:Bs} {i:Nat} (h:i<s.length):s.getD i 0=s[i]:=by simp[Ul,h]
theorem drop_at {s:Bs} {i:Nat} (h:i<s.length):s.drop i=s[i]::s.drop (i+1):=UM h
theorem nU {p:UInt8→Prop} (h:∀n:Fin 256,p ⟨⟨n⟩⟩) (c:UInt8):p c:=by
 have:=h ⟨c.toNat,c.toNat_lt⟩
 simpa using this
end Go.Proofs.YtgpofjbdjiajeaaGreatDoor
end
section
namespace Go.Proofs.YtgpofjbdjiajeaaGreatDoor
open Go.Ev Go
open List (headD tail getD length drop take)
open V (getI getL getT getS getB)
set_option maxRecDepth 100000
variable (call : FuncId → Fun) (icall : aN (V × List Ob)) (again : List It → St → Option (V × List Ob))
def FR (call:FuncId→Fun) (ag0:List UInt8→List V→Int→Int→Option (V×List Ob)) (s0:List UInt8) (l1:List V) (i2:Int) (i3:Int):Option (V×List Ob):=
 if(decide (i3<i2))=true then
 chk (decide (0≤i3)) (chk (decide (i3<((length l1:Nat):Int))) (TN (call 62 [(V.str (getS (headD (V.cells (getD l1 (TO i3) V.bot)) V.bot))),(V.str s0)] []) fun z0=>
 if(getB z0.1)=true then
 some ((V.tup [(V.str (getS (headD (tail (V.cells (getD l1 (TO i3) V.bot))) V.bot))),(V.bool true)]),[])
 else
 (ag0 (s0) (l1) (i2) ((TK .i64 (i3+(1:Int)))))))
 else
 some ((V.tup [(V.str []),(V.bool false)]),[])
def T36 (call:FuncId→Fun) (ag0:List UInt8→List V→Int→Int→Option (V×List Ob)) (a0:List UInt8) (a1:List UInt8) (a2:List V) (a3:List UInt8):Option (V×List Ob):=
 (ag0 (a3) (a2) (((length a2:Nat):Int)) ((0:Int)))
def A36 (a0:List UInt8) (a1:List UInt8) (a2:List V) (a3:List UInt8):List V:=[V.agg [V.str a0,V.str a1,V.lst 140 false a2],V.str a3]
def Cu (s0:List UInt8) (l1:List V) (i2:Int) (i3:Int):St:=⟨[V.bot,(V.str s0),V.bot,V.bot,V.bot,V.bot,V.bot,V.bot,V.bot,(V.lst 140 false l1),(V.int TM i2),(V.int TM i3)]++TZ 10 V.bot,[]⟩
theorem QW (s0:List UInt8) (l1:List V) (i2:Int) (i3:Int):
 RM 36 Tryz.f36 [] call icall again (aJ Tryz.f36 0) (Cu s0 l1 i2 i3)=FR call (fun s0 l1 i2 i3=>again (aJ Tryz.f36 0) (Cu s0 l1 i2 i3)) s0 l1 i2 i3:=by kernel_rfl
theorem E36 (a0:List UInt8) (a1:List UInt8) (a2:List V) (a3:List UInt8):GO 36 Tryz.f36 (A36 a0 a1 a2 a3) [] call icall again=T36 call (fun s0 l1 i2 i3=>again (aJ Tryz.f36 0) (Cu s0 l1 i2 i3)) a0 a1 a2 a3:=by kernel_rfl
def L36 (call:FuncId→Fun):Nat→(List UInt8→List V→Int→Int→Option (V×List Ob))
 |0=>fun _ _ _ _=>none
 |n+1=>FR call (L36 call n)
theorem R36 (call:FuncId→Fun) (icall:aN (V×List Ob)):∀n,(∀(s0:List UInt8) (l1:List V) (i2:Int) (i3:Int),RN 36 Tryz.f36 [] call icall n (aJ Tryz.f36 0) (Cu s0 l1 i2 i3)=(L36 call n) s0 l1 i2 i3)
 |0=>fun s0 l1 i2 i3=>rfl
 |n+1=>by
  have ih:=R36 call icall n
  exact fun s0 l1 i2 i3=>(QW call icall (RN 36 Tryz.f36 [] call icall n) s0 l1 i2 i3).trans (by rw[show(fun s0 l1 i2 i3=>RN 36 Tryz.f36 [] call icall n (aJ Tryz.f36 0) (Cu s0 l1 i2 i3))=(L36 call n)from(funext fun s0=>funext fun l1=>funext fun i2=>funext fun i3=>ih s0 l1 i2 i3)];rfl)
theorem C36 (k:Nat) (a0:List UInt8) (a1:List UInt8) (a2:List V) (a3:List UInt8):aA cfg (k+1) 36 (A36 a0 a1 a2 a3) []=T36 (aA cfg k) (L36 (aA cfg k) k) a0 a1 a2 a3:=by
 have ih:=R36 (aA cfg k) (aF cfg (aA cfg k) 20) k
 refine(show aA cfg (k+1) 36 (A36 a0 a1 a2 a3) []=GO 36 Tryz.f36 (A36 a0 a1 a2 a3) [] (aA cfg k) (aF cfg (aA cfg k) 20) (RN 36 Tryz.f36 [] (aA cfg k) (aF cfg (aA cfg k) 20) k)by kernel_rfl).trans ((E36 _ _ _ a0 a1 a2 a3).trans ?_)
 rw[show(fun s0 l1 i2 i3=>RN 36 Tryz.f36 [] (aA cfg k) (aF cfg (aA cfg k) 20) k (aJ Tryz.f36 0) (Cu s0 l1 i2 i3))=(L36 (aA cfg k) k)from(funext fun s0=>funext fun l1=>funext fun i2=>funext fun i3=>ih s0 l1 i2 i3)]
theorem M36 (a0:List UInt8) (a1:List UInt8) (a2:List V) (a3:List UInt8) {r:V×List Ob} (h:Evt (fun k n=>T36 (aA cfg k) (L36 (aA cfg k) n) a0 a1 a2 a3) r):Ret 36 [V.agg [V.str a0,V.str a1,V.lst 140 false a2],V.str a3] [] r:=aR (g:=fun k n=>T36 (aA cfg k) (L36 (aA cfg k) n) a0 a1 a2 a3) (fun k=>C36 k a0 a1 a2 a3) h
theorem Oj (s0:List UInt8) (l1:List V) (i2:Int) (i3:Int) {r:V×List Ob} (h:Evt (fun k n=>FR (aA cfg k) (L36 (aA cfg k) n) s0 l1 i2 i3) r):Evt (fun k n=>(L36 (aA cfg k) n) s0 l1 i2 i3) r:=aX (fun k n=>rfl) h
def FS (call:FuncId→Fun) (ag0:List V→List V→Int→Int→List UInt8→List UInt8→List V→List UInt8→List UInt8→List UInt8→List V→List (Sc×Sc)→Option (V×List Ob)) (l0:List V) (l1:List V) (i2:Int) (i3:Int) (s4:List UInt8) (s5:List UInt8) (l6:List V) (s7:List UInt8) (s8:List UInt8) (s9:List UInt8) (l10:List V) (m11:List (Sc×Sc)):Option (V×List Ob):=
 if(decide (i3<i2))=true then
 chk (decide (0≤i3)) (chk (decide (i3<((length l1:Nat):Int))) (TN (call 87 [(V.str (getS (headD (V.cells (getD l1 (TO i3) V.bot)) V.bot))),(V.str [42])] []) fun z0=>
 TN (if(sEq (getS (headD (getT z0.1) V.bot)) [])=false then
 some (Sc.getB (jP (Sc.str (getS (headD (getT z0.1) V.bot))) m11))
 else
 some true) fun y1=>
 if y1=true then
 (ag0 (l0) (l1) (i2) ((TK .i64 (i3+(1:Int)))) (s4) (s5) (l6) (s7) (s8) (s9) (l10) (m11))
 else
 TN (call 88 [(V.lst 140 false l0),(V.str (getS (headD (getT z0.1) V.bot)))] []) fun z2=>
 if(getB (headD (tail (getT z2.1)) V.bot))=true then
 chk (cE l10 [(V.agg [(V.str (getS (headD (getT z0.1) V.bot))),(V.str (getS (headD (getT z2.1) V.bot)))])] 33) ((ag0 (l0) (l1) (i2) ((TK .i64 (i3+(1:Int)))) (s4) (s5) (l6) (s7) (s8) (s9) ((l10++[(V.agg [(V.str (getS (headD (getT z0.1) V.bot))),(V.str (getS (headD (getT z2.1) V.bot)))])])) ((rW (Sc.str (getS (headD (getT z0.1) V.bot))) (Sc.bool true) m11))))
 else
 (ag0 (l0) (l1) (i2) ((TK .i64 (i3+(1:Int)))) (s4) (s5) (l6) (s7) (s8) (s9) (l10) ((rW (Sc.str (getS (headD (getT z0.1) V.bot))) (Sc.bool true) m11)))))
 else
 some ((V.tup [(V.agg [(V.str s8),(V.str s9),(V.lst 140 false l10)]),(V.bool true)]),[])
def T60 (call:FuncId→Fun) (ag0:List V→List V→Int→Int→List UInt8→List UInt8→List V→List UInt8→List UInt8→List UInt8→List V→List (Sc×Sc)→Option (V×List Ob)) (a0:List UInt8) (a1:Bool):Option (V×List Ob):=
 TN (call 83 [(V.agg [(V.ref 0 0)])] [(Ob.cells [(V.str a0)])]) fun z0=>
 TN (call 84 [(V.agg [(V.ref 0 0)])] [(Ob.cells [(V.str (getS (headD (Ob.getC (headD z0.2 Ob.dead)) V.bot)))])]) fun z1=>
 TN (call 65 [(V.str (getS z1.1))] []) fun z2=>
 if(sEq (getS z2.1) [])=true then
 some ((V.tup [(V.agg [(V.str []),(V.str []),(V.lst 140 false [])]),(V.bool false)]),[])
 else
 if a1=true then
 TN (call 85 [(V.agg [(V.ref 0 0)]),(V.int .u8 47)] [(Ob.cells [(V.str (getS (headD (Ob.getC (headD z1.2 Ob.dead)) V.bot)))])]) fun z3=>
 if(!(getB z3.1))=true then
 some ((V.tup [(V.agg [(V.str []),(V.str []),(V.lst 140 false [])]),(V.bool false)]),[])
 else
 TN (call 84 [(V.agg [(V.ref 0 0)])] [(Ob.cells [(V.str (getS (headD (Ob.getC (headD z3.2 Ob.dead)) V.bot)))])]) fun z4=>
 TN (call 65 [(V.str (getS z4.1))] []) fun z5=>
 if(sEq (getS z5.1) [])=true then
 some ((V.tup [(V.agg [(V.str []),(V.str []),(V.lst 140 false [])]),(V.bool false)]),[])
 else
 TN (call 86 [(V.agg [(V.ref 0 0)])] [(Ob.cells [(V.str (getS (headD (Ob.getC (headD z4.2 Ob.dead)) V.bot)))])]) fun z6=>
 (ag0 ((getL z6.1)) ((getL z6.1)) (((length (getL z6.1):Nat):Int)) ((0:Int)) ([]) ([]) ([]) ((getS (headD (Ob.getC (headD z6.2 Ob.dead)) V.bot))) ((getS z2.1)) ((getS z5.1)) ([]) ([]))
 else
 TN (call 86 [(V.agg [(V.ref 0 0)])] [(Ob.cells [(V.str (getS (headD (Ob.getC (headD z1.2 Ob.dead)) V.bot)))])]) fun z3=>
 (ag0 ((getL z3.1)) ((getL z3.1)) (((length (getL z3.1):Nat):Int)) ((0:Int)) ([]) ([]) ([]) ((getS (headD (Ob.getC (headD z3.2 Ob.dead)) V.bot))) ((getS z2.1)) ([]) ([]) ([]))
def A60 (a0:List UInt8) (a1:Bool):List V:=[V.str a0,V.bool a1]
def Cv (l0:List V) (l1:List V) (i2:Int) (i3:Int) (s4:List UInt8) (s5:List UInt8) (l6:List V) (s7:List UInt8) (s8:List UInt8) (s9:List UInt8) (l10:List V) (m11:List (Sc×Sc)):St:=⟨[V.bot,V.bot,V.bot,V.bot,(V.ref 0 0),V.bot,V.bot,(V.ref 3 0),(V.lst 140 false l0),(V.mref 4),V.bot,V.bot,V.bot,V.bot,V.bot,V.bot,V.bot,V.bot,V.bot,V.bot,V.bot,V.bot,V.bot,V.bot,V.bot,V.bot,V.bot,V.bot,V.bot,V.bot,V.bot,V.bot,V.bot,V.bot,V.bot,V.bot,V.bot,V.bot,V.bot,V.bot,V.bot,V.bot,V.bot,V.bot,V.bot,V.bot,V.bot,(V.lst 140 false l1),(V.int TM i2),(V.int TM i3)]++TZ 36 V.bot,[(Ob.cells [(V.str s4),(V.str s5),(V.lst 140 true l6)]),(Ob.cells [(V.str s7)]),(Ob.cells [(V.ref 1 0)]),(Ob.cells [(V.str s8),(V.str s9),(V.lst 140 true l10)]),(Ob.mp SK.str SK.bool m11)]⟩
theorem QX (l0:List V) (l1:List V) (i2:Int) (i3:Int) (s4:List UInt8) (s5:List UInt8) (l6:List V) (s7:List UInt8) (s8:List UInt8) (s9:List UInt8) (l10:List V) (m11:List (Sc×Sc)):
 RM 60 Tryz.f60 [] call icall again (aJ Tryz.f60 0) (Cv l0 l1 i2 i3 s4 s5 l6 s7 s8 s9 l10 m11)=FS call (fun l0 l1 i2 i3 s4 s5 l6 s7 s8 s9 l10 m11=>again (aJ Tryz.f60 0) (Cv l0 l1 i2 i3 s4 s5 l6 s7 s8 s9 l10 m11)) l0 l1 i2 i3 s4 s5 l6 s7 s8 s9 l10 m11:=by kernel_rfl
theorem E60 (a0:List UInt8) (a1:Bool):GO 60 Tryz.f60 (A60 a0 a1) [] call icall again=T60 call (fun l0 l1 i2 i3 s4 s5 l6 s7 s8 s9 l10 m11=>again (aJ Tryz.f60 0) (Cv l0 l1 i2 i3 s4 s5 l6 s7 s8 s9 l10 m11)) a0 a1:=by kernel_rfl
def L60 (call:FuncId→Fun):Nat→(List V→List V→Int→Int→List UInt8→List UInt8→List V→List UInt8→List UInt8→List UInt8→List V→List (Sc×Sc)→Option (V×List Ob))
 |0=>fun _ _ _ _ _ _ _ _ _ _ _ _=>none
 |n+1=>FS call (L60 call n)
theorem R60 (call:FuncId→Fun) (icall:aN (V×List Ob)):∀n,(∀(l0:List V) (l1:List V) (i2:Int) (i3:Int) (s4:List UInt8) (s5:List UInt8) (l6:List V) (s7:List UInt8) (s8:List UInt8) (s9:List UInt8) (l10:List V) (m11:List (Sc×Sc)),RN 60 Tryz.f60 [] call icall n (aJ Tryz.f60 0) (Cv l0 l1 i2 i3 s4 s5 l6 s7 s8 s9 l10 m11)=(L60 call n) l0 l1 i2 i3 s4 s5 l6 s7 s8 s9 l10 m11)
 |0=>fun l0 l1 i2 i3 s4 s5 l6 s7 s8 s9 l10 m11=>rfl
 |n+1=>by
  have ih:=R60 call icall n
  exact fun l0 l1 i2 i3 s4 s5 l6 s7 s8 s9 l10 m11=>(QX call icall (RN 60 Tryz.f60 [] call icall n) l0 l1 i2 i3 s4 s5 l6 s7 s8 s9 l10 m11).trans (by rw[show(fun l0 l1 i2 i3 s4 s5 l6 s7 s8 s9 l10 m11=>RN 60 Tryz.f60 [] call icall n (aJ Tryz.f60 0) (Cv l0 l1 i2 i3 s4 s5 l6 s7 s8 s9 l10 m11))=(L60 call n)from(funext fun l0=>funext fun l1=>funext fun i2=>funext fun i3=>funext fun s4=>funext fun s5=>funext fun l6=>funext fun s7=>funext fun s8=>funext fun s9=>funext fun l10=>funext fun m11=>ih l0 l1 i2 i3 s4 s5 l6 s7 s8 s9 l10 m11)];rfl)
theorem C60 (k:Nat) (a0:List UInt8) (a1:Bool):aA cfg (k+1) 60 (A60 a0 a1) []=T60 (aA cfg k) (L60 (aA cfg k) k) a0 a1:=by
 have ih:=R60 (aA cfg k) (aF cfg (aA cfg k) 20) k
 refine(show aA cfg (k+1) 60 (A60 a0 a1) []=GO 60 Tryz.f60 (A60 a0 a1) [] (aA cfg k) (aF cfg (aA cfg k) 20) (RN 60 Tryz.f60 [] (aA cfg k) (aF cfg (aA cfg k) 20) k)by kernel_rfl).trans ((E60 _ _ _ a0 a1).trans ?_)
 rw[show(fun l0 l1 i2 i3 s4 s5 l6 s7 s8 s9 l10 m11=>RN 60 Tryz.f60 [] (aA cfg k) (aF cfg (aA cfg k) 20) k (aJ Tryz.f60 0) (Cv l0 l1 i2 i3 s4 s5 l6 s7 s8 s9 l10 m11))=(L60 (aA cfg k) k)from(funext fun l0=>funext fun l1=>funext fun i2=>funext fun i3=>funext fun s4=>funext fun s5=>funext fun l6=>funext fun s7=>funext fun s8=>funext fun s9=>funext fun l10=>funext fun m11=>ih l0 l1 i2 i3 s4 s5 l6 s7 s8 s9 l10 m11)]
theorem M60 (a0:List UInt8) (a1:Bool) {r:V×List Ob} (h:Evt (fun k n=>T60 (aA cfg k) (L60 (aA cfg k) n) a0 a1) r):Ret 60 [V.str a0,V.bool a1] [] r:=aR (g:=fun k n=>T60 (aA cfg k) (L60 (aA cfg k) n) a0 a1) (fun k=>C60 k a0 a1) h
theorem Ol (l0:List V) (l1:List V) (i2:Int) (i3:Int) (s4:List UInt8) (s5:List UInt8) (l6:List V) (s7:List UInt8) (s8:List UInt8) (s9:List UInt8) (l10:List V) (m11:List (Sc×Sc)) {r:V×List Ob} (h:Evt (fun k n=>FS (aA cfg k) (L60 (aA cfg k) n) l0 l1 i2 i3 s4 s5 l6 s7 s8 s9 l10 m11) r):Evt (fun k n=>(L60 (aA cfg k) n) l0 l1 i2 i3 s4 s5 l6 s7 s8 s9 l10 m11) r:=aX (fun k n=>rfl) h
def T62 (call:FuncId→Fun) (a0:List UInt8) (a1:List UInt8):Option (V×List Ob):=
 TN (call 65 [(V.str a0)] []) fun z0=>
 TN (call 65 [(V.str a1)] []) fun z1=>
 some ((V.bool (sEq (getS z0.1) (getS z1.1))),[])
def A62 (a0:List UInt8) (a1:List UInt8):List V:=[V.str a0,V.str a1]
theorem E62 (a0:List UInt8) (a1:List UInt8):GO 62 Tryz.f62 (A62 a0 a1) [] call icall again=T62 call a0 a1:=by kernel_rfl
theorem C62 (k:Nat) (a0:List UInt8) (a1:List UInt8):aA cfg (k+1) 62 (A62 a0 a1) []=T62 (aA cfg k) a0 a1:=
 (show aA cfg (k+1) 62 (A62 a0 a1) []=GO 62 Tryz.f62 (A62 a0 a1) [] (aA cfg k) (aF cfg (aA cfg k) 20) (RN 62 Tryz.f62 [] (aA cfg k) (aF cfg (aA cfg k) 20) k)by kernel_rfl).trans (E62 _ _ _ a0 a1)
theorem M62 (a0:List UInt8) (a1:List UInt8) {r:V×List Ob} (h:Evt (fun k n=>T62 (aA cfg k) a0 a1) r):Ret 62 [V.str a0,V.str a1] [] r:=aR (g:=fun k n=>T62 (aA cfg k) a0 a1) (fun k=>C62 k a0 a1) h
def FT (call:FuncId→Fun) (ag0:List UInt8→Option (V×List Ob)) (s0:List UInt8):Option (V×List Ob):=
 if(decide (((length s0:Nat):Int)>(0:Int)))=true then
 TN (call 106 [(V.ref 0 0),(V.int .i64 0)] [(Ob.cells [(V.str s0)])]) fun z0=>
 TN (call 81 [(V.int .u8 (getI z0.1))] []) fun z1=>
 if(getB z1.1)=true then
 chk (decide (0≤(1:Int))) (chk (decide ((1:Int)≤((length s0:Nat):Int))) ((ag0 ((drop (TO (1:Int)) s0)))))
 else
 if((getI z0.1)==(40:Int))=true then
 TN (call 107 [(V.agg [(V.ref 0 0)])] [(Ob.cells [(V.str s0)])]) fun z2=>
 chk (decide (0≤(getI z2.1))) (chk (decide ((getI z2.1)≤((length s0:Nat):Int))) ((ag0 ((drop (TO (getI z2.1)) s0)))))
 else
 some ((V.tup []),[(Ob.cells [(V.str s0)])])
 else
 some ((V.tup []),[(Ob.cells [(V.str s0)])])
def T83 (call:FuncId→Fun) (ag0:List UInt8→Option (V×List Ob)) (a0:List UInt8):Option (V×List Ob):=
 (ag0 (a0))
def O83 (a0:List UInt8):List Ob:=[Ob.cells [V.str a0]]
def A83:List V:=[V.agg [V.ref 0 0]]
def Cw (s0:List UInt8):St:=⟨[V.bot,(V.ref 1 0)]++TZ 39 V.bot,[(Ob.cells [(V.str s0)]),(Ob.cells [(V.ref 0 0)])]⟩
theorem QY (a0:List UInt8) (s0:List UInt8):
 RM 83 Tryz.f83 (O83 a0) call icall again (aJ Tryz.f83 0) (Cw s0)=FT call (fun s0=>again (aJ Tryz.f83 0) (Cw s0)) s0:=by kernel_rfl
theorem E83 (a0:List UInt8):GO 83 Tryz.f83 A83 (O83 a0) call icall again=T83 call (fun s0=>again (aJ Tryz.f83 0) (Cw s0)) a0:=by kernel_rfl
def L83 (call:FuncId→Fun):Nat→(List UInt8→Option (V×List Ob))
 |0=>fun _=>none
 |n+1=>FT call (L83 call n)
theorem R83 (call:FuncId→Fun) (icall:aN (V×List Ob)) (a0:List UInt8):∀n,(∀(s0:List UInt8),RN 83 Tryz.f83 (O83 a0) call icall n (aJ Tryz.f83 0) (Cw s0)=(L83 call n) s0)
 |0=>fun s0=>rfl
 |n+1=>by
  have ih:=R83 call icall a0 n
  exact fun s0=>(QY call icall (RN 83 Tryz.f83 (O83 a0) call icall n) a0 s0).trans (by rw[show(fun s0=>RN 83 Tryz.f83 (O83 a0) call icall n (aJ Tryz.f83 0) (Cw s0))=(L83 call n)from(funext fun s0=>ih s0)];rfl)
theorem C83 (k:Nat) (a0:List UInt8):aA cfg (k+1) 83 A83 (O83 a0)=T83 (aA cfg k) (L83 (aA cfg k) k) a0:=by
 have ih:=R83 (aA cfg k) (aF cfg (aA cfg k) 20) a0 k
 refine(show aA cfg (k+1) 83 A83 (O83 a0)=GO 83 Tryz.f83 A83 (O83 a0) (aA cfg k) (aF cfg (aA cfg k) 20) (RN 83 Tryz.f83 (O83 a0) (aA cfg k) (aF cfg (aA cfg k) 20) k)by kernel_rfl).trans ((E83 _ _ _ a0).trans ?_)
 rw[show(fun s0=>RN 83 Tryz.f83 (O83 a0) (aA cfg k) (aF cfg (aA cfg k) 20) k (aJ Tryz.f83 0) (Cw s0))=(L83 (aA cfg k) k)from(funext fun s0=>ih s0)]
theorem M83 (a0:List UInt8) {r:V×List Ob} (h:Evt (fun k n=>T83 (aA cfg k) (L83 (aA cfg k) n) a0) r):Ret 83 [V.agg [V.ref 0 0]] [Ob.cells [V.str a0]] r:=aR (g:=fun k n=>T83 (aA cfg k) (L83 (aA cfg k) n) a0) (fun k=>C83 k a0) h
theorem Om (s0:List UInt8) {r:V×List Ob} (h:Evt (fun k n=>FT (aA cfg k) (L83 (aA cfg k) n) s0) r):Evt (fun k n=>(L83 (aA cfg k) n) s0) r:=aX (fun k n=>rfl) h
def FU (call:FuncId→Fun) (ag0:Int→List UInt8→Option (V×List Ob)) (i0:Int) (s1:List UInt8):Option (V×List Ob):=
 if(decide (i0<((length s1:Nat):Int)))=true then
 chk (decide (0≤i0)) (chk (decide (i0<((length s1:Nat):Int))) (TN (call 108 [(V.int .u8 ((UU (getD s1 (TO i0) 0):Nat):Int))] []) fun z0=>
 if(getB z0.1)=true then
 (ag0 ((TK .i64 (i0+(1:Int)))) (s1))
 else
 chk (decide (0≤i0)) (chk (decide (i0≤((length s1:Nat):Int))) (chk (decide (0≤(0:Int))) (chk (decide ((0:Int)≤i0)) (chk (decide (0≤i0)) (chk (decide (i0≤((length s1:Nat):Int))) (some ((V.str (drop (TO (0:Int)) (take (TO i0) s1))),[(Ob.cells [(V.str (drop (TO i0) s1))])])))))))))
 else
 chk (decide (0≤i0)) (chk (decide (i0≤((length s1:Nat):Int))) (chk (decide (0≤(0:Int))) (chk (decide ((0:Int)≤i0)) (chk (decide (0≤i0)) (chk (decide (i0≤((length s1:Nat):Int))) (some ((V.str (drop (TO (0:Int)) (take (TO i0) s1))),[(Ob.cells [(V.str (drop (TO i0) s1))])])))))))
def T84 (call:FuncId→Fun) (ag0:Int→List UInt8→Option (V×List Ob)) (a0:List UInt8):Option (V×List Ob):=
 (ag0 ((0:Int)) (a0))
def O84 (a0:List UInt8):List Ob:=[Ob.cells [V.str a0]]
def A84:List V:=[V.agg [V.ref 0 0]]
def Cx (i0:Int) (s1:List UInt8):St:=⟨[V.bot,(V.ref 1 0),V.bot,(V.int TM i0)]++TZ 40 V.bot,[(Ob.cells [(V.str s1)]),(Ob.cells [(V.ref 0 0)])]⟩
theorem QZ (a0:List UInt8) (i0:Int) (s1:List UInt8):
 RM 84 Tryz.f84 (O84 a0) call icall again (aJ Tryz.f84 0) (Cx i0 s1)=FU call (fun i0 s1=>again (aJ Tryz.f84 0) (Cx i0 s1)) i0 s1:=by kernel_rfl
theorem E84 (a0:List UInt8):GO 84 Tryz.f84 A84 (O84 a0) call icall again=T84 call (fun i0 s1=>again (aJ Tryz.f84 0) (Cx i0 s1)) a0:=by kernel_rfl
def L84 (call:FuncId→Fun):Nat→(Int→List UInt8→Option (V×List Ob))
 |0=>fun _ _=>none
 |n+1=>FU call (L84 call n)
theorem R84 (call:FuncId→Fun) (icall:aN (V×List Ob)) (a0:List UInt8):∀n,(∀(i0:Int) (s1:List UInt8),RN 84 Tryz.f84 (O84 a0) call icall n (aJ Tryz.f84 0) (Cx i0 s1)=(L84 call n) i0 s1)
 |0=>fun i0 s1=>rfl
 |n+1=>by
  have ih:=R84 call icall a0 n
  exact fun i0 s1=>(QZ call icall (RN 84 Tryz.f84 (O84 a0) call icall n) a0 i0 s1).trans (by rw[show(fun i0 s1=>RN 84 Tryz.f84 (O84 a0) call icall n (aJ Tryz.f84 0) (Cx i0 s1))=(L84 call n)from(funext fun i0=>funext fun s1=>ih i0 s1)];rfl)
theorem C84 (k:Nat) (a0:List UInt8):aA cfg (k+1) 84 A84 (O84 a0)=T84 (aA cfg k) (L84 (aA cfg k) k) a0:=by
 have ih:=R84 (aA cfg k) (aF cfg (aA cfg k) 20) a0 k
 refine(show aA cfg (k+1) 84 A84 (O84 a0)=GO 84 Tryz.f84 A84 (O84 a0) (aA cfg k) (aF cfg (aA cfg k) 20) (RN 84 Tryz.f84 (O84 a0) (aA cfg k) (aF cfg (aA cfg k) 20) k)by kernel_rfl).trans ((E84 _ _ _ a0).trans ?_)
 rw[show(fun i0 s1=>RN 84 Tryz.f84 (O84 a0) (aA cfg k) (aF cfg (aA cfg k) 20) k (aJ Tryz.f84 0) (Cx i0 s1))=(L84 (aA cfg k) k)from(funext fun i0=>funext fun s1=>ih i0 s1)]
theorem M84 (a0:List UInt8) {r:V×List Ob} (h:Evt (fun k n=>T84 (aA cfg k) (L84 (aA cfg k) n) a0) r):Ret 84 [V.agg [V.ref 0 0]] [Ob.cells [V.str a0]] r:=aR (g:=fun k n=>T84 (aA cfg k) (L84 (aA cfg k) n) a0) (fun k=>C84 k a0) h
theorem On (i0:Int) (s1:List UInt8) {r:V×List Ob} (h:Evt (fun k n=>FU (aA cfg k) (L84 (aA cfg k) n) i0 s1) r):Evt (fun k n=>(L84 (aA cfg k) n) i0 s1) r:=aX (fun k n=>rfl) h
def T85 (call:FuncId→Fun) (a0:List UInt8) (a1:Int):Option (V×List Ob):=
 TN (call 83 [(V.agg [(V.ref 0 0)])] [(Ob.cells [(V.str a0)])]) fun z0=>
 TN (call 106 [(V.ref 0 0),(V.int .i64 0)] [(Ob.cells [(V.str (getS (headD (Ob.getC (headD z0.2 Ob.dead)) V.bot)))])]) fun z1=>
 if((getI z1.1) != a1)=true then
 some ((V.bool false),[(Ob.cells [(V.str (getS (headD (Ob.getC (headD z0.2 Ob.dead)) V.bot)))])])
 else
 chk (decide (0≤(1:Int))) (chk (decide ((1:Int)≤((length (getS (headD (Ob.getC (headD z0.2 Ob.dead)) V.bot)):Nat):Int))) (TN (call 83 [(V.agg [(V.ref 0 0)])] [(Ob.cells [(V.str (drop (TO (1:Int)) (getS (headD (Ob.getC (headD z0.2 Ob.dead)) V.bot))))])]) fun z2=>
 some ((V.bool true),[(Ob.cells [(V.str (getS (headD (Ob.getC (headD z2.2 Ob.dead)) V.bot)))])])))
def O85 (a0:List UInt8):List Ob:=[Ob.cells [V.str a0]]
def A85 (a1:Int):List V:=[V.agg [V.ref 0 0],V.int UT a1]
theorem E85 (a0:List UInt8) (a1:Int):GO 85 Tryz.f85 (A85 a1) (O85 a0) call icall again=T85 call a0 a1:=by kernel_rfl
theorem C85 (k:Nat) (a0:List UInt8) (a1:Int):aA cfg (k+1) 85 (A85 a1) (O85 a0)=T85 (aA cfg k) a0 a1:=
 (show aA cfg (k+1) 85 (A85 a1) (O85 a0)=GO 85 Tryz.f85 (A85 a1) (O85 a0) (aA cfg k) (aF cfg (aA cfg k) 20) (RN 85 Tryz.f85 (O85 a0) (aA cfg k) (aF cfg (aA cfg k) 20) k)by kernel_rfl).trans (E85 _ _ _ a0 a1)
theorem M85 (a0:List UInt8) (a1:Int) {r:V×List Ob} (h:Evt (fun k n=>T85 (aA cfg k) a0 a1) r):Ret 85 [V.agg [V.ref 0 0],V.int UT a1] [Ob.cells [V.str a0]] r:=aR (g:=fun k n=>T85 (aA cfg k) a0 a1) (fun k=>C85 k a0 a1) h
def Cy (call:FuncId→Fun) (ag0:List V→List UInt8→Option (V×List Ob)) (l0:List V) (s1:List UInt8):Option (V×List Ob):=
 TN (call 85 [(V.agg [(V.ref 0 0)]),(V.int .u8 59)] [(Ob.cells [(V.str s1)])]) fun z0=>
 if(getB z0.1)=true then
 TN (call 84 [(V.agg [(V.ref 0 0)])] [(Ob.cells [(V.str (getS (headD (Ob.getC (headD z0.2 Ob.dead)) V.bot)))])]) fun z1=>
 TN (call 65 [(V.str (getS z1.1))] []) fun z2=>
 if(sEq (getS z2.1) [])=false then
 TN (call 85 [(V.agg [(V.ref 0 0)]),(V.int .u8 61)] [(Ob.cells [(V.str (getS (headD (Ob.getC (headD z1.2 Ob.dead)) V.bot)))])]) fun z3=>
 if(!(getB z3.1))=true then
 some ((V.lst 140 false l0),[(Ob.cells [(V.str (getS (headD (Ob.getC (headD z3.2 Ob.dead)) V.bot)))])])
 else
 TN (call 109 [(V.agg [(V.ref 0 0)])] [(Ob.cells [(V.str (getS (headD (Ob.getC (headD z3.2 Ob.dead)) V.bot)))])]) fun z4=>
 if(!(getB (headD (tail (getT z4.1)) V.bot)))=true then
 some ((V.lst 140 false l0),[(Ob.cells [(V.str (getS (headD (Ob.getC (headD z4.2 Ob.dead)) V.bot)))])])
 else
 chk (cE l0 [(V.agg [(V.str (getS z2.1)),(V.str (getS (headD (getT z4.1) V.bot)))])] 33) ((ag0 ((l0++[(V.agg [(V.str (getS z2.1)),(V.str (getS (headD (getT z4.1) V.bot)))])])) ((getS (headD (Ob.getC (headD z4.2 Ob.dead)) V.bot)))))
 else
 some ((V.lst 140 false l0),[(Ob.cells [(V.str (getS (headD (Ob.getC (headD z1.2 Ob.dead)) V.bot)))])])
 else
 some ((V.lst 140 false l0),[(Ob.cells [(V.str (getS (headD (Ob.getC (headD z0.2 Ob.dead)) V.bot)))])])
def T86 (call:FuncId→Fun) (ag0:List V→List UInt8→Option (V×List Ob)) (a0:List UInt8):Option (V×List Ob):=
 (ag0 ([]) (a0))
def O86 (a0:List UInt8):List Ob:=[Ob.cells [V.str a0]]
def A86:List V:=[V.agg [V.ref 0 0]]
def Cz (l0:List V) (s1:List UInt8):St:=⟨[V.bot,(V.ref 1 0),V.bot,(V.lst 140 true l0)]++TZ 29 V.bot,[(Ob.cells [(V.str s1)]),(Ob.cells [(V.ref 0 0)])]⟩
theorem Q0 (a0:List UInt8) (l0:List V) (s1:List UInt8):
 RM 86 Tryz.f86 (O86 a0) call icall again (aJ Tryz.f86 0) (Cz l0 s1)=Cy call (fun l0 s1=>again (aJ Tryz.f86 0) (Cz l0 s1)) l0 s1:=by kernel_rfl
theorem E86 (a0:List UInt8):GO 86 Tryz.f86 A86 (O86 a0) call icall again=T86 call (fun l0 s1=>again (aJ Tryz.f86 0) (Cz l0 s1)) a0:=by kernel_rfl
def L86 (call:FuncId→Fun):Nat→(List V→List UInt8→Option (V×List Ob))
 |0=>fun _ _=>none
 |n+1=>Cy call (L86 call n)
theorem R86 (call:FuncId→Fun) (icall:aN (V×List Ob)) (a0:List UInt8):∀n,(∀(l0:List V) (s1:List UInt8),RN 86 Tryz.f86 (O86 a0) call icall n (aJ Tryz.f86 0) (Cz l0 s1)=(L86 call n) l0 s1)
 |0=>fun l0 s1=>rfl
 |n+1=>by
  have ih:=R86 call icall a0 n
  exact fun l0 s1=>(Q0 call icall (RN 86 Tryz.f86 (O86 a0) call icall n) a0 l0 s1).trans (by rw[show(fun l0 s1=>RN 86 Tryz.f86 (O86 a0) call icall n (aJ Tryz.f86 0) (Cz l0 s1))=(L86 call n)from(funext fun l0=>funext fun s1=>ih l0 s1)];rfl)
theorem C86 (k:Nat) (a0:List UInt8):aA cfg (k+1) 86 A86 (O86 a0)=T86 (aA cfg k) (L86 (aA cfg k) k) a0:=by
 have ih:=R86 (aA cfg k) (aF cfg (aA cfg k) 20) a0 k
 refine(show aA cfg (k+1) 86 A86 (O86 a0)=GO 86 Tryz.f86 A86 (O86 a0) (aA cfg k) (aF cfg (aA cfg k) 20) (RN 86 Tryz.f86 (O86 a0) (aA cfg k) (aF cfg (aA cfg k) 20) k)by kernel_rfl).trans ((E86 _ _ _ a0).trans ?_)
 rw[show(fun l0 s1=>RN 86 Tryz.f86 (O86 a0) (aA cfg k) (aF cfg (aA cfg k) 20) k (aJ Tryz.f86 0) (Cz l0 s1))=(L86 (aA cfg k) k)from(funext fun l0=>funext fun s1=>ih l0 s1)]
theorem M86 (a0:List UInt8) {r:V×List Ob} (h:Evt (fun k n=>T86 (aA cfg k) (L86 (aA cfg k) n) a0) r):Ret 86 [V.agg [V.ref 0 0]] [Ob.cells [V.str a0]] r:=aR (g:=fun k n=>T86 (aA cfg k) (L86 (aA cfg k) n) a0) (fun k=>C86 k a0) h
theorem Lt (l0:List V) (s1:List UInt8) {r:V×List Ob} (h:Evt (fun k n=>Cy (aA cfg k) (L86 (aA cfg k) n) l0 s1) r):Evt (fun k n=>(L86 (aA cfg k) n) l0 s1) r:=aX (fun k n=>rfl) h
def T87 (call:FuncId→Fun) (a0:List UInt8) (a1:List UInt8):Option (V×List Ob):=
 TN (call 110 [(V.str a0),(V.str a1)] []) fun z0=>
 some ((V.tup [(V.str (getS (headD (getT z0.1) V.bot))),(V.str (getS (headD (tail (getT z0.1)) V.bot))),(V.bool (getB (headD (tail (tail (getT z0.1))) V.bot)))]),[])
def A87 (a0:List UInt8) (a1:List UInt8):List V:=[V.str a0,V.str a1]
theorem E87 (a0:List UInt8) (a1:List UInt8):GO 87 Tryz.f87 (A87 a0 a1) [] call icall again=T87 call a0 a1:=by kernel_rfl
theorem C87 (k:Nat) (a0:List UInt8) (a1:List UInt8):aA cfg (k+1) 87 (A87 a0 a1) []=T87 (aA cfg k) a0 a1:=
 (show aA cfg (k+1) 87 (A87 a0 a1) []=GO 87 Tryz.f87 (A87 a0 a1) [] (aA cfg k) (aF cfg (aA cfg k) 20) (RN 87 Tryz.f87 [] (aA cfg k) (aF cfg (aA cfg k) 20) k)by kernel_rfl).trans (E87 _ _ _ a0 a1)
theorem M87 (a0:List UInt8) (a1:List UInt8) {r:V×List Ob} (h:Evt (fun k n=>T87 (aA cfg k) a0 a1) r):Ret 87 [V.str a0,V.str a1] [] r:=aR (g:=fun k n=>T87 (aA cfg k) a0 a1) (fun k=>C87 k a0 a1) h
def T88 (call:FuncId→Fun) (a0:List V) (a1:List UInt8):Option (V×List Ob):=
 TN (call 111 [(V.lst 140 false a0),(V.str a1)] []) fun z0=>
 if(getB (headD (tail (getT z0.1)) V.bot))=true then
 some ((V.tup [(V.str (getS (headD (getT z0.1) V.bot))),(V.bool true)]),[])
 else
 chk (fK a1 [42]) (TN (call 111 [(V.lst 140 false a0),(V.str (a1++[42]))] []) fun z1=>
 if(getB (headD (tail (getT z1.1)) V.bot))=true then
 TN (call 113 [(V.str (getS (headD (getT z1.1) V.bot)))] []) fun z2=>
 TN (call 112 [(V.str (getS z2.1))] []) fun z3=>
 some ((V.tup [(V.str (getS z3.1)),(V.bool true)]),[])
 else
 TN (call 114 [(V.lst 140 false a0),(V.str a1)] []) fun z2=>
 some ((V.tup [(V.str (getS (headD (getT z2.1) V.bot))),(V.bool (getB (headD (tail (getT z2.1)) V.bot)))]),[]))
def A88 (a0:List V) (a1:List UInt8):List V:=[V.lst 140 false a0,V.str a1]
theorem E88 (a0:List V) (a1:List UInt8):GO 88 Tryz.f88 (A88 a0 a1) [] call icall again=T88 call a0 a1:=by kernel_rfl
theorem C88 (k:Nat) (a0:List V) (a1:List UInt8):aA cfg (k+1) 88 (A88 a0 a1) []=T88 (aA cfg k) a0 a1:=
 (show aA cfg (k+1) 88 (A88 a0 a1) []=GO 88 Tryz.f88 (A88 a0 a1) [] (aA cfg k) (aF cfg (aA cfg k) 20) (RN 88 Tryz.f88 [] (aA cfg k) (aF cfg (aA cfg k) 20) k)by kernel_rfl).trans (E88 _ _ _ a0 a1)
theorem M88 (a0:List V) (a1:List UInt8) {r:V×List Ob} (h:Evt (fun k n=>T88 (aA cfg k) a0 a1) r):Ret 88 [V.lst 140 false a0,V.str a1] [] r:=aR (g:=fun k n=>T88 (aA cfg k) a0 a1) (fun k=>C88 k a0 a1) h
def Lu (call:FuncId→Fun) (a0:List UInt8) (a1:Int):Option (V×List Ob):=
 if(decide (a1≥((length a0:Nat):Int)))=true then
 some ((V.int .u8 0),[(Ob.cells [(V.str a0)])])
 else
 chk (decide (0≤a1)) (chk (decide (a1<((length a0:Nat):Int))) (some ((V.int .u8 ((UU (getD a0 (TO a1) 0):Nat):Int)),[(Ob.cells [(V.str a0)])])))
def Lx (a0:List UInt8):List Ob:=[Ob.cells [V.str a0]]
def Nm (a1:Int):List V:=[V.ref 0 0,V.int TM a1]
theorem SE (a0:List UInt8) (a1:Int):GO 106 Tryz.f106 (Nm a1) (Lx a0) call icall again=Lu call a0 a1:=by kernel_rfl
theorem SG (k:Nat) (a0:List UInt8) (a1:Int):aA cfg (k+1) 106 (Nm a1) (Lx a0)=Lu (aA cfg k) a0 a1:=
 (show aA cfg (k+1) 106 (Nm a1) (Lx a0)=GO 106 Tryz.f106 (Nm a1) (Lx a0) (aA cfg k) (aF cfg (aA cfg k) 20) (RN 106 Tryz.f106 (Lx a0) (aA cfg k) (aF cfg (aA cfg k) 20) k)by kernel_rfl).trans (SE _ _ _ a0 a1)
theorem SH (a0:List UInt8) (a1:Int) {r:V×List Ob} (h:Evt (fun k n=>Lu (aA cfg k) a0 a1) r):Ret 106 [V.ref 0 0,V.int TM a1] [Ob.cells [V.str a0]] r:=aR (g:=fun k n=>Lu (aA cfg k) a0 a1) (fun k=>SG k a0 a1) h
def T81 (call:FuncId→Fun) (a0:Int):Option (V×List Ob):=
 TN (if(a0==(32:Int))=false then
 some (a0==(9:Int))
 else
 some true) fun y0=>
 some ((V.bool y0),[])
def A81 (a0:Int):List V:=[V.int UT a0]
theorem E81 (a0:Int):GO 81 Tryz.f81 (A81 a0) [] call icall again=T81 call a0:=by kernel_rfl
theorem C81 (k:Nat) (a0:Int):aA cfg (k+1) 81 (A81 a0) []=T81 (aA cfg k) a0:=
 (show aA cfg (k+1) 81 (A81 a0) []=GO 81 Tryz.f81 (A81 a0) [] (aA cfg k) (aF cfg (aA cfg k) 20) (RN 81 Tryz.f81 [] (aA cfg k) (aF cfg (aA cfg k) 20) k)by kernel_rfl).trans (E81 _ _ _ a0)
theorem M81 (a0:Int) {r:V×List Ob} (h:Evt (fun k n=>T81 (aA cfg k) a0) r):Ret 81 [V.int UT a0] [] r:=aR (g:=fun k n=>T81 (aA cfg k) a0) (fun k=>C81 k a0) h
def nB (call:FuncId→Fun) (ag0:Int→Int→List UInt8→Option (V×List Ob)) (i0:Int) (i1:Int) (s2:List UInt8):Option (V×List Ob):=
 if(decide (i1<((length s2:Nat):Int)))=true then
 chk (decide (0≤i1)) (chk (decide (i1<((length s2:Nat):Int))) (if(((UU (getD s2 (TO i1) 0):Nat):Int)==(92:Int))=true then
 (ag0 (i0) ((TK .i64 ((TK .i64 (i1+(1:Int)))+(1:Int)))) (s2))
 else
 if(((UU (getD s2 (TO i1) 0):Nat):Int)==(40:Int))=true then
 (ag0 ((TK .i64 (i0+(1:Int)))) ((TK .i64 (i1+(1:Int)))) (s2))
 else
 if(((UU (getD s2 (TO i1) 0):Nat):Int)==(41:Int))=true then
 if((TK .i64 (i0 - (1:Int)))==(0:Int))=true then
 some ((V.int .i64 (TK .i64 (i1+(1:Int)))),[(Ob.cells [(V.str s2)])])
 else
 (ag0 ((TK .i64 (i0 - (1:Int)))) ((TK .i64 (i1+(1:Int)))) (s2))
 else
 (ag0 (i0) ((TK .i64 (i1+(1:Int)))) (s2))))
 else
 some ((V.int .i64 ((length s2:Nat):Int)),[(Ob.cells [(V.str s2)])])
def Ly (call:FuncId→Fun) (ag0:Int→Int→List UInt8→Option (V×List Ob)) (a0:List UInt8):Option (V×List Ob):=
 (ag0 ((0:Int)) ((0:Int)) (a0))
def BQ (a0:List UInt8):List Ob:=[Ob.cells [V.str a0]]
def Nn:List V:=[V.agg [V.ref 0 0]]
def xB (i0:Int) (i1:Int) (s2:List UInt8):St:=⟨[V.bot,(V.ref 1 0),V.bot,(V.int TM i0),(V.int TM i1)]++TZ 39 V.bot,[(Ob.cells [(V.str s2)]),(Ob.cells [(V.ref 0 0)])]⟩
theorem Pv (a0:List UInt8) (i0:Int) (i1:Int) (s2:List UInt8):
 RM 107 Tryz.f107 (BQ a0) call icall again (aJ Tryz.f107 0) (xB i0 i1 s2)=nB call (fun i0 i1 s2=>again (aJ Tryz.f107 0) (xB i0 i1 s2)) i0 i1 s2:=by kernel_rfl
theorem SI (a0:List UInt8):GO 107 Tryz.f107 Nn (BQ a0) call icall again=Ly call (fun i0 i1 s2=>again (aJ Tryz.f107 0) (xB i0 i1 s2)) a0:=by kernel_rfl
def xC (call:FuncId→Fun):Nat→(Int→Int→List UInt8→Option (V×List Ob))
 |0=>fun _ _ _=>none
 |n+1=>nB call (xC call n)
theorem Q1 (call:FuncId→Fun) (icall:aN (V×List Ob)) (a0:List UInt8):∀n,(∀(i0:Int) (i1:Int) (s2:List UInt8),RN 107 Tryz.f107 (BQ a0) call icall n (aJ Tryz.f107 0) (xB i0 i1 s2)=(xC call n) i0 i1 s2)
 |0=>fun i0 i1 s2=>rfl
 |n+1=>by
  have ih:=Q1 call icall a0 n
  exact fun i0 i1 s2=>(Pv call icall (RN 107 Tryz.f107 (BQ a0) call icall n) a0 i0 i1 s2).trans (by rw[show(fun i0 i1 s2=>RN 107 Tryz.f107 (BQ a0) call icall n (aJ Tryz.f107 0) (xB i0 i1 s2))=(xC call n)from(funext fun i0=>funext fun i1=>funext fun s2=>ih i0 i1 s2)];rfl)
theorem SJ (k:Nat) (a0:List UInt8):aA cfg (k+1) 107 Nn (BQ a0)=Ly (aA cfg k) (xC (aA cfg k) k) a0:=by
 have ih:=Q1 (aA cfg k) (aF cfg (aA cfg k) 20) a0 k
 refine(show aA cfg (k+1) 107 Nn (BQ a0)=GO 107 Tryz.f107 Nn (BQ a0) (aA cfg k) (aF cfg (aA cfg k) 20) (RN 107 Tryz.f107 (BQ a0) (aA cfg k) (aF cfg (aA cfg k) 20) k)by kernel_rfl).trans ((SI _ _ _ a0).trans ?_)
 rw[show(fun i0 i1 s2=>RN 107 Tryz.f107 (BQ a0) (aA cfg k) (aF cfg (aA cfg k) 20) k (aJ Tryz.f107 0) (xB i0 i1 s2))=(xC (aA cfg k) k)from(funext fun i0=>funext fun i1=>funext fun s2=>ih i0 i1 s2)]
theorem SL (a0:List UInt8) {r:V×List Ob} (h:Evt (fun k n=>Ly (aA cfg k) (xC (aA cfg k) n) a0) r):Ret 107 [V.agg [V.ref 0 0]] [Ob.cells [V.str a0]] r:=aR (g:=fun k n=>Ly (aA cfg k) (xC (aA cfg k) n) a0) (fun k=>SJ k a0) h
theorem Lz (i0:Int) (i1:Int) (s2:List UInt8) {r:V×List Ob} (h:Evt (fun k n=>nB (aA cfg k) (xC (aA cfg k) n) i0 i1 s2) r):Evt (fun k n=>(xC (aA cfg k) n) i0 i1 s2) r:=aX (fun k n=>rfl) h
def T93 (call:FuncId→Fun) (a0:Int):Option (V×List Ob):=
 TN (if(decide (a0≥(65:Int)))=true then
 some (decide (a0≤(90:Int)))
 else
 some false) fun y0=>
 if y0=true then
 some ((V.int .u8 (TK .u8 ((TK .u8 (a0 - (65:Int)))+(97:Int)))),[])
 else
 some ((V.int .u8 a0),[])
def A93 (a0:Int):List V:=[V.int UT a0]
theorem E93 (a0:Int):GO 93 Tryz.f93 (A93 a0) [] call icall again=T93 call a0:=by kernel_rfl
theorem C93 (k:Nat) (a0:Int):aA cfg (k+1) 93 (A93 a0) []=T93 (aA cfg k) a0:=
 (show aA cfg (k+1) 93 (A93 a0) []=GO 93 Tryz.f93 (A93 a0) [] (aA cfg k) (aF cfg (aA cfg k) 20) (RN 93 Tryz.f93 [] (aA cfg k) (aF cfg (aA cfg k) 20) k)by kernel_rfl).trans (E93 _ _ _ a0)
theorem M93 (a0:Int) {r:V×List Ob} (h:Evt (fun k n=>T93 (aA cfg k) a0) r):Ret 93 [V.int UT a0] [] r:=aR (g:=fun k n=>T93 (aA cfg k) a0) (fun k=>C93 k a0) h
def LA (call:FuncId→Fun) (a0:Int):Option (V×List Ob):=
 if(decide (a0≥(33:Int)))=true then
 if(decide (a0≤(126:Int)))=true then
 TN (call 117 [(V.str [40,41,60,62,64,44,59,58,92,34,47,91,93,63,61]),(V.int .u8 a0)] []) fun z0=>
 some ((V.bool (!(getB z0.1))),[])
 else
 some ((V.bool false),[])
 else
 some ((V.bool false),[])
def No (a0:Int):List V:=[V.int UT a0]
theorem SN (a0:Int):GO 108 Tryz.f108 (No a0) [] call icall again=LA call a0:=by kernel_rfl
theorem SO (k:Nat) (a0:Int):aA cfg (k+1) 108 (No a0) []=LA (aA cfg k) a0:=
 (show aA cfg (k+1) 108 (No a0) []=GO 108 Tryz.f108 (No a0) [] (aA cfg k) (aF cfg (aA cfg k) 20) (RN 108 Tryz.f108 [] (aA cfg k) (aF cfg (aA cfg k) 20) k)by kernel_rfl).trans (SN _ _ _ a0)
theorem SQ (a0:Int) {r:V×List Ob} (h:Evt (fun k n=>LA (aA cfg k) a0) r):Ret 108 [V.int UT a0] [] r:=aR (g:=fun k n=>LA (aA cfg k) a0) (fun k=>SO k a0) h
def J7 (call:FuncId→Fun) (a0:List UInt8):Option (V×List Ob):=
 TN (call 106 [(V.ref 0 0),(V.int .i64 0)] [(Ob.cells [(V.str a0)])]) fun z0=>
 if((getI z0.1)==(34:Int))=true then
 TN (call 118 [(V.agg [(V.ref 0 0)])] [(Ob.cells [(V.str a0)])]) fun z1=>
 some ((V.tup [(V.str (getS (headD (getT z1.1) V.bot))),(V.bool (getB (headD (tail (getT z1.1)) V.bot)))]),[(Ob.cells [(V.str (getS (headD (Ob.getC (headD z1.2 Ob.dead)) V.bot)))])])
 else
 TN (call 84 [(V.agg [(V.ref 0 0)])] [(Ob.cells [(V.str a0)])]) fun z1=>
 some ((V.tup [(V.str (getS z1.1)),(V.bool (!(sEq (getS z1.1) [])))]),[(Ob.cells [(V.str (getS (headD (Ob.getC (headD z1.2 Ob.dead)) V.bot)))])])
def LC (a0:List UInt8):List Ob:=[Ob.cells [V.str a0]]
def Np:List V:=[V.agg [V.ref 0 0]]
theorem SR (a0:List UInt8):GO 109 Tryz.f109 Np (LC a0) call icall again=J7 call a0:=by kernel_rfl
theorem SS (k:Nat) (a0:List UInt8):aA cfg (k+1) 109 Np (LC a0)=J7 (aA cfg k) a0:=
 (show aA cfg (k+1) 109 Np (LC a0)=GO 109 Tryz.f109 Np (LC a0) (aA cfg k) (aF cfg (aA cfg k) 20) (RN 109 Tryz.f109 (LC a0) (aA cfg k) (aF cfg (aA cfg k) 20) k)by kernel_rfl).trans (SR _ _ _ a0)
theorem Q2 (a0:List UInt8) {r:V×List Ob} (h:Evt (fun k n=>J7 (aA cfg k) a0) r):Ret 109 [V.agg [V.ref 0 0]] [Ob.cells [V.str a0]] r:=aR (g:=fun k n=>J7 (aA cfg k) a0) (fun k=>SS k a0) h
def J8 (call:FuncId→Fun) (a0:List UInt8) (a1:List UInt8):Option (V×List Ob):=
 TN (call 119 [(V.str a0),(V.str a1)] []) fun z0=>
 if(decide ((getI z0.1)≥(0:Int)))=true then
 chk (decide (0≤(getI z0.1))) (chk (decide ((getI z0.1)≤((length a0:Nat):Int))) (chk (decide (0≤(0:Int))) (chk (decide ((0:Int)≤(getI z0.1))) (chk (decide (0≤(TK .i64 ((getI z0.1)+((length a1:Nat):Int))))) (chk (decide ((TK .i64 ((getI z0.1)+((length a1:Nat):Int)))≤((length a0:Nat):Int))) (some ((V.tup [(V.str (drop (TO (0:Int)) (take (TO (getI z0.1)) a0))),(V.str (drop (TO (TK .i64 ((getI z0.1)+((length a1:Nat):Int)))) a0)),(V.bool true)]),[])))))))
 else
 some ((V.tup [(V.str a0),(V.str []),(V.bool false)]),[])
def Nq (a0:List UInt8) (a1:List UInt8):List V:=[V.str a0,V.str a1]
theorem SU (a0:List UInt8) (a1:List UInt8):GO 110 Tryz.f110 (Nq a0 a1) [] call icall again=J8 call a0 a1:=by kernel_rfl
theorem SV (k:Nat) (a0:List UInt8) (a1:List UInt8):aA cfg (k+1) 110 (Nq a0 a1) []=J8 (aA cfg k) a0 a1:=
 (show aA cfg (k+1) 110 (Nq a0 a1) []=GO 110 Tryz.f110 (Nq a0 a1) [] (aA cfg k) (aF cfg (aA cfg k) 20) (RN 110 Tryz.f110 [] (aA cfg k) (aF cfg (aA cfg k) 20) k)by kernel_rfl).trans (SU _ _ _ a0 a1)
theorem Q3 (a0:List UInt8) (a1:List UInt8) {r:V×List Ob} (h:Evt (fun k n=>J8 (aA cfg k) a0 a1) r):Ret 110 [V.str a0,V.str a1] [] r:=aR (g:=fun k n=>J8 (aA cfg k) a0 a1) (fun k=>SV k a0 a1) h
def AP (call:FuncId→Fun) (ag0:List UInt8→List V→Int→Int→Option (V×List Ob)) (s0:List UInt8) (l1:List V) (i2:Int) (i3:Int):Option (V×List Ob):=
 if(decide (i3<i2))=true then
 chk (decide (0≤i3)) (chk (decide (i3<((length l1:Nat):Int))) (if(sEq (getS (headD (V.cells (getD l1 (TO i3) V.bot)) V.bot)) s0)=true then
 some ((V.tup [(V.str (getS (headD (tail (V.cells (getD l1 (TO i3) V.bot))) V.bot))),(V.bool true)]),[])
 else
 (ag0 (s0) (l1) (i2) ((TK .i64 (i3+(1:Int)))))))
 else
 some ((V.tup [(V.str []),(V.bool false)]),[])
def LD (call:FuncId→Fun) (ag0:List UInt8→List V→Int→Int→Option (V×List Ob)) (a0:List V) (a1:List UInt8):Option (V×List Ob):=
 (ag0 (a1) (a0) (((length a0:Nat):Int)) ((0:Int)))
def Nr (a0:List V) (a1:List UInt8):List V:=[V.lst 140 false a0,V.str a1]
def xE (s0:List UInt8) (l1:List V) (i2:Int) (i3:Int):St:=⟨[V.bot,(V.str s0),V.bot,V.bot,V.bot,V.bot,V.bot,V.bot,(V.lst 140 false l1),(V.int TM i2),(V.int TM i3)]++TZ 10 V.bot,[]⟩
theorem Pw (s0:List UInt8) (l1:List V) (i2:Int) (i3:Int):
 RM 111 Tryz.f111 [] call icall again (aJ Tryz.f111 0) (xE s0 l1 i2 i3)=AP call (fun s0 l1 i2 i3=>again (aJ Tryz.f111 0) (xE s0 l1 i2 i3)) s0 l1 i2 i3:=by kernel_rfl
theorem SX (a0:List V) (a1:List UInt8):GO 111 Tryz.f111 (Nr a0 a1) [] call icall again=LD call (fun s0 l1 i2 i3=>again (aJ Tryz.f111 0) (xE s0 l1 i2 i3)) a0 a1:=by kernel_rfl
def AQ (call:FuncId→Fun):Nat→(List UInt8→List V→Int→Int→Option (V×List Ob))
 |0=>fun _ _ _ _=>none
 |n+1=>AP call (AQ call n)
theorem Q4 (call:FuncId→Fun) (icall:aN (V×List Ob)):∀n,(∀(s0:List UInt8) (l1:List V) (i2:Int) (i3:Int),RN 111 Tryz.f111 [] call icall n (aJ Tryz.f111 0) (xE s0 l1 i2 i3)=(AQ call n) s0 l1 i2 i3)
 |0=>fun s0 l1 i2 i3=>rfl
 |n+1=>by
  have ih:=Q4 call icall n
  exact fun s0 l1 i2 i3=>(Pw call icall (RN 111 Tryz.f111 [] call icall n) s0 l1 i2 i3).trans (by rw[show(fun s0 l1 i2 i3=>RN 111 Tryz.f111 [] call icall n (aJ Tryz.f111 0) (xE s0 l1 i2 i3))=(AQ call n)from(funext fun s0=>funext fun l1=>funext fun i2=>funext fun i3=>ih s0 l1 i2 i3)];rfl)
theorem SY (k:Nat) (a0:List V) (a1:List UInt8):aA cfg (k+1) 111 (Nr a0 a1) []=LD (aA cfg k) (AQ (aA cfg k) k) a0 a1:=by
 have ih:=Q4 (aA cfg k) (aF cfg (aA cfg k) 20) k
 refine(show aA cfg (k+1) 111 (Nr a0 a1) []=GO 111 Tryz.f111 (Nr a0 a1) [] (aA cfg k) (aF cfg (aA cfg k) 20) (RN 111 Tryz.f111 [] (aA cfg k) (aF cfg (aA cfg k) 20) k)by kernel_rfl).trans ((SX _ _ _ a0 a1).trans ?_)
 rw[show(fun s0 l1 i2 i3=>RN 111 Tryz.f111 [] (aA cfg k) (aF cfg (aA cfg k) 20) k (aJ Tryz.f111 0) (xE s0 l1 i2 i3))=(AQ (aA cfg k) k)from(funext fun s0=>funext fun l1=>funext fun i2=>funext fun i3=>ih s0 l1 i2 i3)]
theorem SZ (a0:List V) (a1:List UInt8) {r:V×List Ob} (h:Evt (fun k n=>LD (aA cfg k) (AQ (aA cfg k) n) a0 a1) r):Ret 111 [V.lst 140 false a0,V.str a1] [] r:=aR (g:=fun k n=>LD (aA cfg k) (AQ (aA cfg k) n) a0 a1) (fun k=>SY k a0 a1) h
theorem LE (s0:List UInt8) (l1:List V) (i2:Int) (i3:Int) {r:V×List Ob} (h:Evt (fun k n=>AP (aA cfg k) (AQ (aA cfg k) n) s0 l1 i2 i3) r):Evt (fun k n=>(AQ (aA cfg k) n) s0 l1 i2 i3) r:=aX (fun k n=>rfl) h
def tN (call:FuncId→Fun) (ag0:List UInt8→List V→Int→Option (V×List Ob)) (s0:List UInt8) (l1:List V) (i2:Int):Option (V×List Ob):=
 if(decide (i2<((length s0:Nat):Int)))=true then
 TN (chk (decide (0≤i2)) (chk (decide (i2<((length s0:Nat):Int))) (if(((UU (getD s0 (TO i2) 0):Nat):Int)==(37:Int))=true then
 some (decide ((TK .i64 (i2+(2:Int)))<((length s0:Nat):Int)))
 else
 some false))) fun y0=>
 if y0=true then
 chk (decide (0≤(TK .i64 (i2+(1:Int))))) (chk (decide ((TK .i64 (i2+(1:Int)))<((length s0:Nat):Int))) (TN (call 120 [(V.int .u8 ((UU (getD s0 (TO (TK .i64 (i2+(1:Int)))) 0):Nat):Int))] []) fun z1=>
 chk (decide (0≤(TK .i64 (i2+(2:Int))))) (chk (decide ((TK .i64 (i2+(2:Int)))<((length s0:Nat):Int))) (TN (call 120 [(V.int .u8 ((UU (getD s0 (TO (TK .i64 (i2+(2:Int)))) 0):Nat):Int))] []) fun z2=>
 TN (if(getB (headD (tail (getT z1.1)) V.bot))=true then
 some (getB (headD (tail (getT z2.1)) V.bot))
 else
 some false) fun y3=>
 if y3=true then
 chk (decide (0≤(4:Int))) (chk (cE l1 [(V.int .u8 (bits BinOp.or .u8 (TK .u8 ((getI (headD (getT z1.1) V.bot))*2 ^ min (TO (4:Int)) (Uz .u8))) (getI (headD (getT z2.1) V.bot))))] 2) ((ag0 (s0) ((l1++[(V.int .u8 (bits BinOp.or .u8 (TK .u8 ((getI (headD (getT z1.1) V.bot))*2 ^ min (TO (4:Int)) (Uz .u8))) (getI (headD (getT z2.1) V.bot))))])) ((TK .i64 ((TK .i64 (i2+(2:Int)))+(1:Int)))))))
 else
 chk (decide (0≤i2)) (chk (decide (i2<((length s0:Nat):Int))) (chk (cE l1 [(V.int .u8 ((UU (getD s0 (TO i2) 0):Nat):Int))] 2) ((ag0 (s0) ((l1++[(V.int .u8 ((UU (getD s0 (TO i2) 0):Nat):Int))])) ((TK .i64 (i2+(1:Int))))))))))))
 else
 chk (decide (0≤i2)) (chk (decide (i2<((length s0:Nat):Int))) (chk (cE l1 [(V.int .u8 ((UU (getD s0 (TO i2) 0):Nat):Int))] 2) ((ag0 (s0) ((l1++[(V.int .u8 ((UU (getD s0 (TO i2) 0):Nat):Int))])) ((TK .i64 (i2+(1:Int))))))))
 else
 some ((V.str (bytesOf l1)),[])
def LF (call:FuncId→Fun) (ag0:List UInt8→List V→Int→Option (V×List Ob)) (a0:List UInt8):Option (V×List Ob):=
 (ag0 (a0) ([]) ((0:Int)))
def Ns (a0:List UInt8):List V:=[V.str a0]
def xF (s0:List UInt8) (l1:List V) (i2:Int):St:=⟨[(V.str s0),V.bot,V.bot,(V.own 5 l1),(V.int TM i2)]++TZ 58 V.bot,[]⟩
theorem Px (s0:List UInt8) (l1:List V) (i2:Int):
 RM 112 Tryz.f112 [] call icall again (aJ Tryz.f112 0) (xF s0 l1 i2)=tN call (fun s0 l1 i2=>again (aJ Tryz.f112 0) (xF s0 l1 i2)) s0 l1 i2:=by kernel_rfl
theorem S4 (a0:List UInt8):GO 112 Tryz.f112 (Ns a0) [] call icall again=LF call (fun s0 l1 i2=>again (aJ Tryz.f112 0) (xF s0 l1 i2)) a0:=by kernel_rfl
def zA (call:FuncId→Fun):Nat→(List UInt8→List V→Int→Option (V×List Ob))
 |0=>fun _ _ _=>none
 |n+1=>tN call (zA call n)
theorem Q5 (call:FuncId→Fun) (icall:aN (V×List Ob)):∀n,(∀(s0:List UInt8) (l1:List V) (i2:Int),RN 112 Tryz.f112 [] call icall n (aJ Tryz.f112 0) (xF s0 l1 i2)=(zA call n) s0 l1 i2)
 |0=>fun s0 l1 i2=>rfl
 |n+1=>by
  have ih:=Q5 call icall n
  exact fun s0 l1 i2=>(Px call icall (RN 112 Tryz.f112 [] call icall n) s0 l1 i2).trans (by rw[show(fun s0 l1 i2=>RN 112 Tryz.f112 [] call icall n (aJ Tryz.f112 0) (xF s0 l1 i2))=(zA call n)from(funext fun s0=>funext fun l1=>funext fun i2=>ih s0 l1 i2)];rfl)
theorem S5 (k:Nat) (a0:List UInt8):aA cfg (k+1) 112 (Ns a0) []=LF (aA cfg k) (zA (aA cfg k) k) a0:=by
 have ih:=Q5 (aA cfg k) (aF cfg (aA cfg k) 20) k
 refine(show aA cfg (k+1) 112 (Ns a0) []=GO 112 Tryz.f112 (Ns a0) [] (aA cfg k) (aF cfg (aA cfg k) 20) (RN 112 Tryz.f112 [] (aA cfg k) (aF cfg (aA cfg k) 20) k)by kernel_rfl).trans ((S4 _ _ _ a0).trans ?_)
 rw[show(fun s0 l1 i2=>RN 112 Tryz.f112 [] (aA cfg k) (aF cfg (aA cfg k) 20) k (aJ Tryz.f112 0) (xF s0 l1 i2))=(zA (aA cfg k) k)from(funext fun s0=>funext fun l1=>funext fun i2=>ih s0 l1 i2)]
theorem S6 (a0:List UInt8) {r:V×List Ob} (h:Evt (fun k n=>LF (aA cfg k) (zA (aA cfg k) n) a0) r):Ret 112 [V.str a0] [] r:=aR (g:=fun k n=>LF (aA cfg k) (zA (aA cfg k) n) a0) (fun k=>S5 k a0) h
theorem LG (s0:List UInt8) (l1:List V) (i2:Int) {r:V×List Ob} (h:Evt (fun k n=>tN (aA cfg k) (zA (aA cfg k) n) s0 l1 i2) r):Evt (fun k n=>(zA (aA cfg k) n) s0 l1 i2) r:=aX (fun k n=>rfl) h
def LH (call:FuncId→Fun) (a0:List UInt8):Option (V×List Ob):=
 TN (call 121 [(V.str a0),(V.str [39]),(V.int .i64 3)] []) fun z0=>
 if(decide (((length (getL z0.1):Nat):Int)<(3:Int)))=true then
 some ((V.str a0),[])
 else
 chk (decide (0≤(2:Int))) (chk (decide ((2:Int)<((length (getL z0.1):Nat):Int))) (some ((V.str (getS (getD (getL z0.1) (TO (2:Int)) V.bot))),[])))
def Nt (a0:List UInt8):List V:=[V.str a0]
theorem S7 (a0:List UInt8):GO 113 Tryz.f113 (Nt a0) [] call icall again=LH call a0:=by kernel_rfl
theorem S8 (k:Nat) (a0:List UInt8):aA cfg (k+1) 113 (Nt a0) []=LH (aA cfg k) a0:=
 (show aA cfg (k+1) 113 (Nt a0) []=GO 113 Tryz.f113 (Nt a0) [] (aA cfg k) (aF cfg (aA cfg k) 20) (RN 113 Tryz.f113 [] (aA cfg k) (aF cfg (aA cfg k) 20) k)by kernel_rfl).trans (S7 _ _ _ a0)
theorem S9 (a0:List UInt8) {r:V×List Ob} (h:Evt (fun k n=>LH (aA cfg k) a0) r):Ret 113 [V.str a0] [] r:=aR (g:=fun k n=>LH (aA cfg k) a0) (fun k=>S8 k a0) h
def Eb (call:FuncId→Fun) (ag0:List V→List UInt8→List UInt8→Int→Option (V×List Ob)) (l0:List V) (s1:List UInt8) (s2:List UInt8) (i3:Int):Option (V×List Ob):=
 chk (fK s1 [42]) (TN (call 122 [(V.int .i64 i3)] []) fun z0=>
 chk (fK (s1++[42]) (getS z0.1)) (TN (call 111 [(V.lst 140 false l0),(V.str ((s1++[42])++(getS z0.1)))] []) fun z1=>
 if(!(getB (headD (tail (getT z1.1)) V.bot)))=true then
 chk (fK ((s1++[42])++(getS z0.1)) [42]) (TN (call 111 [(V.lst 140 false l0),(V.str (((s1++[42])++(getS z0.1))++[42]))] []) fun z2=>
 if(!(getB (headD (tail (getT z2.1)) V.bot)))=true then
 some ((V.tup [(V.str s2),(V.bool (decide (i3>(0:Int))))]),[])
 else
 if(i3==(0:Int))=true then
 TN (call 113 [(V.str (getS (headD (getT z2.1) V.bot)))] []) fun z3=>
 TN (call 112 [(V.str (getS z3.1))] []) fun z4=>
 chk (fK s2 (getS z4.1)) ((ag0 (l0) (s1) ((s2++(getS z4.1))) ((TK .i64 (i3+(1:Int))))))
 else
 TN (call 112 [(V.str (getS (headD (getT z2.1) V.bot)))] []) fun z3=>
 chk (fK s2 (getS z3.1)) ((ag0 (l0) (s1) ((s2++(getS z3.1))) ((TK .i64 (i3+(1:Int)))))))
 else
 chk (fK s2 (getS (headD (getT z1.1) V.bot))) ((ag0 (l0) (s1) ((s2++(getS (headD (getT z1.1) V.bot)))) ((TK .i64 (i3+(1:Int))))))))
def LI (call:FuncId→Fun) (ag0:List V→List UInt8→List UInt8→Int→Option (V×List Ob)) (a0:List V) (a1:List UInt8):Option (V×List Ob):=
 (ag0 (a0) (a1) ([]) ((0:Int)))
def Nu (a0:List V) (a1:List UInt8):List V:=[V.lst 140 false a0,V.str a1]
def xG (l0:List V) (s1:List UInt8) (s2:List UInt8) (i3:Int):St:=⟨[(V.lst 140 false l0),(V.str s1),V.bot,V.bot,V.bot,V.bot,(V.str s2),(V.int TM i3)]++TZ 39 V.bot,[]⟩
theorem Py (l0:List V) (s1:List UInt8) (s2:List UInt8) (i3:Int):
 RM 114 Tryz.f114 [] call icall again (aJ Tryz.f114 0) (xG l0 s1 s2 i3)=Eb call (fun l0 s1 s2 i3=>again (aJ Tryz.f114 0) (xG l0 s1 s2 i3)) l0 s1 s2 i3:=by kernel_rfl
theorem Ta (a0:List V) (a1:List UInt8):GO 114 Tryz.f114 (Nu a0 a1) [] call icall again=LI call (fun l0 s1 s2 i3=>again (aJ Tryz.f114 0) (xG l0 s1 s2 i3)) a0 a1:=by kernel_rfl
def AS (call:FuncId→Fun):Nat→(List V→List UInt8→List UInt8→Int→Option (V×List Ob))
 |0=>fun _ _ _ _=>none
 |n+1=>Eb call (AS call n)
theorem Q6 (call:FuncId→Fun) (icall:aN (V×List Ob)):∀n,(∀(l0:List V) (s1:List UInt8) (s2:List UInt8) (i3:Int),RN 114 Tryz.f114 [] call icall n (aJ Tryz.f114 0) (xG l0 s1 s2 i3)=(AS call n) l0 s1 s2 i3)
 |0=>fun l0 s1 s2 i3=>rfl
 |n+1=>by
  have ih:=Q6 call icall n
  exact fun l0 s1 s2 i3=>(Py call icall (RN 114 Tryz.f114 [] call icall n) l0 s1 s2 i3).trans (by rw[show(fun l0 s1 s2 i3=>RN 114 Tryz.f114 [] call icall n (aJ Tryz.f114 0) (xG l0 s1 s2 i3))=(AS call n)from(funext fun l0=>funext fun s1=>funext fun s2=>funext fun i3=>ih l0 s1 s2 i3)];rfl)
theorem Tb (k:Nat) (a0:List V) (a1:List UInt8):aA cfg (k+1) 114 (Nu a0 a1) []=LI (aA cfg k) (AS (aA cfg k) k) a0 a1:=by
 have ih:=Q6 (aA cfg k) (aF cfg (aA cfg k) 20) k
 refine(show aA cfg (k+1) 114 (Nu a0 a1) []=GO 114 Tryz.f114 (Nu a0 a1) [] (aA cfg k) (aF cfg (aA cfg k) 20) (RN 114 Tryz.f114 [] (aA cfg k) (aF cfg (aA cfg k) 20) k)by kernel_rfl).trans ((Ta _ _ _ a0 a1).trans ?_)
 rw[show(fun l0 s1 s2 i3=>RN 114 Tryz.f114 [] (aA cfg k) (aF cfg (aA cfg k) 20) k (aJ Tryz.f114 0) (xG l0 s1 s2 i3))=(AS (aA cfg k) k)from(funext fun l0=>funext fun s1=>funext fun s2=>funext fun i3=>ih l0 s1 s2 i3)]
theorem Tc (a0:List V) (a1:List UInt8) {r:V×List Ob} (h:Evt (fun k n=>LI (aA cfg k) (AS (aA cfg k) n) a0 a1) r):Ret 114 [V.lst 140 false a0,V.str a1] [] r:=aR (g:=fun k n=>LI (aA cfg k) (AS (aA cfg k) n) a0 a1) (fun k=>Tb k a0 a1) h
theorem Pz (l0:List V) (s1:List UInt8) (s2:List UInt8) (i3:Int) {r:V×List Ob} (h:Evt (fun k n=>Eb (aA cfg k) (AS (aA cfg k) n) l0 s1 s2 i3) r):Evt (fun k n=>(AS (aA cfg k) n) l0 s1 s2 i3) r:=aX (fun k n=>rfl) h
def AT (call:FuncId→Fun) (ag0:Int→List UInt8→Int→Option (V×List Ob)) (i0:Int) (s1:List UInt8) (p2:Int):Option (V×List Ob):=
 if TO p2<length s1 then
 if((((Utf8.decode ⟨List.toArray s1⟩ (TO p2)).1:Nat):Int)==(TK IntKind.i32 i0))=true then
 some ((V.bool true),[])
 else
 (ag0 (i0) (s1) (((TO p2+(Utf8.decode ⟨List.toArray s1⟩ (TO p2)).2:Nat):Int)))
 else
 some ((V.bool false),[])
def LJ (call:FuncId→Fun) (ag0:Int→List UInt8→Int→Option (V×List Ob)) (a0:List UInt8) (a1:Int):Option (V×List Ob):=
 (ag0 (a1) (a0) ((0:Int)))
def Nv (a0:List UInt8) (a1:Int):List V:=[V.str a0,V.int UT a1]
def xH (i0:Int) (s1:List UInt8) (p2:Int):St:=⟨[V.bot,(V.int UT i0),V.bot,V.bot,V.bot,V.bot,V.bot,V.bot,(V.ref 0 0)]++TZ 7 V.bot,[(Ob.sit s1 p2)]⟩
theorem PC (i0:Int) (s1:List UInt8) (p2:Int):
 RM 117 Tryz.f117 [] call icall again (aJ Tryz.f117 0) (xH i0 s1 p2)=AT call (fun i0 s1 p2=>again (aJ Tryz.f117 0) (xH i0 s1 p2)) i0 s1 p2:=by kernel_rfl
theorem Td (a0:List UInt8) (a1:Int):GO 117 Tryz.f117 (Nv a0 a1) [] call icall again=LJ call (fun i0 s1 p2=>again (aJ Tryz.f117 0) (xH i0 s1 p2)) a0 a1:=by kernel_rfl
def BR (call:FuncId→Fun):Nat→(Int→List UInt8→Int→Option (V×List Ob))
 |0=>fun _ _ _=>none
 |n+1=>AT call (BR call n)
theorem Q7 (call:FuncId→Fun) (icall:aN (V×List Ob)):∀n,(∀(i0:Int) (s1:List UInt8) (p2:Int),RN 117 Tryz.f117 [] call icall n (aJ Tryz.f117 0) (xH i0 s1 p2)=(BR call n) i0 s1 p2)
 |0=>fun i0 s1 p2=>rfl
 |n+1=>by
  have ih:=Q7 call icall n
  exact fun i0 s1 p2=>(PC call icall (RN 117 Tryz.f117 [] call icall n) i0 s1 p2).trans (by rw[show(fun i0 s1 p2=>RN 117 Tryz.f117 [] call icall n (aJ Tryz.f117 0) (xH i0 s1 p2))=(BR call n)from(funext fun i0=>funext fun s1=>funext fun p2=>ih i0 s1 p2)];rfl)
theorem Te (k:Nat) (a0:List UInt8) (a1:Int):aA cfg (k+1) 117 (Nv a0 a1) []=LJ (aA cfg k) (BR (aA cfg k) k) a0 a1:=by
 have ih:=Q7 (aA cfg k) (aF cfg (aA cfg k) 20) k
 refine(show aA cfg (k+1) 117 (Nv a0 a1) []=GO 117 Tryz.f117 (Nv a0 a1) [] (aA cfg k) (aF cfg (aA cfg k) 20) (RN 117 Tryz.f117 [] (aA cfg k) (aF cfg (aA cfg k) 20) k)by kernel_rfl).trans ((Td _ _ _ a0 a1).trans ?_)
 rw[show(fun i0 s1 p2=>RN 117 Tryz.f117 [] (aA cfg k) (aF cfg (aA cfg k) 20) k (aJ Tryz.f117 0) (xH i0 s1 p2))=(BR (aA cfg k) k)from(funext fun i0=>funext fun s1=>funext fun p2=>ih i0 s1 p2)]
theorem Tf (a0:List UInt8) (a1:Int) {r:V×List Ob} (h:Evt (fun k n=>LJ (aA cfg k) (BR (aA cfg k) n) a0 a1) r):Ret 117 [V.str a0,V.int UT a1] [] r:=aR (g:=fun k n=>LJ (aA cfg k) (BR (aA cfg k) n) a0 a1) (fun k=>Te k a0 a1) h
theorem LK (i0:Int) (s1:List UInt8) (p2:Int) {r:V×List Ob} (h:Evt (fun k n=>AT (aA cfg k) (BR (aA cfg k) n) i0 s1 p2) r):Evt (fun k n=>(BR (aA cfg k) n) i0 s1 p2) r:=aX (fun k n=>rfl) h
def qS (call:FuncId→Fun) (ag0:List V→Int→List UInt8→Option (V×List Ob)) (l0:List V) (i1:Int) (s2:List UInt8):Option (V×List Ob):=
 if(decide (i1<((length s2:Nat):Int)))=true then
 chk (decide (0≤i1)) (chk (decide (i1<((length s2:Nat):Int))) (if(((UU (getD s2 (TO i1) 0):Nat):Int)==(34:Int))=true then
 chk (decide (0≤(TK .i64 (i1+(1:Int))))) (chk (decide ((TK .i64 (i1+(1:Int)))≤((length s2:Nat):Int))) (some ((V.tup [(V.str (bytesOf l0)),(V.bool true)]),[(Ob.cells [(V.str (drop (TO (TK .i64 (i1+(1:Int)))) s2))])])))
 else
 if(((UU (getD s2 (TO i1) 0):Nat):Int)==(92:Int))=true then
 if(decide ((TK .i64 (i1+(1:Int)))<((length s2:Nat):Int)))=true then
 chk (decide (0≤(TK .i64 (i1+(1:Int))))) (chk (decide ((TK .i64 (i1+(1:Int)))<((length s2:Nat):Int))) (chk (cE l0 [(V.int .u8 ((UU (getD s2 (TO (TK .i64 (i1+(1:Int)))) 0):Nat):Int))] 2) ((ag0 ((l0++[(V.int .u8 ((UU (getD s2 (TO (TK .i64 (i1+(1:Int)))) 0):Nat):Int))])) ((TK .i64 ((TK .i64 (i1+(1:Int)))+(1:Int)))) (s2)))))
 else
 (ag0 (l0) ((TK .i64 ((TK .i64 (i1+(1:Int)))+(1:Int)))) (s2))
 else
 chk (cE l0 [(V.int .u8 ((UU (getD s2 (TO i1) 0):Nat):Int))] 2) ((ag0 ((l0++[(V.int .u8 ((UU (getD s2 (TO i1) 0):Nat):Int))])) ((TK .i64 (i1+(1:Int)))) (s2)))))
 else
 some ((V.tup [(V.str []),(V.bool false)]),[(Ob.cells [(V.str s2)])])
def LL (call:FuncId→Fun) (ag0:List V→Int→List UInt8→Option (V×List Ob)) (a0:List UInt8):Option (V×List Ob):=
 (ag0 ([]) ((1:Int)) (a0))
def BS (a0:List UInt8):List Ob:=[Ob.cells [V.str a0]]
def Nw:List V:=[V.agg [V.ref 0 0]]
def xI (l0:List V) (i1:Int) (s2:List UInt8):St:=⟨[V.bot,(V.ref 1 0),V.bot,V.bot,(V.own 5 l0),(V.int TM i1)]++TZ 61 V.bot,[(Ob.cells [(V.str s2)]),(Ob.cells [(V.ref 0 0)])]⟩
theorem PD (a0:List UInt8) (l0:List V) (i1:Int) (s2:List UInt8):
 RM 118 Tryz.f118 (BS a0) call icall again (aJ Tryz.f118 0) (xI l0 i1 s2)=qS call (fun l0 i1 s2=>again (aJ Tryz.f118 0) (xI l0 i1 s2)) l0 i1 s2:=by kernel_rfl
theorem Tg (a0:List UInt8):GO 118 Tryz.f118 Nw (BS a0) call icall again=LL call (fun l0 i1 s2=>again (aJ Tryz.f118 0) (xI l0 i1 s2)) a0:=by kernel_rfl
def AU (call:FuncId→Fun):Nat→(List V→Int→List UInt8→Option (V×List Ob))
 |0=>fun _ _ _=>none
 |n+1=>qS call (AU call n)
theorem Q8 (call:FuncId→Fun) (icall:aN (V×List Ob)) (a0:List UInt8):∀n,(∀(l0:List V) (i1:Int) (s2:List UInt8),RN 118 Tryz.f118 (BS a0) call icall n (aJ Tryz.f118 0) (xI l0 i1 s2)=(AU call n) l0 i1 s2)
 |0=>fun l0 i1 s2=>rfl
 |n+1=>by
  have ih:=Q8 call icall a0 n
  exact fun l0 i1 s2=>(PD call icall (RN 118 Tryz.f118 (BS a0) call icall n) a0 l0 i1 s2).trans (by rw[show(fun l0 i1 s2=>RN 118 Tryz.f118 (BS a0) call icall n (aJ Tryz.f118 0) (xI l0 i1 s2))=(AU call n)from(funext fun l0=>funext fun i1=>funext fun s2=>ih l0 i1 s2)];rfl)
theorem Ti (k:Nat) (a0:List UInt8):aA cfg (k+1) 118 Nw (BS a0)=LL (aA cfg k) (AU (aA cfg k) k) a0:=by
 have ih:=Q8 (aA cfg k) (aF cfg (aA cfg k) 20) a0 k
 refine(show aA cfg (k+1) 118 Nw (BS a0)=GO 118 Tryz.f118 Nw (BS a0) (aA cfg k) (aF cfg (aA cfg k) 20) (RN 118 Tryz.f118 (BS a0) (aA cfg k) (aF cfg (aA cfg k) 20) k)by kernel_rfl).trans ((Tg _ _ _ a0).trans ?_)
 rw[show(fun l0 i1 s2=>RN 118 Tryz.f118 (BS a0) (aA cfg k) (aF cfg (aA cfg k) 20) k (aJ Tryz.f118 0) (xI l0 i1 s2))=(AU (aA cfg k) k)from(funext fun l0=>funext fun i1=>funext fun s2=>ih l0 i1 s2)]
theorem Tj (a0:List UInt8) {r:V×List Ob} (h:Evt (fun k n=>LL (aA cfg k) (AU (aA cfg k) n) a0) r):Ret 118 [V.agg [V.ref 0 0]] [Ob.cells [V.str a0]] r:=aR (g:=fun k n=>LL (aA cfg k) (AU (aA cfg k) n) a0) (fun k=>Ti k a0) h
theorem AV (l0:List V) (i1:Int) (s2:List UInt8) {r:V×List Ob} (h:Evt (fun k n=>qS (aA cfg k) (AU (aA cfg k) n) l0 i1 s2) r):Evt (fun k n=>(AU (aA cfg k) n) l0 i1 s2) r:=aX (fun k n=>rfl) h
def LM (call:FuncId→Fun) (a0:Int):Option (V×List Ob):=
 TN (call 93 [(V.int .u8 a0)] []) fun z0=>
 TN (if(decide ((getI z0.1)≥(48:Int)))=true then
 some (decide ((getI z0.1)≤(57:Int)))
 else
 some false) fun y1=>
 if y1=true then
 some ((V.tup [(V.int .u8 (TK .u8 ((getI z0.1) - (48:Int)))),(V.bool true)]),[])
 else
 TN (if(decide ((getI z0.1)≥(97:Int)))=true then
 some (decide ((getI z0.1)≤(102:Int)))
 else
 some false) fun y2=>
 if y2=true then
 some ((V.tup [(V.int .u8 (TK .u8 ((TK .u8 ((getI z0.1) - (97:Int)))+(10:Int)))),(V.bool true)]),[])
 else
 some ((V.tup [(V.int .u8 0),(V.bool false)]),[])
def Nx (a0:Int):List V:=[V.int UT a0]
theorem Tk (a0:Int):GO 120 Tryz.f120 (Nx a0) [] call icall again=LM call a0:=by kernel_rfl
theorem Tm (k:Nat) (a0:Int):aA cfg (k+1) 120 (Nx a0) []=LM (aA cfg k) a0:=
 (show aA cfg (k+1) 120 (Nx a0) []=GO 120 Tryz.f120 (Nx a0) [] (aA cfg k) (aF cfg (aA cfg k) 20) (RN 120 Tryz.f120 [] (aA cfg k) (aF cfg (aA cfg k) 20) k)by kernel_rfl).trans (Tk _ _ _ a0)
theorem Tn (a0:Int) {r:V×List Ob} (h:Evt (fun k n=>LM (aA cfg k) a0) r):Ret 120 [V.int UT a0] [] r:=aR (g:=fun k n=>LM (aA cfg k) a0) (fun k=>Tm k a0) h
def AW (call:FuncId→Fun) (ag0:Int→List UInt8→Bool→Option (V×List Ob)) (i0:Int) (s1:List UInt8) (b2:Bool):Option (V×List Ob):=
 if(i0 != (0:Int))=true then
 chk ((10:Int) != 0) (chk (fK ((Utf8.encode (TK IntKind.i32 (TK .i64 ((48:Int)+(if(TK .i64 ((0:Int) - (Vn i0 (10:Int))))>(Vn i0 (10:Int))then(TK .i64 ((0:Int) - (Vn i0 (10:Int))))else(Vn i0 (10:Int))))))).data.toList) s1) (chk ((10:Int) != 0) ((ag0 ((TK .i64 (Wn i0 (10:Int)))) ((((Utf8.encode (TK IntKind.i32 (TK .i64 ((48:Int)+(if(TK .i64 ((0:Int) - (Vn i0 (10:Int))))>(Vn i0 (10:Int))then(TK .i64 ((0:Int) - (Vn i0 (10:Int))))else(Vn i0 (10:Int))))))).data.toList)++s1)) (b2)))))
 else
 if b2=true then
 chk (fK [45] s1) (some ((V.str ([45]++s1)),[]))
 else
 some ((V.str s1),[])
def LN (call:FuncId→Fun) (ag0:Int→List UInt8→Bool→Option (V×List Ob)) (a0:Int):Option (V×List Ob):=
 if(a0==(0:Int))=true then
 some ((V.str [48]),[])
 else
 (ag0 (a0) ([]) ((decide (a0<(0:Int)))))
def Ny (a0:Int):List V:=[V.int TM a0]
def xJ (i0:Int) (s1:List UInt8) (b2:Bool):St:=⟨[(V.int TM i0),V.bot,V.bot,(V.str s1),(V.bool b2)]++TZ 24 V.bot,[]⟩
theorem PE (i0:Int) (s1:List UInt8) (b2:Bool):
 RM 122 Tryz.f122 [] call icall again (aJ Tryz.f122 0) (xJ i0 s1 b2)=AW call (fun i0 s1 b2=>again (aJ Tryz.f122 0) (xJ i0 s1 b2)) i0 s1 b2:=by kernel_rfl
theorem To (a0:Int):GO 122 Tryz.f122 (Ny a0) [] call icall again=LN call (fun i0 s1 b2=>again (aJ Tryz.f122 0) (xJ i0 s1 b2)) a0:=by kernel_rfl
def BU (call:FuncId→Fun):Nat→(Int→List UInt8→Bool→Option (V×List Ob))
 |0=>fun _ _ _=>none
 |n+1=>AW call (BU call n)
theorem Q9 (call:FuncId→Fun) (icall:aN (V×List Ob)):∀n,(∀(i0:Int) (s1:List UInt8) (b2:Bool),RN 122 Tryz.f122 [] call icall n (aJ Tryz.f122 0) (xJ i0 s1 b2)=(BU call n) i0 s1 b2)
 |0=>fun i0 s1 b2=>rfl
 |n+1=>by
  have ih:=Q9 call icall n
  exact fun i0 s1 b2=>(PE call icall (RN 122 Tryz.f122 [] call icall n) i0 s1 b2).trans (by rw[show(fun i0 s1 b2=>RN 122 Tryz.f122 [] call icall n (aJ Tryz.f122 0) (xJ i0 s1 b2))=(BU call n)from(funext fun i0=>funext fun s1=>funext fun b2=>ih i0 s1 b2)];rfl)
theorem Tp (k:Nat) (a0:Int):aA cfg (k+1) 122 (Ny a0) []=LN (aA cfg k) (BU (aA cfg k) k) a0:=by
 have ih:=Q9 (aA cfg k) (aF cfg (aA cfg k) 20) k
 refine(show aA cfg (k+1) 122 (Ny a0) []=GO 122 Tryz.f122 (Ny a0) [] (aA cfg k) (aF cfg (aA cfg k) 20) (RN 122 Tryz.f122 [] (aA cfg k) (aF cfg (aA cfg k) 20) k)by kernel_rfl).trans ((To _ _ _ a0).trans ?_)
 rw[show(fun i0 s1 b2=>RN 122 Tryz.f122 [] (aA cfg k) (aF cfg (aA cfg k) 20) k (aJ Tryz.f122 0) (xJ i0 s1 b2))=(BU (aA cfg k) k)from(funext fun i0=>funext fun s1=>funext fun b2=>ih i0 s1 b2)]
theorem Tq (a0:Int) {r:V×List Ob} (h:Evt (fun k n=>LN (aA cfg k) (BU (aA cfg k) n) a0) r):Ret 122 [V.int TM a0] [] r:=aR (g:=fun k n=>LN (aA cfg k) (BU (aA cfg k) n) a0) (fun k=>Tp k a0) h
theorem LO (i0:Int) (s1:List UInt8) (b2:Bool) {r:V×List Ob} (h:Evt (fun k n=>AW (aA cfg k) (BU (aA cfg k) n) i0 s1 b2) r):Evt (fun k n=>(BU (aA cfg k) n) i0 s1 b2) r:=aX (fun k n=>rfl) h
def FV (call:FuncId→Fun) (ag0:List UInt8→Option (V×List Ob)) (ag1:List UInt8→Option (V×List Ob)) (s0:List UInt8):Option (V×List Ob):=
 if(decide (((length s0:Nat):Int)>(0:Int)))=true then
 chk (decide (0≤(0:Int))) (chk (decide ((0:Int)<((length s0:Nat):Int))) (TN (call 81 [(V.int .u8 ((UU (getD s0 (TO (0:Int)) 0):Nat):Int))] []) fun z0=>
 if(getB z0.1)=true then
 chk (decide (0≤(1:Int))) (chk (decide ((1:Int)≤((length s0:Nat):Int))) ((ag0 ((drop (TO (1:Int)) s0)))))
 else
 (ag1 (s0))))
 else
 (ag1 (s0))
def FW (call:FuncId→Fun) (ag0:List UInt8→Option (V×List Ob)) (ag1:List UInt8→Option (V×List Ob)) (s0:List UInt8):Option (V×List Ob):=
 if(decide (((length s0:Nat):Int)>(0:Int)))=true then
 chk (decide (0≤(TK .i64 (((length s0:Nat):Int) - (1:Int))))) (chk (decide ((TK .i64 (((length s0:Nat):Int) - (1:Int)))<((length s0:Nat):Int))) (TN (call 81 [(V.int .u8 ((UU (getD s0 (TO (TK .i64 (((length s0:Nat):Int) - (1:Int)))) 0):Nat):Int))] []) fun z0=>
 if(getB z0.1)=true then
 chk (decide (0≤(TK .i64 (((length s0:Nat):Int) - (1:Int))))) (chk (decide ((TK .i64 (((length s0:Nat):Int) - (1:Int)))≤((length s0:Nat):Int))) (chk (decide (0≤(0:Int))) (chk (decide ((0:Int)≤(TK .i64 (((length s0:Nat):Int) - (1:Int))))) ((ag1 ((drop (TO (0:Int)) (take (TO (TK .i64 (((length s0:Nat):Int) - (1:Int)))) s0))))))))
 else
 some ((V.str s0),[])))
 else
 some ((V.str s0),[])
def T90 (call:FuncId→Fun) (ag0:List UInt8→Option (V×List Ob)) (ag1:List UInt8→Option (V×List Ob)) (a0:List UInt8):Option (V×List Ob):=
 (ag0 (a0))
def A90 (a0:List UInt8):List V:=[V.str a0]
def yJ (s0:List UInt8):St:=⟨[(V.str s0)]++TZ 29 V.bot,[]⟩
def yK (s0:List UInt8):St:=⟨[(V.str s0)]++TZ 29 V.bot,[]⟩
theorem Ra (s0:List UInt8):
 RM 90 Tryz.f90 [] call icall again (aJ Tryz.f90 0) (yJ s0)=FV call (fun s0=>again (aJ Tryz.f90 0) (yJ s0)) (fun s0=>again (aJ Tryz.f90 1) (yK s0)) s0:=by kernel_rfl
theorem Rb (s0:List UInt8):
 RM 90 Tryz.f90 [] call icall again (aJ Tryz.f90 1) (yK s0)=FW call (fun s0=>again (aJ Tryz.f90 0) (yJ s0)) (fun s0=>again (aJ Tryz.f90 1) (yK s0)) s0:=by kernel_rfl
theorem E90 (a0:List UInt8):GO 90 Tryz.f90 (A90 a0) [] call icall again=T90 call (fun s0=>again (aJ Tryz.f90 0) (yJ s0)) (fun s0=>again (aJ Tryz.f90 1) (yK s0)) a0:=by kernel_rfl
def L90 (call:FuncId→Fun):Nat→(List UInt8→Option (V×List Ob))×(List UInt8→Option (V×List Ob))
 |0=>⟨fun _=>none,fun _=>none⟩
 |n+1=>⟨FV call (L90 call n).1 (L90 call n).2,FW call (L90 call n).1 (L90 call n).2⟩
theorem R90 (call:FuncId→Fun) (icall:aN (V×List Ob)):∀n,(∀(s0:List UInt8),RN 90 Tryz.f90 [] call icall n (aJ Tryz.f90 0) (yJ s0)=(L90 call n).1 s0)∧(∀(s0:List UInt8),RN 90 Tryz.f90 [] call icall n (aJ Tryz.f90 1) (yK s0)=(L90 call n).2 s0)
 |0=>⟨fun s0=>rfl,fun s0=>rfl⟩
 |n+1=>by
  have ih:=R90 call icall n
  exact⟨fun s0=>(Ra call icall (RN 90 Tryz.f90 [] call icall n) s0).trans (by rw[show(fun s0=>RN 90 Tryz.f90 [] call icall n (aJ Tryz.f90 0) (yJ s0))=(L90 call n).1 from(funext fun s0=>ih.1 s0),show(fun s0=>RN 90 Tryz.f90 [] call icall n (aJ Tryz.f90 1) (yK s0))=(L90 call n).2 from(funext fun s0=>ih.2 s0)];rfl),
   fun s0=>(Rb call icall (RN 90 Tryz.f90 [] call icall n) s0).trans (by rw[show(fun s0=>RN 90 Tryz.f90 [] call icall n (aJ Tryz.f90 0) (yJ s0))=(L90 call n).1 from(funext fun s0=>ih.1 s0),show(fun s0=>RN 90 Tryz.f90 [] call icall n (aJ Tryz.f90 1) (yK s0))=(L90 call n).2 from(funext fun s0=>ih.2 s0)];rfl)⟩
theorem C90 (k:Nat) (a0:List UInt8):aA cfg (k+1) 90 (A90 a0) []=T90 (aA cfg k) (L90 (aA cfg k) k).1 (L90 (aA cfg k) k).2 a0:=by
 have ih:=R90 (aA cfg k) (aF cfg (aA cfg k) 20) k
 refine(show aA cfg (k+1) 90 (A90 a0) []=GO 90 Tryz.f90 (A90 a0) [] (aA cfg k) (aF cfg (aA cfg k) 20) (RN 90 Tryz.f90 [] (aA cfg k) (aF cfg (aA cfg k) 20) k)by kernel_rfl).trans ((E90 _ _ _ a0).trans ?_)
 rw[show(fun s0=>RN 90 Tryz.f90 [] (aA cfg k) (aF cfg (aA cfg k) 20) k (aJ Tryz.f90 0) (yJ s0))=(L90 (aA cfg k) k).1 from(funext fun s0=>ih.1 s0),show(fun s0=>RN 90 Tryz.f90 [] (aA cfg k) (aF cfg (aA cfg k) 20) k (aJ Tryz.f90 1) (yK s0))=(L90 (aA cfg k) k).2 from(funext fun s0=>ih.2 s0)]
theorem M90 (a0:List UInt8) {r:V×List Ob} (h:Evt (fun k n=>T90 (aA cfg k) (L90 (aA cfg k) n).1 (L90 (aA cfg k) n).2 a0) r):Ret 90 [V.str a0] [] r:=aR (g:=fun k n=>T90 (aA cfg k) (L90 (aA cfg k) n).1 (L90 (aA cfg k) n).2 a0) (fun k=>C90 k a0) h
theorem Oo (s0:List UInt8) {r:V×List Ob} (h:Evt (fun k n=>FV (aA cfg k) (L90 (aA cfg k) n).1 (L90 (aA cfg k) n).2 s0) r):Evt (fun k n=>(L90 (aA cfg k) n).1 s0) r:=aX (fun k n=>rfl) h
theorem Oq (s0:List UInt8) {r:V×List Ob} (h:Evt (fun k n=>FW (aA cfg k) (L90 (aA cfg k) n).1 (L90 (aA cfg k) n).2 s0) r):Evt (fun k n=>(L90 (aA cfg k) n).2 s0) r:=aX (fun k n=>rfl) h
end Go.Proofs.YtgpofjbdjiajeaaGreatDoor
end
section
namespace Go.Proofs.YtgpofjbdjiajeaaGreatDoor
open Go.Ev Go
def FX:Bs:=[40,41,60,62,64,44,59,58,92,34,47,91,93,63,61]
def uY (c:UInt8):Bool:=33≤c&&c≤126&& !FX.contains c
def jH (c:UInt8):Bool:=c==32||c==9
theorem AX (a b:UInt8):(((a.toNat:Nat):Int)==((b.toNat:Nat):Int))=(a==b):=by
 by_cases h:a=b
 ·subst h;simp
 ·have:a.toNat≠b.toNat:=fun e=>h (Wc.1 e)
  have h1:(a==b)=false:=by simpa using h
  rw[h1];simp;omega
theorem gK (a:UInt8) (n:Nat) (h:n<256):(((a.toNat:Nat):Int)==(n:Int))=(a==Uo n):=by
 have:(Uo n).toNat=n:=by simp;omega
 have:=AX a (Uo n)
 rwa [‹(Uo n).toNat=n›]at this
theorem rM (a b:UInt8):(((a.toNat:Nat):Int)≤((b.toNat:Nat):Int))↔a≤b:=by
 rw[UInt8.le_iff_toNat_le];omega
theorem Ec (s:Bs) (i:Nat):Ret 106 [.ref 0 0, .int .i64 i] [.cells [.str s]] (.int .u8 ((s.getD i 0).toNat:Nat),[.cells [.str s]]):=by
 refine SH s i ?_
 simp only[Lu]
 by_cases h:i<s.length
 ·have h1:¬((i:Int)≥(s.length:Int)):=by omega
  have h2:(i:Int)<(s.length:Int):=by omega
  have h3:(0:Int)≤(i:Int):=by omega
  simp only[h1,decide_false,TL,if_false,aI h2,aI h3,TW]
  exact aD _
 ·have h1:((i:Int)≥(s.length:Int)):=by omega
  have h4:s.getD i 0=0:=by simp[Ul,Ut (by omega:s.length≤i)]
  simp only[h1,decide_true,if_true,h4]
  exact aD _
theorem CB (c:UInt8):Ret 81 [.int .u8 (c.toNat:Nat)] [] (.bool (jH c),[]):=by
 refine M81 (c.toNat:Nat) ?_
 have h32:(((c.toNat:Nat):Int)==(32:Int))=(c==32):=gK c 32 (by omega)
 have h9:(((c.toNat:Nat):Int)==(9:Int))=(c==9):=gK c 9 (by omega)
 simp only[T81,h32,h9,jH]
 cases h:(c==32)
 ·simp only[if_true,aY,VF];exact aD _
 ·simp only[VY,if_false,aY,Bool.true_or];exact aD _
theorem Ed (s:Bs) (i:Nat) (h:i<s.length) (hb:s[i]<128):Utf8.decode ⟨s.toArray⟩ i=(s[i].toNat,1):=by
 have e:(ByteArray.get! ⟨s.toArray⟩ (i+0)).toNat=s[i].toNat:=by simp[ByteArray.get!,h]
 have hlt:s[i].toNat<0x80:=by have:=UInt8.lt_iff_toNat_lt.1 hb;simpa using this
 unfold Utf8.decode
 simp only[e,hlt,if_true]
theorem IL (c:UInt8) (s:Bs) (hs:∀b∈s,b<128):∀(n i:Nat),s.length - i=n→i≤s.length→
  Evt (fun k n=>BR (aA cfg k) n (c.toNat:Nat) s (i:Nat)) (.bool ((s.drop i).contains c),[])
 |0,i,h,hi=>by
  refine LK (c.toNat:Nat) s (i:Nat) ?_
  have h1:¬(i<s.length):=by omega
  have h2:s.drop i=[]:=UB (by omega)
  simp only[AT,TW,h1,if_false,h2,List.contains_nil]
  exact aD _
 |n+1,i,h,hi=>by
  refine LK (c.toNat:Nat) s (i:Nat) ?_
  have h1:i<s.length:=by omega
  have hd:=Ed s i h1 (hs _ (U3 h1))
  have hw:TK .i32 ((c.toNat:Nat):Int)=((c.toNat:Nat):Int):=by
   rw[IntKind.wrap_i32];have:=c.toNat_lt;omega
  simp only[AT,TW,h1,if_true,hd,hw,AX]
  rw[drop_at h1]
  cases he:(s[i]==c)
  ·have hx:(s[i]::s.drop (i+1)).contains c=(s.drop (i+1)).contains c:=by
    have:(c==s[i])=false:=by rw[BEq.comm];exact he
    rw[List.contains_cons,this];simp
   simp only[TL,if_false,hx]
   exact IL c s hs n (i+1) (by omega) (by omega)
  ·have hx:(s[i]::s.drop (i+1)).contains c=true:=by
    have:(c==s[i])=true:=by rw[BEq.comm];exact he
    rw[List.contains_cons,this];simp
   simp only[if_true,hx]
   exact aD _
theorem PG (c:UInt8) (s:Bs) (hs:∀b∈s,b<128):Ret 117 [.str s, .int .u8 (c.toNat:Nat)] [] (.bool (s.contains c),[]):=by
 refine Tf s (c.toNat:Nat) ?_
 simp only[LJ]
 exact IL c s hs _ 0 rfl (by omega)
theorem PH (c:UInt8):Ret 108 [.int .u8 (c.toNat:Nat)] [] (.bool (uY c),[]):=by
 refine SQ (c.toNat:Nat) ?_
 simp only[LA,uY]
 by_cases h1:33≤c
 ·have g1:((c.toNat:Nat):Int)≥33:=(rM 33 c).2 h1
  by_cases h2:c≤126
  ·have g2:((c.toNat:Nat):Int)≤126:=(rM c 126).2 h2
   simp only[g1,g2,h1,h2,decide_true,if_true,Bool.true_and]
   refine aB (PG c FX (by decide)) ?_
   exact aD _
  ·have g2:¬((c.toNat:Nat):Int)≤126:=fun e=>h2 ((rM c 126).1 e)
   simp only[g1,g2,h1,h2,decide_true,decide_false,if_true,TL,if_false,Bool.true_and,Bool.false_and]
   exact aD _
 ·have g1:¬((c.toNat:Nat):Int)≥33:=fun e=>h1 ((rM 33 c).1 e)
  simp only[g1,h1,decide_false,TL,if_false,Bool.false_and]
  exact aD _
theorem CC (s:Bs) (hs:s.length<4294967281):Ret 65 [.str s] [] (.str (s.map eL),[]):=
 jX (h:=FQ) rfl (by simp[FQ,hs])
theorem Ot (a b:Bs) (ha:a.length<4294967281) (hb:b.length<4294967281):Ret 62 [.str a, .str b] [] (.bool (a.map eL==b.map eL),[]):=by
 refine M62 a b ?_
 simp only[T62]
 refine aB (CC a ha) (aB (CC b hb) ?_)
 exact aD _
def tokF (s:Bs):Bs×Bs:=(s.takeWhile uY,s.dropWhile uY)
theorem PI (s:Bs) (hs:s.length≤1000000):∀(n i:Nat),s.length - i=n→i≤s.length→(∀j (h:j<s.length),j<i→uY s[j]=true)→
  Evt (fun k n=>L84 (aA cfg k) n (i:Nat) s) (.str (tokF s).1,[.cells [.str (tokF s).2]]):=by
 have fin:∀i:Nat,i≤s.length→(∀j (h:j<s.length),j<i→uY s[j]=true)→(∀h:i<s.length,uY s[i]=false)→(tokF s).1=s.take i∧(tokF s).2=s.drop i:=by
  intro i hi h1 h2
  have e:s=s.take i++s.drop i:=(U9 i s).symm
  have h3:∀b∈s.take i,uY b=true:=by
   intro b hb
   obtain⟨j,hj,rfl⟩:=List.getElem_of_mem hb
   have hj' :j<i∧j<s.length:=by rw[Vo]at hj;omega
   rw[List.getElem_take]
   exact h1 j hj'.2 hj'.1
  have h4:(s.drop i).takeWhile uY=[]∧(s.drop i).dropWhile uY=s.drop i:=by
   by_cases hlt:i<s.length
   ·rw[drop_at hlt,List.takeWhile_cons_of_neg (by simp[h2 hlt]),List.dropWhile_cons_of_neg (by simp[h2 hlt])];exact⟨rfl,rfl⟩
   ·rw[UB (by omega)];simp
  unfold tokF
  constructor
  ·show s.takeWhile uY=_
   conv=>lhs;rw[e]
   rw[List.takeWhile_append_of_pos h3,h4.1,UI]
  ·show s.dropWhile uY=_
   conv=>lhs;rw[e]
   rw[List.dropWhile_append_of_pos h3,h4.2]
 intro n
 induction n with
 |zero=>
  intro i h hi hb
  refine On (i:Nat) s ?_
  have h1:¬((i:Int)<(s.length:Int)):=by omega
  have h2:(0:Int)≤(i:Int):=by omega
  have h3:((i:Int)≤(s.length:Int)):=by omega
  obtain⟨e1,e2⟩:=fin i hi hb (fun h=>by omega)
  simp only[FU,h1,decide_false,TL,if_false,aI h2,aI h3,aI (VJ 0),TW,e1,e2]
  exact aD _
 |succ n ih=>
  intro i h hi hb
  refine On (i:Nat) s ?_
  have hlt:i<s.length:=by omega
  have h1:((i:Int)<(s.length:Int)):=by omega
  have h2:(0:Int)≤(i:Int):=by omega
  have h3:((i:Int)≤(s.length:Int)):=by omega
  have hw:TK .i64 ((i:Int)+1)=((i+1:Nat):Int):=by rw[wrap64 (by omega) (by omega)];omega
  simp only[FU,h1,decide_true,if_true,aI h2,aI h3,cR,aI (VJ 0),TW,getD_at hlt]
  refine aB (PH s[i]) ?_
  simp only[V.getB,hw]
  cases ht:uY s[i]
  ·obtain⟨e1,e2⟩:=fin i hi hb (fun _=>ht)
   simp only[TL,if_false,e1,e2]
   exact aD _
  ·simp only[if_true]
   refine ih (i+1) (by omega) (by omega) fun j hj hji=>?_
   by_cases e:j=i
   ·subst e;exact ht
   ·exact hb j hj (by omega)
theorem IM (s:Bs) (hs:s.length≤1000000):Ret 84 [.agg [.ref 0 0]] [.cells [.str s]] (.str (tokF s).1,[.cells [.str (tokF s).2]]):=by
 refine M84 s ?_
 simp only[T84]
 exact PI s hs _ 0 rfl (by omega) (fun j h hj=>by omega)
end Go.Proofs.YtgpofjbdjiajeaaGreatDoor
end
section
namespace Go.Proofs.YtgpofjbdjiajeaaGreatDoor
open Go.Ev Go
def oZ:Int→Bs→Bs
 |_,[]=>[]
 |_,[_]=>[]
 |d,c::x::r=>
  if c=92 then oZ d r
  else if c=40 then oZ (TK .i64 (d+1)) (x::r)
  else if c=41 then(if TK .i64 (d - 1)=0 then x::r else oZ (TK .i64 (d - 1)) (x::r))
  else oZ d (x::r)
theorem CE (d:Int) (c:UInt8) (r:Bs):oZ d (c::r)=
  if c=92 then oZ d (r.drop 1)else if c=40 then oZ (TK .i64 (d+1)) r
  else if c=41 then(if TK .i64 (d - 1)=0 then r else oZ (TK .i64 (d - 1)) r)else oZ d r:=by
 cases r with
 |nil=>simp[oZ]
 |cons x r=>rw[oZ];rfl
theorem fS:∀(n:Nat) (d:Int) (s:Bs),s.length≤n→(oZ d s).length≤s.length - 1
 |_,_,[],_=>by simp[oZ]
 |0,_,c::r,h=>by simp at h
 |n+1,d,c::r,h=>by
  simp at h
  rw[CE]
  have h1:=fS n d (r.drop 1) (by simp;omega)
  have h2:=fS n (TK .i64 (d+1)) r h
  have h3:=fS n (TK .i64 (d - 1)) r h
  have h4:=fS n d r h
  simp at h1 h2 h3 h4 ⊢
  split
  ·omega
  ·split
   ·omega
   ·split
    ·split<;>omega
    ·omega
theorem NA (s:Bs) (hs:s.length≤1000000):∀(n i:Nat) (d:Int),s.length - i≤n→
  ∃m:Nat,m≤s.length∧s.drop m=oZ d (s.drop i)∧Evt (fun k n=>xC (aA cfg k) n d (i:Nat) s) (.int .i64 (m:Nat),[.cells [.str s]]):=by
 have out:∀(i:Nat) (d:Int),s.length≤i→∃m:Nat,m≤s.length∧s.drop m=oZ d (s.drop i)∧Evt (fun k n=>xC (aA cfg k) n d (i:Nat) s) (.int .i64 (m:Nat),[.cells [.str s]]):=by
  intro i d h
  refine⟨s.length,TY _,?_,?_⟩
  ·rw[UB h,UB (TY _)];rfl
  ·refine Lz d (i:Nat) s ?_
   have h1:¬((i:Int)<(s.length:Int)):=by omega
   simp only[nB,h1,decide_false,TL,if_false]
   exact aD _
 intro n
 induction n with
 |zero=>intro i d h;exact out i d (by omega)
 |succ n ih=>
  intro i d h
  by_cases hlt:i<s.length
  ·have h1:((i:Int)<(s.length:Int)):=by omega
   have h2:(0:Int)≤(i:Int):=by omega
   have hw:TK .i64 ((i:Int)+1)=((i+1:Nat):Int):=by rw[wrap64 (by omega) (by omega)];omega
   have hw2:TK .i64 (((i+1:Nat):Int)+1)=((i+2:Nat):Int):=by rw[wrap64 (by omega) (by omega)];omega
   have e92:(((s[i].toNat:Nat):Int)==(92:Int))=(s[i]==92):=gK s[i] 92 (by omega)
   have e40:(((s[i].toNat:Nat):Int)==(40:Int))=(s[i]==40):=gK s[i] 40 (by omega)
   have e41:(((s[i].toNat:Nat):Int)==(41:Int))=(s[i]==41):=gK s[i] 41 (by omega)
   rw[drop_at hlt,CE]
   have step:∀r,Evt (fun k n=>nB (aA cfg k) (xC (aA cfg k) n) d (i:Nat) s) r→Evt (fun k n=>xC (aA cfg k) n d (i:Nat) s) r:=fun r hr=>Lz d (i:Nat) s hr
   by_cases c92:s[i]=92
   ·obtain⟨m,g1,g2,g3⟩:=ih (i+2) d (by omega)
    refine⟨m,g1,?_,step _ ?_⟩
    ·rw[if_pos c92,g2,List.drop_drop]
    ·simp only[nB,h1,decide_true,if_true,aI h2,cR,TW,getD_at hlt,e92,c92,beq_self_eq_true,hw,hw2]
     exact g3
   ·by_cases c40:s[i]=40
    ·obtain⟨m,g1,g2,g3⟩:=ih (i+1) (TK .i64 (d+1)) (by omega)
     refine⟨m,g1,?_,step _ ?_⟩
     ·rw[if_neg c92,if_pos c40,g2]
     ·have b92:(s[i]==92)=false:=by simpa using c92
      simp only[nB,h1,decide_true,if_true,aI h2,cR,TW,getD_at hlt,e92,b92,e40,c40,beq_self_eq_true,TL,if_false,hw]
      exact g3
    ·have b92:(s[i]==92)=false:=by simpa using c92
     have b40:(s[i]==40)=false:=by simpa using c40
     by_cases c41:s[i]=41
     ·by_cases hd:TK .i64 (d - 1)=0
      ·refine⟨i+1,by omega,?_,step _ ?_⟩
       ·rw[if_neg c92,if_neg c40,if_pos c41,if_pos hd]
       ·simp only[nB,h1,decide_true,if_true,aI h2,cR,TW,getD_at hlt,e92,b92,e40,b40,e41,c41,hd,beq_self_eq_true,TL,if_false,hw]
        exact aD _
      ·obtain⟨m,g1,g2,g3⟩:=ih (i+1) (TK .i64 (d - 1)) (by omega)
       refine⟨m,g1,?_,step _ ?_⟩
       ·rw[if_neg c92,if_neg c40,if_pos c41,if_neg hd,g2]
       ·have hb:(TK .i64 (d - 1)==0)=false:=by simpa using hd
        simp only[nB,h1,decide_true,if_true,aI h2,cR,TW,getD_at hlt,e92,b92,e40,b40,e41,c41,hb,beq_self_eq_true,TL,if_false,hw]
        exact g3
     ·obtain⟨m,g1,g2,g3⟩:=ih (i+1) d (by omega)
      refine⟨m,g1,?_,step _ ?_⟩
      ·rw[if_neg c92,if_neg c40,if_neg c41,g2]
      ·have b41:(s[i]==41)=false:=by simpa using c41
       simp only[nB,h1,decide_true,if_true,aI h2,cR,TW,getD_at hlt,e92,b92,e40,b40,e41,b41,beq_self_eq_true,TL,if_false,hw]
       exact g3
  ·exact out i d (by omega)
theorem PK (s:Bs) (hs:s.length≤1000000):∃m:Nat,m≤s.length∧s.drop m=oZ 0 s∧Ret 107 [.agg [.ref 0 0]] [.cells [.str s]] (.int .i64 (m:Nat),[.cells [.str s]]):=by
 obtain⟨m,g1,g2,g3⟩:=NA s hs s.length 0 0 (by omega)
 refine⟨m,g1,by simpa using g2,SL s ?_⟩
 simp only[Ly]
 exact g3
def dH (s:Bs):Bs:=
 match s with
 |[]=>[]
 |c::r=>if jH c then dH r else if c=40 then dH (oZ 0 (c::r))else c::r
termination_by s.length
decreasing_by
 ·simp
 ·have:=fS _ 0 (c::r) (TY _);simp at this ⊢;omega
theorem AY (c:UInt8) (r:Bs):dH (c::r)=if jH c then dH r else if c=40 then dH (oZ 0 (c::r))else c::r:=by rw[dH]
theorem rN:dH []=[]:=by rw[dH]
theorem pA:∀(n:Nat) (s:Bs),s.length≤n→(dH s).length≤s.length
 |_,[],_=>by simp[rN]
 |0,c::r,h=>by simp at h
 |n+1,c::r,h=>by
  rw[AY]
  have h0:=fS _ 0 (c::r) (TY _)
  simp at h h0 ⊢
  split
  ·have:=pA n r (by omega);omega
  ·split
   ·have:=pA n (oZ 0 (c::r)) (by omega);omega
   ·simp
theorem qT (s:Bs):(dH s).length≤s.length:=pA _ s (TY _)
theorem H5:∀(n:Nat) (s:Bs),s.length≤n→s.length≤1000000→Evt (fun k n=>L83 (aA cfg k) n s) (.tup [],[.cells [.str (dH s)]])
 |_,[],_,_=>by
  refine Om [] ?_
  simp only[FT,rN,Uh]
  exact aD _
 |0,c::r,h,_=>by simp at h
 |n+1,c::r,h,hs=>by
  refine Om (c::r) ?_
  have h1:(((c::r).length:Nat):Int)>0:=by rw[Ua];omega
  have h2:(1:Int)≤(((c::r).length:Nat):Int):=by rw[Ua];omega
  simp only[FT,h1,decide_true,if_true]
  refine aB (Ec (c::r) 0) ?_
  simp only[V.getI,List.getD_cons_zero]
  refine aB (CB c) ?_
  have e40:(((c.toNat:Nat):Int)==(40:Int))=(c==40):=gK c 40 (by omega)
  simp only[V.getB,e40]
  rw[AY]
  cases hb:jH c
  ·simp only[TL,if_false]
   by_cases hc:c=40
   ·simp only[hc,beq_self_eq_true,if_true]
    obtain⟨m,g1,g2,g3⟩:=PK (40::r) (by subst hc;exact hs)
    refine aB g3 ?_
    have h3:(0:Int)≤(m:Int):=by omega
    have h4:(m:Int)≤(((40::r:Bs).length:Nat):Int):=by omega
    simp only[V.getI,aI h3,aI h4,TW]
    rw[g2]
    have:=fS _ 0 (40::r) (TY _)
    simp at this h hs
    exact H5 n _ (by omega) (by omega)
   ·have hc' :(c==40)=false:=by simpa using hc
    simp only[hc',hc,TL,if_false]
    exact aD _
  ·simp only[if_true,aI h2,aI (show(0:Int)≤1 by omega)]
   simp at h hs
   exact H5 n r (by omega) (by omega)
theorem LP (s:Bs) (hs:s.length≤1000000):Ret 83 [.agg [.ref 0 0]] [.cells [.str s]] (.tup [],[.cells [.str (dH s)]]):=by
 refine M83 s ?_
 simp only[T83]
 exact H5 _ s (TY _) hs
def iR (c:UInt8) (s:Bs):Option Bs:=
 match dH s with
 |[]=>none
 |x::r=>if x=c then some (dH r)else none
theorem jY {c:UInt8} {s r:Bs} (h:iR c s=some r):r.length<s.length:=by
 unfold iR at h
 have h0:=qT s
 split at h
 ·cases h
 ·rename_i x r' he
  split at h
  ·cases h
   have:=qT r'
   rw[he]at h0;simp at h0;omega
  ·cases h
def uZ (c:UInt8) (s:Bs):Bs:=match iR c s with|some r=>r|none=>dH s
theorem FY (s:Bs) (hs:s.length≤1000000) (c:UInt8) (hc:c≠0):Ret 85 [.agg [.ref 0 0], .int .u8 (c.toNat:Nat)] [.cells [.str s]] (.bool (iR c s).isSome,[.cells [.str (uZ c s)]]):=by
 refine M85 s (c.toNat:Nat) ?_
 simp only[T85]
 refine aB (LP s hs) ?_
 simp only[Uc,Ob.getC,V.getS]
 refine aB (Ec (dH s) 0) ?_
 simp only[V.getI]
 have h0:=qT s
 unfold uZ iR
 cases he:dH s with
 |nil=>
  have hb:((((([]:Bs).getD 0 0).toNat:Nat):Int) != ((c.toNat:Nat):Int))=true:=by
   have:c.toNat≠0:=fun e=>hc (Wc.1 e)
   simp;omega
  simp only[hb,if_true]
  exact aD _
 |cons x r=>
  rw[he]at h0;simp at h0
  have hb:(((((x::r:Bs).getD 0 0).toNat:Nat):Int) != ((c.toNat:Nat):Int))= !(x==c):=by
   rw[List.getD_cons_zero,bne,AX]
  simp only[hb]
  by_cases hx:x=c
  ·have h2:(1:Int)≤(((x::r:Bs).length:Nat):Int):=by rw[Ua];omega
   simp only[hx,beq_self_eq_true,UP,TL,if_false,if_true]
   rw[hx]at h2
   simp only[aI h2,aI (show(0:Int)≤1 by omega)]
   refine aB (LP r (by omega)) ?_
   exact aD _
  ·have hx' :(x==c)=false:=by simpa using hx
   simp only[hx',hx,UJ,if_true,if_false]
   exact aD _
end Go.Proofs.YtgpofjbdjiajeaaGreatDoor
end
section
namespace Go.Proofs.YtgpofjbdjiajeaaGreatDoor
open Go.Ev Go
def pQ:Bs→Option (Bs×Bs)
 |[]=>none
 |[c]=>if c=34 then some ([],[])else none
 |c::x::r=>if c=34 then some ([],x::r)else if c=92 then(pQ r).map fun p=>(x::p.1,p.2)else(pQ (x::r)).map fun p=>(c::p.1,p.2)
theorem CG (c:UInt8) (r:Bs):pQ (c::r)=
  if c=34 then some ([],r)else if c=92 then(match r with|[]=>none|x::r' =>(pQ r').map fun p=>(x::p.1,p.2))else(pQ r).map fun p=>(c::p.1,p.2):=by
 cases r with
 |nil=>
  rw[pQ,pQ]
  by_cases h:c=34
  ·simp[h]
  ·simp[h]
 |cons x r=>rw[pQ]
theorem Ee:∀(n:Nat) (s t r:Bs),s.length≤n→pQ s=some (t,r)→t.length+r.length<s.length
 |_,[],t,r,_,h=>by simp[pQ]at h
 |0,c::s,t,r,h,_=>by simp at h
 |n+1,c::s,t,r,h,hq=>by
  rw[CG]at hq
  simp at h
  split at hq
  ·cases hq;simp
  ·split at hq
   ·cases s with
    |nil=>cases hq
    |cons x s=>
     simp at hq h
     obtain⟨a,hp,rfl⟩:=hq
     have:=Ee n s a r (by omega) hp
     simp;omega
   ·simp at hq
    obtain⟨a,hp,rfl⟩:=hq
    have:=Ee n s a r (by omega) hp
    simp;omega
theorem NB (s:Bs) (hs:s.length≤1000000):∀(n i:Nat) (out:Bs),s.length - i≤n→out.length≤i→
  ∃rest,Evt (fun k n=>AU (aA cfg k) n (ofBytes out) (i:Nat) s) (match pQ (s.drop i)with
   |some (t,r)=>(.tup [.str (out++t), .bool true],[.cells [.str r]])
   |none=>(.tup [.str [], .bool false],[.cells [.str rest]])):=by
 have fin:∀(i:Nat) (out:Bs),s.length≤i→∃rest,Evt (fun k n=>AU (aA cfg k) n (ofBytes out) (i:Nat) s) (match pQ (s.drop i)with
   |some (t,r)=>(.tup [.str (out++t), .bool true],[.cells [.str r]])
   |none=>(.tup [.str [], .bool false],[.cells [.str rest]])):=by
  intro i out h
  rw[UB h]
  refine⟨s,AV (ofBytes out) (i:Nat) s ?_⟩
  have h1:¬((i:Int)<(s.length:Int)):=by omega
  simp only[qS,h1,decide_false,TL,if_false,pQ]
  exact aD _
 intro n
 induction n with
 |zero=>intro i out h _;exact fin i out (by omega)
 |succ n ih=>
  intro i out h ho
  by_cases hlt:i<s.length
  ·have h1:((i:Int)<(s.length:Int)):=by omega
   have h2:(0:Int)≤(i:Int):=by omega
   have hw:TK .i64 ((i:Int)+1)=((i+1:Nat):Int):=by rw[wrap64 (by omega) (by omega)];omega
   have hw2:TK .i64 (((i+1:Nat):Int)+1)=((i+2:Nat):Int):=by rw[wrap64 (by omega) (by omega)];omega
   have h3:(0:Int)≤((i+1:Nat):Int):=by omega
   have h4:((i+1:Nat):Int)≤(s.length:Int):=by omega
   have e34:(((s[i].toNat:Nat):Int)==(34:Int))=(s[i]==34):=gK s[i] 34 (by omega)
   have e92:(((s[i].toNat:Nat):Int)==(92:Int))=(s[i]==92):=gK s[i] 92 (by omega)
   rw[drop_at hlt,CG]
   by_cases c34:s[i]=34
   ·refine⟨[],AV (ofBytes out) (i:Nat) s ?_⟩
    simp only[qS,h1,decide_true,if_true,aI h2,cR,TW,getD_at hlt,e34,c34,beq_self_eq_true,hw,aI h3,aI h4,cD,UI]
    exact aD _
   ·have b34:(s[i]==34)=false:=by simpa using c34
    by_cases c92:s[i]=92
    ·by_cases hlt2:i+1<s.length
     ·have h5:((i+1:Nat):Int)<(s.length:Int):=by omega
      have hap:cE (ofBytes out) [V.int UT ((s[i+1].toNat:Nat):Int)] 2=true:=gB (by simp[aL];omega)
      obtain⟨rest,g⟩:=ih (i+2) (out++[s[i+1]]) (by omega) (by simp;omega)
      refine⟨rest,AV (ofBytes out) (i:Nat) s ?_⟩
      have g34:¬((92:UInt8)=34):=by decide
      rw[if_neg (by rw[c92];exact g34),if_pos c92,drop_at hlt2]
      simp only[qS,h1,decide_true,if_true,aI h2,cR,TW,getD_at hlt,e34,b34,TL,if_false,e92,c92,beq_self_eq_true,hw,h5,aI h3,getD_at hlt2,cZ hap,hw2,kQ]
      cases hq:pQ (s.drop (i+2))with
      |none=>rw[hq]at g;simpa[hq]using g
      |some p=>rw[hq]at g;simpa[hq]using g
     ·have h5:¬(((i+1:Nat):Int)<(s.length:Int)):=by omega
      obtain⟨rest,g⟩:=fin (i+2) out (by omega)
      refine⟨rest,AV (ofBytes out) (i:Nat) s ?_⟩
      have g34:¬((92:UInt8)=34):=by decide
      rw[if_neg (by rw[c92];exact g34),if_pos c92,UB (by omega:s.length≤i+1)]
      rw[UB (by omega:s.length≤i+2)]at g
      simp only[qS,h1,decide_true,decide_false,if_true,aI h2,cR,TW,getD_at hlt,e34,b34,TL,if_false,e92,c92,beq_self_eq_true,hw,h5,hw2]
      exact g
    ·have b92:(s[i]==92)=false:=by simpa using c92
     have hap:cE (ofBytes out) [V.int UT ((s[i].toNat:Nat):Int)] 2=true:=gB (by simp[aL];omega)
     obtain⟨rest,g⟩:=ih (i+1) (out++[s[i]]) (by omega) (by simp;omega)
     refine⟨rest,AV (ofBytes out) (i:Nat) s ?_⟩
     rw[if_neg c34,if_neg c92]
     simp only[qS,h1,decide_true,if_true,aI h2,cR,TW,getD_at hlt,e34,b34,TL,if_false,e92,b92,hw,cZ hap,kQ]
     cases hq:pQ (s.drop (i+1))with
     |none=>rw[hq]at g;simpa[hq]using g
     |some p=>rw[hq]at g;simpa[hq]using g
  ·exact fin i out (by omega)
theorem PL (s:Bs) (hs:s.length≤1000000):∃rest,Ret 118 [.agg [.ref 0 0]] [.cells [.str s]] (match pQ (s.drop 1)with
   |some (t,r)=>(.tup [.str t, .bool true],[.cells [.str r]])
   |none=>(.tup [.str [], .bool false],[.cells [.str rest]])):=by
 obtain⟨rest,g⟩:=NB s hs s.length 1 [] (by omega) (by simp)
 refine⟨rest,Tj s ?_⟩
 simp only[LL]
 exact g
def Ef (s:Bs):Option (Bs×Bs):=
 if s.head? =some 34 then pQ (s.drop 1)else if(tokF s).1=[]then none else some (tokF s)
theorem mN (s:Bs):(tokF s).1.length+(tokF s).2.length=s.length:=by
 have:=List.takeWhile_append_dropWhile (p:=uY) (l:=s)
 have h:=congrArg US this
 rw[Ug]at h
 exact h
theorem Eg {s t r:Bs} (h:Ef s=some (t,r)):t.length+r.length≤s.length:=by
 unfold Ef at h
 split at h
 ·have:=Ee _ _ t r (TY _) h
  simp at this;omega
 ·split at h
  ·cases h
  ·have:=mN s
   have e:tokF s=(t,r):=by injection h
   rw[e]at this;exact Nat.le_of_eq this
theorem PM (s:Bs) (hs:s.length≤1000000):∃rest,Ret 109 [.agg [.ref 0 0]] [.cells [.str s]] (match Ef s with
   |some (t,r)=>(.tup [.str t, .bool true],[.cells [.str r]])
   |none=>(.tup [.str [], .bool false],[.cells [.str rest]])):=by
 have e34:((((s.getD 0 0).toNat:Nat):Int)==(34:Int))=(s.head? ==some 34):=by
  rw[show(34:Int)=((34:Nat):Int)from rfl,gK _ 34 (by omega)]
  cases s with
  |nil=>decide
  |cons c r=>simp
 by_cases h:s.head? =some 34
 ·obtain⟨rest,g⟩:=PL s hs
  refine⟨rest,Q2 s ?_⟩
  simp only[J7]
  refine aB (Ec s 0) ?_
  simp only[V.getI,e34,h,beq_self_eq_true,if_true]
  refine aB g ?_
  unfold Ef
  rw[if_pos h]
  cases pQ (s.drop 1)with
  |none=>exact aD _
  |some p=>exact aD _
 ·refine⟨(tokF s).2,Q2 s ?_⟩
  have hb:(s.head? ==some 34)=false:=by simpa using h
  simp only[J7]
  refine aB (Ec s 0) ?_
  simp only[V.getI,e34,hb,TL,if_false]
  refine aB (IM s hs) ?_
  unfold Ef
  rw[if_neg h]
  simp only[V.getS,Uc,Ob.getC,sEq]
  by_cases ht:(tokF s).1=[]
  ·rw[if_pos ht,ht]
   exact aD _
  ·rw[if_neg ht]
   have:((tokF s).1==[])=false:=by simpa using ht
   rw[this]
   exact aD _
abbrev Ps:=List (Bs×Bs)
def pV (p:Bs×Bs):V:= .agg [.str p.1, .str p.2]
def dI (s:Bs):Ps:=
 match h1:iR 59 s with
 |none=>[]
 |some s1=>
  if(tokF s1).1=[]then[]
  else match h2:iR 61 (tokF s1).2 with
   |none=>[]
   |some s3=>match h3:Ef s3 with
    |none=>[]
    |some (v,s4)=>((tokF s1).1.map eL,v)::dI s4
termination_by s.length
decreasing_by
 have g1:=jY h1
 have g2:=mN s1
 have g3:=jY h2
 have g4:=Eg h3
 omega
theorem rO (s:Bs):dI s=match iR 59 s with
  |none=>[]
  |some s1=>if(tokF s1).1=[]then[]else match iR 61 (tokF s1).2 with
   |none=>[]
   |some s3=>match Ef s3 with
    |none=>[]
    |some (v,s4)=>((tokF s1).1.map eL,v)::dI s4:=by
 rw[dI]
 split
 ·rename_i h1;simp only[h1]
 ·rename_i s1 h1
  simp only[h1]
  split
  ·rfl
  ·split
   ·rename_i h2;simp only[h2]
   ·rename_i s3 h2
    simp only[h2]
    split
    ·rename_i h3;simp only[h3]
    ·rename_i v s4 h3;simp only[h3]
theorem J9:∀(n:Nat) (s:Bs) (l:Ps),s.length≤n→s.length≤1000000→l.length+s.length≤1000000→
  ∃rest,Evt (fun k n=>L86 (aA cfg k) n (l.map pV) s) (.lst 140 false ((l++dI s).map pV),[.cells [.str rest]]):=by
 intro n
 induction n with
 |zero=>
  intro s l h hs hl
  have:s=[]:=Ue (by omega)
  subst this
  have hb:iR 59 []=none:=by simp[iR,rN]
  refine⟨dH [],Lt (l.map pV) [] ?_⟩
  simp only[Cy]
  refine aB (FY [] hs 59 (by decide)) ?_
  rw[rO]
  simp only[hb,uZ,Vb,V.getB,TL,if_false,UI,Uc,Ob.getC,V.getS]
  exact aD _
 |succ n ih=>
  intro s l h hs hl
  rw[rO]
  cases h1:iR 59 s with
  |none=>
   refine⟨dH s,Lt (l.map pV) s ?_⟩
   simp only[Cy]
   refine aB (FY s hs 59 (by decide)) ?_
   simp only[h1,uZ,Vb,V.getB,TL,if_false,UI,Uc,Ob.getC,V.getS]
   exact aD _
  |some s1=>
   have g1:=jY h1
   have g2:=mN s1
   have hsl:s1.length≤1000000:=by omega
   have hln:((tokF s1).1.map eL=[])↔(tokF s1).1=[]:=List.map_eq_nil_iff
   have start:∀{r:V×List Ob},Evt (fun k n=>
     if sEq ((tokF s1).1.map eL) []=false then
      TN (aA cfg k 85 [(V.agg [(V.ref 0 0)]),(V.int UT (61:Int))] [(Ob.cells [(V.str (tokF s1).2)])]) fun p3=>
      if(!(V.getB p3.1))=true then
       some ((V.lst 140 false (l.map pV)),[(Ob.cells [(V.str (V.getS (UL (Ob.getC (UL p3.2 Ob.dead)) V.bot)))])])
      else
       TN (aA cfg k 109 [(V.agg [(V.ref 0 0)])] [(Ob.cells [(V.str (V.getS (UL (Ob.getC (UL p3.2 Ob.dead)) V.bot)))])]) fun p4=>
       if(!(V.getB (UL (Uf (V.getT p4.1)) V.bot)))=true then
        some ((V.lst 140 false (l.map pV)),[(Ob.cells [(V.str (V.getS (UL (Ob.getC (UL p4.2 Ob.dead)) V.bot)))])])
       else
        chk (cE (l.map pV) [(V.agg [(V.str ((tokF s1).1.map eL)),(V.str (V.getS (UL (V.getT p4.1) V.bot)))])] 33) (L86 (aA cfg k) n ((l.map pV++[(V.agg [(V.str ((tokF s1).1.map eL)),(V.str (V.getS (UL (V.getT p4.1) V.bot)))])])) ((V.getS (UL (Ob.getC (UL p4.2 Ob.dead)) V.bot))))
     else
      some ((V.lst 140 false (l.map pV)),[(Ob.cells [(V.str (tokF s1).2)])])) r→Evt (fun k n=>L86 (aA cfg k) n (l.map pV) s) r:=by
    intro r hr
    refine Lt (l.map pV) s ?_
    simp only[Cy]
    refine aB (FY s hs 59 (by decide)) ?_
    simp only[h1,uZ,U4,V.getB,if_true,Uc,Ob.getC,V.getS]
    refine aB (IM s1 hsl) ?_
    simp only[V.getS,Uc,Ob.getC]
    refine aB (CC _ (by omega)) ?_
    exact hr
   by_cases ht:(tokF s1).1=[]
   ·refine⟨(tokF s1).2,start ?_⟩
    have hse:sEq ((tokF s1).1.map eL) []=true:=by simp[sEq,ht]
    simp only[ht,if_true,UI]
    rw[ht]at hse
    simp only[hse,VY,if_false]
    exact aD _
   ·have hse:sEq ((tokF s1).1.map eL) []=false:=by simp[sEq,ht]
    have h19:=FY (tokF s1).2 (by omega) 61 (by decide)
    simp only[ht,if_false]
    cases h2:iR 61 (tokF s1).2 with
    |none=>
     refine⟨dH (tokF s1).2,start ?_⟩
     simp only[hse,if_true]
     refine aB h19 ?_
     simp only[h2,uZ,Vb,V.getB,UJ,if_true,UI,Uc,Ob.getC,V.getS]
     exact aD _
    |some s3=>
     have g3:=jY h2
     obtain⟨rest,h35⟩:=PM s3 (by omega)
     cases h3:Ef s3 with
     |none=>
      refine⟨rest,start ?_⟩
      simp only[hse,if_true]
      refine aB h19 ?_
      simp only[h2,uZ,U4,V.getB,UP,TL,if_false,Uc,Ob.getC,V.getS]
      refine aB h35 ?_
      simp only[h3,V.getT,Um,Uc,V.getB,UJ,if_true,UI,Ob.getC,V.getS]
      exact aD _
     |some p=>
      obtain⟨v,s4⟩:=p
      have g4:=Eg h3
      obtain⟨rest',hrec⟩:=ih s4 (l++[((tokF s1).1.map eL,v)]) (by omega) (by omega) (by simp;omega)
      refine⟨rest',start ?_⟩
      simp only[hse,if_true]
      refine aB h19 ?_
      simp only[h2,uZ,U4,V.getB,UP,TL,if_false,Uc,Ob.getC,V.getS]
      refine aB h35 ?_
      have hap:cE (l.map pV) [V.agg [V.str ((tokF s1).1.map eL),V.str v]] 33=true:=gB (by simp;omega)
      simp only[h3,V.getT,Um,Uc,V.getB,UP,TL,if_false,Ob.getC,V.getS,cZ hap]
      have e:(l++[((tokF s1).1.map eL,v)]).map pV=l.map pV++[V.agg [V.str ((tokF s1).1.map eL),V.str v]]:=by simp[pV]
      rw[e]at hrec
      simpa using hrec
theorem Ou (s:Bs) (hs:s.length≤1000000):∃rest,Ret 86 [.agg [.ref 0 0]] [.cells [.str s]] (.lst 140 false ((dI s).map pV),[.cells [.str rest]]):=by
 obtain⟨rest,g⟩:=J9 s.length s [] (TY _) hs (by simpa using hs)
 refine⟨rest,M86 s ?_⟩
 simp only[T86]
 exact g
end Go.Proofs.YtgpofjbdjiajeaaGreatDoor
end
section
namespace Go.Proofs.YtgpofjbdjiajeaaGreatDoor
open Go.Ev Go
def iE:Ps→Bs→Option Bs
 |[],_=>none
 |p::r,name=>if p.1=name then some p.2 else iE r name
theorem Eh {l:Ps} {i:Nat} (h:i<l.length) (pv:Bs×Bs→V):(l.map pv).getD i .bot=pv l[i]:=by simp[Ul,h]
theorem NC (name:Bs) (l:Ps) (hl:l.length≤1000000):∀(n i:Nat),l.length - i≤n→
  Evt (fun k n=>AQ (aA cfg k) n name (l.map pV) (l.length:Nat) (i:Nat)) (.tup [.str ((iE (l.drop i) name).getD []), .bool (iE (l.drop i) name).isSome],[]):=by
 have fin:∀i:Nat,l.length≤i→Evt (fun k n=>AQ (aA cfg k) n name (l.map pV) (l.length:Nat) (i:Nat)) (.tup [.str ((iE (l.drop i) name).getD []), .bool (iE (l.drop i) name).isSome],[]):=by
  intro i h
  refine LE name (l.map pV) (l.length:Nat) (i:Nat) ?_
  have h1:¬((i:Int)<(l.length:Int)):=by omega
  rw[UB h]
  simp only[AP,h1,decide_false,TL,if_false,iE]
  exact aD _
 intro n
 induction n with
 |zero=>intro i h;exact fin i (by omega)
 |succ n ih=>
  intro i h
  by_cases hlt:i<l.length
  ·refine LE name (l.map pV) (l.length:Nat) (i:Nat) ?_
   have h1:((i:Int)<(l.length:Int)):=by omega
   have h2:(0:Int)≤(i:Int):=by omega
   have hw:TK .i64 ((i:Int)+1)=((i+1:Nat):Int):=by rw[wrap64 (by omega) (by omega)];omega
   have hd:l.drop i=l[i]::l.drop (i+1):=UM hlt
   rw[hd,iE]
   simp only[AP,h1,decide_true,if_true,aI h2,Ui,cR,TW,Eh hlt,pV,V.cells,Uc,Um,V.getS,sEq,hw]
   by_cases hn:l[i].1=name
   ·simp only[hn,beq_self_eq_true,if_true]
    exact aD _
   ·have:(l[i].1==name)=false:=by simpa using hn
    simp only[this,TL,if_false,hn]
    exact ih (i+1) (by omega)
  ·exact fin i (by omega)
theorem Ei (l:Ps) (hl:l.length≤1000000) (name:Bs):Ret 111 [.lst 140 false (l.map pV), .str name] [] (.tup [.str ((iE l name).getD []), .bool (iE l name).isSome],[]):=by
 refine SZ (l.map pV) name ?_
 simp only[LD,Ui]
 exact NC name l hl l.length 0 (by omega)
theorem LQ (c:UInt8):(((eL c).toNat:Nat):Int)=lW (c.toNat:Nat):=by
 have h:=HA (c:=(c.toNat:Nat)) ⟨by omega,by have:=c.toNat_lt;omega⟩
 unfold eL
 simp only[Vm]
 omega
theorem Rc (c:UInt8):Ret 93 [.int .u8 (c.toNat:Nat)] [] (.int .u8 ((eL c).toNat:Nat),[]):=by
 refine M93 (c.toNat:Nat) ?_
 rw[LQ]
 have hc:=c.toNat_lt
 unfold lW
 simp only[T93]
 by_cases h1:(65:Int)≤(c.toNat:Int)
 ·by_cases h2:(c.toNat:Int)≤90
  ·have hw:TK .u8 (TK .u8 ((c.toNat:Int) - 65)+97)=(c.toNat:Int)+32:=by
    rw[AO (by omega) (by omega:(c.toNat:Int) - 65<256),AO (by omega) (by omega)];omega
   simp only[ge_iff_le,h1,h2,decide_true,if_true,aY,and_self,hw]
   exact aD _
  ·simp only[ge_iff_le,h1,h2,decide_true,decide_false,if_true,aY,and_false,if_false,TL]
   exact aD _
 ·simp only[ge_iff_le,h1,decide_false,aY,false_and,if_false,TL]
  exact aD _
def hexN (c:UInt8):Option Nat:=
 if 48≤(eL c).toNat∧(eL c).toNat≤57 then some ((eL c).toNat - 48)else if 97≤(eL c).toNat∧(eL c).toNat≤102 then some ((eL c).toNat - 87)else none
theorem IN {c:UInt8} {n:Nat} (h:hexN c=some n):n<16:=by
 unfold hexN at h
 split at h
 ·cases h;omega
 ·split at h
  ·cases h;omega
  ·cases h
theorem LR (c:UInt8):Ret 120 [.int .u8 (c.toNat:Nat)] [] (.tup [.int .u8 (((hexN c).getD 0:Nat):Int), .bool (hexN c).isSome],[]):=by
 refine Tn (c.toNat:Nat) ?_
 simp only[LM]
 refine aB (Rc c) ?_
 unfold hexN
 generalize hd:(eL c).toNat=d
 show Evt (fun _ _=>TN (if decide ((d:Int)≥48)=true then some (decide ((d:Int)≤57))else some false) fun b1=>if b1=true then some (V.tup [V.int .u8 (TK .u8 ((d:Int) - 48)),V.bool true],[])else
  TN (if decide ((d:Int)≥97)=true then some (decide ((d:Int)≤102))else some false) fun b2=>if b2=true then some (V.tup [V.int .u8 (TK .u8 (TK .u8 ((d:Int) - 97)+10)),V.bool true],[])else
   some (V.tup [V.int .u8 0,V.bool false],[])) _
 simp only[ge_iff_le]
 by_cases h1:48≤d∧d≤57
 ·have g1:(48:Int)≤(d:Int):=by omega
  have g2:(d:Int)≤57:=by omega
  have hw:TK .u8 ((d:Int) - 48)=((d - 48:Nat):Int):=by rw[AO (by omega) (by omega)];omega
  simp only[g1,g2,decide_true,if_true,aY,hw,h1,and_self,Vg,U4]
  exact aD _
 ·rw[if_neg h1]
  have hb:(if decide ((48:Int)≤(d:Int))=true then some (decide ((d:Int)≤57))else some false)=some false:=by
   by_cases a:48≤d
   ·have b:¬(d:Int)≤57:=by omega
    simp[b]
   ·have b:¬(48:Int)≤(d:Int):=by omega
    simp[b]
  simp only[hb,aY,TL,if_false]
  by_cases h2:97≤d∧d≤102
  ·have g1:(97:Int)≤(d:Int):=by omega
   have g2:(d:Int)≤102:=by omega
   have hw:TK .u8 (TK .u8 ((d:Int) - 97)+10)=((d - 87:Nat):Int):=by rw[AO (by omega) (by omega:(d:Int) - 97<256),AO (by omega) (by omega)];omega
   simp only[g1,g2,decide_true,if_true,aY,hw,h2,and_self,Vg,U4]
   exact aD _
  ·rw[if_neg h2]
   have hb:(if decide ((97:Int)≤(d:Int))=true then some (decide ((d:Int)≤102))else some false)=some false:=by
    by_cases a:97≤d
    ·have b:¬(d:Int)≤102:=by omega
     simp[b]
    ·have b:¬(97:Int)≤(d:Int):=by omega
     simp[b]
   simp only[hb,aY,TL,if_false]
   exact aD _
def dL:Bs→Bs
 |[]=>[]
 |[c]=>[c]
 |[c,a]=>[c,a]
 |c::a::b::r=>if c=37 then(match hexN a,hexN b with
   |some x,some y=>Uo (16*x+y)::dL r
   |_,_=>c::dL (a::b::r))else c::dL (a::b::r)
theorem yL (c:UInt8) (r:Bs) (h:c≠37∨r.length<2):dL (c::r)=c::dL r:=by
 match r,h with
 |[],_=>rfl
 |[a],_=>rfl
 |a::b::r,h=>
  have:c≠37:=by rcases h with h|h;exact h;simp at h;omega
  rw[dL,if_neg this]
theorem pB:∀(n:Nat) (s:Bs),s.length≤n→(dL s).length≤s.length
 |_,[],_=>by simp[dL]
 |_,[c],_=>by simp[dL]
 |_,[c,a],_=>by simp[dL]
 |0,c::a::b::r,h=>by simp at h
 |n+1,c::a::b::r,h=>by
  simp at h
  have h1:=pB n r (by omega)
  have h2:=pB n (a::b::r) (by simp;omega)
  simp at h2
  rw[dL]
  split
  ·split<;>simp<;>omega
  ·simp;omega
theorem FZ (s:Bs):(dL s).length≤s.length:=pB _ s (TY _)
theorem Tr:∀x y:Fin 16,bits .or .u8 (TK .u8 (((x.val:Nat):Int)*2 ^ min (TO 4) (Uz .u8))) ((y.val:Nat):Int)=((((Uo (16*x.val+y.val)).toNat:Nat)):Int):=by decide+kernel
theorem ND (s:Bs) (hs:s.length≤1000000):∀(n i:Nat) (out:Bs),s.length - i≤n→out.length≤i→i≤s.length→
  Evt (fun k n=>zA (aA cfg k) n s (ofBytes out) (i:Nat)) (.str (out++dL (s.drop i)),[]):=by
 have fin:∀(i:Nat) (out:Bs),s.length≤i→Evt (fun k n=>zA (aA cfg k) n s (ofBytes out) (i:Nat)) (.str (out++dL (s.drop i)),[]):=by
  intro i out h
  refine LG s (ofBytes out) (i:Nat) ?_
  have h1:¬((i:Int)<(s.length:Int)):=by omega
  rw[UB h]
  simp only[tN,h1,decide_false,TL,if_false,cD,dL,UI]
  exact aD _
 intro n
 induction n with
 |zero=>intro i out h _ _;exact fin i out (by omega)
 |succ n ih=>
  intro i out h ho hi
  by_cases hlt:i<s.length
  ·refine LG s (ofBytes out) (i:Nat) ?_
   have h1:((i:Int)<(s.length:Int)):=by omega
   have h2:(0:Int)≤(i:Int):=by omega
   have hw:TK .i64 ((i:Int)+1)=((i+1:Nat):Int):=by rw[wrap64 (by omega) (by omega)];omega
   have hw2:TK .i64 ((i:Int)+2)=((i+2:Nat):Int):=by rw[wrap64 (by omega) (by omega)];omega
   have hw3:TK .i64 (((i+2:Nat):Int)+1)=((i+3:Nat):Int):=by rw[wrap64 (by omega) (by omega)];omega
   have e37:(((s[i].toNat:Nat):Int)==(37:Int))=(s[i]==37):=gK s[i] 37 (by omega)
   have hap:∀c:Int,cE (ofBytes out) [V.int UT c] 2=true:=fun c=>gB (by simp[aL];omega)
   have plain:dL (s.drop i)=s[i]::dL (s.drop (i+1))→Evt (fun k n=>chk (decide (0≤(i:Int))) (chk (decide ((i:Int)<(s.length:Int))) (chk (cE (ofBytes out) [V.int UT ((UU (Ul s (TO (i:Int)) 0):Nat):Int)] 2) (zA (aA cfg k) n s (ofBytes out++[V.int UT ((UU (Ul s (TO (i:Int)) 0):Nat):Int)]) (TK .i64 ((i:Int)+1)))))) (.str (out++dL (s.drop i)),[]):=by
    intro e
    have:=ih (i+1) (out++[s[i]]) (by omega) (by simp;omega) (by omega)
    simp only[aI h2,aI h1,cZ (hap _),TW,getD_at hlt,kQ,hw]
    rw[e]
    simpa using this
   by_cases c37:s[i]=37
   ·have b37:(s[i]==37)=true:=by simpa using c37
    by_cases h3:i+2<s.length
    ·have g3:((i+2:Nat):Int)<(s.length:Int):=by omega
     have g4:((i+1:Nat):Int)<(s.length:Int):=by omega
     have g5:(0:Int)≤((i+1:Nat):Int):=by omega
     have g6:(0:Int)≤((i+2:Nat):Int):=by omega
     have hlt1:i+1<s.length:=by omega
     have hd:s.drop i=s[i]::s[i+1]::s[i+2]::s.drop (i+3):=by rw[drop_at hlt,drop_at hlt1,drop_at h3]
     simp only[tN,h1,decide_true,if_true,aI h2,cR,aY,TW,getD_at hlt,e37,b37,hw2,g3,hw,aI g5,aI g4,getD_at hlt1]
     refine aB (LR s[i+1]) ?_
     simp only[aI g6,aI g3,getD_at h3]
     refine aB (LR s[i+2]) ?_
     simp only[V.getT,V.getB,V.getI,Uc,Um]
     cases ha:hexN s[i+1]with
     |none=>
      simp only[Vb,TL,if_false,aY]
      have e:dL (s.drop i)=s[i]::dL (s.drop (i+1)):=by
       rw[hd,dL,if_pos c37,ha,drop_at hlt1,drop_at h3]
      have:=plain e
      simp only[TW,getD_at hlt,hw,aI h2,aI h1]at this
      exact this
     |some x=>
      cases hb:hexN s[i+2]with
      |none=>
       simp only[Vb,U4,TL,if_false,if_true,aY]
       have e:dL (s.drop i)=s[i]::dL (s.drop (i+1)):=by
        rw[hd,dL,if_pos c37,ha,hb,drop_at hlt1,drop_at h3]
       have:=plain e
       simp only[TW,getD_at hlt,hw,aI h2,aI h1]at this
       exact this
      |some y=>
       have ho16:=Tr ⟨x,IN ha⟩ ⟨y,IN hb⟩
       simp only[U4,if_true,aY,Vg,ho16,aI (show(0:Int)≤4 by omega),cZ (hap _),kQ,hw3]
       have:=ih (i+3) (out++[Uo (16*x+y)]) (by omega) (by simp;omega) (by omega)
       rw[hd,dL,if_pos c37,ha,hb]
       simpa using this
    ·have g3:¬(((i+2:Nat):Int)<(s.length:Int)):=by omega
     have e:dL (s.drop i)=s[i]::dL (s.drop (i+1)):=by
      rw[drop_at hlt];exact yL _ _ (.inr (by simp;omega))
     have:=plain e
     simp only[TW,getD_at hlt,hw,aI h2,aI h1]at this
     simp only[tN,h1,decide_true,decide_false,if_true,aI h2,cR,aY,TW,getD_at hlt,e37,b37,hw2,g3,TL,if_false,hw]
     exact this
   ·have b37:(s[i]==37)=false:=by simpa using c37
    have e:dL (s.drop i)=s[i]::dL (s.drop (i+1)):=by
     rw[drop_at hlt];exact yL _ _ (.inl c37)
    have:=plain e
    simp only[TW,getD_at hlt,hw,aI h2,aI h1]at this
    simp only[tN,h1,decide_true,if_true,aI h2,cR,aY,TW,getD_at hlt,e37,b37,TL,if_false,hw]
    exact this
  ·exact fin i out (by omega)
theorem H6 (s:Bs) (hs:s.length≤1000000):Ret 112 [.str s] [] (.str (dL s),[]):=by
 refine S6 s ?_
 simp only[LF]
 exact ND s hs s.length 0 [] (by omega) (by simp) (by omega)
end Go.Proofs.YtgpofjbdjiajeaaGreatDoor
end
section
namespace Go.Proofs.YtgpofjbdjiajeaaGreatDoor
open Go.Ev Go
def cS (b:UInt8):Bs→Option (Bs×Bs)
 |[]=>none
 |c::r=>if c=b then some ([],r)else(cS b r).map fun p=>(c::p.1,p.2)
theorem fY {b:UInt8}:∀{s t r:Bs},cS b s=some (t,r)→s=t++b::r
 |[],_,_,h=>by simp[cS]at h
 |c::s,t,r,h=>by
  unfold cS at h
  split at h
  ·rename_i e;cases h;simp[e]
  ·simp at h
   obtain⟨a,ha,rfl⟩:=h
   rw[fY ha];rfl
theorem kR (b:UInt8):∀s:Bs,Lib.indexByte s b=match cS b s with|some p=>(p.1.length:Int)|none=> -1
 |[]=>rfl
 |c::s=>by
  unfold Lib.indexByte cS
  rw[kR b s]
  by_cases h:c=b
  ·simp[h]
  ·have h' :(c==b)=false:=by simpa using h
   simp only[h',TL,if_false,h]
   cases cS b s with
   |none=>rfl
   |some p=>
    have:((p.1.length:Int)== -1)=false:=by simp
    simp[this]
def dU (s:Bs):Bs:=match cS 42 s with|some p=>p.1|none=>s
theorem F2 (s:Bs):(dU s).length≤s.length:=by
 unfold dU
 cases h:cS 42 s with
 |none=>simp
 |some p=>have:=congrArg US (fY h);simp at this ⊢;omega
theorem LU (s:Bs) (b:UInt8):Ret 119 [.str s, .str [b]] [] (.int .i64 (Lib.indexByte s b),[]):=jX (h:=Nh) rfl rfl
theorem PN (s:Bs) (hs:s.length≤1000000):∃r b,Ret 110 [.str s, .str [42]] [] (.tup [.str (dU s), .str r, .bool b],[]):=by
 unfold dU
 cases h:cS 42 s with
 |none=>
  refine⟨[],false,Q3 s [42] ?_⟩
  simp only[J8]
  refine aB (LU s 42) ?_
  rw[kR,h]
  simp only[V.getI,show¬((-1:Int)≥0)by omega,decide_false,TL,if_false]
  exact aD _
 |some p=>
  have hl:=congrArg US (fY h)
  simp at hl
  have hw:TK .i64 ((p.1.length:Int)+((([42]:Bs).length:Nat):Int))=((p.1.length+1:Nat):Int):=by
   rw[show((([42]:Bs).length:Nat):Int)=1 from rfl,wrap64 (by omega) (by omega)];omega
  have g0:(p.1.length:Int)≥0:=by omega
  have g1:(p.1.length:Int)≤(s.length:Int):=by omega
  have g2:((p.1.length+1:Nat):Int)≤(s.length:Int):=by omega
  have g3:(0:Int)≤((p.1.length+1:Nat):Int):=by omega
  refine⟨s.drop (p.1.length+1),true,Q3 s [42] ?_⟩
  simp only[J8]
  obtain⟨x,hx⟩:∃x:Int,x=(p.1.length:Int):=⟨_,rfl⟩
  have h51:Ret 119 [.str s, .str [42]] [] (.int .i64 x,[]):=by
   have:=LU s 42
   rw[kR,h]at this
   rw[hx];exact this
  refine aB h51 ?_
  have e1:(s.take p.1.length)=p.1:=by
   have:=fY h
   conv=>lhs;rw[this]
   simp
  rw[←hx]at hw g0 g1
  show Evt (fun _ _=>if decide (x≥0)=true then
    chk (decide (0≤x)) (chk (decide (x≤((US s:Nat):Int))) (chk (decide ((0:Int)≤0)) (chk (decide (0≤x)) (chk (decide (0≤(TK TM (x+((US ([42]:Bs):Nat):Int))))) (chk (decide ((TK TM (x+((US ([42]:Bs):Nat):Int)))≤((US s:Nat):Int))) (some ((V.tup [(V.str (Wb (TO (0:Int)) (Wp (TO x) s))),(V.str (Wb (TO (TK TM (x+((US ([42]:Bs):Nat):Int)))) s)),(V.bool true)]),[])))))))
   else some ((V.tup [(V.str s),(V.str []),(V.bool false)]),[])) _
  rw[hw]
  have hxn:x.toNat=p.1.length:=by omega
  simp only[g0,decide_true,if_true,ge_iff_le.1 g0,cR,aI g1,aI g2,aI g3,aI (VJ 0),hxn,TW,VP,U7,e1]
  exact aD _
theorem Re (s:Bs) (hs:s.length≤1000000):∃r b,Ret 87 [.str s, .str [42]] [] (.tup [.str (dU s), .str r, .bool b],[]):=by
 obtain⟨r,b,h⟩:=PN s hs
 refine⟨r,b,M87 s [42] ?_⟩
 simp only[T87]
 exact aB h (aD _)
def sQ (s:Bs):Bs:=match cS 39 s with
 |none=>s
 |some p=>match cS 39 p.2 with|none=>s|some q=>q.2
theorem AZ (s:Bs):(sQ s).length≤s.length:=by
 unfold sQ
 cases h:cS 39 s with
 |none=>simp
 |some p=>
  have h1:=congrArg US (fY h)
  dsimp only
  cases h' :cS 39 p.2 with
  |none=>simp
  |some q=>have h2:=congrArg US (fY h');simp at h1 h2 ⊢;omega
theorem qU (b:UInt8) (k:Nat) (s:Bs):tM b (k+1) s=match cS b s with|none=>[s]|some p=>p.1::tM b k p.2:=by
 rw[tM,kR]
 cases h:cS b s with
 |none=>simp
 |some p=>
  have e:=fY h
  have h1:¬((p.1.length:Int)= -1):=by omega
  simp only[h1,if_false,TW]
  have e1:s.take p.1.length=p.1:=by
   conv=>lhs;rw[e]
   simp
  have e2:s.drop (p.1.length+1)=p.2:=by
   conv=>lhs;rw[e]
   simp
  rw[e1,e2]
theorem LV (s:Bs) (hs:s.length≤1000000):Ret 113 [.str s] [] (.str (sQ s),[]):=by
 have h53:Ret 121 [.str s, .str [39], .int .i64 (3:Int)] [] (.lst 9 false ((tM 39 (min (TO 3) (s.length+1) - 1) s).map V.str),[]):=by
  refine jX (h:=AM) rfl ?_
  have:s.length<4294967281:=by omega
  simp[AM,this]
 refine S9 s ?_
 simp only[LH]
 refine aB h53 ?_
 simp only[V.getL,Ui]
 generalize hk:tM 39 (min (TO 3) (s.length+1) - 1) s=ps
 have hmain:(ps.length<3∧sQ s=s)∨(∃a b,ps=[a,b,sQ s]):=by
  unfold sQ
  by_cases h2:2≤s.length
  ·have:min (TO 3) (s.length+1) - 1=2:=by simp;omega
   rw[this,qU]at hk
   cases h:cS 39 s with
   |none=>rw[h]at hk;left;subst hk;simp
   |some p=>
    rw[h]at hk
    simp only[qU]at hk
    cases h' :cS 39 p.2 with
    |none=>rw[h']at hk;left;subst hk;exact⟨by simp,by simp only[h']⟩
    |some q=>rw[h']at hk;right;subst hk;exact⟨p.1,q.1,by simp[h',tM]⟩
  ·left
   have hsm:(match cS 39 s with|none=>s|some p=>match cS 39 p.2 with|none=>s|some q=>q.2)=s:=by
    cases h:cS 39 s with
    |none=>rfl
    |some p=>
     have h1:=congrArg US (fY h)
     dsimp only
     cases h' :cS 39 p.2 with
     |none=>rfl
     |some q=>have h3:=congrArg US (fY h');simp at h1 h3;omega
   refine⟨?_,hsm⟩
   have:min (TO 3) (s.length+1) - 1≤1:=by simp;omega
   have hk2:∀k,k≤1→(tM 39 k s).length<3:=by
    intro k hk
    match k,hk with
    |0,_=>simp[tM]
    |1,_=>rw[qU];cases cS 39 s<;>simp[tM]
   rw[←hk];exact hk2 _ this
 rcases hmain with⟨h1,h2⟩|⟨a,b,h⟩
 ·have g:(ps.length:Int)<3:=by omega
  simp only[g,decide_true,if_true,h2]
  exact aD _
 ·subst h
  simp only[Ua,Uh,show¬(((0+1+1+1:Nat):Int)<3)by omega,decide_false,TL,if_false]
  generalize sQ s=x
  exact aD _
def kS (n:Nat):Bs:=if n<10 then[Uo (48+n)]else kS (n / 10)++[Uo (48+n % 10)]
termination_by n
theorem lO {n:Nat} (h:n<10):kS n=[Uo (48+n)]:=by rw[kS,if_pos h]
theorem vA {n:Nat} (h:¬n<10):kS n=kS (n / 10)++[Uo (48+n % 10)]:=by rw[kS,if_neg h]
theorem F3:∀n:Nat,(kS n).length≤n+1:=by
 intro n
 induction n using Nat.strongRecOn with
 |_ n ih=>
  by_cases h:n<10
  ·rw[lO h];simp
  ·rw[vA h]
   have:=ih (n / 10) (by omega)
   simp;omega
theorem Rf:∀d:Fin 10,(Utf8.encode (TK .i32 (TK .i64 (48+(d.val:Int))))).data.toList=[Uo (48+d.val)]:=by decide+kernel
theorem NE:∀(n:Nat) (out:Bs),0<n→n+out.length≤2000000000→Evt (fun k m=>BU (aA cfg k) m (n:Int) out false) (.str (kS n++out),[]):=by
 intro n
 induction n using Nat.strongRecOn with
 |_ n ih=>
  intro out hn hb
  refine LO (n:Int) out false ?_
  have h1:((n:Int) != 0)=true:=by simp;omega
  have h2:((10:Int) != 0)=true:=by decide
  have ht:Vn (n:Int) 10=((n % 10:Nat):Int):=by rw[VQ (by omega)];omega
  have hq:TK .i64 (Wn (n:Int) 10)=((n / 10:Nat):Int):=by
   rw[V7 (by omega),wrap64 (by omega) (by omega)];omega
  have hm:TK .i64 (0 - ((n % 10:Nat):Int))= -((n % 10:Nat):Int):=by rw[wrap64 (by omega) (by omega)];omega
  have hng:¬(-((n % 10:Nat):Int)>((n % 10:Nat):Int)):=by omega
  have he:=Rf ⟨n % 10,by omega⟩
  simp only at he
  have hc:fK [Uo (48+n % 10)] out=true:=oY (by simp;omega)
  simp only[AW,h1,if_true,h2,cR,ht,hq,hm,hng,if_false,he,cZ hc]
  by_cases hs:n<10
  ·have e:n / 10=0:=by omega
   have e' :n % 10=n:=by omega
   rw[e,e',lO hs]
   refine LO ((0:Nat):Int) _ false ?_
   have h0:((((0:Nat):Int)) != 0)=false:=by decide
   simp only[AW,h0,TL,if_false]
   exact aD _
  ·rw[vA hs]
   have:=ih (n / 10) (by omega) ([Uo (48+n % 10)]++out) (by omega) (by simp;omega)
   simpa using this
theorem PO (n:Nat) (hn:n≤1000000001):Ret 122 [.int .i64 (n:Int)] [] (.str (kS n),[]):=by
 refine Tq (n:Int) ?_
 simp only[LN]
 by_cases h:n=0
 ·subst h
  have h0:((((0:Nat):Int))==0)=true:=by decide
  simp only[h0,if_true,lO (show 0<10 by omega)]
  exact aD _
 ·have h0:((n:Int)==0)=false:=by simp;omega
  have h1:¬((n:Int)<0):=by omega
  simp only[h0,TL,if_false,h1,decide_false]
  have:=NE n [] (by omega) (by simp;omega)
  simpa using this
end Go.Proofs.YtgpofjbdjiajeaaGreatDoor
end
section
namespace Go.Proofs.YtgpofjbdjiajeaaGreatDoor
open Go.Ev Go
theorem lP:∀{l:Ps} {name v:Bs},iE l name=some v→∃p∈l,p.1=name∧p.2=v
 |[],_,_,h=>by simp[iE]at h
 |p::l,name,v,h=>by
  unfold iE at h
  split at h
  ·rename_i e;cases h;exact⟨p,by simp,e,rfl⟩
  ·obtain⟨q,hq,h1⟩:=lP h
   exact⟨q,by simp[hq],h1⟩
def jZ (l:Ps) (base:Bs) (n:Nat):Option Bs:=
 match iE l ((base++[42])++kS n)with
 |some v=>some v
 |none=>match iE l (((base++[42])++kS n)++[42])with
  |some v=>some (dL (if n=0 then sQ v else v))
  |none=>none
def joinL (l:Ps) (base:Bs):Nat→Nat→Bs
 |0,_=>[]
 |f+1,n=>match jZ l base n with|none=>[]|some v=>v++joinL l base f (n+1)
def Rh (ds:Bs):Nat:=ds.foldl (fun a d=>10*a+(d.toNat - 48)) 0
theorem xK {d:Nat} (h:d<10):(Uo (48+d)).toNat=48+d:=by simp;omega
theorem CH:∀n:Nat,Rh (kS n)=n:=by
 intro n
 induction n using Nat.strongRecOn with
 |_ n ih=>
  by_cases h:n<10
  ·rw[lO h]
   show 10*0+((Uo (48+n)).toNat - 48)=n
   rw[xK h];omega
  ·rw[vA h]
   have:=ih (n / 10) (by omega)
   unfold Rh at this ⊢
   rw[List.foldl_append,this]
   show 10* (n / 10)+((Uo (48+n % 10)).toNat - 48)=n
   rw[xK (by omega)];omega
theorem Ka:∀n:Nat,∀d∈kS n,d≠42:=by
 intro n
 have key:∀m,m<10→Uo (48+m)≠42:=fun m hm e=>by
  have:=congrArg UU e
  rw[xK hm]at this
  simp at this;omega
 induction n using Nat.strongRecOn with
 |_ n ih=>
  by_cases h:n<10
  ·rw[lO h]
   intro d hd
   rw[Wl]at hd;subst hd;exact key n h
  ·rw[vA h]
   intro d hd
   rw[TV]at hd
   rcases hd with hd|hd
   ·exact ih (n / 10) (by omega) d hd
   ·rw[Wl]at hd;subst hd;exact key _ (by omega)
theorem A0 (n:Nat) (e:Bs) (he:e=[]∨e=[42]):(kS n++e).filter (· != 42)=kS n:=by
 rw[List.filter_append]
 have h1:(kS n).filter (· != 42)=kS n:=VC.2 fun d hd=>by simpa using Ka n d hd
 rw[h1]
 rcases he with rfl|rfl<;>simp
def kH (base:Bs) (p:Bs×Bs) (n:Nat):Bool:=p.1==(base++[42])++kS n||p.1==((base++[42])++kS n)++[42]
theorem H7 {base:Bs} {p:Bs×Bs} {n m:Nat} (h:kH base p n=true) (h' :kH base p m=true):n=m:=by
 have key:∀k,kH base p k=true→∃e,(e=[]∨e=[42])∧p.1=(base++[42])++(kS k++e):=by
  intro k hk
  simp only[kH,Va,beq_iff_eq]at hk
  rcases hk with hk|hk
  ·exact⟨[], .inl rfl,by rw[hk];simp⟩
  ·exact⟨[42], .inr rfl,by rw[hk];simp⟩
 obtain⟨e1,he1,h1⟩:=key n h
 obtain⟨e2,he2,h2⟩:=key m h'
 have:=List.append_cancel_left (h1.symm.trans h2)
 have h3:=congrArg (List.filter (· != 42)) this
 rw[A0 n e1 he1,A0 m e2 he2]at h3
 rw[←CH n,←CH m,h3]
theorem yM {l:Ps} {base:Bs} {n:Nat} {v:Bs} (h:jZ l base n=some v):∃p∈l,kH base p n=true∧v.length≤p.2.length:=by
 unfold jZ at h
 split at h
 ·rename_i u hu
  cases h
  obtain⟨p,hp,h1,h2⟩:=lP hu
  exact⟨p,hp,by simp[kH,h1],by rw[h2];exact TY _⟩
 ·split at h
  ·rename_i u hu
   cases h
   obtain⟨p,hp,h1,h2⟩:=lP hu
   refine⟨p,hp,by simp[kH,h1],?_⟩
   rw[h2]
   split
   ·exact Uy (FZ _) (AZ _)
   ·exact FZ _
  ·cases h
theorem vB {α:Type} (q:α→Bool):∀S:List α,S.length=(S.filter q).length+(S.filter fun x=> !q x).length
 |[]=>rfl
 |x::S=>by
  have:=vB q S
  cases h:q x<;>simp[h]<;>omega
theorem Kb {α:Type}:∀{S:List α},S.Nodup→(∀x∈S,∀y∈S,x=y)→S.length≤1
 |[],_,_=>by simp
 |[x],_,_=>by simp
 |x::y::S,h,h' =>by
  have:=h' x (by simp) y (by simp)
  subst this
  simp at h
theorem LW (base:Bs):∀(l:Ps) (S:List Nat),S.Nodup→(∀n∈S,∃p∈l,kH base p n=true)→S.length≤l.length
 |[],S,_,h=>by
  cases S with
  |nil=>simp
  |cons n S=>obtain⟨p,hp,_⟩:=h n (by simp);simp at hp
 |p::l,S,hn,h=>by
  have h1:=vB (fun n=>kH base p n) S
  have h2:(S.filter fun n=>kH base p n).length≤1:=Kb (hn.filter _) fun x hx y hy=>by
   rw[List.mem_filter]at hx hy
   exact H7 hx.2 hy.2
  have h3:=LW base l (S.filter fun n=> !kH base p n) (hn.filter _) fun n hnm=>by
   rw[List.mem_filter]at hnm
   obtain⟨q,hq,hm⟩:=h n hnm.1
   rw[UH]at hq
   rcases hq with rfl|hq
   ·rw[hm]at hnm;simp at hnm
   ·exact⟨q,hq,hm⟩
  rw[Ua];omega
theorem H8 (l:Ps) (base:Bs):∃m,m≤l.length∧jZ l base m=none:=by
 apply Classical.byContradiction
 intro hno
 have:∀n∈Vr (l.length+1),∃p∈l,kH base p n=true:=by
  intro n hn
  rw[Wk]at hn
  cases h:jZ l base n with
  |none=>exact absurd ⟨n,by omega,h⟩ hno
  |some v=>obtain⟨p,hp,hm,_⟩:=yM h;exact⟨p,hp,hm⟩
 have:=LW base l _ List.nodup_range this
 simp at this;omega
theorem IO (l:Ps) (base:Bs) (hl:l.length≤1000000) (hv:∀p∈l,p.2.length≤1000000) (hb:base.length≤1000000):∀(f n:Nat) (out:Bs),n+f≤1000001→out.length≤n*1000000→
  (∃m,n≤m∧m<n+f∧jZ l base m=none)→
  Evt (fun k j=>AS (aA cfg k) j (l.map pV) base out (n:Int)) (.tup [.str (out++joinL l base f n), .bool (decide (0<n)||(jZ l base n).isSome)],[])
 |0,n,out,_,_,⟨m,h1,h2,_⟩=>by omega
 |f+1,n,out,hf,ho,⟨m,h1,h2,h3⟩=>by
  refine Pz (l.map pV) base out (n:Int) ?_
  have hd:=F3 n
  have c1:fK base [42]=true:=oY (by simp;omega)
  have c2:fK (base++[42]) (kS n)=true:=oY (by simp;omega)
  have c3:fK ((base++[42])++kS n) [42]=true:=oY (by simp;omega)
  have hw:TK .i64 ((n:Int)+1)=((n+1:Nat):Int):=by rw[wrap64 (by omega) (by omega)];omega
  have next:∀v,jZ l base n=some v→fK out v=true∧Evt (fun k j=>AS (aA cfg k) j (l.map pV) base (out++v) ((n+1:Nat):Int)) (.tup [.str (out++joinL l base (f+1) n), .bool (decide (0<n)||(jZ l base n).isSome)],[]):=by
   intro v hj
   obtain⟨p,hp,_,hle⟩:=yM hj
   have:=hv p hp
   refine⟨oY (by omega),?_⟩
   have hne:n≠m:=fun e=>by rw[e,h3]at hj;cases hj
   have:=IO l base hl hv hb f (n+1) (out++v) (by omega) (by simp;omega) ⟨m,by omega,by omega,h3⟩
   rw[joinL,hj]
   simpa using this
  simp only[Eb,cZ c1]
  refine aB (PO n (by omega)) ?_
  simp only[V.getS,cZ c2]
  refine aB (Ei l hl _) ?_
  simp only[V.getT,Um,Uc,V.getB,V.getS]
  cases hj1:iE l ((base++[42])++kS n)with
  |some v=>
   have hj:jZ l base n=some v:=by unfold jZ;rw[hj1]
   obtain⟨hc,hn⟩:=next v hj
   simp only[U4,UP,TL,if_false,Vg,cZ hc,hw]
   exact hn
  |none=>
   simp only[Vb,UJ,if_true,cZ c3]
   refine aB (Ei l hl _) ?_
   simp only[V.getT,Um,Uc,V.getB,V.getS]
   cases hj2:iE l (((base++[42])++kS n)++[42])with
   |none=>
    have hj:jZ l base n=none:=by unfold jZ;rw[hj1];dsimp only;rw[hj2]
    simp only[Vb,UJ,if_true]
    rw[joinL,hj]
    have:(decide ((n:Int)>0))=(decide (0<n)||(none:Option Bs).isSome):=by simp
    rw[this]
    simp only[UI]
    exact aD _
   |some v=>
    have hj:jZ l base n=some (dL (if n=0 then sQ v else v)):=by unfold jZ;rw[hj1];dsimp only;rw[hj2]
    obtain⟨hc,hn⟩:=next _ hj
    obtain⟨p,hp,_,rfl⟩:=lP hj2
    have hvl:=hv p hp
    simp only[U4,UP,TL,if_false,Vg]
    by_cases h0:n=0
    ·have hb0:((n:Int)==0)=true:=by simp[h0]
     simp only[hb0,if_true]
     refine aB (LV p.2 hvl) ?_
     simp only[V.getS]
     refine aB (H6 _ (Uy (AZ _) hvl)) ?_
     rw[if_pos h0]at hc hn
     simp only[V.getS,cZ hc,hw]
     exact hn
    ·have hb0:((n:Int)==0)=false:=by simp[h0]
     simp only[hb0,TL,if_false]
     refine aB (H6 _ hvl) ?_
     rw[if_neg h0]at hc hn
     simp only[V.getS,cZ hc,hw]
     exact hn
def IP (l:Ps) (base:Bs):Option Bs:=if(jZ l base 0).isSome then some (joinL l base (l.length+1) 0)else none
theorem PP (l:Ps) (base:Bs) (hl:l.length≤1000000) (hv:∀p∈l,p.2.length≤1000000) (hb:base.length≤1000000):
  Ret 114 [.lst 140 false (l.map pV), .str base] [] (.tup [.str ((IP l base).getD []), .bool (IP l base).isSome],[]):=by
 refine Tc (l.map pV) base ?_
 simp only[LI]
 obtain⟨m,h1,h2⟩:=H8 l base
 have:=IO l base hl hv hb (l.length+1) 0 [] (by omega) (by simp) ⟨m,by omega,by omega,h2⟩
 unfold IP
 cases hj:jZ l base 0 with
 |none=>rw[hj]at this;simpa[joinL,hj]using this
 |some v=>rw[hj]at this;simpa[hj]using this
def F4 (l:Ps) (base:Bs):Option Bs:=
 match iE l base with
 |some v=>some v
 |none=>match iE l (base++[42])with
  |some v=>some (dL (sQ v))
  |none=>IP l base
theorem Ri (l:Ps) (base:Bs) (hl:l.length≤1000000) (hv:∀p∈l,p.2.length≤1000000) (hb:base.length≤1000000):
  Ret 88 [.lst 140 false (l.map pV), .str base] [] (.tup [.str ((F4 l base).getD []), .bool (F4 l base).isSome],[]):=by
 refine M88 (l.map pV) base ?_
 have c1:fK base [42]=true:=oY (by simp;omega)
 simp only[T88]
 refine aB (Ei l hl base) ?_
 simp only[V.getT,Um,Uc,V.getB,V.getS]
 unfold F4
 cases h1:iE l base with
 |some v=>
  simp only[U4,if_true,Vg]
  exact aD _
 |none=>
  simp only[Vb,TL,if_false,cZ c1]
  refine aB (Ei l hl _) ?_
  simp only[V.getT,Um,Uc,V.getB,V.getS]
  cases h2:iE l (base++[42])with
  |some v=>
   obtain⟨p,hp,_,rfl⟩:=lP h2
   simp only[U4,if_true,Vg]
   refine aB (LV _ (hv p hp)) ?_
   simp only[V.getS]
   refine aB (H6 _ (Uy (AZ _) (hv p hp))) ?_
   exact aD _
  |none=>
   simp only[Vb,TL,if_false]
   refine aB (PP l base hl hv hb) ?_
   exact aD _
end Go.Proofs.YtgpofjbdjiajeaaGreatDoor
end
section
namespace Go.Proofs.YtgpofjbdjiajeaaGreatDoor
open Go.Ev Go
theorem vC:∀(n:Nat) (s:Bs),s.length≤n→(dI s).length≤s.length∧∀p∈dI s,p.1.length≤s.length∧p.2.length≤s.length:=by
 intro n
 induction n with
 |zero=>
  intro s h
  have:s=[]:=Ue (by omega)
  subst this
  have hb:iR 59 []=none:=by simp[iR,rN]
  rw[rO];simp[hb]
 |succ n ih=>
  intro s h
  rw[rO]
  cases h1:iR 59 s with
  |none=>simp
  |some s1=>
   have g1:=jY h1
   have g2:=mN s1
   dsimp only
   split
   ·simp
   ·cases h2:iR 61 (tokF s1).2 with
    |none=>simp
    |some s3=>
     have g3:=jY h2
     dsimp only
     cases h3:Ef s3 with
     |none=>simp
     |some p=>
      obtain⟨v,s4⟩:=p
      have g4:=Eg h3
      obtain⟨e1,e2⟩:=ih s4 (by omega)
      dsimp only
      refine⟨by rw[Ua];omega,fun p hp=>?_⟩
      rw[UH]at hp
      rcases hp with rfl|hp
      ·simp only[Ui];omega
      ·have:=e2 p hp;omega
theorem vD (a b:Bs):(Sc.str a).same (.str b)=(a==b):=rfl
theorem F5 (x y:Bs):∀m:List (Sc×Sc),Sc.getB (jP (.str x) (rW (.str y) (.bool true) m))=(x==y||Sc.getB (jP (.str x) m))
 |[]=>by
  simp only[rW,jP,vD]
  by_cases h:x=y
  ·simp[h,Sc.getB]
  ·simp[h,Sc.getB]
 |(k,u)::m=>by
  have ih:=F5 x y m
  simp only[rW]
  cases hk:(Sc.str y).same k
  ·simp only[TL,if_false,jP]
   cases hx:(Sc.str x).same k
   ·simp only[TL,if_false];exact ih
   ·simp only[if_true]
    have:(x==y)=false:=by
     cases k with
     |str b=>
      rw[vD]at hk hx
      have e:=eq_of_beq hx
      subst e
      cases hxy:(x==y)with
      |false=>rfl
      |true=>have e:=eq_of_beq hxy;subst e;simp at hk
     |_=>cases hx
    rw[this,VF]
  ·simp only[if_true,jP]
   cases k with
   |str b=>
    rw[vD]at hk
    have e:=eq_of_beq hk
    subst e
    simp only[vD]
    by_cases h:x=y
    ·simp[h,Sc.getB]
    ·simp[h]
   |_=>cases hk
def sB (l:Ps):List Bs→Ps→Ps
 |_,[]=>[]
 |seen,p::r=>
  if dU p.1=[]∨dU p.1∈seen then sB l seen r
  else match F4 l (dU p.1)with
   |some x=>(dU p.1,x)::sB l (dU p.1::seen) r
   |none=>sB l (dU p.1::seen) r
theorem PQ (l:Ps) (hl:l.length≤1000000) (hv:∀p∈l,p.1.length≤1000000∧p.2.length≤1000000) (s4 s5 s7 t u:Bs) (l6:List V):∀(n i:Nat) (out:Ps) (seen:List Bs) (m:List (Sc×Sc)),
  l.length - i≤n→out.length≤i→(∀x,Sc.getB (jP (.str x) m)=decide (x∈seen))→
  Evt (fun k j=>L60 (aA cfg k) j (l.map pV) (l.map pV) (l.length:Nat) (i:Nat) s4 s5 l6 s7 t u (out.map pV) m) (.tup [.agg [.str t, .str u, .lst 140 false ((out++sB l seen (l.drop i)).map pV)], .bool true],[]):=by
 have fin:∀(i:Nat) (out:Ps) (seen:List Bs) (m:List (Sc×Sc)),l.length≤i→
   Evt (fun k j=>L60 (aA cfg k) j (l.map pV) (l.map pV) (l.length:Nat) (i:Nat) s4 s5 l6 s7 t u (out.map pV) m) (.tup [.agg [.str t, .str u, .lst 140 false ((out++sB l seen (l.drop i)).map pV)], .bool true],[]):=by
  intro i out seen m h
  refine Ol (l.map pV) (l.map pV) (l.length:Nat) (i:Nat) s4 s5 l6 s7 t u (out.map pV) m ?_
  have h1:¬((i:Int)<(l.length:Int)):=by omega
  rw[UB h]
  simp only[FS,h1,decide_false,TL,if_false,sB,UI]
  exact aD _
 intro n
 induction n with
 |zero=>intro i out seen m h _ _;exact fin i out seen m (by omega)
 |succ n ih=>
  intro i out seen m h ho hm
  by_cases hlt:i<l.length
  ·refine Ol (l.map pV) (l.map pV) (l.length:Nat) (i:Nat) s4 s5 l6 s7 t u (out.map pV) m ?_
   have h1:((i:Int)<(l.length:Int)):=by omega
   have h2:(0:Int)≤(i:Int):=by omega
   have hw:TK .i64 ((i:Int)+1)=((i+1:Nat):Int):=by rw[wrap64 (by omega) (by omega)];omega
   have hd:l.drop i=l[i]::l.drop (i+1):=UM hlt
   have hpv:=hv l[i] (U3 hlt)
   have hvv:∀p∈l,p.2.length≤1000000:=fun p hp=>(hv p hp).2
   obtain⟨r,b,h21⟩:=Re l[i].1 hpv.1
   rw[hd,sB]
   simp only[FS,h1,decide_true,if_true,aI h2,Ui,cR,TW,Eh hlt,pV,V.cells,Uc,Um,V.getS]
   refine aB h21 ?_
   simp only[V.getT,V.getS,Uc,hm,sEq,hw]
   have hskip:(if(dU l[i].1==[])=false then some (decide (dU l[i].1∈seen))else some true)=some (decide (dU l[i].1=[]∨dU l[i].1∈seen)):=by
    by_cases e:dU l[i].1=[]
    ·simp[e]
    ·have:(dU l[i].1==[])=false:=by simpa using e
     simp[e]
   rw[hskip]
   simp only[aY]
   by_cases hs:dU l[i].1=[]∨dU l[i].1∈seen
   ·simp only[hs,decide_true,if_true]
    exact ih (i+1) out seen m (by omega) (by omega) hm
   ·simp only[hs,decide_false,TL,if_false]
    refine aB (Ri l (dU l[i].1) hl hvv (Uy (F2 _) hpv.1)) ?_
    have hm' :∀x,Sc.getB (jP (.str x) (rW (.str (dU l[i].1)) (.bool true) m))=decide (x∈dU l[i].1::seen):=by
     intro x
     rw[F5,hm]
     by_cases e:x=dU l[i].1
     ·simp[e]
     ·have:(x==dU l[i].1)=false:=by simpa using e
      rw[this];simp[e]
    simp only[V.getT,V.getB,V.getS,Uc,Um]
    cases ht:F4 l (dU l[i].1)with
    |none=>
     simp only[Vb,TL,if_false]
     exact ih (i+1) out (dU l[i].1::seen) _ (by omega) (by omega) hm'
    |some x=>
     have hap:cE (out.map pV) [V.agg [V.str (dU l[i].1),V.str x]] 33=true:=gB (by simp;omega)
     simp only[U4,if_true,Vg]
     simp only[cZ hap]
     have:=ih (i+1) (out++[(dU l[i].1,x)]) (dU l[i].1::seen) _ (by omega) (by simp;omega) hm'
     simpa[pV]using this
  ·exact fin i out seen m (by omega)
def xM (s:Bs) (two:Bool):Option (Bs×Bs×Ps):=
 if(tokF (dH s)).1=[]then none
 else if two then match iR 47 (tokF (dH s)).2 with
  |none=>none
  |some s2=>if(tokF s2).1=[]then none else some ((tokF (dH s)).1.map eL,(tokF s2).1.map eL,sB (dI (tokF s2).2) [] (dI (tokF s2).2))
 else some ((tokF (dH s)).1.map eL,[],sB (dI (tokF (dH s)).2) [] (dI (tokF (dH s)).2))
def A1:Option (Bs×Bs×Ps)→V
 |none=> .tup [.agg [.str [], .str [], .lst 140 false []], .bool false]
 |some (t,u,ps)=> .tup [.agg [.str t, .str u, .lst 140 false (ps.map pV)], .bool true]
theorem CJ (s:Bs) (hs:s.length≤1000000) (rest t u s4 s5:Bs) (l6:List V):
  Evt (fun k j=>L60 (aA cfg k) j ((dI s).map pV) ((dI s).map pV) ((((dI s).map pV).length:Nat):Int) (0:Int) s4 s5 l6 rest t u [] []) (A1 (some (t,u,sB (dI s) [] (dI s))),[]):=by
 obtain⟨g1,g2⟩:=vC s.length s (TY _)
 have:=PQ (dI s) (by omega) (fun p hp=>by have:=g2 p hp;omega) s4 s5 rest t u l6 (dI s).length 0 [] [] [] (by omega) (by simp) (fun x=>by simp[jP,Sc.getB])
 rw[Ui]
 simpa[A1]using this
theorem Rj (s:Bs) (hs:s.length≤1000000) (two:Bool):Ret 60 [.str s, .bool two] [] (A1 (xM s two),[]):=by
 refine M60 s two ?_
 have h0:=qT s
 have h1:=mN (dH s)
 simp only[T60]
 refine aB (LP s hs) ?_
 simp only[Uc,Ob.getC,V.getS]
 refine aB (IM (dH s) (by omega)) ?_
 simp only[V.getS]
 refine aB (CC _ (by omega)) ?_
 simp only[V.getS,Uc,Ob.getC,sEq]
 unfold xM
 by_cases ht:(tokF (dH s)).1=[]
 ·simp only[ht,VL,beq_self_eq_true,if_true]
  exact aD _
 ·have hb:(((tokF (dH s)).1.map eL)==[])=false:=by simp[ht]
  simp only[hb,TL,if_false,ht]
  cases two with
  |false=>
   simp only[TL,if_false]
   obtain⟨rest,h20⟩:=Ou (tokF (dH s)).2 (by omega)
   refine aB h20 ?_
   simp only[V.getL,Uc,Ob.getC,V.getS]
   exact CJ _ (by omega) _ _ _ _ _ _
  |true=>
   simp only[if_true]
   refine aB (FY (tokF (dH s)).2 (by omega) 47 (by decide)) ?_
   simp only[V.getB,Uc,Ob.getC,V.getS]
   cases h2:iR 47 (tokF (dH s)).2 with
   |none=>
    simp only[Vb,UJ,if_true]
    exact aD _
   |some s2=>
    have g2:=jY h2
    have g3:=mN s2
    simp only[U4,UP,TL,if_false,uZ,h2]
    refine aB (IM s2 (by omega)) ?_
    simp only[V.getS,Uc,Ob.getC]
    refine aB (CC _ (by omega)) ?_
    simp only[V.getS]
    by_cases hu:(tokF s2).1=[]
    ·simp only[hu,VL,beq_self_eq_true,if_true]
     exact aD _
    ·have hb2:(((tokF s2).1.map eL)==[])=false:=by simp[hu]
     simp only[hb2,TL,if_false,hu]
     obtain⟨rest,h20⟩:=Ou (tokF s2).2 (by omega)
     refine aB h20 ?_
     simp only[V.getL,Uc,Ob.getC,V.getS]
     exact CJ _ (by omega) _ _ _ _ _ _
def getF:Ps→Bs→Option Bs
 |[],_=>none
 |p::r,name=>if p.1.map eL=name.map eL then some p.2 else getF r name
theorem PT (name:Bs) (hn:name.length≤1000000) (l:Ps) (hl:l.length≤1000000) (hv:∀p∈l,p.1.length≤1000000):∀(n i:Nat),l.length - i≤n→
  Evt (fun k n=>L36 (aA cfg k) n name (l.map pV) (l.length:Nat) (i:Nat)) (.tup [.str ((getF (l.drop i) name).getD []), .bool (getF (l.drop i) name).isSome],[]):=by
 have fin:∀i:Nat,l.length≤i→Evt (fun k n=>L36 (aA cfg k) n name (l.map pV) (l.length:Nat) (i:Nat)) (.tup [.str ((getF (l.drop i) name).getD []), .bool (getF (l.drop i) name).isSome],[]):=by
  intro i h
  refine Oj name (l.map pV) (l.length:Nat) (i:Nat) ?_
  have h1:¬((i:Int)<(l.length:Int)):=by omega
  rw[UB h]
  simp only[FR,h1,decide_false,TL,if_false,getF]
  exact aD _
 intro n
 induction n with
 |zero=>intro i h;exact fin i (by omega)
 |succ n ih=>
  intro i h
  by_cases hlt:i<l.length
  ·refine Oj name (l.map pV) (l.length:Nat) (i:Nat) ?_
   have h1:((i:Int)<(l.length:Int)):=by omega
   have h2:(0:Int)≤(i:Int):=by omega
   have hw:TK .i64 ((i:Int)+1)=((i+1:Nat):Int):=by rw[wrap64 (by omega) (by omega)];omega
   have hd:l.drop i=l[i]::l.drop (i+1):=UM hlt
   have hpv:=hv l[i] (U3 hlt)
   rw[hd,getF]
   simp only[FR,h1,decide_true,if_true,aI h2,Ui,cR,TW,Eh hlt,pV,V.cells,Uc,Um,V.getS,hw]
   refine aB (Ot l[i].1 name (by omega) (by omega)) ?_
   simp only[V.getB]
   by_cases he:l[i].1.map eL=name.map eL
   ·simp only[he,beq_self_eq_true,if_true]
    exact aD _
   ·have:(l[i].1.map eL==name.map eL)=false:=by simpa using he
    simp only[this,TL,if_false,he]
    exact ih (i+1) (by omega)
  ·exact fin i (by omega)
theorem Rk (t u:Bs) (l:Ps) (hl:l.length≤1000000) (hv:∀p∈l,p.1.length≤1000000) (name:Bs) (hn:name.length≤1000000):
  Ret 36 [.agg [.str t, .str u, .lst 140 false (l.map pV)], .str name] [] (.tup [.str ((getF l name).getD []), .bool (getF l name).isSome],[]):=by
 refine M36 t u (l.map pV) name ?_
 simp only[T36,Ui]
 exact PT name hn l hl hv l.length 0 (by omega)
end Go.Proofs.YtgpofjbdjiajeaaGreatDoor
end
section
namespace Go.Proofs.YtgpofjbdjiajeaaGreatDoor
open Go.Ev Go
open List (headD tail getD length drop take)
open V (getI getL getT getS getB)
set_option maxRecDepth 100000
variable (call : FuncId → Fun) (icall : aN (V × List Ob)) (again : List It → St → Option (V × List Ob))
def T56 (call:FuncId→Fun) (a0:List V):Option (V×List Ob):=
 TN (call 79 [(V.lst 128 false a0),(V.clo (Fn.func 80) [] [])] []) fun z0=>
 some ((V.int .i64 (getI z0.1)),[])
def A56 (a0:List V):List V:=[V.lst 128 false a0]
theorem E56 (a0:List V):GO 56 Tryz.f56 (A56 a0) [] call icall again=T56 call a0:=by kernel_rfl
theorem C56 (k:Nat) (a0:List V):aA cfg (k+1) 56 (A56 a0) []=T56 (aA cfg k) a0:=
 (show aA cfg (k+1) 56 (A56 a0) []=GO 56 Tryz.f56 (A56 a0) [] (aA cfg k) (aF cfg (aA cfg k) 20) (RN 56 Tryz.f56 [] (aA cfg k) (aF cfg (aA cfg k) 20) k)by kernel_rfl).trans (E56 _ _ _ a0)
theorem M56 (a0:List V) {r:V×List Ob} (h:Evt (fun k n=>T56 (aA cfg k) a0) r):Ret 56 [V.lst 128 false a0] [] r:=aR (g:=fun k n=>T56 (aA cfg k) a0) (fun k=>C56 k a0) h
def T57 (call:FuncId→Fun) (a0:List V) (a1:Int) (a2:Int) (a3:Int):Option (V×List Ob):=
 TN (call 76 [(V.agg [(V.int .i64 a1),(V.int .i64 a2)]),(V.int .i64 ((length a0:Nat):Int))] []) fun z0=>
 if(!(getB z0.1))=true then
 some ((V.str []),[])
 else
 chk (decide (0≤a2)) (chk (decide (a2≤((length a0:Nat):Int))) (chk (decide (0≤a1)) (chk (decide (a1≤a2)) (some ((V.str (bytesOf (drop (TO a1) (take (TO a2) a0)))),[])))))
def A57 (a0:List V) (a1:Int) (a2:Int) (a3:Int):List V:=[V.lst 5 false a0,V.agg [V.int TM a1,V.int TM a2,V.int TM a3]]
theorem E57 (a0:List V) (a1:Int) (a2:Int) (a3:Int):GO 57 Tryz.f57 (A57 a0 a1 a2 a3) [] call icall again=T57 call a0 a1 a2 a3:=by kernel_rfl
theorem C57 (k:Nat) (a0:List V) (a1:Int) (a2:Int) (a3:Int):aA cfg (k+1) 57 (A57 a0 a1 a2 a3) []=T57 (aA cfg k) a0 a1 a2 a3:=
 (show aA cfg (k+1) 57 (A57 a0 a1 a2 a3) []=GO 57 Tryz.f57 (A57 a0 a1 a2 a3) [] (aA cfg k) (aF cfg (aA cfg k) 20) (RN 57 Tryz.f57 [] (aA cfg k) (aF cfg (aA cfg k) 20) k)by kernel_rfl).trans (E57 _ _ _ a0 a1 a2 a3)
theorem M57 (a0:List V) (a1:Int) (a2:Int) (a3:Int) {r:V×List Ob} (h:Evt (fun k n=>T57 (aA cfg k) a0 a1 a2 a3) r):Ret 57 [V.lst 5 false a0,V.agg [V.int TM a1,V.int TM a2,V.int TM a3]] [] r:=aR (g:=fun k n=>T57 (aA cfg k) a0 a1 a2 a3) (fun k=>C57 k a0 a1 a2 a3) h
def T58 (call:FuncId→Fun) (a0:List UInt8):Option (V×List Ob):=
 if(!(sEq a0 []))=true then
 chk (decide (0≤(0:Int))) (chk (decide ((0:Int)<((length a0:Nat):Int))) (TN (call 81 [(V.int .u8 ((UU (getD a0 (TO (0:Int)) 0):Nat):Int))] []) fun z0=>
 some ((V.bool (getB z0.1)),[])))
 else
 some ((V.bool false),[])
def A58 (a0:List UInt8):List V:=[V.str a0]
theorem E58 (a0:List UInt8):GO 58 Tryz.f58 (A58 a0) [] call icall again=T58 call a0:=by kernel_rfl
theorem C58 (k:Nat) (a0:List UInt8):aA cfg (k+1) 58 (A58 a0) []=T58 (aA cfg k) a0:=
 (show aA cfg (k+1) 58 (A58 a0) []=GO 58 Tryz.f58 (A58 a0) [] (aA cfg k) (aF cfg (aA cfg k) 20) (RN 58 Tryz.f58 [] (aA cfg k) (aF cfg (aA cfg k) 20) k)by kernel_rfl).trans (E58 _ _ _ a0)
theorem M58 (a0:List UInt8) {r:V×List Ob} (h:Evt (fun k n=>T58 (aA cfg k) a0) r):Ret 58 [V.str a0] [] r:=aR (g:=fun k n=>T58 (aA cfg k) a0) (fun k=>C58 k a0) h
def CL (call:FuncId→Fun) (ag0:List UInt8→Int→Int→Option (V×List Ob)) (ag1:List UInt8→Int→Int→Int→Int→Option (V×List Ob)) (s0:List UInt8) (i1:Int) (i2:Int):Option (V×List Ob):=
 if(decide (i2>(0:Int)))=true then
 chk (decide (0≤(TK .i64 (i2 - (1:Int))))) (chk (decide ((TK .i64 (i2 - (1:Int)))<((length s0:Nat):Int))) (TN (call 81 [(V.int .u8 ((UU (getD s0 (TO (TK .i64 (i2 - (1:Int)))) 0):Nat):Int))] []) fun z0=>
 if(getB z0.1)=true then
 (ag0 (s0) (i1) ((TK .i64 (i2 - (1:Int)))))
 else
 (ag1 (s0) (i1) (i2) (i2) ((0:Int)))))
 else
 (ag1 (s0) (i1) (i2) (i2) ((0:Int)))
def CM (call:FuncId→Fun) (ag0:List UInt8→Int→Int→Option (V×List Ob)) (ag1:List UInt8→Int→Int→Int→Int→Option (V×List Ob)) (s0:List UInt8) (i1:Int) (i2:Int) (i3:Int) (i4:Int):Option (V×List Ob):=
 if(decide (i4<i3))=true then
 TN (chk (decide (0≤i4)) (chk (decide (i4<((length s0:Nat):Int))) (if(decide (((UU (getD s0 (TO i4) 0):Nat):Int)<(33:Int)))=false then
 chk (decide (0≤i4)) (chk (decide (i4<((length s0:Nat):Int))) (some (decide (((UU (getD s0 (TO i4) 0):Nat):Int)>(126:Int)))))
 else
 some true))) fun y0=>
 if y0=true then
 some ((V.tup [(V.str []),(V.int .i64 0),(V.bool false)]),[])
 else
 (ag1 (s0) (i1) (i2) (i3) ((TK .i64 (i4+(1:Int)))))
 else
 chk (decide (0≤i2)) (chk (decide (i2≤((length s0:Nat):Int))) (chk (decide (0≤(0:Int))) (chk (decide ((0:Int)≤i2)) (some ((V.tup [(V.str (drop (TO (0:Int)) (take (TO i2) s0))),(V.int .i64 (TK .i64 (i1+(1:Int)))),(V.bool (decide (i2>(0:Int))))]),[])))))
def T59 (call:FuncId→Fun) (ag0:List UInt8→Int→Int→Option (V×List Ob)) (ag1:List UInt8→Int→Int→Int→Int→Option (V×List Ob)) (a0:List UInt8):Option (V×List Ob):=
 TN (call 82 [(V.str a0),(V.int .u8 58)] []) fun z0=>
 if(decide ((getI z0.1)<(0:Int)))=true then
 some ((V.tup [(V.str []),(V.int .i64 0),(V.bool false)]),[])
 else
 (ag0 (a0) ((getI z0.1)) ((getI z0.1)))
def A59 (a0:List UInt8):List V:=[V.str a0]
def yN (s0:List UInt8) (i1:Int) (i2:Int):St:=⟨[(V.str s0),V.bot,V.bot,V.bot,V.bot,(V.int TM i1),(V.int TM i2)]++TZ 39 V.bot,[]⟩
def yO (s0:List UInt8) (i1:Int) (i2:Int) (i3:Int) (i4:Int):St:=⟨[(V.str s0),V.bot,V.bot,V.bot,V.bot,(V.int TM i1),(V.int TM i2),V.bot,V.bot,V.bot,V.bot,V.bot,V.bot,V.bot,V.bot,V.bot,V.bot,V.bot,V.bot,V.bot,V.bot,V.bot,V.bot,V.bot,(V.int TM i3),(V.int TM i4)]++TZ 20 V.bot,[]⟩
theorem Rl (s0:List UInt8) (i1:Int) (i2:Int):
 RM 59 Tryz.f59 [] call icall again (aJ Tryz.f59 0) (yN s0 i1 i2)=CL call (fun s0 i1 i2=>again (aJ Tryz.f59 0) (yN s0 i1 i2)) (fun s0 i1 i2 i3 i4=>again (aJ Tryz.f59 1) (yO s0 i1 i2 i3 i4)) s0 i1 i2:=by kernel_rfl
theorem Rm (s0:List UInt8) (i1:Int) (i2:Int) (i3:Int) (i4:Int):
 RM 59 Tryz.f59 [] call icall again (aJ Tryz.f59 1) (yO s0 i1 i2 i3 i4)=CM call (fun s0 i1 i2=>again (aJ Tryz.f59 0) (yN s0 i1 i2)) (fun s0 i1 i2 i3 i4=>again (aJ Tryz.f59 1) (yO s0 i1 i2 i3 i4)) s0 i1 i2 i3 i4:=by kernel_rfl
theorem E59 (a0:List UInt8):GO 59 Tryz.f59 (A59 a0) [] call icall again=T59 call (fun s0 i1 i2=>again (aJ Tryz.f59 0) (yN s0 i1 i2)) (fun s0 i1 i2 i3 i4=>again (aJ Tryz.f59 1) (yO s0 i1 i2 i3 i4)) a0:=by kernel_rfl
def L59 (call:FuncId→Fun):Nat→(List UInt8→Int→Int→Option (V×List Ob))×(List UInt8→Int→Int→Int→Int→Option (V×List Ob))
 |0=>⟨fun _ _ _=>none,fun _ _ _ _ _=>none⟩
 |n+1=>⟨CL call (L59 call n).1 (L59 call n).2,CM call (L59 call n).1 (L59 call n).2⟩
theorem R59 (call:FuncId→Fun) (icall:aN (V×List Ob)):∀n,(∀(s0:List UInt8) (i1:Int) (i2:Int),RN 59 Tryz.f59 [] call icall n (aJ Tryz.f59 0) (yN s0 i1 i2)=(L59 call n).1 s0 i1 i2)∧(∀(s0:List UInt8) (i1:Int) (i2:Int) (i3:Int) (i4:Int),RN 59 Tryz.f59 [] call icall n (aJ Tryz.f59 1) (yO s0 i1 i2 i3 i4)=(L59 call n).2 s0 i1 i2 i3 i4)
 |0=>⟨fun s0 i1 i2=>rfl,fun s0 i1 i2 i3 i4=>rfl⟩
 |n+1=>by
  have ih:=R59 call icall n
  exact⟨fun s0 i1 i2=>(Rl call icall (RN 59 Tryz.f59 [] call icall n) s0 i1 i2).trans (by rw[show(fun s0 i1 i2=>RN 59 Tryz.f59 [] call icall n (aJ Tryz.f59 0) (yN s0 i1 i2))=(L59 call n).1 from(funext fun s0=>funext fun i1=>funext fun i2=>ih.1 s0 i1 i2),show(fun s0 i1 i2 i3 i4=>RN 59 Tryz.f59 [] call icall n (aJ Tryz.f59 1) (yO s0 i1 i2 i3 i4))=(L59 call n).2 from(funext fun s0=>funext fun i1=>funext fun i2=>funext fun i3=>funext fun i4=>ih.2 s0 i1 i2 i3 i4)];rfl),
   fun s0 i1 i2 i3 i4=>(Rm call icall (RN 59 Tryz.f59 [] call icall n) s0 i1 i2 i3 i4).trans (by rw[show(fun s0 i1 i2=>RN 59 Tryz.f59 [] call icall n (aJ Tryz.f59 0) (yN s0 i1 i2))=(L59 call n).1 from(funext fun s0=>funext fun i1=>funext fun i2=>ih.1 s0 i1 i2),show(fun s0 i1 i2 i3 i4=>RN 59 Tryz.f59 [] call icall n (aJ Tryz.f59 1) (yO s0 i1 i2 i3 i4))=(L59 call n).2 from(funext fun s0=>funext fun i1=>funext fun i2=>funext fun i3=>funext fun i4=>ih.2 s0 i1 i2 i3 i4)];rfl)⟩
theorem C59 (k:Nat) (a0:List UInt8):aA cfg (k+1) 59 (A59 a0) []=T59 (aA cfg k) (L59 (aA cfg k) k).1 (L59 (aA cfg k) k).2 a0:=by
 have ih:=R59 (aA cfg k) (aF cfg (aA cfg k) 20) k
 refine(show aA cfg (k+1) 59 (A59 a0) []=GO 59 Tryz.f59 (A59 a0) [] (aA cfg k) (aF cfg (aA cfg k) 20) (RN 59 Tryz.f59 [] (aA cfg k) (aF cfg (aA cfg k) 20) k)by kernel_rfl).trans ((E59 _ _ _ a0).trans ?_)
 rw[show(fun s0 i1 i2=>RN 59 Tryz.f59 [] (aA cfg k) (aF cfg (aA cfg k) 20) k (aJ Tryz.f59 0) (yN s0 i1 i2))=(L59 (aA cfg k) k).1 from(funext fun s0=>funext fun i1=>funext fun i2=>ih.1 s0 i1 i2),show(fun s0 i1 i2 i3 i4=>RN 59 Tryz.f59 [] (aA cfg k) (aF cfg (aA cfg k) 20) k (aJ Tryz.f59 1) (yO s0 i1 i2 i3 i4))=(L59 (aA cfg k) k).2 from(funext fun s0=>funext fun i1=>funext fun i2=>funext fun i3=>funext fun i4=>ih.2 s0 i1 i2 i3 i4)]
theorem M59 (a0:List UInt8) {r:V×List Ob} (h:Evt (fun k n=>T59 (aA cfg k) (L59 (aA cfg k) n).1 (L59 (aA cfg k) n).2 a0) r):Ret 59 [V.str a0] [] r:=aR (g:=fun k n=>T59 (aA cfg k) (L59 (aA cfg k) n).1 (L59 (aA cfg k) n).2 a0) (fun k=>C59 k a0) h
theorem LX (s0:List UInt8) (i1:Int) (i2:Int) {r:V×List Ob} (h:Evt (fun k n=>CL (aA cfg k) (L59 (aA cfg k) n).1 (L59 (aA cfg k) n).2 s0 i1 i2) r):Evt (fun k n=>(L59 (aA cfg k) n).1 s0 i1 i2) r:=aX (fun k n=>rfl) h
theorem LY (s0:List UInt8) (i1:Int) (i2:Int) (i3:Int) (i4:Int) {r:V×List Ob} (h:Evt (fun k n=>CM (aA cfg k) (L59 (aA cfg k) n).1 (L59 (aA cfg k) n).2 s0 i1 i2 i3 i4) r):Evt (fun k n=>(L59 (aA cfg k) n).2 s0 i1 i2 i3 i4) r:=aX (fun k n=>rfl) h
def T76 (call:FuncId→Fun) (a0:Int) (a1:Int) (a2:Int):Option (V×List Ob):=
 TN (if(decide (a0≥(0:Int)))=true then
 if(decide (a0≤a1))=true then
 some (decide (a1≤a2))
 else
 some false
 else
 some false) fun y0=>
 some ((V.bool y0),[])
def A76 (a0:Int) (a1:Int) (a2:Int):List V:=[V.agg [V.int TM a0,V.int TM a1],V.int TM a2]
theorem E76 (a0:Int) (a1:Int) (a2:Int):GO 76 Tryz.f76 (A76 a0 a1 a2) [] call icall again=T76 call a0 a1 a2:=by kernel_rfl
theorem C76 (k:Nat) (a0:Int) (a1:Int) (a2:Int):aA cfg (k+1) 76 (A76 a0 a1 a2) []=T76 (aA cfg k) a0 a1 a2:=
 (show aA cfg (k+1) 76 (A76 a0 a1 a2) []=GO 76 Tryz.f76 (A76 a0 a1 a2) [] (aA cfg k) (aF cfg (aA cfg k) 20) (RN 76 Tryz.f76 [] (aA cfg k) (aF cfg (aA cfg k) 20) k)by kernel_rfl).trans (E76 _ _ _ a0 a1 a2)
theorem M76 (a0:Int) (a1:Int) (a2:Int) {r:V×List Ob} (h:Evt (fun k n=>T76 (aA cfg k) a0 a1 a2) r):Ret 76 [V.agg [V.int TM a0,V.int TM a1],V.int TM a2] [] r:=aR (g:=fun k n=>T76 (aA cfg k) a0 a1 a2) (fun k=>C76 k a0 a1 a2) h
def F6 (call:FuncId→Fun) (ag0:List V→Int→Int→Option (V×List Ob)) (l0:List V) (i1:Int) (i2:Int):Option (V×List Ob):=
 if(decide (i2<i1))=true then
 chk (decide (0≤i2)) (chk (decide (i2<((length l0:Nat):Int))) (TN (call 80 [(V.agg [(V.int .i64 (getI (headD (V.cells (getD l0 (TO i2) V.bot)) V.bot))),(V.int .i64 (getI (headD (tail (V.cells (getD l0 (TO i2) V.bot))) V.bot))),(V.int .i64 (getI (headD (tail (tail (V.cells (getD l0 (TO i2) V.bot)))) V.bot)))])] []) fun z0=>
 if(getB z0.1)=true then
 some ((V.int .i64 i2),[])
 else
 (ag0 (l0) (i1) ((TK .i64 (i2+(1:Int)))))))
 else
 some ((V.int .i64 (-1:Int)),[])
def T79 (call:FuncId→Fun) (ag0:List V→Int→Int→Option (V×List Ob)) (a0:List V):Option (V×List Ob):=
 (ag0 (a0) (((length a0:Nat):Int)) ((0:Int)))
def A79 (a0:List V):List V:=[V.lst 128 false a0,V.clo (Fn.func 80) [] []]
def CN (l0:List V) (i1:Int) (i2:Int):St:=⟨[(V.lst 128 false l0),(V.clo (Fn.func 80) [] []),V.bot,V.bot,V.bot,V.bot,V.bot,(V.int TM i1),(V.int TM i2)]++TZ 10 V.bot,[]⟩
theorem Rn (l0:List V) (i1:Int) (i2:Int):
 RM 79 Tryz.f79 [] call icall again (aJ Tryz.f79 0) (CN l0 i1 i2)=F6 call (fun l0 i1 i2=>again (aJ Tryz.f79 0) (CN l0 i1 i2)) l0 i1 i2:=by kernel_rfl
theorem E79 (a0:List V):GO 79 Tryz.f79 (A79 a0) [] call icall again=T79 call (fun l0 i1 i2=>again (aJ Tryz.f79 0) (CN l0 i1 i2)) a0:=by kernel_rfl
def L79 (call:FuncId→Fun):Nat→(List V→Int→Int→Option (V×List Ob))
 |0=>fun _ _ _=>none
 |n+1=>F6 call (L79 call n)
theorem R79 (call:FuncId→Fun) (icall:aN (V×List Ob)):∀n,(∀(l0:List V) (i1:Int) (i2:Int),RN 79 Tryz.f79 [] call icall n (aJ Tryz.f79 0) (CN l0 i1 i2)=(L79 call n) l0 i1 i2)
 |0=>fun l0 i1 i2=>rfl
 |n+1=>by
  have ih:=R79 call icall n
  exact fun l0 i1 i2=>(Rn call icall (RN 79 Tryz.f79 [] call icall n) l0 i1 i2).trans (by rw[show(fun l0 i1 i2=>RN 79 Tryz.f79 [] call icall n (aJ Tryz.f79 0) (CN l0 i1 i2))=(L79 call n)from(funext fun l0=>funext fun i1=>funext fun i2=>ih l0 i1 i2)];rfl)
theorem C79 (k:Nat) (a0:List V):aA cfg (k+1) 79 (A79 a0) []=T79 (aA cfg k) (L79 (aA cfg k) k) a0:=by
 have ih:=R79 (aA cfg k) (aF cfg (aA cfg k) 20) k
 refine(show aA cfg (k+1) 79 (A79 a0) []=GO 79 Tryz.f79 (A79 a0) [] (aA cfg k) (aF cfg (aA cfg k) 20) (RN 79 Tryz.f79 [] (aA cfg k) (aF cfg (aA cfg k) 20) k)by kernel_rfl).trans ((E79 _ _ _ a0).trans ?_)
 rw[show(fun l0 i1 i2=>RN 79 Tryz.f79 [] (aA cfg k) (aF cfg (aA cfg k) 20) k (aJ Tryz.f79 0) (CN l0 i1 i2))=(L79 (aA cfg k) k)from(funext fun l0=>funext fun i1=>funext fun i2=>ih l0 i1 i2)]
theorem M79 (a0:List V) {r:V×List Ob} (h:Evt (fun k n=>T79 (aA cfg k) (L79 (aA cfg k) n) a0) r):Ret 79 [V.lst 128 false a0,V.clo (Fn.func 80) [] []] [] r:=aR (g:=fun k n=>T79 (aA cfg k) (L79 (aA cfg k) n) a0) (fun k=>C79 k a0) h
theorem Ov (l0:List V) (i1:Int) (i2:Int) {r:V×List Ob} (h:Evt (fun k n=>F6 (aA cfg k) (L79 (aA cfg k) n) l0 i1 i2) r):Evt (fun k n=>(L79 (aA cfg k) n) l0 i1 i2) r:=aX (fun k n=>rfl) h
def T80 (call:FuncId→Fun) (a0:Int) (a1:Int) (a2:Int):Option (V×List Ob):=
 some ((V.bool (a0==a1)),[])
def A80 (a0:Int) (a1:Int) (a2:Int):List V:=[V.agg [V.int TM a0,V.int TM a1,V.int TM a2]]
theorem E80 (a0:Int) (a1:Int) (a2:Int):GO 80 Tryz.f80 (A80 a0 a1 a2) [] call icall again=T80 call a0 a1 a2:=by kernel_rfl
theorem C80 (k:Nat) (a0:Int) (a1:Int) (a2:Int):aA cfg (k+1) 80 (A80 a0 a1 a2) []=T80 (aA cfg k) a0 a1 a2:=
 (show aA cfg (k+1) 80 (A80 a0 a1 a2) []=GO 80 Tryz.f80 (A80 a0 a1 a2) [] (aA cfg k) (aF cfg (aA cfg k) 20) (RN 80 Tryz.f80 [] (aA cfg k) (aF cfg (aA cfg k) 20) k)by kernel_rfl).trans (E80 _ _ _ a0 a1 a2)
theorem M80 (a0:Int) (a1:Int) (a2:Int) {r:V×List Ob} (h:Evt (fun k n=>T80 (aA cfg k) a0 a1 a2) r):Ret 80 [V.agg [V.int TM a0,V.int TM a1,V.int TM a2]] [] r:=aR (g:=fun k n=>T80 (aA cfg k) a0 a1 a2) (fun k=>C80 k a0 a1 a2) h
def F7 (call:FuncId→Fun) (ag0:List V→Int→Int→List UInt8→Option (V×List Ob)) (l0:List V) (i1:Int) (i2:Int) (s3:List UInt8):Option (V×List Ob):=
 if(decide (i2<i1))=true then
 chk (decide (0≤i2)) (chk (decide (i2<((length l0:Nat):Int))) (TN (call 92 [(V.agg [(V.str (getS (headD (V.cells (getD l0 (TO i2) V.bot)) V.bot))),(V.int .i64 (getI (headD (tail (V.cells (getD l0 (TO i2) V.bot))) V.bot))),(V.int .i64 (getI (headD (tail (tail (V.cells (getD l0 (TO i2) V.bot)))) V.bot))),(V.int .i64 (getI (headD (tail (tail (tail (V.cells (getD l0 (TO i2) V.bot))))) V.bot)))]),(V.ref 0 0)] [(Ob.cells [(V.str s3)])]) fun z0=>
 if(getB z0.1)=true then
 some ((V.int .i64 i2),[(Ob.cells [(V.str (getS (headD (Ob.getC (headD z0.2 Ob.dead)) V.bot)))])])
 else
 (ag0 (l0) (i1) ((TK .i64 (i2+(1:Int)))) ((getS (headD (Ob.getC (headD z0.2 Ob.dead)) V.bot))))))
 else
 some ((V.int .i64 (-1:Int)),[(Ob.cells [(V.str s3)])])
def T91 (call:FuncId→Fun) (ag0:List V→Int→Int→List UInt8→Option (V×List Ob)) (a0:List V) (a1:List UInt8):Option (V×List Ob):=
 (ag0 (a0) (((length a0:Nat):Int)) ((0:Int)) (a1))
def O91 (a1:List UInt8):List Ob:=[Ob.cells [V.str a1]]
def A91 (a0:List V):List V:=[V.lst 133 false a0,V.clo (Fn.func 92) [] [V.ref 0 0]]
def CO (l0:List V) (i1:Int) (i2:Int) (s3:List UInt8):St:=⟨[(V.lst 133 false l0),(V.clo (Fn.func 92) [] [(V.ref 0 0)]),V.bot,V.bot,V.bot,V.bot,V.bot,(V.int TM i1),(V.int TM i2)]++TZ 10 V.bot,[(Ob.cells [(V.str s3)])]⟩
theorem Ro (a1:List UInt8) (l0:List V) (i1:Int) (i2:Int) (s3:List UInt8):
 RM 91 Tryz.f91 (O91 a1) call icall again (aJ Tryz.f91 0) (CO l0 i1 i2 s3)=F7 call (fun l0 i1 i2 s3=>again (aJ Tryz.f91 0) (CO l0 i1 i2 s3)) l0 i1 i2 s3:=by kernel_rfl
theorem E91 (a0:List V) (a1:List UInt8):GO 91 Tryz.f91 (A91 a0) (O91 a1) call icall again=T91 call (fun l0 i1 i2 s3=>again (aJ Tryz.f91 0) (CO l0 i1 i2 s3)) a0 a1:=by kernel_rfl
def L91 (call:FuncId→Fun):Nat→(List V→Int→Int→List UInt8→Option (V×List Ob))
 |0=>fun _ _ _ _=>none
 |n+1=>F7 call (L91 call n)
theorem R91 (call:FuncId→Fun) (icall:aN (V×List Ob)) (a1:List UInt8):∀n,(∀(l0:List V) (i1:Int) (i2:Int) (s3:List UInt8),RN 91 Tryz.f91 (O91 a1) call icall n (aJ Tryz.f91 0) (CO l0 i1 i2 s3)=(L91 call n) l0 i1 i2 s3)
 |0=>fun l0 i1 i2 s3=>rfl
 |n+1=>by
  have ih:=R91 call icall a1 n
  exact fun l0 i1 i2 s3=>(Ro call icall (RN 91 Tryz.f91 (O91 a1) call icall n) a1 l0 i1 i2 s3).trans (by rw[show(fun l0 i1 i2 s3=>RN 91 Tryz.f91 (O91 a1) call icall n (aJ Tryz.f91 0) (CO l0 i1 i2 s3))=(L91 call n)from(funext fun l0=>funext fun i1=>funext fun i2=>funext fun s3=>ih l0 i1 i2 s3)];rfl)
theorem C91 (k:Nat) (a0:List V) (a1:List UInt8):aA cfg (k+1) 91 (A91 a0) (O91 a1)=T91 (aA cfg k) (L91 (aA cfg k) k) a0 a1:=by
 have ih:=R91 (aA cfg k) (aF cfg (aA cfg k) 20) a1 k
 refine(show aA cfg (k+1) 91 (A91 a0) (O91 a1)=GO 91 Tryz.f91 (A91 a0) (O91 a1) (aA cfg k) (aF cfg (aA cfg k) 20) (RN 91 Tryz.f91 (O91 a1) (aA cfg k) (aF cfg (aA cfg k) 20) k)by kernel_rfl).trans ((E91 _ _ _ a0 a1).trans ?_)
 rw[show(fun l0 i1 i2 s3=>RN 91 Tryz.f91 (O91 a1) (aA cfg k) (aF cfg (aA cfg k) 20) k (aJ Tryz.f91 0) (CO l0 i1 i2 s3))=(L91 (aA cfg k) k)from(funext fun l0=>funext fun i1=>funext fun i2=>funext fun s3=>ih l0 i1 i2 s3)]
theorem M91 (a0:List V) (a1:List UInt8) {r:V×List Ob} (h:Evt (fun k n=>T91 (aA cfg k) (L91 (aA cfg k) n) a0 a1) r):Ret 91 [V.lst 133 false a0,V.clo (Fn.func 92) [] [V.ref 0 0]] [Ob.cells [V.str a1]] r:=aR (g:=fun k n=>T91 (aA cfg k) (L91 (aA cfg k) n) a0 a1) (fun k=>C91 k a0 a1) h
theorem Ow (l0:List V) (i1:Int) (i2:Int) (s3:List UInt8) {r:V×List Ob} (h:Evt (fun k n=>F7 (aA cfg k) (L91 (aA cfg k) n) l0 i1 i2 s3) r):Evt (fun k n=>(L91 (aA cfg k) n) l0 i1 i2 s3) r:=aX (fun k n=>rfl) h
def T92 (call:FuncId→Fun) (a0:List UInt8) (a1:Int) (a2:Int) (a3:Int) (a4:List UInt8):Option (V×List Ob):=
 TN (call 62 [(V.str a0),(V.str a4)] []) fun z0=>
 some ((V.bool (getB z0.1)),[(Ob.cells [(V.str a4)])])
def O92 (a4:List UInt8):List Ob:=[Ob.cells [V.str a4]]
def A92 (a0:List UInt8) (a1:Int) (a2:Int) (a3:Int):List V:=[V.agg [V.str a0,V.int TM a1,V.int TM a2,V.int TM a3],V.ref 0 0]
theorem E92 (a0:List UInt8) (a1:Int) (a2:Int) (a3:Int) (a4:List UInt8):GO 92 Tryz.f92 (A92 a0 a1 a2 a3) (O92 a4) call icall again=T92 call a0 a1 a2 a3 a4:=by kernel_rfl
theorem C92 (k:Nat) (a0:List UInt8) (a1:Int) (a2:Int) (a3:Int) (a4:List UInt8):aA cfg (k+1) 92 (A92 a0 a1 a2 a3) (O92 a4)=T92 (aA cfg k) a0 a1 a2 a3 a4:=
 (show aA cfg (k+1) 92 (A92 a0 a1 a2 a3) (O92 a4)=GO 92 Tryz.f92 (A92 a0 a1 a2 a3) (O92 a4) (aA cfg k) (aF cfg (aA cfg k) 20) (RN 92 Tryz.f92 (O92 a4) (aA cfg k) (aF cfg (aA cfg k) 20) k)by kernel_rfl).trans (E92 _ _ _ a0 a1 a2 a3 a4)
theorem M92 (a0:List UInt8) (a1:Int) (a2:Int) (a3:Int) (a4:List UInt8) {r:V×List Ob} (h:Evt (fun k n=>T92 (aA cfg k) a0 a1 a2 a3 a4) r):Ret 92 [V.agg [V.str a0,V.int TM a1,V.int TM a2,V.int TM a3],V.ref 0 0] [Ob.cells [V.str a4]] r:=aR (g:=fun k n=>T92 (aA cfg k) a0 a1 a2 a3 a4) (fun k=>C92 k a0 a1 a2 a3 a4) h
def T94 (call:FuncId→Fun) (a0:List V) (a1:List UInt8):Option (V×List Ob):=
 TN (call 115 [(V.ref 0 0)] [(Ob.cells [(V.opt 0 0),(V.lst 5 true a0)])]) fun z0=>
 chk (oC (getL (headD (tail (Ob.getC (headD z0.2 Ob.dead))) V.bot)) a1 2) (some ((V.tup [(V.int .i64 ((length a1:Nat):Int)),(V.raw (Value.nilIface))]),[(Ob.cells [(V.opt 0 0),(V.lst 5 true ((getL (headD (tail (Ob.getC (headD z0.2 Ob.dead))) V.bot))++(ofBytes a1)))])]))
def O94 (a0:List V):List Ob:=[Ob.cells [V.opt 0 0,V.lst 5 true a0]]
def A94 (a1:List UInt8):List V:=[V.ref 0 0,V.str a1]
theorem E94 (a0:List V) (a1:List UInt8):GO 94 Tryz.f94 (A94 a1) (O94 a0) call icall again=T94 call a0 a1:=by kernel_rfl
theorem C94 (k:Nat) (a0:List V) (a1:List UInt8):aA cfg (k+1) 94 (A94 a1) (O94 a0)=T94 (aA cfg k) a0 a1:=
 (show aA cfg (k+1) 94 (A94 a1) (O94 a0)=GO 94 Tryz.f94 (A94 a1) (O94 a0) (aA cfg k) (aF cfg (aA cfg k) 20) (RN 94 Tryz.f94 (O94 a0) (aA cfg k) (aF cfg (aA cfg k) 20) k)by kernel_rfl).trans (E94 _ _ _ a0 a1)
theorem M94 (a0:List V) (a1:List UInt8) {r:V×List Ob} (h:Evt (fun k n=>T94 (aA cfg k) a0 a1) r):Ret 94 [V.ref 0 0,V.str a1] [Ob.cells [V.opt 0 0,V.lst 5 true a0]] r:=aR (g:=fun k n=>T94 (aA cfg k) a0 a1) (fun k=>C94 k a0 a1) h
def F8 (call:FuncId→Fun) (ag0:List V→List V→Int→Int→List UInt8→Int→Int→Int→List V→Option (V×List Ob)) (l0:List V) (l1:List V) (i2:Int) (i3:Int) (s4:List UInt8) (i5:Int) (i6:Int) (i7:Int) (l8:List V):Option (V×List Ob):=
 if(decide (i3<i2))=true then
 chk (decide (0≤i3)) (chk (decide (i3<((length l1:Nat):Int))) (TN (call 57 [(V.lst 5 false l0),(V.agg [(V.int .i64 (getI (headD (V.cells (getD l1 (TO i3) V.bot)) V.bot))),(V.int .i64 (getI (headD (tail (V.cells (getD l1 (TO i3) V.bot))) V.bot))),(V.int .i64 (getI (headD (tail (tail (V.cells (getD l1 (TO i3) V.bot)))) V.bot)))])] []) fun z0=>
 TN (call 94 [(V.ref 0 0),(V.str (getS z0.1))] [(Ob.cells [(V.opt 0 0),(V.lst 5 true l8)])]) fun z1=>
 (ag0 (l0) (l1) (i2) ((TK .i64 (i3+(1:Int)))) (s4) (i5) (i6) (i7) ((getL (headD (tail (Ob.getC (headD z1.2 Ob.dead))) V.bot))))))
 else
 TN (call 95 [(V.ref 0 0)] [(Ob.cells [(V.opt 0 0),(V.lst 5 true l8)])]) fun z0=>
 TN (call 90 [(V.str (getS z0.1))] []) fun z1=>
 some ((V.str (getS z1.1)),[])
def T66 (call:FuncId→Fun) (ag0:List V→List V→Int→Int→List UInt8→Int→Int→Int→List V→Option (V×List Ob)) (a0:List V) (a1:List UInt8) (a2:Int) (a3:Int) (a4:Int):Option (V×List Ob):=
 TN (call 55 [(V.lst 5 false a0),(V.agg [(V.int .i64 a3),(V.int .i64 a4)])] []) fun z0=>
 (ag0 (a0) ((getL z0.1)) (((length (getL z0.1):Nat):Int)) ((0:Int)) (a1) (a2) (a3) (a4) ([]))
def A66 (a0:List V) (a1:List UInt8) (a2:Int) (a3:Int) (a4:Int):List V:=[V.lst 5 false a0,V.agg [V.str a1,V.int TM a2,V.int TM a3,V.int TM a4]]
def CP (l0:List V) (l1:List V) (i2:Int) (i3:Int) (s4:List UInt8) (i5:Int) (i6:Int) (i7:Int) (l8:List V):St:=⟨[(V.lst 5 false l0),V.bot,V.bot,V.bot,V.bot,(V.ref 1 0),V.bot,V.bot,V.bot,V.bot,V.bot,V.bot,V.bot,V.bot,(V.lst 128 false l1),(V.int TM i2),(V.int TM i3)]++TZ 10 V.bot,[(Ob.cells [(V.str s4),(V.int TM i5),(V.int TM i6),(V.int TM i7)]),(Ob.cells [(V.opt 1 0),(V.lst 5 true l8)])]⟩
theorem Rp (l0:List V) (l1:List V) (i2:Int) (i3:Int) (s4:List UInt8) (i5:Int) (i6:Int) (i7:Int) (l8:List V):
 RM 66 Tryz.f66 [] call icall again (aJ Tryz.f66 0) (CP l0 l1 i2 i3 s4 i5 i6 i7 l8)=F8 call (fun l0 l1 i2 i3 s4 i5 i6 i7 l8=>again (aJ Tryz.f66 0) (CP l0 l1 i2 i3 s4 i5 i6 i7 l8)) l0 l1 i2 i3 s4 i5 i6 i7 l8:=by kernel_rfl
theorem E66 (a0:List V) (a1:List UInt8) (a2:Int) (a3:Int) (a4:Int):GO 66 Tryz.f66 (A66 a0 a1 a2 a3 a4) [] call icall again=T66 call (fun l0 l1 i2 i3 s4 i5 i6 i7 l8=>again (aJ Tryz.f66 0) (CP l0 l1 i2 i3 s4 i5 i6 i7 l8)) a0 a1 a2 a3 a4:=by kernel_rfl
def L66 (call:FuncId→Fun):Nat→(List V→List V→Int→Int→List UInt8→Int→Int→Int→List V→Option (V×List Ob))
 |0=>fun _ _ _ _ _ _ _ _ _=>none
 |n+1=>F8 call (L66 call n)
theorem R66 (call:FuncId→Fun) (icall:aN (V×List Ob)):∀n,(∀(l0:List V) (l1:List V) (i2:Int) (i3:Int) (s4:List UInt8) (i5:Int) (i6:Int) (i7:Int) (l8:List V),RN 66 Tryz.f66 [] call icall n (aJ Tryz.f66 0) (CP l0 l1 i2 i3 s4 i5 i6 i7 l8)=(L66 call n) l0 l1 i2 i3 s4 i5 i6 i7 l8)
 |0=>fun l0 l1 i2 i3 s4 i5 i6 i7 l8=>rfl
 |n+1=>by
  have ih:=R66 call icall n
  exact fun l0 l1 i2 i3 s4 i5 i6 i7 l8=>(Rp call icall (RN 66 Tryz.f66 [] call icall n) l0 l1 i2 i3 s4 i5 i6 i7 l8).trans (by rw[show(fun l0 l1 i2 i3 s4 i5 i6 i7 l8=>RN 66 Tryz.f66 [] call icall n (aJ Tryz.f66 0) (CP l0 l1 i2 i3 s4 i5 i6 i7 l8))=(L66 call n)from(funext fun l0=>funext fun l1=>funext fun i2=>funext fun i3=>funext fun s4=>funext fun i5=>funext fun i6=>funext fun i7=>funext fun l8=>ih l0 l1 i2 i3 s4 i5 i6 i7 l8)];rfl)
theorem C66 (k:Nat) (a0:List V) (a1:List UInt8) (a2:Int) (a3:Int) (a4:Int):aA cfg (k+1) 66 (A66 a0 a1 a2 a3 a4) []=T66 (aA cfg k) (L66 (aA cfg k) k) a0 a1 a2 a3 a4:=by
 have ih:=R66 (aA cfg k) (aF cfg (aA cfg k) 20) k
 refine(show aA cfg (k+1) 66 (A66 a0 a1 a2 a3 a4) []=GO 66 Tryz.f66 (A66 a0 a1 a2 a3 a4) [] (aA cfg k) (aF cfg (aA cfg k) 20) (RN 66 Tryz.f66 [] (aA cfg k) (aF cfg (aA cfg k) 20) k)by kernel_rfl).trans ((E66 _ _ _ a0 a1 a2 a3 a4).trans ?_)
 rw[show(fun l0 l1 i2 i3 s4 i5 i6 i7 l8=>RN 66 Tryz.f66 [] (aA cfg k) (aF cfg (aA cfg k) 20) k (aJ Tryz.f66 0) (CP l0 l1 i2 i3 s4 i5 i6 i7 l8))=(L66 (aA cfg k) k)from(funext fun l0=>funext fun l1=>funext fun i2=>funext fun i3=>funext fun s4=>funext fun i5=>funext fun i6=>funext fun i7=>funext fun l8=>ih l0 l1 i2 i3 s4 i5 i6 i7 l8)]
theorem M66 (a0:List V) (a1:List UInt8) (a2:Int) (a3:Int) (a4:Int) {r:V×List Ob} (h:Evt (fun k n=>T66 (aA cfg k) (L66 (aA cfg k) n) a0 a1 a2 a3 a4) r):Ret 66 [V.lst 5 false a0,V.agg [V.str a1,V.int TM a2,V.int TM a3,V.int TM a4]] [] r:=aR (g:=fun k n=>T66 (aA cfg k) (L66 (aA cfg k) n) a0 a1 a2 a3 a4) (fun k=>C66 k a0 a1 a2 a3 a4) h
theorem Ox (l0:List V) (l1:List V) (i2:Int) (i3:Int) (s4:List UInt8) (i5:Int) (i6:Int) (i7:Int) (l8:List V) {r:V×List Ob} (h:Evt (fun k n=>F8 (aA cfg k) (L66 (aA cfg k) n) l0 l1 i2 i3 s4 i5 i6 i7 l8) r):Evt (fun k n=>(L66 (aA cfg k) n) l0 l1 i2 i3 s4 i5 i6 i7 l8) r:=aX (fun k n=>rfl) h
def T64 (call:FuncId→Fun) (a0:List V) (a1:List UInt8):Option (V×List Ob):=
 TN (call 91 [(V.lst 133 false a0),(V.clo (Fn.func 92) [] [(V.ref 0 0)])] [(Ob.cells [(V.str a1)])]) fun z0=>
 if(decide ((getI z0.1)<(0:Int)))=true then
 some ((V.tup [(V.agg [(V.str []),(V.int .i64 0),(V.int .i64 0),(V.int .i64 0)]),(V.bool false)]),[])
 else
 chk (decide (0≤(getI z0.1))) (chk (decide ((getI z0.1)<((length a0:Nat):Int))) (some ((V.tup [(V.agg [(V.str (getS (headD (V.cells (getD a0 (TO (getI z0.1)) V.bot)) V.bot))),(V.int .i64 (getI (headD (tail (V.cells (getD a0 (TO (getI z0.1)) V.bot))) V.bot))),(V.int .i64 (getI (headD (tail (tail (V.cells (getD a0 (TO (getI z0.1)) V.bot)))) V.bot))),(V.int .i64 (getI (headD (tail (tail (tail (V.cells (getD a0 (TO (getI z0.1)) V.bot))))) V.bot)))]),(V.bool true)]),[])))
def A64 (a0:List V) (a1:List UInt8):List V:=[V.lst 133 false a0,V.str a1]
theorem E64 (a0:List V) (a1:List UInt8):GO 64 Tryz.f64 (A64 a0 a1) [] call icall again=T64 call a0 a1:=by kernel_rfl
theorem C64 (k:Nat) (a0:List V) (a1:List UInt8):aA cfg (k+1) 64 (A64 a0 a1) []=T64 (aA cfg k) a0 a1:=
 (show aA cfg (k+1) 64 (A64 a0 a1) []=GO 64 Tryz.f64 (A64 a0 a1) [] (aA cfg k) (aF cfg (aA cfg k) 20) (RN 64 Tryz.f64 [] (aA cfg k) (aF cfg (aA cfg k) 20) k)by kernel_rfl).trans (E64 _ _ _ a0 a1)
theorem M64 (a0:List V) (a1:List UInt8) {r:V×List Ob} (h:Evt (fun k n=>T64 (aA cfg k) a0 a1) r):Ret 64 [V.lst 133 false a0,V.str a1] [] r:=aR (g:=fun k n=>T64 (aA cfg k) a0 a1) (fun k=>C64 k a0 a1) h
def T61 (call:FuncId→Fun) (a0:List V) (a1:List V) (a2:List UInt8):Option (V×List Ob):=
 TN (call 64 [(V.lst 133 false a1),(V.str a2)] []) fun z0=>
 if(!(getB (headD (tail (getT z0.1)) V.bot)))=true then
 some ((V.str []),[])
 else
 TN (call 66 [(V.lst 5 false a0),(V.agg [(V.str (getS (headD (V.cells (headD (getT z0.1) V.bot)) V.bot))),(V.int .i64 (getI (headD (tail (V.cells (headD (getT z0.1) V.bot))) V.bot))),(V.int .i64 (getI (headD (tail (tail (V.cells (headD (getT z0.1) V.bot)))) V.bot))),(V.int .i64 (getI (headD (tail (tail (tail (V.cells (headD (getT z0.1) V.bot))))) V.bot)))])] []) fun z1=>
 some ((V.str (getS z1.1)),[])
def A61 (a0:List V) (a1:List V) (a2:List UInt8):List V:=[V.lst 5 false a0,V.lst 133 false a1,V.str a2]
theorem E61 (a0:List V) (a1:List V) (a2:List UInt8):GO 61 Tryz.f61 (A61 a0 a1 a2) [] call icall again=T61 call a0 a1 a2:=by kernel_rfl
theorem C61 (k:Nat) (a0:List V) (a1:List V) (a2:List UInt8):aA cfg (k+1) 61 (A61 a0 a1 a2) []=T61 (aA cfg k) a0 a1 a2:=
 (show aA cfg (k+1) 61 (A61 a0 a1 a2) []=GO 61 Tryz.f61 (A61 a0 a1 a2) [] (aA cfg k) (aF cfg (aA cfg k) 20) (RN 61 Tryz.f61 [] (aA cfg k) (aF cfg (aA cfg k) 20) k)by kernel_rfl).trans (E61 _ _ _ a0 a1 a2)
theorem M61 (a0:List V) (a1:List V) (a2:List UInt8) {r:V×List Ob} (h:Evt (fun k n=>T61 (aA cfg k) a0 a1 a2) r):Ret 61 [V.lst 5 false a0,V.lst 133 false a1,V.str a2] [] r:=aR (g:=fun k n=>T61 (aA cfg k) a0 a1 a2) (fun k=>C61 k a0 a1 a2) h
def F9 (call:FuncId→Fun) (ag0:List V→Int→List V→Bool→List V→Int→Int→Option (V×List Ob)) (l0:List V) (i1:Int) (o2:List V) (b3:Bool) (l4:List V) (i5:Int) (i6:Int):Option (V×List Ob):=
 if(decide (i6<i5))=true then
 chk (decide (0≤i6)) (chk (decide (i6<((length l4:Nat):Int))) (TN (call 57 [(V.lst 5 false l0),(V.agg [(V.int .i64 (getI (headD (V.cells (getD l4 (TO i6) V.bot)) V.bot))),(V.int .i64 (getI (headD (tail (V.cells (getD l4 (TO i6) V.bot))) V.bot))),(V.int .i64 (getI (headD (tail (tail (V.cells (getD l4 (TO i6) V.bot)))) V.bot)))])] []) fun z0=>
 TN (call 58 [(V.str (getS z0.1))] []) fun z1=>
 if(getB z1.1)=true then
 if b3=true then
 chk (decide (0≤(TK .i64 (((length o2:Nat):Int) - (1:Int))))) (chk (decide ((TK .i64 (((length o2:Nat):Int) - (1:Int)))<((length o2:Nat):Int))) ((ag0 (l0) (i1) ((List.set o2 (TO (TK .i64 (((length o2:Nat):Int) - (1:Int)))) (V.agg [(V.str (getS (headD (V.cells (getD o2 (TO (TK .i64 (((length o2:Nat):Int) - (1:Int)))) V.bot)) V.bot))),(V.int .i64 (getI (headD (tail (V.cells (getD o2 (TO (TK .i64 (((length o2:Nat):Int) - (1:Int)))) V.bot))) V.bot))),(V.int .i64 (getI (headD (tail (tail (V.cells (getD o2 (TO (TK .i64 (((length o2:Nat):Int) - (1:Int)))) V.bot)))) V.bot))),(V.int .i64 (getI (headD (tail (tail (V.cells (getD l4 (TO i6) V.bot)))) V.bot)))]))) (b3) (l4) (i5) ((TK .i64 (i6+(1:Int)))))))
 else
 (ag0 (l0) (i1) (o2) (b3) (l4) (i5) ((TK .i64 (i6+(1:Int)))))
 else
 TN (call 59 [(V.str (getS z0.1))] []) fun z2=>
 if(getB (headD (tail (tail (getT z2.1))) V.bot))=true then
 chk (cE o2 [(V.agg [(V.str (getS (headD (getT z2.1) V.bot))),(V.int .i64 (getI (headD (V.cells (getD l4 (TO i6) V.bot)) V.bot))),(V.int .i64 (TK .i64 ((getI (headD (V.cells (getD l4 (TO i6) V.bot)) V.bot))+(getI (headD (tail (getT z2.1)) V.bot))))),(V.int .i64 (getI (headD (tail (tail (V.cells (getD l4 (TO i6) V.bot)))) V.bot)))])] 41) ((ag0 (l0) (i1) ((o2++[(V.agg [(V.str (getS (headD (getT z2.1) V.bot))),(V.int .i64 (getI (headD (V.cells (getD l4 (TO i6) V.bot)) V.bot))),(V.int .i64 (TK .i64 ((getI (headD (V.cells (getD l4 (TO i6) V.bot)) V.bot))+(getI (headD (tail (getT z2.1)) V.bot))))),(V.int .i64 (getI (headD (tail (tail (V.cells (getD l4 (TO i6) V.bot)))) V.bot)))])])) ((getB (headD (tail (tail (getT z2.1))) V.bot))) (l4) (i5) ((TK .i64 (i6+(1:Int))))))
 else
 (ag0 (l0) (i1) (o2) ((getB (headD (tail (tail (getT z2.1))) V.bot))) (l4) (i5) ((TK .i64 (i6+(1:Int)))))))
 else
 some ((V.tup [(V.lst 133 false o2),(V.int .i64 i1)]),[])
def T34 (call:FuncId→Fun) (ag0:List V→Int→List V→Bool→List V→Int→Int→Option (V×List Ob)) (a0:List V) (a1:Int) (a2:Int):Option (V×List Ob):=
 TN (call 55 [(V.lst 5 false a0),(V.agg [(V.int .i64 a1),(V.int .i64 a2)])] []) fun z0=>
 if(((length (getL z0.1):Nat):Int)==(0:Int))=true then
 some ((V.tup [(V.lst 133 false []),(V.int .i64 a1)]),[])
 else
 chk (decide (0≤(TK .i64 (((length (getL z0.1):Nat):Int) - (1:Int))))) (chk (decide ((TK .i64 (((length (getL z0.1):Nat):Int) - (1:Int)))<((length (getL z0.1):Nat):Int))) (TN (call 56 [(V.lst 128 false (getL z0.1))] []) fun z1=>
 if(decide ((getI z1.1)≥(0:Int)))=true then
 chk (decide (0≤(getI z1.1))) (chk (decide ((getI z1.1)<((length (getL z0.1):Nat):Int))) (chk (decide (0≤(getI z1.1))) (chk (decide ((getI z1.1)≤((length (getL z0.1):Nat):Int))) (chk (decide (0≤(0:Int))) (chk (decide ((0:Int)≤(getI z1.1))) ((ag0 (a0) ((getI (headD (tail (tail (V.cells (getD (getL z0.1) (TO (getI z1.1)) V.bot)))) V.bot))) ([]) (false) ((drop (TO (0:Int)) (take (TO (getI z1.1)) (getL z0.1)))) (((length (drop (TO (0:Int)) (take (TO (getI z1.1)) (getL z0.1))):Nat):Int)) ((0:Int)))))))))
 else
 (ag0 (a0) ((getI (headD (tail (tail (V.cells (getD (getL z0.1) (TO (TK .i64 (((length (getL z0.1):Nat):Int) - (1:Int)))) V.bot)))) V.bot))) ([]) (false) ((getL z0.1)) (((length (getL z0.1):Nat):Int)) ((0:Int)))))
def A34 (a0:List V) (a1:Int) (a2:Int):List V:=[V.lst 5 false a0,V.agg [V.int TM a1,V.int TM a2]]
def CQ (l0:List V) (i1:Int) (o2:List V) (b3:Bool) (l4:List V) (i5:Int) (i6:Int):St:=⟨[(V.lst 5 false l0),V.bot,V.bot,V.bot,V.bot,V.bot,V.bot,(V.int TM i1),V.bot,(V.own 133 o2),(V.bool b3),V.bot,V.bot,V.bot,V.bot,V.bot,V.bot,V.bot,V.bot,V.bot,V.bot,V.bot,V.bot,V.bot,V.bot,V.bot,V.bot,V.bot,V.bot,V.bot,V.bot,V.bot,V.bot,V.bot,V.bot,V.bot,V.bot,V.bot,V.bot,V.bot,V.bot,V.bot,V.bot,V.bot,(V.lst 128 false l4),(V.int TM i5),(V.int TM i6)]++TZ 41 V.bot,[]⟩
theorem Rq (l0:List V) (i1:Int) (o2:List V) (b3:Bool) (l4:List V) (i5:Int) (i6:Int):
 RM 34 Tryz.f34 [] call icall again (aJ Tryz.f34 0) (CQ l0 i1 o2 b3 l4 i5 i6)=F9 call (fun l0 i1 o2 b3 l4 i5 i6=>again (aJ Tryz.f34 0) (CQ l0 i1 o2 b3 l4 i5 i6)) l0 i1 o2 b3 l4 i5 i6:=by kernel_rfl
theorem E34 (a0:List V) (a1:Int) (a2:Int):GO 34 Tryz.f34 (A34 a0 a1 a2) [] call icall again=T34 call (fun l0 i1 o2 b3 l4 i5 i6=>again (aJ Tryz.f34 0) (CQ l0 i1 o2 b3 l4 i5 i6)) a0 a1 a2:=by kernel_rfl
def L34 (call:FuncId→Fun):Nat→(List V→Int→List V→Bool→List V→Int→Int→Option (V×List Ob))
 |0=>fun _ _ _ _ _ _ _=>none
 |n+1=>F9 call (L34 call n)
theorem R34 (call:FuncId→Fun) (icall:aN (V×List Ob)):∀n,(∀(l0:List V) (i1:Int) (o2:List V) (b3:Bool) (l4:List V) (i5:Int) (i6:Int),RN 34 Tryz.f34 [] call icall n (aJ Tryz.f34 0) (CQ l0 i1 o2 b3 l4 i5 i6)=(L34 call n) l0 i1 o2 b3 l4 i5 i6)
 |0=>fun l0 i1 o2 b3 l4 i5 i6=>rfl
 |n+1=>by
  have ih:=R34 call icall n
  exact fun l0 i1 o2 b3 l4 i5 i6=>(Rq call icall (RN 34 Tryz.f34 [] call icall n) l0 i1 o2 b3 l4 i5 i6).trans (by rw[show(fun l0 i1 o2 b3 l4 i5 i6=>RN 34 Tryz.f34 [] call icall n (aJ Tryz.f34 0) (CQ l0 i1 o2 b3 l4 i5 i6))=(L34 call n)from(funext fun l0=>funext fun i1=>funext fun o2=>funext fun b3=>funext fun l4=>funext fun i5=>funext fun i6=>ih l0 i1 o2 b3 l4 i5 i6)];rfl)
theorem C34 (k:Nat) (a0:List V) (a1:Int) (a2:Int):aA cfg (k+1) 34 (A34 a0 a1 a2) []=T34 (aA cfg k) (L34 (aA cfg k) k) a0 a1 a2:=by
 have ih:=R34 (aA cfg k) (aF cfg (aA cfg k) 20) k
 refine(show aA cfg (k+1) 34 (A34 a0 a1 a2) []=GO 34 Tryz.f34 (A34 a0 a1 a2) [] (aA cfg k) (aF cfg (aA cfg k) 20) (RN 34 Tryz.f34 [] (aA cfg k) (aF cfg (aA cfg k) 20) k)by kernel_rfl).trans ((E34 _ _ _ a0 a1 a2).trans ?_)
 rw[show(fun l0 i1 o2 b3 l4 i5 i6=>RN 34 Tryz.f34 [] (aA cfg k) (aF cfg (aA cfg k) 20) k (aJ Tryz.f34 0) (CQ l0 i1 o2 b3 l4 i5 i6))=(L34 (aA cfg k) k)from(funext fun l0=>funext fun i1=>funext fun o2=>funext fun b3=>funext fun l4=>funext fun i5=>funext fun i6=>ih l0 i1 o2 b3 l4 i5 i6)]
theorem M34 (a0:List V) (a1:Int) (a2:Int) {r:V×List Ob} (h:Evt (fun k n=>T34 (aA cfg k) (L34 (aA cfg k) n) a0 a1 a2) r):Ret 34 [V.lst 5 false a0,V.agg [V.int TM a1,V.int TM a2]] [] r:=aR (g:=fun k n=>T34 (aA cfg k) (L34 (aA cfg k) n) a0 a1 a2) (fun k=>C34 k a0 a1 a2) h
theorem Oy (l0:List V) (i1:Int) (o2:List V) (b3:Bool) (l4:List V) (i5:Int) (i6:Int) {r:V×List Ob} (h:Evt (fun k n=>F9 (aA cfg k) (L34 (aA cfg k) n) l0 i1 o2 b3 l4 i5 i6) r):Evt (fun k n=>(L34 (aA cfg k) n) l0 i1 o2 b3 l4 i5 i6) r:=aX (fun k n=>rfl) h
def T63 (call:FuncId→Fun) (a0:List UInt8) (a1:List UInt8):Option (V×List Ob):=
 TN (if(decide (((length a0:Nat):Int)<(TK .i64 ((2:Int)+((length a1:Nat):Int)))))=false then
 chk (decide (0≤(TK .i64 ((2:Int)+((length a1:Nat):Int))))) (chk (decide ((TK .i64 ((2:Int)+((length a1:Nat):Int)))≤((length a0:Nat):Int))) (chk (decide (0≤(0:Int))) (chk (decide ((0:Int)≤(TK .i64 ((2:Int)+((length a1:Nat):Int))))) (chk (fK [45,45] a1) (some (!(sEq (drop (TO (0:Int)) (take (TO (TK .i64 ((2:Int)+((length a1:Nat):Int)))) a0)) ([45,45]++a1))))))))
 else
 some true) fun y0=>
 if y0=true then
 some ((V.tup [(V.bool false),(V.bool false)]),[])
 else
 chk (decide (0≤(TK .i64 ((2:Int)+((length a1:Nat):Int))))) (chk (decide ((TK .i64 ((2:Int)+((length a1:Nat):Int)))≤((length a0:Nat):Int))) (TN (call 89 [(V.str (drop (TO (TK .i64 ((2:Int)+((length a1:Nat):Int)))) a0))] []) fun z1=>
 if(getB z1.1)=true then
 some ((V.tup [(V.bool true),(V.bool false)]),[])
 else
 if(decide (((length (drop (TO (TK .i64 ((2:Int)+((length a1:Nat):Int)))) a0):Nat):Int)≥(2:Int)))=true then
 chk (decide (0≤(2:Int))) (chk (decide ((2:Int)≤((length (drop (TO (TK .i64 ((2:Int)+((length a1:Nat):Int)))) a0):Nat):Int))) (chk (decide (0≤(0:Int))) (chk (decide ((0:Int)≤(2:Int))) (if(sEq (drop (TO (0:Int)) (take (TO (2:Int)) (drop (TO (TK .i64 ((2:Int)+((length a1:Nat):Int)))) a0))) [45,45])=true then
 chk (decide (0≤(2:Int))) (chk (decide ((2:Int)≤((length (drop (TO (TK .i64 ((2:Int)+((length a1:Nat):Int)))) a0):Nat):Int))) (TN (call 89 [(V.str (drop (TO (2:Int)) (drop (TO (TK .i64 ((2:Int)+((length a1:Nat):Int)))) a0)))] []) fun z2=>
 if(getB z2.1)=true then
 some ((V.tup [(V.bool true),(V.bool true)]),[])
 else
 some ((V.tup [(V.bool false),(V.bool false)]),[])))
 else
 some ((V.tup [(V.bool false),(V.bool false)]),[])))))
 else
 some ((V.tup [(V.bool false),(V.bool false)]),[])))
def A63 (a0:List UInt8) (a1:List UInt8):List V:=[V.str a0,V.str a1]
theorem E63 (a0:List UInt8) (a1:List UInt8):GO 63 Tryz.f63 (A63 a0 a1) [] call icall again=T63 call a0 a1:=by kernel_rfl
theorem C63 (k:Nat) (a0:List UInt8) (a1:List UInt8):aA cfg (k+1) 63 (A63 a0 a1) []=T63 (aA cfg k) a0 a1:=
 (show aA cfg (k+1) 63 (A63 a0 a1) []=GO 63 Tryz.f63 (A63 a0 a1) [] (aA cfg k) (aF cfg (aA cfg k) 20) (RN 63 Tryz.f63 [] (aA cfg k) (aF cfg (aA cfg k) 20) k)by kernel_rfl).trans (E63 _ _ _ a0 a1)
theorem M63 (a0:List UInt8) (a1:List UInt8) {r:V×List Ob} (h:Evt (fun k n=>T63 (aA cfg k) a0 a1) r):Ret 63 [V.str a0,V.str a1] [] r:=aR (g:=fun k n=>T63 (aA cfg k) a0 a1) (fun k=>C63 k a0 a1) h
def T89 (call:FuncId→Fun) (a0:List UInt8):Option (V×List Ob):=
 TN (call 90 [(V.str a0)] []) fun z0=>
 some ((V.bool (sEq (getS z0.1) [])),[])
def A89 (a0:List UInt8):List V:=[V.str a0]
theorem E89 (a0:List UInt8):GO 89 Tryz.f89 (A89 a0) [] call icall again=T89 call a0:=by kernel_rfl
theorem C89 (k:Nat) (a0:List UInt8):aA cfg (k+1) 89 (A89 a0) []=T89 (aA cfg k) a0:=
 (show aA cfg (k+1) 89 (A89 a0) []=GO 89 Tryz.f89 (A89 a0) [] (aA cfg k) (aF cfg (aA cfg k) 20) (RN 89 Tryz.f89 [] (aA cfg k) (aF cfg (aA cfg k) 20) k)by kernel_rfl).trans (E89 _ _ _ a0)
theorem M89 (a0:List UInt8) {r:V×List Ob} (h:Evt (fun k n=>T89 (aA cfg k) a0) r):Ret 89 [V.str a0] [] r:=aR (g:=fun k n=>T89 (aA cfg k) a0) (fun k=>C89 k a0) h
end Go.Proofs.YtgpofjbdjiajeaaGreatDoor
end
section
namespace Go.Proofs.YtgpofjbdjiajeaaGreatDoor
open Go.Ev Go
abbrev Ln:=Nat×Nat×Nat
def Kc (b:Bs) (fr to:Nat):Bs:=(b.take to).drop fr
def bX (b:Bs) (l:Ln):Bs:=if l.1≤l.2.1∧l.2.1≤b.length then Kc b l.1 l.2.1 else[]
theorem sR (b:Bs):(ofBytes b).all yF=true:=by
 simp only[Ux,ofBytes,Vy]
 rintro v ⟨c,_,rfl⟩
 have:=c.toNat_lt
 simp[yF];omega
theorem LZ (b:Bs) (hb:b.length≤1000000) (fr to:Int):
  Ret 55 [.lst 5 false (ofBytes b), .agg [.int .i64 fr, .int .i64 to]] [] (.lst 128 false ((aW fr to b).map lnV),[]):=by
 refine jX (h:=ofF) (by kernel_rfl) ?_
 have h1:=sR b
 have h2:(ofBytes b).length<1099511627776:=by rw[aL];omega
 simp only[ofF,h1,h2,decide_true,Wq,if_true,cD]
theorem Rr (a b n:Int):Ret 76 [.agg [.int .i64 a, .int .i64 b], .int .i64 n] [] (.bool (decide (0≤a∧a≤b∧b≤n)),[]):=by
 refine M76 a b n ?_
 simp only[T76]
 by_cases h1:a≥0
 ·by_cases h2:a≤b
  ·have e:decide (0≤a∧a≤b∧b≤n)=decide (b≤n):=by simp[h1,h2]
   rw[e]
   simp only[h1,h2,decide_true,if_true,aY]
   exact aD _
  ·have e:decide (0≤a∧a≤b∧b≤n)=false:=by simp[h2]
   rw[e]
   simp only[h1,h2,decide_true,decide_false,if_true,TL,if_false,aY]
   exact aD _
 ·have e:decide (0≤a∧a≤b∧b≤n)=false:=by simp;omega
  rw[e]
  simp only[h1,decide_false,TL,if_false,aY]
  exact aD _
theorem Ts (b:Bs) (fr to:Nat):bytesOf (Wb fr (Wp to (ofBytes b)))=Kc b fr to:=by
 unfold ofBytes Kc
 rw[←Wm,←List.map_drop]
 exact cD _
theorem L0 (b:Bs) (l:Ln):Ret 57 [.lst 5 false (ofBytes b),lnV l] [] (.str (bX b l),[]):=by
 obtain⟨p,q,r⟩:=l
 refine M57 (ofBytes b) p q r ?_
 simp only[T57,aL]
 refine aB (Rr p q (b.length:Nat)) ?_
 simp only[V.getB]
 by_cases h:p≤q∧q≤b.length
 ·have h1:(0:Int)≤(p:Int)∧(p:Int)≤(q:Int)∧(q:Int)≤(b.length:Int):=by omega
  have e:bX b (p,q,r)=Kc b p q:=if_pos h
  simp only[h1,and_self,decide_true,UP,TL,if_false,cR,TW,Ts,e,aI (show(0:Int)≤(q:Int)by omega)]
  exact aD _
 ·have h1:¬((0:Int)≤(p:Int)∧(p:Int)≤(q:Int)∧(q:Int)≤(b.length:Int)):=by omega
  have e:bX b (p,q,r)=[]:=if_neg h
  simp only[h1,decide_false,UJ,if_true,e]
  exact aD _
def CU:Bs→Bool
 |[]=>false
 |c::_=>jH c
theorem Rs (s:Bs):Ret 58 [.str s] [] (.bool (CU s),[]):=by
 refine M58 s ?_
 simp only[T58]
 cases s with
 |nil=>simp only[sEq,beq_self_eq_true,UP,TL,if_false,CU];exact aD _
 |cons c r=>
  have e:sEq (c::r) []=false:=rfl
  have h1:(0:Int)<(((c::r).length:Nat):Int):=by simp
  simp only[e,UJ,if_true,aI h1,aI (show(0:Int)≤0 by omega),VP,List.getD_cons_zero,CU]
  refine aB (CB c) ?_
  exact aD _
def iS:List Ln→Option Nat
 |[]=>none
 |l::r=>if l.1=l.2.1 then some 0 else(iS r).map (· +1)
theorem rP {l:List Ln} {i:Nat} (h:i<l.length):(l.map lnV).getD i .bot=lnV l[i]:=by simp[Ul,h]
theorem Rt (l:Ln):Ret 80 [lnV l] [] (.bool (decide (l.1=l.2.1)),[]):=by
 obtain⟨p,q,r⟩:=l
 refine M80 p q r ?_
 simp only[T80]
 have e:(((p:Nat):Int)==((q:Nat):Int))=decide (p=q):=by
  by_cases h:p=q
  ·subst h;simp
  ·have:¬((p:Int)=(q:Int)):=by omega
   simp[h,this]
 rw[e]
 exact aD _
def tP:Option Nat→Int
 |none=> -1
 |some k=>k
theorem PU (l:List Ln) (hl:l.length≤1000000):∀(n i:Nat),l.length - i≤n→i≤l.length→
  Evt (fun k n=>L79 (aA cfg k) n (l.map lnV) (l.length:Nat) (i:Nat)) (.int .i64 (tP ((iS (l.drop i)).map (· +i))),[]):=by
 have fin:∀i:Nat,i=l.length→Evt (fun k n=>L79 (aA cfg k) n (l.map lnV) (l.length:Nat) (i:Nat)) (.int .i64 (tP ((iS (l.drop i)).map (· +i))),[]):=by
  intro i h
  refine Ov (l.map lnV) (l.length:Nat) (i:Nat) ?_
  have h1:¬((i:Int)<(l.length:Int)):=by omega
  rw[UB (by omega)]
  simp only[F6,h1,decide_false,TL,if_false,iS,UO,tP]
  exact aD _
 intro n
 induction n with
 |zero=>intro i h hi;exact fin i (by omega)
 |succ n ih=>
  intro i h hi
  by_cases hlt:i<l.length
  ·refine Ov (l.map lnV) (l.length:Nat) (i:Nat) ?_
   have h1:((i:Int)<(l.length:Int)):=by omega
   have h2:(0:Int)≤(i:Int):=by omega
   have hw:TK .i64 ((i:Int)+1)=((i+1:Nat):Int):=by rw[wrap64 (by omega) (by omega)];omega
   have hd:l.drop i=l[i]::l.drop (i+1):=UM hlt
   simp only[F6,h1,decide_true,if_true,aI h2,Ui,cR,TW,rP hlt,lnV,V.cells,Uc,Um,V.getI,hw]
   refine aB (Rt l[i]) ?_
   simp only[V.getB,decide_eq_true_eq]
   rw[hd,iS]
   by_cases hn:l[i].1=l[i].2.1
   ·simp only[hn,if_true,UF,UD,tP]
    exact aD _
   ·simp only[hn,if_false]
    have:=ih (i+1) (by omega) (by omega)
    have e:((iS (l.drop (i+1))).map (· +1)).map (· +i)=(iS (l.drop (i+1))).map (· +(i+1)):=by
     rw[Option.map_map];congr 1;funext x;simp only[Function.comp];omega
    rw[e]
    exact this
  ·exact fin i (by omega)
theorem Ru (l:List Ln) (hl:l.length≤1000000):Ret 56 [.lst 128 false (l.map lnV)] [] (.int .i64 (tP (iS l)),[]):=by
 refine M56 (l.map lnV) ?_
 simp only[T56]
 have h76:Ret 79 [.lst 128 false (l.map lnV), .clo (Fn.func 80) [] []] [] (.int .i64 (tP (iS l)),[]):=by
  refine M79 (l.map lnV) ?_
  simp only[T79,Ui]
  have:=PU l hl l.length 0 (by omega) (by omega)
  simpa using this
 refine aB h76 ?_
 exact aD _
end Go.Proofs.YtgpofjbdjiajeaaGreatDoor
end
section
namespace Go.Proofs.YtgpofjbdjiajeaaGreatDoor
open Go.Ev Go
def A2 (c:UInt8):Bool:=33≤c&&c≤126
def mO (s:Bs):Nat→Nat
 |0=>0
 |n+1=>if jH (s.getD n 0)then mO s n else n+1
theorem A3 (s:Bs):∀n,mO s n≤n
 |0=>TY _
 |n+1=>by
  unfold mO
  split
  ·have:=A3 s n;omega
  ·exact TY _
def fU (s:Bs):Option (Bs×Nat):=
 if Lib.indexByte s 58<0 then none else
 if(s.take (mO s (Lib.indexByte s 58).toNat)).all A2&&decide (0<mO s (Lib.indexByte s 58).toNat)then some (s.take (mO s (Lib.indexByte s 58).toNat),(Lib.indexByte s 58).toNat+1)else none
def H9 (s:Bs) (r:V×List Ob):Prop:=∃u m,r=(.tup [.str u, .int .i64 m, .bool (fU s).isSome],[])∧∀p,fU s=some p→u=p.1∧m=p.2
theorem NF (c:UInt8):(((c.toNat:Nat):Int)<33∨((c.toNat:Nat):Int)>126)↔A2 c=false:=by
 have h1:=rM 33 c
 have h2:=rM c 126
 have e33:((UU 33:Nat):Int)=33:=rfl
 have e126:((UU 126:Nat):Int)=126:=rfl
 rw[e33]at h1
 rw[e126]at h2
 simp only[A2,Bool.and_eq_false_iff,decide_eq_false_iff_not]
 rw[←h1,←h2]
 omega
theorem A9 (s:Bs) (hs:s.length≤1000000) (k n:Nat) (hk:Lib.indexByte s 58=k) (hks:k<s.length) (hn:n=mO s k):∀(m i:Nat),n - i=m→i≤n→(s.take i).all A2=true→
  ∃r,H9 s r∧Evt (fun q j=>(L59 (aA cfg q) j).2 s (k:Nat) (n:Nat) (n:Nat) (i:Nat)) r
 |0,i,h,hi,ha=>by
  have hin:i=n:=by omega
  subst hin
  have hnk:=A3 s k
  refine⟨_,⟨s.take i,(k:Int)+1,rfl,fun p hp=>?_⟩,LY s (k:Nat) (i:Nat) (i:Nat) (i:Nat) ?_⟩
  ·have h0:¬((k:Int)<0):=by omega
   unfold fU at hp
   rw[hk,if_neg h0,TW,←hn,ha]at hp
   split at hp
   ·cases hp;exact⟨rfl,by omega⟩
   ·cases hp
  ·have h1:¬((i:Int)<(i:Int)):=by omega
   have h2:(0:Int)≤(i:Int):=by omega
   have h3:(i:Int)≤(s.length:Int):=by omega
   have hw:TK .i64 ((k:Int)+1)=(k:Int)+1:=wrap64 (by omega) (by omega)
   have he:(fU s).isSome=decide ((i:Int)>0):=by
    have h0:¬((k:Int)<0):=by omega
    unfold fU
    rw[hk,if_neg h0,TW,←hn,ha]
    by_cases hi0:0<i
    ·have:(i:Int)>0:=by omega
     simp[hi0,this]
    ·have:¬((i:Int)>0):=by omega
     simp[hi0,this]
   rw[he]
   simp only[CM,h1,decide_false,TL,if_false,aI h2,aI h3,aI (show(0:Int)≤0 by omega),VP,U7,TW,hw]
   exact aD _
 |m+1,i,h,hi,ha=>by
  have hnk:=A3 s k
  have his:i<s.length:=by omega
  have h1:((i:Int)<(n:Int)):=by omega
  have h2:(0:Int)≤(i:Int):=by omega
  have h3:(i:Int)<(s.length:Int):=by omega
  have hw:TK .i64 ((i:Int)+1)=((i+1:Nat):Int):=by rw[wrap64 (by omega) (by omega)];omega
  have hy:(chk (decide ((0:Int)≤(i:Int))) (chk (decide ((i:Int)<(s.length:Int))) (if(decide (((s[i].toNat:Nat):Int)<(33:Int)))=false then
    chk (decide ((0:Int)≤(i:Int))) (chk (decide ((i:Int)<(s.length:Int))) (some (decide (((s[i].toNat:Nat):Int)>(126:Int)))))
   else some true)))=some (!A2 s[i]):=by
   rw[aI h2,aI h3]
   have hv:=NF s[i]
   by_cases c1:((s[i].toNat:Nat):Int)<33
   ·simp[c1,hv.1 (.inl c1)]
   ·by_cases c2:((s[i].toNat:Nat):Int)>126
    ·simp only[c1,c2,decide_false,decide_true,if_true,aI h2,aI h3,hv.1 (.inr c2),UJ]
    ·have:A2 s[i]=true:=by
      cases hvv:A2 s[i]with
      |true=>rfl
      |false=>rcases hv.2 hvv with h|h;exact absurd h c1;exact absurd h c2
     simp only[c1,c2,decide_false,if_true,aI h2,aI h3,this,UP]
  by_cases hv:A2 s[i]=true
  ·obtain⟨r,hr1,hr2⟩:=A9 s hs k n hk hks hn m (i+1) (by omega) (by omega) (by
    rw[VE,List.all_append,ha,TP his];simp[hv])
   refine⟨r,hr1,LY s (k:Nat) (n:Nat) (n:Nat) (i:Nat) ?_⟩
   simp only[CM,h1,decide_true,if_true,TW,getD_at his,hw]
   simp only[hy,aY,hv,UP,TL,if_false]
   exact hr2
  ·have hv' :A2 s[i]=false:=by simpa using hv
   refine⟨_,⟨[],0,rfl,fun p hp=>?_⟩,LY s (k:Nat) (n:Nat) (n:Nat) (i:Nat) ?_⟩
   ·exfalso
    have h0:¬((k:Int)<0):=by omega
    unfold fU at hp
    rw[hk,if_neg h0,TW,←hn]at hp
    have:(s.take n).all A2=false:=by
     rw[List.all_eq_false]
     exact⟨s[i],List.mem_take_iff_getElem.2 ⟨i,by omega,rfl⟩,by simp[hv']⟩
    rw[this]at hp
    simp at hp
   ·have he:(fU s).isSome=false:=by
     have h0:¬((k:Int)<0):=by omega
     have:(s.take n).all A2=false:=by
      rw[List.all_eq_false]
      exact⟨s[i],List.mem_take_iff_getElem.2 ⟨i,by omega,rfl⟩,by simp[hv']⟩
     unfold fU
     rw[hk,if_neg h0,TW,←hn,this]
     simp
    rw[he]
    simp only[CM,h1,decide_true,if_true,TW,getD_at his]
    simp only[hy,aY,hv',UJ,if_true]
    exact aD _
theorem Ga (s:Bs) (hs:s.length≤1000000) (k:Nat) (hk:Lib.indexByte s 58=k) (hks:k<s.length):∀n:Nat,n≤k→mO s n=mO s k→
  ∃r,H9 s r∧Evt (fun q j=>(L59 (aA cfg q) j).1 s (k:Nat) (n:Nat)) r
 |0,hn,hb=>by
  obtain⟨r,hr1,hr2⟩:=A9 s hs k 0 hk hks hb 0 0 rfl (TY _) rfl
  refine⟨r,hr1,LX s (k:Nat) (0:Nat) ?_⟩
  have h1:¬(((0:Nat):Int)>0):=by omega
  simp only[CL,h1,decide_false,TL,if_false]
  exact hr2
 |n+1,hn,hb=>by
  have hlt:n<s.length:=by omega
  have h1:(((n+1:Nat):Int)>0):=by omega
  have hw:TK .i64 (((n+1:Nat):Int) - 1)=(n:Int):=by rw[wrap64 (by omega) (by omega)];omega
  have h2:(0:Int)≤(n:Int):=by omega
  have h3:(n:Int)<(s.length:Int):=by omega
  by_cases hbl:jH s[n]=true
  ·have hb' :mO s n=mO s k:=by
    rw[←hb];conv=>rhs;unfold mO
    rw[getD_at hlt,hbl];rfl
   obtain⟨r,hr1,hr2⟩:=Ga s hs k hk hks n (by omega) hb'
   refine⟨r,hr1,LX s (k:Nat) ((n+1:Nat):Int) ?_⟩
   simp only[CL,h1,decide_true,if_true,hw,aI h2,aI h3,TW,getD_at hlt]
   refine aB (CB s[n]) ?_
   simp only[V.getB,hbl,if_true]
   exact hr2
  ·have hbl' :jH s[n]=false:=by simpa using hbl
   have hb' :n+1=mO s k:=by
    rw[←hb];unfold mO
    rw[getD_at hlt,hbl'];rfl
   obtain⟨r,hr1,hr2⟩:=A9 s hs k (n+1) hk hks hb' (n+1) 0 (by omega) (by omega) rfl
   refine⟨r,hr1,LX s (k:Nat) ((n+1:Nat):Int) ?_⟩
   simp only[CL,h1,decide_true,if_true,hw,aI h2,aI h3,TW,getD_at hlt]
   refine aB (CB s[n]) ?_
   simp only[V.getB,hbl',TL,if_false]
   exact hr2
theorem Rv (s:Bs) (hs:s.length≤1000000):∃r,H9 s r∧Ret 59 [.str s] [] r:=by
 have h79:Ret 82 [.str s, .int .u8 58] [] (.int .i64 (Lib.indexByte s 58),[]):=jX (h:=Ni) (by kernel_rfl) rfl
 by_cases h:Lib.indexByte s 58<0
 ·refine⟨_,⟨[],0,rfl,fun p hp=>?_⟩,M59 s ?_⟩
  ·unfold fU at hp
   rw[if_pos h]at hp;cases hp
  ·have he:(fU s).isSome=false:=by unfold fU;rw[if_pos h];rfl
   rw[he]
   simp only[T59]
   refine aB h79 ?_
   simp only[V.getI,h,decide_true,if_true]
   exact aD _
 ·obtain⟨k,hk⟩:∃k:Nat,Lib.indexByte s 58=k:=⟨(Lib.indexByte s 58).toNat,by omega⟩
  have hks:k<s.length:=(TQ.1 (Lib.indexByte_some hk).1).1
  obtain⟨r,hr1,hr2⟩:=Ga s hs k hk hks k (TY _) rfl
  refine⟨r,hr1,M59 s ?_⟩
  simp only[T59]
  refine aB h79 ?_
  simp only[V.getI,h,decide_false,TL,if_false]
  rw[hk]
  exact hr2
end Go.Proofs.YtgpofjbdjiajeaaGreatDoor
end
section
namespace Go.Proofs.YtgpofjbdjiajeaaGreatDoor
open Go.Ev Go
abbrev Fd:=Bs×Nat×Nat×Nat
def fdV (f:Fd):V:= .agg [.str f.1, .int .i64 f.2.1, .int .i64 f.2.2.1, .int .i64 f.2.2.2]
def yP (l:List Fd) (to:Nat):List Fd:=match l[l.length - 1]? with|some f=>l.set (l.length - 1) (f.1,f.2.1,f.2.2.1,to)|none=>l
def kA (b:Bs) (st:List Fd×Bool) (x:Ln):List Fd×Bool:=
 if CU (bX b x)then(if st.2 then(yP st.1 x.2.2,true)else st)
 else match fU (bX b x)with
  |none=>(st.1,false)
  |some p=>(st.1++[(p.1,x.1,x.1+p.2,x.2.2)],true)
def dQ (b:Bs) (fr to:Int):List Fd×Int:=
 if aW fr to b=[]then([],fr)else
 match iS (aW fr to b)with
  |some k=>((((aW fr to b).take k).foldl (kA b) ([],false)).1,((aW fr to b).getD k (0,0,0)).2.2)
  |none=>(((aW fr to b).foldl (kA b) ([],false)).1,((aW fr to b).getD ((aW fr to b).length - 1) (0,0,0)).2.2)
theorem nC:∀(n a:Nat) (s:Bs),∀x∈fA n a s,a≤x.1∧x.1≤x.2.1∧x.2.1≤x.2.2∧x.2.2≤a+s.length
 |0,a,s,x,hx=>by cases hx
 |n+1,a,s,x,hx=>by
  unfold fA at hx
  split at hx
  ·cases hx
  ·rename_i hs
   split at hx
   ·simp at hx;subst hx;simp
   ·rename_i hk
    obtain⟨k,hk'⟩:∃k:Nat,Lib.indexByte s 10=k:=⟨(Lib.indexByte s 10).toNat,by omega⟩
    have hks:k<s.length:=(TQ.1 (Lib.indexByte_some hk').1).1
    rw[hk']at hx
    simp only[TW]at hx
    rcases UH.1 hx with rfl|hx
    ·simp only
     split<;>omega
    ·have:=nC n _ _ x hx
     rw[Uv]at this
     omega
theorem lQ {fr to:Int} {b:Bs}:∀x∈aW fr to b,x.1≤x.2.1∧x.2.1≤x.2.2∧x.2.2≤b.length:=by
 intro x hx
 unfold aW at hx
 split at hx
 ·rename_i h
  have:=nC _ _ _ x hx
  simp at this
  omega
 ·cases hx
theorem xN:∀{l:List Ln} {k:Nat},iS l=some k→k<l.length
 |[],k,h=>by cases h
 |x::r,k,h=>by
  unfold iS at h
  split at h
  ·cases h;simp
  ·obtain⟨j,h1,rfl⟩:=UG.1 h
   have:=xN h1
   simp;omega
theorem Kd {s:Bs} {p:Bs×Nat} (h:fU s=some p):p.2≤s.length:=by
 unfold fU at h
 split at h
 ·cases h
 ·rename_i hk
  obtain⟨k,hk'⟩:∃k:Nat,Lib.indexByte s 58=k:=⟨(Lib.indexByte s 58).toNat,by omega⟩
  have hks:k<s.length:=(TQ.1 (Lib.indexByte_some hk').1).1
  rw[hk']at h
  simp only[TW]at h
  split at h
  ·cases h;simp only;omega
  ·cases h
theorem Ba (b:Bs) (l:Ln):(bX b l).length≤b.length:=by
 unfold bX Kc
 split
 ·simp;omega
 ·simp
theorem pC (l:List Fd) (to:Nat):(yP l to).length=l.length:=by
 unfold yP;split<;>simp
theorem Ej {l:List Fd} {i:Nat} (h:i<l.length):(l.map fdV).getD i .bot=fdV l[i]:=by simp[Ul,h]
theorem xO (b:Bs) (hb:b.length≤1000000) (at_:Int) (l:List Ln) (hl:l.length≤1000000) (hx:∀x∈l,x.1≤1000000):∀(n i:Nat) (out:List Fd) (on:Bool),l.length - i=n→i≤l.length→out.length≤i→(on=true→out≠[])→
  Evt (fun k n=>L34 (aA cfg k) n (ofBytes b) at_ (out.map fdV) on (l.map lnV) (l.length:Nat) (i:Nat)) (.tup [.lst 133 false (((l.drop i).foldl (kA b) (out,on)).1.map fdV), .int .i64 at_],[])
 |0,i,out,on,h,hi,ho,hon=>by
  refine Oy (ofBytes b) at_ (out.map fdV) on (l.map lnV) (l.length:Nat) (i:Nat) ?_
  have h1:¬((i:Int)<(l.length:Int)):=by omega
  rw[UB (by omega)]
  simp only[F9,h1,decide_false,TL,if_false,List.foldl_nil]
  exact aD _
 |n+1,i,out,on,h,hi,ho,hon=>by
  have hlt:i<l.length:=by omega
  refine Oy (ofBytes b) at_ (out.map fdV) on (l.map lnV) (l.length:Nat) (i:Nat) ?_
  have h1:((i:Int)<(l.length:Int)):=by omega
  have h2:(0:Int)≤(i:Int):=by omega
  have hw:TK .i64 ((i:Int)+1)=((i+1:Nat):Int):=by rw[wrap64 (by omega) (by omega)];omega
  have hd:l.drop i=l[i]::l.drop (i+1):=UM hlt
  have hxi:=hx l[i] (U3 hlt)
  have htl:=Ba b l[i]
  have h57:Ret 57 [.lst 5 false (ofBytes b), .agg [.int .i64 (l[i].1:Nat), .int .i64 (l[i].2.1:Nat), .int .i64 (l[i].2.2:Nat)]] [] (.str (bX b l[i]),[]):=L0 b l[i]
  rw[hd,V9]
  simp only[F9,h1,decide_true,if_true,aI h2,Ui,TW,rP hlt,lnV,V.cells,Uc,Um,V.getI,hw]
  refine aB h57 ?_
  simp only[V.getS]
  refine aB (Rs (bX b l[i])) ?_
  simp only[V.getB]
  by_cases hg:CU (bX b l[i])=true
  ·simp only[hg,if_true]
   cases on with
   |true=>
    have hne:=hon rfl
    have hpos:0<out.length:=U6.2 hne
    have hw2:TK .i64 ((out.length:Int) - 1)=((out.length - 1:Nat):Int):=by rw[wrap64 (by omega) (by omega)];omega
    have h3:(0:Int)≤((out.length - 1:Nat):Int):=by omega
    have h4:((out.length - 1:Nat):Int)<(out.length:Int):=by omega
    have hol:out.length - 1<out.length:=by omega
    have hst:kA b (out,true) l[i]=(yP out l[i].2.2,true):=by unfold kA;rw[hg];rfl
    have hset:(out.map fdV).set (out.length - 1) (.agg [.str out[out.length - 1].1, .int .i64 (out[out.length - 1].2.1:Nat), .int .i64 (out[out.length - 1].2.2.1:Nat), .int .i64 (l[i].2.2:Nat)])=(yP out l[i].2.2).map fdV:=by
     unfold yP
     rw[TP hol]
     simp only[List.map_set]
     rfl
    rw[hst]
    simp only[if_true,hw2,aI h3,aI h4,TW,Ej hol,fdV,V.cells,Uc,Um,V.getS,V.getI]
    rw[hset]
    exact xO b hb at_ l hl hx n (i+1) (yP out l[i].2.2) true (by omega) (by omega) (by rw[pC];omega) (fun _=>by
     rw[←U6,pC];exact hpos)
   |false=>
    have hst:kA b (out,false) l[i]=(out,false):=by unfold kA;rw[hg];rfl
    rw[hst]
    simp only[TL,if_false]
    exact xO b hb at_ l hl hx n (i+1) out false (by omega) (by omega) (by omega) (fun h=>by cases h)
  ·have hg' :CU (bX b l[i])=false:=by simpa using hg
   simp only[hg',TL,if_false]
   obtain⟨r,⟨u,m,rfl,hum⟩,hr⟩:=Rv (bX b l[i]) (by omega)
   refine aB hr ?_
   simp only[V.getT,Uc,Um,V.getB,V.getS,V.getI]
   cases hn:fU (bX b l[i])with
   |none=>
    have hst:kA b (out,on) l[i]=(out,false):=by unfold kA;rw[hg',hn];rfl
    rw[hst]
    simp only[Vb,TL,if_false]
    exact xO b hb at_ l hl hx n (i+1) out false (by omega) (by omega) (by omega) (fun h=>by cases h)
   |some p=>
    obtain⟨rfl,rfl⟩:=hum p hn
    have hpl:=Kd hn
    have hst:kA b (out,on) l[i]=(out++[(p.1,l[i].1,l[i].1+p.2,l[i].2.2)],true):=by unfold kA;rw[hg',hn];rfl
    have hw3:TK .i64 ((l[i].1:Int)+(p.2:Int))=((l[i].1+p.2:Nat):Int):=by rw[wrap64 (by omega) (by omega)];omega
    have hap:cE (out.map fdV) [V.agg [.str p.1, .int .i64 (l[i].1:Nat), .int .i64 ((l[i].1+p.2:Nat):Int), .int .i64 (l[i].2.2:Nat)]] 41=true:=gB (by simp;omega)
    rw[hst]
    simp only[U4,if_true,hw3,cZ hap]
    have:=xO b hb at_ l hl hx n (i+1) (out++[(p.1,l[i].1,l[i].1+p.2,l[i].2.2)]) true (by omega) (by omega) (by simp;omega) (fun _=>by simp)
    simp only[V0,UE,VL,fdV]at this
    exact this
theorem Oz (b:Bs) (hb:b.length≤1000000) (fr to:Int):
  Ret 34 [.lst 5 false (ofBytes b), .agg [.int .i64 fr, .int .i64 to]] [] (.tup [.lst 133 false ((dQ b fr to).1.map fdV), .int .i64 (dQ b fr to).2],[]):=by
 refine M34 (ofBytes b) fr to ?_
 simp only[T34]
 refine aB (LZ b hb fr to) ?_
 have hll:=eU fr to b
 have hbd:=lQ (fr:=fr) (to:=to) (b:=b)
 simp only[V.getL,Ui]
 unfold dQ
 generalize aW fr to b=l at hll hbd
 by_cases hl0:l=[]
 ·subst hl0;exact aD _
 ·have hpos:0<l.length:=U6.2 hl0
  have h0:((((l.length:Nat):Int))==(0:Int))=false:=beq_eq_false_iff_ne.2 (by omega)
  have hw:TK .i64 ((l.length:Int) - 1)=((l.length - 1:Nat):Int):=by rw[wrap64 (by omega) (by omega)];omega
  have h1:(0:Int)≤((l.length - 1:Nat):Int):=by omega
  have h2:((l.length - 1:Nat):Int)<(l.length:Int):=by omega
  rw[if_neg hl0]
  simp only[h0,TL,if_false,hw,aI h1,aI h2]
  refine aB (Ru l (by omega)) ?_
  have hxs:∀y∈l,y.1≤1000000:=fun y hy=>by have:=hbd y hy;omega
  have hgi:∀z:Int,(V.int .i64 z).getI=z:=fun _=>rfl
  simp only[hgi]
  cases he:iS l with
  |none=>
   have hoi:tP none= -1:=rfl
   have h3:¬((-1:Int)≥(0:Int)):=by omega
   have hlt:l.length - 1<l.length:=by omega
   simp only[hoi,h3,decide_false,TL,if_false,TW,rP hlt,lnV,V.cells,Uc,Um,hgi]
   have:=xO b hb (l[l.length - 1].2.2:Nat) l (by omega) hxs l.length 0 [] false (by omega) (by omega) (by simp) (fun h=>by cases h)
   have e:l.getD (l.length - 1) (0,0,0)=l[l.length - 1]:=by simp[Ul,hlt]
   rw[e]
   simpa using this
  |some k=>
   have hk:=xN he
   have hoi:tP (some k)=(k:Int):=rfl
   have h3:((k:Int)≥(0:Int)):=by omega
   have h5:(k:Int)<(l.length:Int):=by omega
   have h6:(k:Int)≤(l.length:Int):=by omega
   simp only[hoi]
   simp only[h3,decide_true,if_true,cR,aI h5,aI h6,aI (show(0:Int)≤0 by omega),TW,rP hk,lnV,V.cells,Uc,Um,hgi,VP,U7]
   have e:l.getD k (0,0,0)=l[k]:=by simp[Ul,hk]
   have htl:(l.take k).length=k:=by simp;omega
   have:=xO b hb (l[k].2.2:Nat) (l.take k) (by omega) (fun y hy=>hxs y (U0 hy)) k 0 [] false (by omega) (by omega) (by simp) (fun h=>by cases h)
   rw[e]
   rw[Wm]at this
   have hmin:min k l.length=k:=by omega
   simpa[htl,hmin]using this
end Go.Proofs.YtgpofjbdjiajeaaGreatDoor
end
section
namespace Go.Proofs.YtgpofjbdjiajeaaGreatDoor
open Go.Ev Go
def low (s:Bs):Bs:=s.map eL
def nV:List Fd→Bs→Option Nat
 |[],_=>none
 |f::r,name=>if low f.1=low name then some 0 else(nV r name).map (· +1)
def nD:List Fd→Bs→Option Fd
 |[],_=>none
 |f::r,name=>if low f.1=low name then some f else nD r name
theorem Bb:∀{l:List Fd} {name:Bs} {k:Nat},nV l name=some k→∃h:k<l.length,nD l name=some l[k]
 |[],_,k,h=>by cases h
 |f::r,name,k,h=>by
  unfold nV at h
  unfold nD
  split at h
  ·rename_i hc
   cases h
   exact⟨by simp,by rw[if_pos hc];rfl⟩
  ·rename_i hc
   obtain⟨j,h1,rfl⟩:=UG.1 h
   obtain⟨h2,h3⟩:=Bb h1
   exact⟨by simp;omega,by rw[if_neg hc,h3];rfl⟩
theorem Bc:∀{l:List Fd} {name:Bs},nV l name=none→nD l name=none
 |[],_,_=>rfl
 |f::r,name,h=>by
  unfold nV at h
  unfold nD
  split at h
  ·cases h
  ·rename_i hc
   rw[if_neg hc]
   exact Bc (by simpa using h)
theorem Rw (f:Fd) (name:Bs) (hf:f.1.length≤1000000) (hn:name.length≤1000000):
  Ret 92 [fdV f, .ref 0 0] [.cells [.str name]] (.bool (low f.1==low name),[.cells [.str name]]):=by
 obtain⟨a,p,q,r⟩:=f
 refine M92 a p q r name ?_
 simp only[T92]
 refine aB (Ot a name (by simp only at hf;omega) (by omega)) ?_
 exact aD _
theorem PV (name:Bs) (hn:name.length≤1000000) (l:List Fd) (hl:l.length≤1000000) (hv:∀f∈l,f.1.length≤1000000):∀(n i:Nat),l.length - i≤n→i≤l.length→
  Evt (fun k n=>L91 (aA cfg k) n (l.map fdV) (l.length:Nat) (i:Nat) name) (.int .i64 (tP ((nV (l.drop i) name).map (· +i))),[.cells [.str name]]):=by
 have fin:∀i:Nat,i=l.length→Evt (fun k n=>L91 (aA cfg k) n (l.map fdV) (l.length:Nat) (i:Nat) name) (.int .i64 (tP ((nV (l.drop i) name).map (· +i))),[.cells [.str name]]):=by
  intro i h
  refine Ow (l.map fdV) (l.length:Nat) (i:Nat) name ?_
  have h1:¬((i:Int)<(l.length:Int)):=by omega
  rw[UB (by omega)]
  simp only[F7,h1,decide_false,TL,if_false,nV,UO,tP]
  exact aD _
 intro n
 induction n with
 |zero=>intro i h hi;exact fin i (by omega)
 |succ n ih=>
  intro i h hi
  by_cases hlt:i<l.length
  ·refine Ow (l.map fdV) (l.length:Nat) (i:Nat) name ?_
   have h1:((i:Int)<(l.length:Int)):=by omega
   have h2:(0:Int)≤(i:Int):=by omega
   have hw:TK .i64 ((i:Int)+1)=((i+1:Nat):Int):=by rw[wrap64 (by omega) (by omega)];omega
   have hd:l.drop i=l[i]::l.drop (i+1):=UM hlt
   simp only[F7,h1,decide_true,if_true,aI h2,Ui,cR,TW,Ej hlt,fdV,V.cells,Uc,Um,V.getI,V.getS,hw]
   refine aB (Rw l[i] name (hv _ (U3 hlt)) hn) ?_
   simp only[V.getB,Uc,Ob.getC,V.getS]
   rw[hd,nV]
   by_cases hc:low l[i].1=low name
   ·simp only[hc,beq_self_eq_true,if_true,UF,UD,tP]
    exact aD _
   ·have hb:(low l[i].1==low name)=false:=by simpa using hc
    simp only[hb,hc,TL,if_false]
    have:=ih (i+1) (by omega) (by omega)
    have e:((nV (l.drop (i+1)) name).map (· +1)).map (· +i)=(nV (l.drop (i+1)) name).map (· +(i+1)):=by
     rw[Option.map_map];congr 1;funext x;simp only[Function.comp];omega
    rw[e]
    exact this
  ·exact fin i (by omega)
def xP:Option Fd→V
 |some f=> .tup [fdV f, .bool true]
 |none=> .tup [.agg [.str [], .int .i64 0, .int .i64 0, .int .i64 0], .bool false]
theorem OA (l:List Fd) (hl:l.length≤1000000) (hv:∀f∈l,f.1.length≤1000000) (name:Bs) (hn:name.length≤1000000):
  Ret 64 [.lst 133 false (l.map fdV), .str name] [] (xP (nD l name),[]):=by
 refine M64 (l.map fdV) name ?_
 simp only[T64,Ui]
 have h88:Ret 91 [.lst 133 false (l.map fdV), .clo (Fn.func 92) [] [.ref 0 0]] [.cells [.str name]] (.int .i64 (tP (nV l name)),[.cells [.str name]]):=by
  refine M91 (l.map fdV) name ?_
  simp only[T91,Ui]
  have:=PV name hn l hl hv l.length 0 (by omega) (by omega)
  simpa using this
 refine aB h88 ?_
 have hgi:∀z:Int,(V.int .i64 z).getI=z:=fun _=>rfl
 simp only[hgi]
 cases he:nV l name with
 |none=>
  have hoi:tP none= -1:=rfl
  have h3:((-1:Int)<(0:Int)):=by omega
  rw[Bc he]
  simp only[hoi,h3,decide_true,if_true]
  exact aD _
 |some k=>
  obtain⟨hk,hfd⟩:=Bb he
  have hoi:tP (some k)=(k:Int):=rfl
  have h3:¬((k:Int)<(0:Int)):=by omega
  have h4:(0:Int)≤(k:Int):=by omega
  have h5:(k:Int)<(l.length:Int):=by omega
  rw[hfd]
  simp only[hoi]
  simp only[h3,decide_false,TL,if_false,aI h4,aI h5,TW,Ej hk,fdV,V.cells,Uc,Um,hgi,V.getS,xP]
  exact aD _
end Go.Proofs.YtgpofjbdjiajeaaGreatDoor
end
section
namespace Go.Proofs.YtgpofjbdjiajeaaGreatDoor
open Go.Ev Go
def qV:Bs→Bs
 |[]=>[]
 |c::r=>if jH c then qV r else c::r
def pD (s:Bs):Nat→Bs
 |0=>[]
 |n+1=>if jH (s.getD n 0)then pD s n else s.take (n+1)
def trimF (s:Bs):Bs:=pD (qV s) (qV s).length
theorem Gb:∀s:Bs,(qV s).length≤s.length
 |[]=>TY _
 |c::r=>by
  unfold qV
  split
  ·have:=Gb r;simp;omega
  ·exact TY _
theorem CV (s:Bs):∀n,(pD s n).length≤s.length
 |0=>by simp[pD]
 |n+1=>by
  unfold pD
  split
  ·exact CV s n
  ·simp;omega
theorem L1 (s:Bs):(trimF s).length≤s.length:=Uy (CV _ _) (Gb s)
theorem Bd (s:Bs) (hs:s.length≤9000000000000000000):∀n,n≤s.length→Evt (fun k j=>(L90 (aA cfg k) j).2 (s.take n)) (.str (pD s n),[])
 |0,hn=>by
  refine Oq (s.take 0) ?_
  simp only[List.take_zero,FW,Uh,pD]
  exact aD _
 |n+1,hn=>by
  refine Oq (s.take (n+1)) ?_
  have hl:(s.take (n+1)).length=n+1:=by simp;omega
  have h1:(((n+1:Nat):Int)>0):=by omega
  have hw:TK .i64 (((n+1:Nat):Int) - 1)=(n:Int):=by rw[wrap64 (by omega) (by omega)];omega
  have h2:(0:Int)≤(n:Int):=by omega
  have h3:(n:Int)<((n+1:Nat):Int):=by omega
  have h4:(n:Int)≤((n+1:Nat):Int):=by omega
  have hlt:n<s.length:=by omega
  have hg:(s.take (n+1)).getD n 0=s[n]:=by simp[Ul,Uw,hlt]
  have htt:Wb 0 (Wp n (s.take (n+1)))=s.take n:=by rw[U7,List.take_take];congr 1;omega
  have hgs:s.getD n 0=s[n]:=getD_at hlt
  simp only[FW,hl,h1,decide_true,if_true,hw,aI h2,aI h3,aI h4,aI (show(0:Int)≤0 by omega),TW,hg,VP,htt]
  refine aB (CB s[n]) ?_
  unfold pD
  rw[hgs]
  cases hb:jH s[n]
  ·simp only[V.getB,TL,if_false];exact aD _
  ·simp only[V.getB,if_true];exact Bd s hs n (by omega)
theorem Gc:∀s:Bs,s.length≤9000000000000000000→Evt (fun k j=>(L90 (aA cfg k) j).1 s) (.str (trimF s),[])
 |[],hs=>by
  refine Oo [] ?_
  have:=Bd [] (by simp) 0 (by simp)
  simp only[FV,Uh]
  simpa[trimF,qV,pD]using this
 |c::r,hs=>by
  refine Oo (c::r) ?_
  have h1:((((c::r).length:Nat):Int)>0):=by simp
  have h2:((0:Int)<(((c::r).length:Nat):Int)):=h1
  have h3:((1:Int)≤(((c::r).length:Nat):Int)):=by omega
  simp only[FV,h1,decide_true,if_true,aI h2,aI h3,aI (show(0:Int)≤0 by omega),aI (show(0:Int)≤1 by omega),VP,List.getD_cons_zero,Int.toNat_one,List.drop_one,Um,cR]
  refine aB (CB c) ?_
  cases hb:jH c
  ·simp only[V.getB,TL,if_false]
   have:=Bd (c::r) hs (c::r).length (TY _)
   rw[Wj]at this
   have e:qV (c::r)=c::r:=by unfold qV;rw[hb];rfl
   unfold trimF
   rw[e]
   exact this
  ·simp only[V.getB,if_true]
   have e:trimF (c::r)=trimF r:=by
    unfold trimF
    have:qV (c::r)=qV r:=by
     conv=>lhs;unfold qV
     rw[hb];rfl
    rw[this]
   rw[e]
   exact Gc r (by simp at hs;omega)
theorem OB (s:Bs) (hs:s.length≤9000000000000000000):Ret 90 [.str s] [] (.str (trimF s),[]):=by
 refine M90 s ?_
 exact Gc s hs
theorem Rx (o s:Bs) (h:o.length+s.length≤35000000000000):
  Ret 94 [.ref 0 0, .str s] [.cells [.opt 0 0, .lst 5 true (ofBytes o)]] (.tup [.int .i64 (s.length:Nat), .raw .nilIface],[.cells [.opt 0 0, .lst 5 true (ofBytes (o++s))]]):=by
 refine M94 (ofBytes o) s ?_
 have h108:Ret 115 [.ref 0 0] [.cells [.opt 0 0, .lst 5 true (ofBytes o)]] (.tup [],[.cells [.opt 0 0, .lst 5 true (ofBytes o)]]):=jX (h:=Aw) (by kernel_rfl) rfl
 have hap:oC (ofBytes o) s 2=true:=by simp[oC,aL];omega
 have hof:ofBytes o++ofBytes s=ofBytes (o++s):=by simp[ofBytes]
 simp only[T94]
 refine aB h108 ?_
 simp only[Uc,Ob.getC,Um,V.getL,cZ hap,hof]
 exact aD _
def lR (b:Bs) (f:Fd):Bs:=trimF ((aW f.2.2.1 f.2.2.2 b).flatMap (bX b))
theorem Be:∀(n a:Nat) (s:Bs),((fA n a s).map fun x=>x.2.1 - x.1).sum≤s.length
 |0,a,s=>by simp[fA]
 |n+1,a,s=>by
  unfold fA
  split
  ·simp
  ·split
   ·simp
   ·rename_i hk
    obtain⟨k,hk'⟩:∃k:Nat,Lib.indexByte s 10=k:=⟨(Lib.indexByte s 10).toNat,by omega⟩
    have hks:k<s.length:=(TQ.1 (Lib.indexByte_some hk').1).1
    have:=Be n (a+k+1) (s.drop (k+1))
    rw[Uv]at this
    rw[hk']
    simp only[TW,UE,List.sum_cons]
    split<;>omega
theorem sS (b:Bs):∀l:List Ln,(l.flatMap (bX b)).length≤(l.map fun x=>x.2.1 - x.1).sum
 |[]=>by simp
 |x::r=>by
  have:=sS b r
  have h:(bX b x).length≤x.2.1 - x.1:=by
   unfold bX Kc
   split
   ·simp;omega
   ·simp
  simp only[U8,Ug,UE,List.sum_cons]
  omega
theorem pK (fr to:Int) (b:Bs):((aW fr to b).flatMap (bX b)).length≤b.length:=by
 refine Uy (sS b _) ?_
 unfold aW
 split
 ·exact Uy (Be _ _ _) (by simp;omega)
 ·simp
theorem Gd (b:Bs) (f:Fd):(lR b f).length≤b.length:=Uy (L1 _) (pK _ _ _)
theorem L2 (b:Bs) (l:List Ln) (hl:l.length≤1000000) (hb:b.length≤1000000) (hsum:(l.flatMap (bX b)).length≤1000000) (a:Bs) (p q r:Int):∀(n i:Nat),l.length - i=n→i≤l.length→
  Evt (fun k j=>L66 (aA cfg k) j (ofBytes b) (l.map lnV) (l.length:Nat) (i:Nat) a p q r (ofBytes ((l.take i).flatMap (bX b)))) (.str (trimF (l.flatMap (bX b))),[])
 |0,i,h,hi=>by
  have hil:i=l.length:=by omega
  subst hil
  rw[Wj]
  refine Ox (ofBytes b) (l.map lnV) (l.length:Nat) (l.length:Nat) a p q r (ofBytes (l.flatMap (bX b))) ?_
  have h1:¬((l.length:Int)<(l.length:Int)):=by omega
  have h92:Ret 95 [.ref 0 0] [.cells [.opt 0 0, .lst 5 true (ofBytes (l.flatMap (bX b)))]] (.str (l.flatMap (bX b)),[.cells [.opt 0 0, .lst 5 false (ofBytes (l.flatMap (bX b)))]]):=by
   refine jX (h:=Go.Ev.textF) (by kernel_rfl) ?_
   have h2:=sR (l.flatMap (bX b))
   have h3:(ofBytes (l.flatMap (bX b))).length<1152921504606846976:=by rw[aL];omega
   simp only[Go.Ev.textF,h2,h3,decide_true,Wq,if_true,cD]
  simp only[F8,h1,decide_false,TL,if_false]
  refine aB h92 ?_
  simp only[V.getS]
  refine aB (OB (l.flatMap (bX b)) (by omega)) ?_
  exact aD _
 |n+1,i,h,hi=>by
  have hlt:i<l.length:=by omega
  refine Ox (ofBytes b) (l.map lnV) (l.length:Nat) (i:Nat) a p q r (ofBytes ((l.take i).flatMap (bX b))) ?_
  have h1:((i:Int)<(l.length:Int)):=by omega
  have h2:(0:Int)≤(i:Int):=by omega
  have hw:TK .i64 ((i:Int)+1)=((i+1:Nat):Int):=by rw[wrap64 (by omega) (by omega)];omega
  have h57:Ret 57 [.lst 5 false (ofBytes b), .agg [.int .i64 (l[i].1:Nat), .int .i64 (l[i].2.1:Nat), .int .i64 (l[i].2.2:Nat)]] [] (.str (bX b l[i]),[]):=L0 b l[i]
  have htake:(l.take (i+1)).flatMap (bX b)=(l.take i).flatMap (bX b)++bX b l[i]:=by
   rw[VE,TP hlt,Option.toList_some,List.flatMap_append]
   simp only[U8,List.flatMap_nil,UI]
  have hle:((l.take (i+1)).flatMap (bX b)).length≤1000000:=by
   have e:l.flatMap (bX b)=(l.take (i+1)).flatMap (bX b)++(l.drop (i+1)).flatMap (bX b):=by rw[←List.flatMap_append,U9]
   rw[e,Ug]at hsum;omega
  simp only[F8,h1,decide_true,if_true,aI h2,Ui,cR,TW,rP hlt,lnV,V.cells,Uc,Um,V.getI,hw]
  refine aB h57 ?_
  simp only[V.getS]
  refine aB (Rx ((l.take i).flatMap (bX b)) (bX b l[i]) (by rw[htake,Ug]at hle;omega)) ?_
  simp only[Uc,Ob.getC,Um,V.getL]
  rw[←htake]
  exact L2 b l hl hb hsum a p q r n (i+1) (by omega) (by omega)
theorem OC (b:Bs) (hb:b.length≤1000000) (f:Fd):Ret 66 [.lst 5 false (ofBytes b),fdV f] [] (.str (lR b f),[]):=by
 obtain⟨a,p,q,r⟩:=f
 refine M66 (ofBytes b) a p q r ?_
 simp only[T66]
 refine aB (LZ b hb q r) ?_
 have h1:=eU q r b
 have h2:=pK q r b
 simp only[V.getL,Ui]
 have:=L2 b (aW q r b) (by omega) hb (by omega) a p q r (aW q r b).length 0 (by omega) (by omega)
 simp only[List.take_zero,List.flatMap_nil]at this
 exact this
def tQ (b:Bs) (l:List Fd) (name:Bs):Bs:=match nD l name with|some f=>lR b f|none=>[]
theorem CW (b:Bs) (l:List Fd) (name:Bs):(tQ b l name).length≤b.length:=by
 unfold tQ
 split
 ·exact Gd b _
 ·simp
theorem Ry (b:Bs) (hb:b.length≤1000000) (l:List Fd) (hl:l.length≤1000000) (hv:∀f∈l,f.1.length≤1000000) (name:Bs) (hn:name.length≤1000000):
  Ret 61 [.lst 5 false (ofBytes b), .lst 133 false (l.map fdV), .str name] [] (.str (tQ b l name),[]):=by
 refine M61 (ofBytes b) (l.map fdV) name ?_
 simp only[T61]
 refine aB (OA l hl hv name hn) ?_
 unfold tQ
 cases nD l name with
 |none=>
  simp only[xP,V.getT,Um,Uc,V.getB,UJ,if_true]
  exact aD _
 |some f=>
  have h66:Ret 66 [.lst 5 false (ofBytes b), .agg [.str f.1, .int .i64 f.2.1, .int .i64 f.2.2.1, .int .i64 f.2.2.2]] [] (.str (lR b f),[]):=OC b hb f
  simp only[xP,V.getT,Um,Uc,V.getB,UP,TL,if_false,fdV,V.cells,V.getS,V.getI]
  refine aB h66 ?_
  exact aD _
end Go.Proofs.YtgpofjbdjiajeaaGreatDoor
end
